/- Slices of bytes and of texts: what they read as; how they come out of an argument's reading. The walk of tollerlaw09.Key: a key of choices. -/
import Derived.OpenShut
import Derived.ShutString
import Derived.SliceStrings
import Derived.Test.YtknlojlcahgnoaaGreatProg
import Derived.Test.YtknlojlcahgnoaaGreatEb1
import Derived.Test.YtknlojlcahgnoaaGreatEb5

namespace Go.Proofs.YtknlojlcahgnoaaGreat
open Go.ChangeShapes Go.WideShapes Go.ChangeAt Go.RowKit
set_option linter.unusedVariables false
set_option linter.unusedSimpArgs false

theorem wfu8 {a : Int} (h : (Lit.int .u8 a).wf = true) : 0 ≤ a ∧ a < 256 := by
  have : 0 ≤ a ∧ a ≤ 255 := by simpa [Lit.wf, IntKind.min, IntKind.max, IntKind.signed, IntKind.bits] using h
  omega
theorem wfu16 {a : Int} (h : (Lit.int .u16 a).wf = true) : 0 ≤ a ∧ a < 65536 := by
  have : 0 ≤ a ∧ a ≤ 65535 := by simpa [Lit.wf, IntKind.min, IntKind.max, IntKind.signed, IntKind.bits] using h
  omega
theorem wfu32 {a : Int} (h : (Lit.int .u32 a).wf = true) : 0 ≤ a ∧ a < 4294967296 := by
  have : 0 ≤ a ∧ a ≤ 4294967295 := by simpa [Lit.wf, IntKind.min, IntKind.max, IntKind.signed, IntKind.bits] using h
  omega
/-- a slice whose cells are these texts -/
structure StrSlice (w : World) (v : Value) (l : List ByteArray) : Prop where
  form : ∃ a c, v = .slice a l.length c ∧ (l ≠ [] → ∃ b o, a = some ⟨b, o, none⟩ ∧ ∀ j (h : j < l.length), w.cell? ⟨b, o + j, none⟩ = some (.string l[j]))
  len : l.length ≤ maxLen
  each : ∀ s ∈ l, s.size ≤ maxLen
theorem StrSlice.ext {w w' : World} {v : Value} {l : List ByteArray} (h : StrSlice w v l) (e : Ext w w') : StrSlice w' v l := by
  obtain ⟨a, c, hv, hl⟩ := h.form
  refine ⟨⟨a, c, hv, fun hne => ?_⟩, h.len, h.each⟩
  obtain ⟨b, o, ha, hc⟩ := hl hne
  exact ⟨b, o, ha, fun j hj => e.keep (hc j hj)⟩
theorem StrSlice.new {w : World} {b n c : Nat} {t : TypeId} (l : List ByteArray) (hb : Blk w b (l.map Value.string).toArray t) (hn : l.length = n) (hlen : n ≤ maxLen) (heach : ∀ s ∈ l, s.size ≤ maxLen) :
    StrSlice w (.slice (some ⟨b, 0, none⟩) n c) l := by
  subst hn
  refine ⟨⟨_, _, rfl, fun _ => ⟨b, 0, rfl, fun j hj => ?_⟩⟩, hlen, heach⟩
  rw [hb.cell]
  simp [hj]

/-- a slice whose cells are these bytes -/
structure ByteSlice (w : World) (v : Value) (l : List UInt8) : Prop where
  form : ∃ a c, v = .slice a l.length c ∧ (l ≠ [] → ∃ b o, a = some ⟨b, o, none⟩ ∧ ∀ j (h : j < l.length), w.cell? ⟨b, o + j, none⟩ = some (.int .u8 (l[j].toNat : Int)))
  len : l.length ≤ maxLen
theorem ByteSlice.ext {w w' : World} {v : Value} {l : List UInt8} (h : ByteSlice w v l) (e : Ext w w') : ByteSlice w' v l := by
  obtain ⟨a, c, hv, hl⟩ := h.form
  refine ⟨⟨a, c, hv, fun hne => ?_⟩, h.len⟩
  obtain ⟨b, o, ha, hc⟩ := hl hne
  exact ⟨b, o, ha, fun j hj => e.keep (hc j hj)⟩

theorem plain_addr {w : World} {a : Addr} {v : Value} (h : w.cell? (a.add 0) = some v) : a = ⟨a.block, a.off, none⟩ := by
  have e : a.add 0 = a := by simp [Addr.add]
  rw [e] at h
  have hs : a.spot = none := by
    unfold World.cell? at h
    cases hsp : a.spot with
    | none => rfl
    | some x => simp [hsp] at h; split at h <;> cases h
  cases a
  simp at hs
  subst hs
  rfl
theorem addr_add (b o j : Nat) : (⟨b, o, none⟩ : Addr).add j = ⟨b, o + j, none⟩ := by
  unfold Addr.add; split <;> simp_all

section
variable {H : Type} {enc : TypeId × Value → H} {P : Program} {W : World} {r : Reach} {b0 base : Nat} {held : Bool} {t e : TypeId} {v : Value} {d : DataW H} {p : List MemPlace}

end
end Go.Proofs.YtknlojlcahgnoaaGreat

namespace Go.Proofs.YtknlojlcahgnoaaGreat
open Go.RowKit
set_option linter.unusedVariables false
set_option linter.unusedSimpArgs false

def pieceOf (n : Nat) : ByteArray :=
  if n = 0 then ⟨#[97]⟩ else if n = 1 then ⟨#[98]⟩ else if n = 2 then ⟨#[97, 47]⟩ else if n = 3 then ⟨#[98, 47]⟩ else if n = 4 then ⟨#[99]⟩ else if n = 5 then ⟨#[122]⟩ else if n = 6 then ⟨#[126]⟩ else ⟨#[33]⟩
def keyCat (l : List UInt8) : ByteArray := l.foldl (fun s b => s ++ pieceOf (b.toNat % 8)) ⟨#[]⟩
def keyText (l : List UInt8) : ByteArray := if (keyCat (l.take 6)).size = 0 then ⟨#[107]⟩ else keyCat (l.take 6)
theorem pieceOf_size (n : Nat) : 1 ≤ (pieceOf n).size ∧ (pieceOf n).size ≤ 2 := by
  unfold pieceOf
  repeat' split
  all_goals decide
theorem keyCat_snoc (l : List UInt8) (b : UInt8) : keyCat (l ++ [b]) = keyCat l ++ pieceOf (b.toNat % 8) := by simp [keyCat]
theorem keyCat_size (l : List UInt8) : l.length ≤ (keyCat l).size ∧ (keyCat l).size ≤ 2 * l.length := by
  have key : ∀ (m : Nat) (l : List UInt8), l.length = m → l.length ≤ (keyCat l).size ∧ (keyCat l).size ≤ 2 * l.length := by
    intro m
    induction m with
    | zero => intro l h; obtain rfl := List.eq_nil_of_length_eq_zero h; decide
    | succ m ih =>
      intro l h
      have hne : l ≠ [] := by intro e; subst e; simp at h
      rw [← List.dropLast_concat_getLast hne, keyCat_snoc, ByteArray.size_append, List.length_append, List.length_singleton]
      have := ih l.dropLast (by rw [List.length_dropLast]; omega)
      have := pieceOf_size ((l.getLast hne).toNat % 8)
      omega
  exact key _ l rfl
theorem keyCat_add (l : List UInt8) (k : Nat) (h : k < l.length) (h6 : k < 6) {P : Program} (w : World) :
    (Op.stringOp .add (keyCat (l.take k)) (pieceOf (l[k].toNat % 8))).run P w = .ok (.string (keyCat (l.take (k + 1)))) w := by
  have h1 := keyCat_size (l.take k)
  have h2 := pieceOf_size (l[k].toNat % 8)
  rw [List.length_take] at h1
  rw [run_string_add_sum (P := P) (w := w) _ _ (by omega), List.take_succ_eq_append_getElem h, keyCat_snoc]
def pieces : Array Value := #[.string ⟨#[97]⟩, .string ⟨#[98]⟩, .string ⟨#[97, 47]⟩, .string ⟨#[98, 47]⟩, .string ⟨#[99]⟩, .string ⟨#[122]⟩, .string ⟨#[126]⟩, .string ⟨#[33]⟩]
theorem pieces_at (n : Nat) (h : n < 8) : pieces[n]? = some (.string (pieceOf n)) := by
  rcases (by omega : n = 0 ∨ n = 1 ∨ n = 2 ∨ n = 3 ∨ n = 4 ∨ n = 5 ∨ n = 6 ∨ n = 7) with rfl | rfl | rfl | rfl | rfl | rfl | rfl | rfl <;> rfl
theorem dempty (s : ByteArray) (b : Bool) (h : decide (s.size = 0) = b) : s.toList.isEmpty = b ∧ ((s.toList = []) = (b = true)) := by
  subst h
  have e : s.toList.isEmpty = decide (s.size = 0) := by
    rw [Bool.eq_iff_iff, List.isEmpty_iff, ByteArray.toList_eq, ← List.length_eq_zero_iff, data_len]; simp
  refine ⟨e, ?_⟩
  rw [← e, List.isEmpty_iff]
def KeyS (l : List UInt8) (k : Nat) (v : Value) : Prop := v = .string (keyCat (l.take k))

set_option maxHeartbeats 1000000 in
set_option maxRecDepth 100000 in
theorem law09_Key (v : Value) (l : List UInt8) (w : World) (hv : ByteSlice w v l) :
    Calls Tryz.prog 36 #[v] w fun e w' => e = .returned (.string (keyText l)) ∧ Ext w w' := by
  obtain ⟨⟨a, c, rfl, hl⟩, hlen⟩ := hv
  unfold maxLen at hlen
  have HL := Lib.hid hl
  clear hl
  go_enter Tryz.func36, Tryz.ntmps36
  go_wp2
  go_loopw [3, 4] (fun s i wr => ∃ k : Nat, k ≤ l.length ∧ k ≤ 6 ∧ i = .int .i64 k ∧ KeyS l k s ∧ Ext w wr) (fun _ i _ => l.length - (intOf i).toNat)
  case atStart => exact ⟨0, by omega, by omega, rfl, rfl, Ext.refl _⟩
  case round =>
    obtain ⟨k, hk, hk6, rfl, hs, hx⟩ := hrel
    unfold KeyS at hs
    subst hs
    by_cases hlt : k < l.length
    · by_cases h6 : k < 6
      · obtain ⟨b, o, rfl, hc⟩ := HL.out (by intro e; rw [e] at hlt; simp at hlt)
        have hcell := hx.keep (hc k hlt)
        have hadd := keyCat_add l k hlt h6 (P := Tryz.prog)
        have hbd : 0 ≤ (l[k].toNat : Int) ∧ (l[k].toNat : Int) < 256 := ⟨by omega, by have := l[k].toNat_lt; omega⟩
        have hpa := pieces_at (l[k].toNat % 8) (by omega)
        have hlt2 := cell_lt hcell
        obtain ⟨hb0, hb1⟩ := hbd
        generalize hbk : l[k].toNat = bk at *
        generalize hs2 : keyCat (l.take (k + 1)) = s2 at *
        generalize hs1 : keyCat (l.take k) = s1 at *
        generalize hpc : pieceOf (bk % 8) = pc at *
        have HS2 := Lib.hid hs2
        clear hs2 hs1 hpc hbk hc
        have e8 : ((bk : Int) % 8).toNat = bk % 8 := by omega
        simp only [pieces] at hpa
        go_wp2
        go_roundw
        case rel => exact ⟨k + 1, by omega, by omega, by go_num, by unfold KeyS; rw [HS2.out], by repeat (first | with_reducible exact Ext.refl _ | with_reducible assumption | with_reducible refine Ext.alloc ?_ _ | with_reducible refine Ext.drew ?_ | (with_reducible refine Ext.setCell ?_ (by first | exact Nat.le_refl _ | (dsimp only; omega) | (simp; done) | (simp; omega)) _) | with_reducible refine Ext.trans ?_ (by with_reducible assumption))⟩
        case measure => simp [intOf]; omega
      · have ht : l.take k = l.take 6 := by rw [show k = 6 by omega]
        have h6' : ¬ (k : Int) < 6 := by omega
        have HT := Lib.hid ht
        generalize hs1 : keyCat (l.take k) = s1 at *
        have HS1 := Lib.hid hs1
        clear hs1 ht
        by_cases hz : s1.size = 0
        all_goals
          have HZ := Lib.hid hz
          have hz1 := dempty s1 (decide (s1.size = 0)) rfl
          simp only [hz, decide_true, decide_false] at hz1
          clear hz
          obtain ⟨hz1, hz2⟩ := hz1
          go_wp2
          go_ret
          exact ⟨ret_str (by unfold keyText; rw [← HT.out, HS1.out]; first | rw [if_pos HZ.out] | rw [if_neg HZ.out]), (by repeat (first | with_reducible exact Ext.refl _ | with_reducible assumption | with_reducible refine Ext.alloc ?_ _ | with_reducible refine Ext.drew ?_ | (with_reducible refine Ext.setCell ?_ (by first | exact Nat.le_refl _ | (dsimp only; omega) | (simp; done) | (simp; omega)) _) | with_reducible refine Ext.trans ?_ (by with_reducible assumption)))⟩
    · have ht : l.take k = l.take 6 := by rw [List.take_of_length_le (by omega), List.take_of_length_le (by omega)]
      have HT := Lib.hid ht
      generalize hs1 : keyCat (l.take k) = s1 at *
      have HS1 := Lib.hid hs1
      clear hs1 ht
      by_cases hz : s1.size = 0
      all_goals
        have HZ := Lib.hid hz
        have hz1 := dempty s1 (decide (s1.size = 0)) rfl
        simp only [hz, decide_true, decide_false] at hz1
        clear hz
        obtain ⟨hz1, hz2⟩ := hz1
        go_wp2
        go_ret
        exact ⟨ret_str (by unfold keyText; rw [← HT.out, HS1.out]; first | rw [if_pos HZ.out] | rw [if_neg HZ.out]), (by repeat (first | with_reducible exact Ext.refl _ | with_reducible assumption | with_reducible refine Ext.alloc ?_ _ | with_reducible refine Ext.drew ?_ | (with_reducible refine Ext.setCell ?_ (by first | exact Nat.le_refl _ | (dsimp only; omega) | (simp; done) | (simp; omega)) _) | with_reducible refine Ext.trans ?_ (by with_reducible assumption)))⟩
end Go.Proofs.YtknlojlcahgnoaaGreat
