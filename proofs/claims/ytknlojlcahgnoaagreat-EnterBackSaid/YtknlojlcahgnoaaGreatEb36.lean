/- What is printed is read: decimal digits, plainly. Walks: the parts of a rule that words are read into. Walks: rule.burst. Walks: rule.Parse. Walks: the reference 07. The memory of words.Split: what each step leaves. Walks: tollerref14's lists of slots: fill, Slots, find, without. Walks: tollerref14: with, Same, Tick, New. Walks: tollerref14.Move. What the reference's Charge tells and leaves: plain. -/
import Derived.Defers
import Derived.Recover
import Derived.Deep.RegionHeld3
import Derived.Deep.QuietTactic
import Derived.BigQuiet
import Derived.Laws.AppendOwn
import Derived.Laws.AppendOwnNone
import Derived.RangeFuncBox
import Derived.Test.YtknlojlcahgnoaaGreatProg
import Derived.Deep.DeepCutAuto
import Derived.Deep.CutRange
import Derived.RegionTactic
import Derived.BigRegion
import Derived.Deep.RegionLaw
import Derived.Deep.CutBlock
import Derived.Test.YtknlojlcahgnoaaGreatEb1
import Derived.Test.YtknlojlcahgnoaaGreatEb5
import Derived.Test.YtknlojlcahgnoaaGreatEb10
import Derived.Test.YtknlojlcahgnoaaGreatEb12
import Derived.Test.YtknlojlcahgnoaaGreatEb16
import Derived.Test.YtknlojlcahgnoaaGreatEb6
import Derived.Test.YtknlojlcahgnoaaGreatEb20
import Derived.Test.YtknlojlcahgnoaaGreatEb18
import Derived.Test.YtknlojlcahgnoaaGreatEb7
import Derived.Test.YtknlojlcahgnoaaGreatEb9
import Derived.Test.YtknlojlcahgnoaaGreatEb13
import Derived.Test.YtknlojlcahgnoaaGreatEb25
import Derived.Test.YtknlojlcahgnoaaGreatEb27
import Derived.Test.YtknlojlcahgnoaaGreatEb31

namespace Go.Proofs.YtknlojlcahgnoaaGreat
open Go.RowKit
set_option linter.unusedVariables false
set_option linter.unusedSimpArgs false

theorem digit_toNat (k : Nat) (h : k < 10) : (UInt8.ofNat (48 + k)).toNat = 48 + k := by
  simp
  omega
theorem digit_isDig (k : Nat) (h : k < 10) : isDig (UInt8.ofNat (48 + k)) = true := by
  rw [isDig_iff, digit_toNat k h]
  omega

theorem pdig_spec (n : Nat) (h : n < 100000000000000000000) :
    (pdig n).all isDig = true ∧ dval (pdig n) = n ∧ 1 ≤ (pdig n).length ∧ (pdig n).length ≤ 20 ∧ (1 ≤ n → ((pdig n).getD 0 0).toNat ≠ 48) ∧ (n < 10 → (pdig n).length = 1) := by
  have key : ∀ m n : Nat, n ≤ m → n < 100000000000000000000 →
      (pdig n).all isDig = true ∧ dval (pdig n) = n ∧ 1 ≤ (pdig n).length ∧ (1 ≤ n → ((pdig n).getD 0 0).toNat ≠ 48) ∧ (n < 10 → (pdig n).length = 1) ∧ ∀ k, n < 10 ^ (k + 1) → (pdig n).length ≤ k + 1 := by
    intro m
    induction m with
    | zero =>
      intro n hn _
      obtain rfl : n = 0 := by omega
      have e : pdig 0 = [UInt8.ofNat 48] := rfl
      rw [e]
      exact ⟨by decide, by decide, by decide, by omega, fun _ => rfl, fun k _ => by simp⟩
    | succ m ih =>
      intro n hn hlt
      rw [pdig_eq n hlt]
      by_cases h10 : n < 10
      · rw [if_pos h10]
        refine ⟨by rw [List.all_cons, digit_isDig n h10]; rfl, ?_, by simp, ?_, fun _ => rfl, fun k _ => by simp⟩
        · simp only [dval, List.foldl_cons, List.foldl_nil]; rw [digit_toNat n h10]; omega
        · intro h1
          simp only [List.getD_cons_zero]
          rw [digit_toNat n h10]; omega
      · rw [if_neg h10]
        obtain ⟨a1, a2, a3, a4, a5, a6⟩ := ih (n / 10) (by omega) (by omega)
        refine ⟨by rw [List.all_append, a1, List.all_cons, digit_isDig (n % 10) (by omega)]; rfl, ?_, by simp, ?_, by omega, ?_⟩
        · rw [dval_snoc, a2, digit_toNat (n % 10) (by omega)]; omega
        · intro _
          have := a4 (by omega)
          rw [List.getD_eq_getElem?_getD, List.getElem?_append_left (by omega), ← List.getD_eq_getElem?_getD]
          exact this
        · intro k hk
          rw [List.length_append, List.length_singleton]
          rcases k with _ | k
          · simp at hk; omega
          · have := a6 k (by rw [Nat.div_lt_iff_lt_mul (by omega), ← Nat.pow_succ]; exact hk)
            omega
  obtain ⟨a1, a2, a3, a4, a5, a6⟩ := key n n (Nat.le_refl _) h
  exact ⟨a1, a2, a3, a6 19 (by omega), a4, a5⟩

theorem digStr_data (n : Int) : (digStr n).data.toList = pdig n.toNat := by simp [digStr]
end Go.Proofs.YtknlojlcahgnoaaGreat

namespace Go.Proofs.YtknlojlcahgnoaaGreat
open Go.RowKit
set_option linter.unusedVariables false
set_option linter.unusedSimpArgs false

def numErr (s : ByteArray) (none : Int) : Int := if digErr s = 0 ∧ digNum s = 0 then none else digErr s
def prefErr (s : ByteArray) : Int := if keyOk s = true then 0 else 23
def kindErr (k : Int) : Int := if 0 < k then 0 else 27

end Go.Proofs.YtknlojlcahgnoaaGreat

namespace Go.Proofs.YtknlojlcahgnoaaGreat
open Go.RowKit
set_option linter.unusedVariables false
set_option linter.unusedSimpArgs false

def burstErr (e : Int) (s : ByteArray) : Int := if numErr s 25 = 0 ∧ capOk e (digNum s) = false then 26 else numErr s 25
theorem Ext.drewN (w : World) (n : Nat) : Ext w (w.drewN n) := ⟨rfl, rfl, rfl, Nat.le_refl _, fun _ _ => rfl⟩

end Go.Proofs.YtknlojlcahgnoaaGreat

namespace Go.Proofs.YtknlojlcahgnoaaGreat
open Go.RowKit
set_option linter.unusedVariables false
set_option linter.unusedSimpArgs false

def wDef : ByteArray := ⟨#[100, 101, 102, 97, 117, 108, 116]⟩
def wRule : ByteArray := ⟨#[114, 117, 108, 101]⟩
end Go.Proofs.YtknlojlcahgnoaaGreat

namespace Go.Proofs.YtknlojlcahgnoaaGreat
open Go.RowKit
set_option linter.unusedVariables false
set_option linter.unusedSimpArgs false

theorem Blk.oth3 {w : World} {g b : Nat} {C : Array Value} {t : TypeId} (h : Blk w g C t) (ne : g ≠ b) (v0 v1 v2 : Value) : Blk (((w.setCell ⟨b, 0, none⟩ v0).setCell ⟨b, 1, none⟩ v1).setCell ⟨b, 2, none⟩ v2) g C t := ((h.other ne _).other ne _).other ne _
theorem Ext.set3 {x y : World} (h : Ext x y) {b : Nat} (hb : x.heap.size ≤ b) (v0 v1 v2 : Value) : Ext x (((y.setCell ⟨b, 0, none⟩ v0).setCell ⟨b, 1, none⟩ v1).setCell ⟨b, 2, none⟩ v2) := ((h.set hb _ _).set hb _ _).set hb _ _
end Go.Proofs.YtknlojlcahgnoaaGreat

namespace Go.Proofs.YtknlojlcahgnoaaGreat
open Go.RowKit
set_option linter.unusedVariables false
set_option linter.unusedSimpArgs false

def splitE (l : List UInt8) : Int := if 1048576 < l.length then 21 else match wordsOf l with
  | .inl _ => 20
  | .inr _ => 0
def splitAt' (l : List UInt8) : Int × Int := if 1048576 < l.length then (0, 0) else match wordsOf l with
  | .inl p => ((p.1 : Int), (p.2 : Int))
  | .inr _ => (0, 0)
def splitL (l : List UInt8) : List (List Wd) := if 1048576 < l.length then [] else match wordsOf l with
  | .inl _ => []
  | .inr ls => ls

/-- a line that has been laid -/
def LineIn (base lim : Nat) (w : World) (v : Value) (ws : List Wd) : Prop :=
  ∃ g cap C, v = .slice (some ⟨g, 0, none⟩) ws.length cap ∧ base ≤ g ∧ g < lim ∧ Blk w g C 108 ∧ ∀ j (h : j < ws.length) i, i < 3 → C[j * 3 + i]? = (ws[j].cells)[i]?
theorem LineIn.extB {base lim b : Nat} {w w' : World} {v : Value} {ws : List Wd} (h : LineIn base lim w v ws) (e : ExtB b w w') (hb : b < base) : LineIn base lim w' v ws := by
  obtain ⟨g, cap, C, h1, h2, h3, h4, h5⟩ := h
  exact ⟨g, cap, C, h1, h2, h3, h4.extB e (by omega), h5⟩
theorem LineIn.fr {base lim lim' b : Nat} {w w' : World} {v : Value} {ws : List Wd} (h : LineIn base lim w v ws) (e : FrB b lim w w') (hb : b < base) : LineIn base lim w' v ws := by
  obtain ⟨g, cap, C, h1, h2, h3, h4, h5⟩ := h
  exact ⟨g, cap, C, h1, h2, h3, h4.fr e h3 (by omega), h5⟩
theorem own_type {x : World} {lim k n : Nat} {e : TypeId} {v : Value} {xs : List Value} (o : x.ownsRow lim e k v n xs) {c : Nat} {C : Array Value} {t : TypeId} (h : Blk x c C t) (ht : t ≠ e) : some c ≠ v.ownBlock := by
  obtain ⟨-, ⟨rfl, -⟩ | ⟨g', cap, cur, rfl, h2, h3, -⟩⟩ := o
  · intro q; cases q
  · intro q
    cases q
    have := (show x.heap[g']? = some (.cells C t) from h).symm.trans h3
    simp at this
    exact ht this.2
theorem own_fr {b lim base k n : Nat} {w w' : World} {e : TypeId} {v : Value} {xs : List Value} (o : w.ownsRow base e k v n xs) (hl : ∀ g, v.ownBlock = some g → g < lim) (f : FrB b lim w w') (hb : b < base) : w'.ownsRow base e k v n xs := by
  obtain ⟨h0, h | ⟨g, cap, cur, rfl, h2, h3, h4⟩⟩ := o
  · exact ⟨h0, Or.inl h⟩
  · exact ⟨h0, Or.inr ⟨g, cap, cur, rfl, h2, (f.block g (hl g rfl) (by omega)).trans h3, h4⟩⟩
/-- the memory of the walk through a text -/
structure SpMem (w : World) (B : Nat) (tv : Value) (k : Nat) (was : Int) (from_ : Nat) (rv ov : Value) (vs : List Value) (lim : Nat) (line col : Nat) (row : List Wd) (out : List (List Wd)) : Prop where
  text : Blk w B #[tv] 22
  place : Blk w (B + 1) #[.int .i64 0, .int .i64 0] 44
  out_ : Blk w (B + 2) #[ov] 96
  row_ : Blk w (B + 3) #[rv] 106
  fr : Blk w (B + 4) #[.int .i64 (from_ : Int)] 3
  kk : Blk w (B + 5) #[.int .i64 (k : Int)] 3
  pl : Blk w (B + 6) #[.complex .f64 (fl line) (fl col)] 176
  wa : Blk w (B + 7) #[.int .i64 was] 3
  rowW : WdRow lim w rv row
  outW : w.ownsRow (B + 8) 106 1 ov vs.length vs
  outN : vs.length = out.length
  lines : ∀ j (h : j < vs.length) (h' : j < out.length), LineIn (B + 8) lim w vs[j] out[j]
  outL : ∀ g, ov.ownBlock = some g → g < lim
  lim0 : B + 8 ≤ lim
  lim1 : lim ≤ w.heap.size
section
variable {w w' : World} {B : Nat} {tv rv ov : Value} {k from_ : Nat} {was : Int} {vs : List Value} {lim line col : Nat} {row : List Wd} {out : List (List Wd)}
theorem SpMem.kept (h : SpMem w B tv k was from_ rv ov vs lim line col row out) {rv' : Value} {row' : List Wd} (h1 : Blk w' (B + 3) #[rv'] 106) (h2 : WdRow lim w' rv' row') (f : FrB (B + 3) lim w w') : SpMem w' B tv k was from_ rv' ov vs lim line col row' out := by
  have hl := h.lim0
  exact ⟨h.text.fr f (by omega) (by omega), h.place.fr f (by omega) (by omega), h.out_.fr f (by omega) (by omega), h1, h.fr.fr f (by omega) (by omega), h.kk.fr f (by omega) (by omega), h.pl.fr f (by omega) (by omega), h.wa.fr f (by omega) (by omega), h2, own_fr h.outW h.outL f (by omega), h.outN, fun j q1 q2 => (h.lines j q1 q2).fr (lim' := lim) f (by omega), h.outL, h.lim0, Nat.le_trans h.lim1 f.size⟩
end
end Go.Proofs.YtknlojlcahgnoaaGreat

namespace Go.Proofs.YtknlojlcahgnoaaGreat
open Go.RowKit
set_option linter.unusedVariables false
set_option linter.unusedSimpArgs false

theorem slot_size (x : Slot) : x.cells.size = 8 := rfl
theorem slot_info : (Tryz.prog.info? 145).map (fun i => (i.zero, i.size, i.bytes)) = some (some slot0.val, 8, 80) := by kernel_rfl
/-- a slice of slots, in memory of its own -/
abbrev SlotRow (base : Nat) (w : World) (v : Value) (l : List Slot) : Prop := RowOf Slot.cells 8 145 base w v l
/-- a slice that reads as slots -/
def SlotsAt (w : World) (v : Value) (l : List Slot) : Prop := ∃ a c, v = .slice a l.length c ∧ (l ≠ [] → ∃ b o, a = some ⟨b, o, none⟩ ∧ ∀ j (h : j < l.length) i, i < 8 → w.cell? ⟨b, o + (j * 8 + i), none⟩ = (l[j].cells)[i]?)
theorem SlotsAt.ext {w w' : World} {v : Value} {l : List Slot} (h : SlotsAt w v l) (e : Ext w w') : SlotsAt w' v l := by
  obtain ⟨a, c, hv, hf⟩ := h
  refine ⟨a, c, hv, fun hl => ?_⟩
  obtain ⟨b, o, ha, hc⟩ := hf hl
  refine ⟨b, o, ha, fun j hj i hi => ?_⟩
  have h8 : (l[j].cells)[i]? = some ((l[j].cells)[i]'(by rw [slot_size]; exact hi)) := Array.getElem?_eq_getElem _
  rw [h8]
  exact e.keep ((hc j hj i hi).trans h8)
theorem SlotsAt.size {w : World} {v : Value} {l : List Slot} (h : SlotsAt w v l) : ∃ a c, v = .slice a l.length c := by
  obtain ⟨a, c, hv, -⟩ := h
  exact ⟨a, c, hv⟩
theorem SlotsAt.cells {w : World} {a : Option Addr} {n c : Nat} {l : List Slot} (h : SlotsAt w (.slice a n c) l) (j : Nat) (hj : j < l.length) : ∃ b o, a = some ⟨b, o, none⟩ ∧ b < w.heap.size ∧
    w.cell? ⟨b, o + j * 8, none⟩ = some (.string l[j].key) ∧ w.cell? ⟨b, o + j * 8 + 1, none⟩ = some (.string l[j].p) ∧ w.cell? ⟨b, o + j * 8 + 2, none⟩ = some (.int .u64 l[j].e) ∧ w.cell? ⟨b, o + j * 8 + 3, none⟩ = some (.int .u64 l[j].b) ∧
    w.cell? ⟨b, o + j * 8 + 4, none⟩ = some (.int .u8 l[j].rk) ∧ w.cell? ⟨b, o + j * 8 + 5, none⟩ = some (.int .u8 l[j].sk) ∧ w.cell? ⟨b, o + j * 8 + 6, none⟩ = some (.int .u64 l[j].sa) ∧ w.cell? ⟨b, o + j * 8 + 7, none⟩ = some (.int .u64 l[j].sb) := by
  obtain ⟨a', c', hv, hf⟩ := h
  cases hv
  obtain ⟨b, o, ha, hc⟩ := hf (fun q => by rw [q] at hj; simp at hj)
  have c0 : w.cell? ⟨b, o + j * 8, none⟩ = some (.string l[j].key) := hc j hj 0 (by omega)
  exact ⟨b, o, ha, cell_lt c0, c0, hc j hj 1 (by omega), hc j hj 2 (by omega), hc j hj 3 (by omega), hc j hj 4 (by omega), hc j hj 5 (by omega), hc j hj 6 (by omega), hc j hj 7 (by omega)⟩
theorem RowOf.slots {base : Nat} {w : World} {v : Value} {l : List Slot} (h : SlotRow base w v l) : SlotsAt w v l := by
  obtain ⟨a, c, hv⟩ := h.size
  refine ⟨a, c, hv, fun hl => ?_⟩
  obtain ⟨b, c', hv', -, -, -⟩ := h.cells slot_size 0 (List.length_pos_iff.2 hl)
  rw [hv] at hv'
  cases hv'
  refine ⟨b, 0, rfl, fun j hj i hi => ?_⟩
  obtain ⟨b', c', hv', -, -, hq⟩ := h.cells slot_size j hj
  rw [hv] at hv'
  cases hv'
  rw [Nat.zero_add]
  exact hq i hi

theorem row_more {base : Nat} {w : World} {v : Value} {l l' : List Slot} {s : Slot} (h : w.ownsRow base 145 8 v (l.length + 1) (flatE Slot.cells l ++ s.cells.toList)) (e : l' = l ++ [s]) : SlotRow base w v l' := by
  subst e
  refine RowOf.mk' h (by simp) (flatE_snoc _ _ _).symm ?_
  obtain ⟨g, cap, rfl⟩ := ownsRow_succ h
  simp
/-- those that are active -/
def rSlots (clock : Int) (l : List Slot) : List Slot := l.filter fun s => decide (0 < s.fill clock)
/-- those of other keys -/
def rWithout (l : List Slot) (k : ByteArray) : List Slot := l.filter fun s => decide (s.key ≠ k)
end Go.Proofs.YtknlojlcahgnoaaGreat

namespace Go.Proofs.YtknlojlcahgnoaaGreat
open Go.RowKit
set_option linter.unusedVariables false
set_option linter.unusedSimpArgs false

/-- where a key would stand -/
def rAt (x : List Slot) (k : ByteArray) : Nat := (x.takeWhile fun y => keyLt y.key k).length
/-- a slot, in its place -/
def rWith (l : List Slot) (s : Slot) : List Slot := (rWithout l s.key).take (rAt (rWithout l s.key) s.key) ++ s :: (rWithout l s.key).drop (rAt (rWithout l s.key) s.key)
theorem RowOf.cap {α : Type} {enc : α → Array Value} {k : Nat} {E : TypeId} {base : Nat} {w : World} {a : Option Addr} {n c : Nat} {l : List α} (h : RowOf enc k E base w (.slice a n c) l) : l.length ≤ c := by
  obtain ⟨⟨-, ⟨hv, h0⟩ | ⟨g, cap, cur, h1, h2, h3, h4, -⟩⟩, -⟩ := h
  · cases hv; omega
  · cases h1; exact h4
end Go.Proofs.YtknlojlcahgnoaaGreat

namespace Go.Proofs.YtknlojlcahgnoaaGreat
open Go.RowKit
set_option linter.unusedVariables false
set_option linter.unusedSimpArgs false

theorem Blk.set3 {w : World} {b : Nat} {a0 a1 a2 : Value} {t : TypeId} (h : Blk w b #[a0, a1, a2] t) (v0 v1 v2 : Value) : Blk (((w.setCell ⟨b, 0, none⟩ v0).setCell ⟨b, 1, none⟩ v1).setCell ⟨b, 2, none⟩ v2) b #[v0, v1, v2] t := by
  have h0 : Blk _ b #[v0, a1, a2] t := h.set 0 v0
  have h1 : Blk _ b #[v0, v1, a2] t := h0.set 1 v1
  have h2 : Blk _ b #[v0, v1, v2] t := h1.set 2 v2
  exact h2
theorem RowOf.set1 {α : Type} {enc : α → Array Value} {k : Nat} {E : TypeId} {base b : Nat} {w : World} {v : Value} {l : List α} (h : RowOf enc k E base w v l) (hb : b < base) (o : Nat) (x : Value) : RowOf enc k E base (w.setCell ⟨b, o, none⟩ x) v l := h.extB ((ExtB.refl _ _).setCell _ _) hb
theorem fill_right {clock : Int} {s : Slot} (h : 0 < s.fill clock) : rightKind s.sk = true := by
  unfold Slot.fill kFill at h
  unfold rightKind
  by_cases q1 : s.sk = 1
  · rw [q1]; rfl
  by_cases q2 : s.sk = 2
  · rw [q2]; rfl
  by_cases q3 : s.sk = 3
  · rw [q3]; rfl
  simp [q1, q2, q3] at h
theorem cap_u {s : Slot} (h : SlotOk s) : 0 ≤ s.cap ∧ s.cap < 18446744073709551616 := by
  have := ruleCap_u s.p s.e s.b s.rk h.e0 h.b0
  show 0 ≤ ruleCap s.p s.e s.b s.rk ∧ ruleCap s.p s.e s.b s.rk < 18446744073709551616
  omega
theorem fill_u {clock : Int} {s : Slot} (h : SlotOk s) (hn0 : 0 ≤ clock) (hn1 : clock < 18446744073709551616) : 0 ≤ s.fill clock ∧ s.fill clock < 18446744073709551616 := by
  have hc := cap_u h
  exact kFill_u s.sk s.sa s.sb clock s.cap h.sa0 h.sa1 h.sb0 hn0 hn1 hc.1 hc.2
end Go.Proofs.YtknlojlcahgnoaaGreat

namespace Go.Proofs.YtknlojlcahgnoaaGreat
open Go.RowKit
set_option linter.unusedVariables false
set_option linter.unusedSimpArgs false

def rFind (xs : List Slot) (k : ByteArray) : Option Slot := xs.find? fun s => decide (s.key = k)
def rIdx (xs : List Slot) (k : ByteArray) : Int := match xs.findIdx? (fun s => decide (s.key = k)) with | some i => (i : Int) | none => -1
/-- the slot of a key, if its numbers are the rule's -/
def rHit (xs : List Slot) (k : ByteArray) (e b : Int) : Option Slot := (rFind xs k).filter fun s => s.e == e && s.b == b
/-- is there one by other numbers -/
def rOth (xs : List Slot) (k : ByteArray) (e b : Int) : Bool := (rFind xs k).isSome && !(rHit xs k e b).isSome
def rLeft (xs : List Slot) (k : ByteArray) (e b : Int) : List Slot := if rOth xs k e b then rWithout xs k else xs
def rFull (most : Int) (xs : List Slot) (k : ByteArray) (e b : Int) : Bool := !(rHit xs k e b).isSome && decide (most ≤ ((rLeft xs k e b).length : Int))
def rChgV (most clock : Int) (xs : List Slot) (k : ByteArray) (e b rk n : Int) : Value :=
  if rFull most xs k e b then ansV 3 0 b 0 0 0 0 false else chgV clock (rHit xs k e b) e b rk n
def rChgL (most clock : Int) (xs : List Slot) (k p : ByteArray) (e b rk n : Int) : List Slot :=
  if rFull most xs k e b then rLeft xs k e b else if chgOk clock (rHit xs k e b) e b rk n then rWith (rLeft xs k e b) (chgS clock (rHit xs k e b) k p e b rk n) else rLeft xs k e b

theorem rIdx_cases (xs : List Slot) (k : ByteArray) : (rIdx xs k = -1 ∧ rFind xs k = none ∧ ∀ x ∈ xs, x.key ≠ k) ∨
    ∃ m, ∃ h : m < xs.length, rIdx xs k = (m : Int) ∧ rFind xs k = some xs[m] ∧ xs[m].key = k ∧ ∀ i (hi : i < m), (xs[i]'(by omega)).key ≠ k := by
  unfold rIdx rFind
  cases hf : xs.findIdx? (fun s => decide (s.key = k)) with
  | none =>
    left
    rw [List.findIdx?_eq_none_iff] at hf
    have hf' : ∀ x ∈ xs, x.key ≠ k := fun x hx => by simpa using hf x hx
    refine ⟨rfl, ?_, hf'⟩
    rw [List.find?_eq_none]
    intro x hx
    simpa using hf' x hx
  | some m =>
    right
    rw [List.findIdx?_eq_some_iff_getElem] at hf
    obtain ⟨h, h1, h2⟩ := hf
    have h1' : xs[m].key = k := by simpa using h1
    refine ⟨m, h, rfl, ?_, h1', fun i hi => by simpa using h2 i hi⟩
    rw [List.find?_eq_some_iff_getElem]
    exact ⟨by simpa using h1', m, h, rfl, fun j hj => by simpa using h2 j hj⟩
theorem rLeft_mem {xs : List Slot} {k : ByteArray} {e b : Int} {s : Slot} (h : s ∈ rLeft xs k e b) : s ∈ xs := by
  unfold rLeft at h
  split at h
  · exact (List.mem_filter.1 h).1
  · exact h
theorem rHit_mem {xs : List Slot} {k : ByteArray} {e b : Int} {s : Slot} (h : rHit xs k e b = some s) : s ∈ xs ∧ s.key = k ∧ s.e = e ∧ s.b = b := by
  unfold rHit at h
  obtain ⟨h1, h2⟩ := Option.filter_eq_some_iff.1 h
  have h3 := List.find?_some h1
  have h4 := List.mem_of_find?_eq_some h1
  simp at h2 h3
  exact ⟨h4, h3, h2.1, h2.2⟩
end Go.Proofs.YtknlojlcahgnoaaGreat
