/- Bytes of a conversion, in a row of the call's own: appended to, a byte at a time. Walks: words.Join. Walk: config.Print. Walk: config.Parse. Plain: what is printed is read. Plain: who enters is there, until when he said. Plain: slices of keys' choices, of far ones; parts of a row of entries. How a slice of slices of bytes, and one of u16, come out of an argument's reading. -/
import Derived.Deep.AppendSrc
import Derived.Shelf.Strings.OnBuilder
import Derived.Deep.CutBlock
import Derived.Deep.Slices
import Derived.Deep.Fields
import Derived.ChangeSame
import Derived.Lib.SmallJoins
import Derived.Test.YtknlojlcahgnoaaGreatProg
import Derived.RegionTactic
import Derived.BigRegion
import Derived.Test.YtknlojlcahgnoaaGreatEa0
import Derived.Test.YtknlojlcahgnoaaGreatEa53
import Derived.Test.YtknlojlcahgnoaaGreatEa5
import Derived.Test.YtknlojlcahgnoaaGreatEa52
import Derived.Test.YtknlojlcahgnoaaGreatEa43
import Derived.Test.YtknlojlcahgnoaaGreatEa49
import Derived.Test.YtknlojlcahgnoaaGreatEa29
import Derived.Test.YtknlojlcahgnoaaGreatEa46
import Derived.Test.YtknlojlcahgnoaaGreatEa39
import Derived.Test.YtknlojlcahgnoaaGreatEa28
import Derived.Test.YtknlojlcahgnoaaGreatEa37
import Derived.Test.YtknlojlcahgnoaaGreatEa11

namespace Go.Proofs.YtknlojlcahgnoaaGreat
open Go.RowKit
set_option linter.unusedVariables false
set_option linter.unusedSimpArgs false

/-- bytes in a row that lies above a limit and may be written up to its capacity -/
def TailB (base : Nat) (w : World) (v : Value) (l : List UInt8) : Prop :=
  ∃ g cap, v = .slice (some ⟨g, 0, none⟩) l.length cap ∧ base ≤ g ∧ g < w.heap.size ∧ l.length ≤ cap ∧ cap ≤ maxLen ∧ (∀ j, j < cap → (w.cell? ⟨g, j, none⟩).isSome = true ∧ w.frozen? ⟨g, j, none⟩ = false) ∧
    ∀ j (h : j < l.length), w.cell? ⟨g, j, none⟩ = some (.int .u8 (l[j].toNat : Int))
theorem TailB.slice {base : Nat} {w : World} {v : Value} {l : List UInt8} (h : TailB base w v l) : ByteSlice w v l ∧ CapLe v := by
  obtain ⟨g, cap, rfl, -, -, h3, h4, -, h6⟩ := h
  refine ⟨⟨⟨_, _, rfl, fun _ => ⟨g, 0, rfl, fun j hj => ?_⟩⟩, by omega⟩, fun a n c e => by cases e; exact h3⟩
  rw [Nat.zero_add]
  exact h6 j hj
theorem TailB.ext {base : Nat} {w w' : World} {v : Value} {l : List UInt8} (h : TailB base w v l) (e : Ext w w') : TailB base w' v l := by
  obtain ⟨g, cap, rfl, h1, h2, h3, h4, h5, h6⟩ := h
  have k1 : ∀ j, w'.cell? ⟨g, j, none⟩ = w.cell? ⟨g, j, none⟩ := fun j => World.cell?_of_block (a := ⟨g, j, none⟩) (e.block h2)
  have k2 : ∀ j, w'.frozen? ⟨g, j, none⟩ = w.frozen? ⟨g, j, none⟩ := fun j => World.frozen?_of_block (a := ⟨g, j, none⟩) (e.block h2)
  exact ⟨g, cap, rfl, h1, Nat.lt_of_lt_of_le h2 e.sz, h3, h4, fun j hj => by rw [k1, k2]; exact h5 j hj, fun j hj => by rw [k1]; exact h6 j hj⟩
theorem TailB.mono {b c : Nat} {w : World} {v : Value} {l : List UInt8} (h : TailB c w v l) (hb : b ≤ c) : TailB b w v l := by
  obtain ⟨g, cap, e, h1, h2⟩ := h
  exact ⟨g, cap, e, Nat.le_trans hb h1, h2⟩
theorem TailB.low {base : Nat} {w : World} {v : Value} {l : List UInt8} (h : TailB base w v l) {c : Nat} (hc : c < base) : some c ≠ v.ownBlock := by
  obtain ⟨g, cap, rfl, h1, -⟩ := h
  intro q
  have e : c = g := by simpa [Value.ownBlock] using q
  omega
/-- while it grows all else that was there stays -/
def OwnOr (g0 lim : Nat) (v : Value) : Prop := v.ownBlock = some g0 ∨ ∃ k, v.ownBlock = some k ∧ lim ≤ k
theorem OwnOr.step {g0 lim : Nat} {v v' : Value} {n : Nat} (o : OwnOr g0 lim v) (h : v'.ownBlock = v.ownBlock ∨ v'.ownBlock = some n) (hn : lim ≤ n) : OwnOr g0 lim v' := by
  rcases h with h | h
  · unfold OwnOr; rw [h]; exact o
  · exact Or.inr ⟨n, h, hn⟩
end Go.Proofs.YtknlojlcahgnoaaGreat

namespace Go.Proofs.YtknlojlcahgnoaaGreat
open Go.RowKit Go.Shelf
set_option linter.unusedVariables false
set_option linter.unusedSimpArgs false

abbrev BufIs (B b : Nat) (l : List UInt8) (w : World) : Prop := Lib.IsBuilder 169 5 B b (Lib.byteCells l) w
/-- rows of words in memory -/
def LinesStr (w : World) (v : Value) (ls : List (List ByteArray)) : Prop :=
  ∃ a c, v = .slice a ls.length c ∧ (ls ≠ [] → ∃ b o, a = some ⟨b, o, none⟩ ∧ ∀ j (h : j < ls.length), ∃ x, w.cell? ⟨b, o + j, none⟩ = some x ∧ StrSlice w x ls[j] ∧ CapLe x)
theorem LinesStr.ext {w w' : World} {v : Value} {ls : List (List ByteArray)} (h : LinesStr w v ls) (e : Ext w w') : LinesStr w' v ls := by
  obtain ⟨a, c, hv, hl⟩ := h
  refine ⟨a, c, hv, fun hne => ?_⟩
  obtain ⟨b, o, ha, hc⟩ := hl hne
  refine ⟨b, o, ha, fun j hj => ?_⟩
  obtain ⟨x, h1, h2, h3⟩ := hc j hj
  exact ⟨x, e.keep h1, h2.ext e, h3⟩
theorem BufIs.ext {B b : Nat} {l : List UInt8} {w w' : World} (h : BufIs B b l w) (e : Ext w w') : BufIs B b l w' := by
  rcases h with ⟨h1, v, h2, h3, h4⟩ | ⟨h1, v, h2, h3, h4⟩
  · exact Or.inl ⟨h1, v, (e.block (lt_of_block h2)).trans h2, own_ext h3 e, h4⟩
  · exact Or.inr ⟨h1, v, (e.block (lt_of_block h2)).trans h2, own_ext h3 e, h4⟩
end Go.Proofs.YtknlojlcahgnoaaGreat

namespace Go.Proofs.YtknlojlcahgnoaaGreat
open Go.RowKit
set_option linter.unusedVariables false
set_option linter.unusedSimpArgs false

def plW (r : Rl) : List ByteArray := printWords r.p r.e r.b r.k
/-- the lines that are printed -/
def prLines (most : Int) (rs : List Rl) : List (List ByteArray) := [wSize, digStr most] :: (ordL Rl.key rs).map plW
theorem cfg_zero {most : Int} {rs : List Rl} (h : cfgErr most rs = 0) : 1 ≤ most ∧ most ≤ 1000000 ∧ rs.length ≤ 1000 := by
  by_cases h1 : most < 1 ∨ 1000000 < most
  · rw [cfgErr_most h1] at h; cases h
  · by_cases h2 : 1000 < rs.length
    · rw [cfgErr_many h1 h2] at h; cases h
    · omega
theorem cfgErr_rules {most : Int} {rs : List Rl} (h : cfgErr most rs = 0) : ∀ r ∈ rs, rErr r = 0 := by
  obtain ⟨h1, h2, h3⟩ := cfg_zero h
  intro r hr
  by_cases q : rErr r = 0
  · exact q
  · exfalso
    unfold cfgErr at h
    rw [if_neg (by omega), if_neg (by omega)] at h
    cases hf : rs.find? (fun r => decide (rErr r ≠ 0)) with
    | none =>
      rw [List.find?_eq_none] at hf
      exact hf r hr (by simpa using q)
    | some x =>
      rw [hf] at h
      have := List.find?_some hf
      simp at this
      exact this h
/-- words in memory of the call's own -/
structure StrEl (w : World) (x : Value) (l : List ByteArray) : Prop where
  str : StrSlice w x l
  own : OwnS w x
theorem StrEl.ext {w w' : World} {x : Value} {l : List ByteArray} (h : StrEl w x l) (e : Ext w w') : StrEl w' x l := by
  obtain ⟨h1, h2, base, n, xs, h3⟩ := h
  exact ⟨h1.ext e, h2, base, n, xs, own_ext h3 e⟩
theorem StrEl.grown {w y w' : World} {x v : Value} {l : List ByteArray} {base n k : Nat} {xs : List Value} (h : StrEl y x l) (o : w.ownsRow base 32 k v n xs) (e : Ext w y) (g : y.grownBy w' v.ownBlock) : StrEl w' x l := by
  obtain ⟨h1, h2, base', n', xs', h3⟩ := h
  have oy := own_ext o e
  rcases h3 with ⟨h0, ⟨rfl, hn⟩ | ⟨g', cap, cur, rfl, q2, q3, q4⟩⟩
  · obtain ⟨⟨a, c, hv, hl⟩, i1, i2⟩ := h1
    refine ⟨⟨⟨a, c, hv, fun hne => ?_⟩, i1, i2⟩, h2, base', n', xs', h0, Or.inl ⟨rfl, hn⟩⟩
    obtain ⟨b, o', ha, -⟩ := hl hne
    rw [ha] at hv
    cases hv
  · have hb : w'.heap[g']? = y.heap[g']? := g.block g' (lt_of_block q3) (own_type oy (show Blk y g' cur 9 from q3) (by decide))
    obtain ⟨⟨a, c, hv, hl⟩, i1, i2⟩ := h1
    refine ⟨⟨⟨a, c, hv, fun hne => ?_⟩, i1, i2⟩, h2, base', n', xs', h0, Or.inr ⟨g', cap, cur, rfl, q2, hb.trans q3, q4⟩⟩
    obtain ⟨b, o', ha, hc⟩ := hl hne
    rw [ha] at hv
    cases hv
    refine ⟨g', 0, ha, fun j hj => ?_⟩
    have := hc j hj
    unfold World.cell? at this ⊢
    simp only at this ⊢
    rw [hb]
    exact this
theorem own_lit {w : World} {g base : Nat} {C : Array Value} {t : TypeId} (h : Blk w g C t) (hb : base ≤ g) (hm : C.size ≤ maxLen) : w.ownsRow base t 1 (.slice (some ⟨g, 0, none⟩) C.size C.size) C.size C.toList :=
  ⟨by simp, Or.inr ⟨g, C.size, C, rfl, hb, h, Nat.le_refl _, hm, by simp, by rw [Nat.mul_one, ← Array.length_toList, List.take_length]⟩⟩
/-- k rules have been printed -/
def PrAt (w : World) (most : Int) (rs : List Rl) (k : Nat) (v : Value) (wr : World) : Prop :=
  ∃ vs, wr.ownsRow w.heap.size 32 1 v (k + 1) vs ∧ vs.length = k + 1 ∧ (∀ j (h : j < vs.length) (h2 : j < (prLines most rs).length), StrEl wr vs[j] (prLines most rs)[j]) ∧ Ext w wr
theorem PrAt.ext {w wr wr' : World} {most : Int} {rs : List Rl} {k : Nat} {v : Value} (h : PrAt w most rs k v wr) (e : Ext wr wr') : PrAt w most rs k v wr' := by
  obtain ⟨vs, h1, h2, h3, h4⟩ := h
  exact ⟨vs, own_ext h1 e, h2, fun j q1 q2 => (h3 j q1 q2).ext e, h4.trans e⟩
theorem PrAt.start {w w3 : World} {most : Int} {rs : List Rl} {g : Nat} (bs : Blk w3 g #[.string ⟨#[115, 105, 122, 101]⟩, .string (digStr most)] 9) (bl : Blk w3 (g + 1) #[.slice (some ⟨g, 0, none⟩) 2 2] 32) (hds : (digStr most).size ≤ 20) (hg : w.heap.size ≤ g) (e : Ext w w3) :
    PrAt w most rs 0 (.slice (some ⟨g + 1, 0, none⟩) 1 1) w3 := by
  have hm : (20 : Nat) ≤ maxLen := by decide
  refine ⟨[.slice (some ⟨g, 0, none⟩) 2 2], own_lit bl (by omega) (by simp; omega), rfl, fun j h1 h2 => ?_, e⟩
  have hj : j = 0 := by simp at h1; omega
  subst hj
  have e0 : (prLines most rs)[0] = [wSize, digStr most] := rfl
  rw [e0]
  refine ⟨StrSlice.new [wSize, digStr most] bs rfl (by decide) ?_, OwnS.of (own_lit bs (Nat.le_refl g) (by simp; omega))⟩
  intro s hs
  rcases List.mem_cons.1 hs with rfl | hs
  · decide
  · rw [List.mem_singleton.1 hs]; omega
theorem PrAt.step {w wr w5 w6 : World} {most : Int} {rs : List Rl} {k : Nat} {u v' x : Value} {vs : List Value} {r : Rl} (o : wr.ownsRow w.heap.size 32 1 u (k + 1) vs) (hvl : vs.length = k + 1) (hel : ∀ j (h : j < vs.length) (h2 : j < (prLines most rs).length), StrEl wr vs[j] (prLines most rs)[j]) (hwr : Ext w wr) (hx : Ext wr w5) (hs : StrEl w5 x (plW r)) {hlk : k + 1 < (prLines most rs).length} (hle : (prLines most rs)[k + 1] = plW r)
    (ho : w6.ownsRow w.heap.size 32 1 v' (k + 1 + 1) (vs ++ [x])) (hg : (w5.alloc (.cells #[x] 32)).grownBy w6 u.ownBlock) : PrAt w most rs (k + 1) v' w6 := by
  have ox := (own_ext o hx).alloc (.cells #[x] 32)
  refine ⟨vs ++ [x], ho, by simp [hvl], fun j h1 h2 => ?_, Ext.grownAt ((hwr.trans hx).alloc _) ox (Nat.le_refl _) hg⟩
  by_cases q : j < vs.length
  · rw [List.getElem_append_left q]
    exact (((hel j q h2).ext hx).ext ((Ext.refl w5).alloc _)).grown ox (Ext.refl _) hg
  · have hj : j = k + 1 := by simp at h1; omega
    subst hj
    rw [List.getElem_append_right (by omega), hle]
    have : [x][k + 1 - vs.length]'(by simp; omega) = x := by simp
    rw [this]
    exact (hs.ext ((Ext.refl w5).alloc _)).grown ox (Ext.refl _) hg
theorem PrAt.lines {w wr : World} {most : Int} {rs : List Rl} {k : Nat} {v : Value} (h : PrAt w most rs k v wr) (hk : (prLines most rs).length = k + 1) : LinesStr wr v (prLines most rs) := by
  obtain ⟨vs, ho, h2, h3, -⟩ := h
  obtain ⟨-, ⟨rfl, q⟩ | ⟨g, cap, cur, rfl, q2, q3, q4, q5, q6, q7⟩⟩ := ho
  · omega
  · refine ⟨_, _, by rw [hk], fun _ => ⟨g, 0, rfl, fun j hj => ?_⟩⟩
    have hjv : j < vs.length := by omega
    obtain ⟨i1, i2, base, n, xs, i3⟩ := h3 j hjv hj
    refine ⟨vs[j], ?_, i1, fun a n c e => (i2 a n c e).1⟩
    have : cur.toList[j]? = some vs[j] := by
      rw [← List.getElem?_eq_getElem hjv, ← q7, List.getElem?_take_of_lt (by omega)]
    rw [Blk.cell (show Blk wr g cur 32 from q3)]
    simpa using this
end Go.Proofs.YtknlojlcahgnoaaGreat

namespace Go.Proofs.YtknlojlcahgnoaaGreat
open Go.RowKit
set_option linter.unusedVariables false
set_option linter.unusedSimpArgs false

/-- what is right of a line -/
def LnOk (ws : List Wd) : Prop := ws ≠ [] ∧ (∀ x ∈ ws, x.t.size ≤ maxLen) ∧ ws.length ≤ 2000000
theorem ExtB.keepC {b : Nat} {w w' : World} (h : ExtB b w w') {a : Addr} {v : Value} (c : w.cell? a = some v) (hne : a.block ≠ b) : w'.cell? a = some v := by
  have hlt : a.block < w.heap.size := by
    unfold World.cell? at c
    rcases Nat.lt_or_ge a.block w.heap.size with h | h
    · exact h
    · rw [Array.getElem?_eq_none h] at c; cases c
  have hb := h.block a.block hlt hne
  unfold World.cell? at c ⊢
  rw [hb]
  exact c
theorem wds_other {w w' : World} {v : Value} {l : List Wd} {c : Nat} {C : Array Value} {t : TypeId} (h : WdsAt w v l) (hB : Blk w c C t) (hC : ∀ (i : Nat) (s : ByteArray), C[i]? ≠ some (Value.string s)) (e : ExtB c w w') : WdsAt w' v l := by
  obtain ⟨a, cp, hv, hl⟩ := h
  refine ⟨a, cp, hv, fun hne => ?_⟩
  obtain ⟨b, o, ha, hc⟩ := hl hne
  have h0 : 0 < l.length := List.length_pos_iff.2 hne
  have hb : b ≠ c := fun q => by
    subst q
    have := hc 0 h0 0 (by decide)
    rw [hB.cell] at this
    exact hC _ _ this
  refine ⟨b, o, ha, fun j hj i hi => ?_⟩
  have := hc j hj i hi
  rw [Array.getElem?_eq_getElem (by rw [Wd.size3]; exact hi)] at this ⊢
  exact e.keepC this hb
theorem LinesAt.other {w w' : World} {v : Value} {ls : List (List Wd)} {c : Nat} {C : Array Value} {t : TypeId} (h : LinesAt w v ls) (hok : ∀ ws ∈ ls, LnOk ws) (hB : Blk w c C t) (hC : ∀ (i : Nat) (s : ByteArray), C[i]? ≠ some (Value.string s)) (hD : ∀ (i : Nat) (a : Option Addr) (n m : Nat), C[i]? ≠ some (Value.slice a n m)) (e : ExtB c w w') : LinesAt w' v ls := by
  obtain ⟨a, cp, hv, hl⟩ := h
  refine ⟨a, cp, hv, fun hne => ?_⟩
  obtain ⟨b, o, ha, hc⟩ := hl hne
  refine ⟨b, o, ha, fun j hj => ?_⟩
  obtain ⟨x, hx, hws⟩ := hc j hj
  have hb : b ≠ c := fun q => by
    subst q
    obtain ⟨a', c', hx', -⟩ := hws
    rw [hB.cell, hx'] at hx
    exact hD _ _ _ _ hx
  exact ⟨x, e.keepC hx hb, wds_other hws hB hC e⟩
theorem RdMem.size {w w' : World} {bR mb base : Nat} {rv : Value} {s : CfgSt} {l : UMap} {c : Nat} {m : Int} (h : RdMem w bR mb base rv s l c) (hB : Blk w' bR (rdC m rv mb) 105) (e : ExtB bR w w') : RdMem w' bR mb base rv ⟨m, s.rs⟩ l c :=
  ⟨hB, h.met.extB e (Ne.symm h.ne), h.keys, own_extB h.rules e h.b0, h.b0, h.b1, Nat.le_trans h.b2 e.size, h.ne⟩
/-- behind k lines -/
def CfgLoop (w2 : World) (ls : List (List Wd)) (k : Nat) (wr : World) : Prop :=
  ∃ s rv um c, cfgLines cfg0 (ls.take k) = .inr s ∧ s.rs.length ≤ 1000 ∧ 0 ≤ s.most ∧ RdMem wr (w2.heap.size + 1) w2.heap.size (w2.heap.size + 2) rv s um c ∧ Ext w2 wr
theorem CfgLoop.start (w2 : World) (ls : List (List Wd)) : CfgLoop w2 ls 0 ((w2.alloc (.map #[] 0)).alloc (.cells #[.int .i64 0, .slice none 0 0, .map (some w2.heap.size)] 105)) := by
  refine ⟨cfg0, .slice none 0 0, [], 0, rfl, by decide, by decide, ⟨Blk.new' _ _ _ (by simp), ?_, rfl, World.ownsRow_nil _ _ _ _, Nat.lt_succ_self _, by omega, by simp, by omega⟩, ((Ext.refl w2).alloc _).alloc _⟩
  have h1 : (w2.alloc (.map #[] 0)).heap[w2.heap.size]? = some (.map #[] 0) := map_new_at w2 _
  exact (((Ext.refl (w2.alloc (.map #[] 0))).alloc _).block (lt_of_block h1)).trans h1
end Go.Proofs.YtknlojlcahgnoaaGreat

namespace Go.Proofs.YtknlojlcahgnoaaGreat
open Go.RowKit
set_option linter.unusedVariables false
set_option linter.unusedSimpArgs false

/-- a word that is printed -/
def Vis (s : ByteArray) : Prop := s.data.toList ≠ [] ∧ ∀ b ∈ s.data.toList, bKind b = 0
def LineOk (l : List ByteArray) : Prop := l ≠ [] ∧ (∀ s ∈ l, Vis s) ∧ ∀ s ∈ l.head?, s.data.toList.head? ≠ some 35
/-- words that are printed -/
theorem vis_dig (n : Int) (h0 : 0 ≤ n) (h1 : n < 18446744073709551616) : Vis (digStr n) := by
  obtain ⟨a1, a2, a3, a4, -, -⟩ := pdig_spec n.toNat (by omega)
  refine ⟨by rw [digStr_data]; intro e; rw [e] at a3; simp at a3, fun b hb => ?_⟩
  rw [digStr_data] at hb
  have := List.all_eq_true.1 a1 b hb
  rw [isDig_iff] at this
  unfold bKind
  rw [if_neg (by rintro rfl; revert this; decide), if_neg (by rintro (rfl | rfl) <;> revert this <;> decide), if_pos (by omega)]
theorem vis_key {s : ByteArray} (h : keyOk s = true) : Vis s := by
  simp only [keyOk, Bool.and_eq_true, decide_eq_true_eq] at h
  obtain ⟨⟨h1, h2⟩, h3⟩ := h
  refine ⟨by rw [← List.length_pos_iff, data_len]; omega, fun b hb => ?_⟩
  have := List.all_eq_true.1 h3 b hb
  simp [badB] at this
  unfold bKind
  rw [if_neg (by rintro rfl; revert this; decide), if_neg (by rintro (rfl | rfl) <;> revert this <;> decide), if_pos (by omega)]
theorem vis_name {k : Int} (h : rightKind k = true) : Vis (nameOf k) := by
  have h2 : k = 1 ∨ k = 2 ∨ k = 3 := by unfold rightKind at h; simp at h; omega
  unfold Vis
  rcases h2 with rfl | rfl | rfl <;> exact ⟨by decide, by decide⟩
theorem vis_size : Vis wSize := ⟨by decide, by decide⟩
theorem vis_def : Vis wDef := ⟨by decide, by decide⟩
theorem vis_rule : Vis wRule := ⟨by decide, by decide⟩
theorem plW_def {r : Rl} (h : rErr r = 0) (hp : r.p = ⟨#[]⟩) : plW r = [wDef, digStr r.e, digStr r.b, nameOf r.k] := by
  unfold plW printWords
  rw [if_pos (show ruleErr r.p r.e r.b r.k = 0 from h), if_pos hp]
theorem plW_rule {r : Rl} (h : rErr r = 0) (hp : r.p ≠ ⟨#[]⟩) : plW r = [wRule, r.p, digStr r.e, digStr r.b, nameOf r.k] := by
  unfold plW printWords
  rw [if_pos (show ruleErr r.p r.e r.b r.k = 0 from h), if_neg hp]
theorem plW_ok {r : Rl} (h : rErr r = 0) (ho : RlOk r) : LineOk (plW r) := by
  obtain ⟨h1, h2, h3, h4, h5⟩ := ruleErr_zero (show ruleErr r.p r.e r.b r.k = 0 from h)
  obtain ⟨-, e0, e1, b0, b1, -, -⟩ := ho
  have ve := vis_dig r.e e0 e1
  have vb := vis_dig r.b b0 b1
  have vk := vis_name h5
  by_cases hp : r.p = ⟨#[]⟩
  · rw [plW_def h hp]
    exact ⟨by simp, by simp [vis_def, ve, vb, vk], by intro s hs; simp at hs; rw [← hs]; decide⟩
  · rw [plW_rule h hp]
    have vp : Vis r.p := by
      refine vis_key ?_
      simp only [prefOk, Bool.or_eq_true, decide_eq_true_eq] at h1
      rcases h1 with q | q
      · exact absurd (by have := (isEmpty_iff r.p); exact emp_of (by rw [this]; simpa using q)) hp
      · exact q
    exact ⟨by simp, by simp [vis_rule, vp, ve, vb, vk], by intro s hs; simp at hs; rw [← hs]; decide⟩
theorem size_ok {m : Int} (h0 : 0 ≤ m) (h1 : m < 18446744073709551616) : LineOk [wSize, digStr m] := ⟨by simp, by simp [vis_size, vis_dig m h0 h1], by intro s hs; simp at hs; rw [← hs]; decide⟩

theorem has_pre_iff {rs : List Rl} {p : ByteArray} : hasPre rs p = true ↔ p ∈ rs.map (·.p) := by unfold hasPre; simp
/-- policies that may be -/
structure PolOk (most : Int) (rs : List Rl) : Prop where
  m0 : 1 ≤ most
  m1 : most ≤ 1000000
  ok : ∀ r ∈ rs, RlOk r
  err : ∀ r ∈ rs, rErr r = 0
  nd : (rs.map (·.p)).Nodup
  len : rs.length ≤ 1000
  dft : (⟨#[]⟩ : ByteArray) ∈ rs.map (·.p)
theorem PolOk.lines {most : Int} {rs : List Rl} (h : PolOk most rs) : ∀ l ∈ [wSize, digStr most] :: rs.map plW, LineOk l := by
  intro l hl
  have h0 := h.m0
  have h1 := h.m1
  rcases List.mem_cons.1 hl with rfl | hl
  · exact size_ok (by omega) (by omega)
  · obtain ⟨r, hr, rfl⟩ := List.mem_map.1 hl
    exact plW_ok (h.err r hr) (h.ok r hr)
end Go.Proofs.YtknlojlcahgnoaaGreat

namespace Go.Proofs.YtknlojlcahgnoaaGreat
set_option linter.unusedVariables false
set_option linter.unusedSimpArgs false

theorem entRight_all {most clock : Int} {rs : List Rl} {es : List Ent} (h : entRight most clock rs es = 0) : sortedB (es.map (·.key)) = true ∧ ∀ e ∈ es, entErr clock rs e = 0 := by
  obtain ⟨h1, h2, h3, h4, h5⟩ := entRight_zero h
  have hc : cfgErr most rs = 0 := by
    by_cases q : cfgErr most rs = 0
    · exact q
    · rw [entRight_cfg q] at h; exact absurd h q
  have hs : sortedB (es.map (·.key)) = true := by
    cases q : sortedB (es.map (·.key)) with
    | true => rfl
    | false => rw [entRight_order hc (by omega) (by omega) q] at h; cases h
  refine ⟨hs, fun e he => ?_⟩
  unfold entRight at h
  rw [if_neg (by simpa using hc), if_neg (by omega), if_neg (by omega), if_neg (by simp [hs])] at h
  cases hq : es.find? (fun e => decide (entErr clock rs e ≠ 0)) with
  | none =>
    rw [List.find?_eq_none] at hq
    simpa using hq e he
  | some x =>
    rw [hq] at h
    have := List.find?_some hq
    simp at this
    exact absurd h this
theorem entErr_zero {clock : Int} {rs : List Rl} {e : Ent} (h : entErr clock rs e = 0) : keyOk e.key = true ∧ clock < e.till ∧ e.till - clock ≤ rCap (bestD rs e.key) := by
  unfold entErr at h
  by_cases h1 : keyOk e.key = false
  · rw [if_pos h1] at h; cases h
  · rw [if_neg h1] at h
    by_cases h2 : satSub e.till clock = 0
    · rw [if_pos h2] at h; cases h
    · rw [if_neg h2] at h
      by_cases h3 : rCap (bestD rs e.key) < satSub e.till clock
      · rw [if_pos h3] at h; cases h
      · unfold satSub at h2 h3
        refine ⟨by simpa using h1, ?_, ?_⟩ <;> split at h2 <;> omega
/-- the slot of an entry that is active -/
theorem entSlot_good {clock now : Int} {rs : List Rl} {e : Ent} (hr : ∀ r ∈ rs, RlOk r) (h : entErr clock rs e = 0) (h0 : 0 ≤ clock) (hc : clock ≤ 9223372036854775807) (hn : clock ≤ now) (ha : now < e.till) :
    Good now (entSlot now rs e) ∧ (entSlot now rs e).fill now = e.till - now := by
  obtain ⟨h1, h2, h3⟩ := entErr_zero h
  obtain ⟨q1, q2, q3, q4, q5, q6, q7⟩ := bestD_ok hr e.key
  unfold entSlot
  generalize bestD rs e.key = r at *
  have hre : ruleErr r.p r.e r.b r.k = 0 := by
    by_cases q : ruleErr r.p r.e r.b r.k = 0
    · exact q
    · exfalso
      have : rCap r = 0 := by unfold rCap ruleCap; rw [if_neg q]
      omega
  have hcap : rCap r = r.e * r.b := by unfold rCap ruleCap; rw [if_pos hre]
  have hrk := (ruleErr_zero hre).2.2.2.2
  have hcl := capOk_lt (ruleErr_zero hre).2.2.2.1
  have hkk : r.k = 1 ∨ r.k = 2 ∨ r.k = 3 := by unfold rightKind at hrk; simp at hrk; omega
  have := Sane.ofF (clock := now) (cap := r.e * r.b) (F := e.till - now) hkk (by omega) (by omega) (by omega) (by omega)
  rw [if_pos hrk, hcap]
  have g : Good now ⟨e.key, r.p, r.e, r.b, r.k, r.k, kOfA r.k now (r.e * r.b) (e.till - now), kOfB r.k now⟩ := ⟨hre, this.1⟩
  refine ⟨g, ?_⟩
  rw [g.fill]
  exact this.2
theorem ent_act {most clock now : Int} {rs : List Rl} {es : List Ent} (hr : ∀ r ∈ rs, RlOk r) (he : ∀ e ∈ es, EntOk e) (h : entRight most clock rs es = 0) (h0 : 0 ≤ clock) (hn : clock ≤ now) (hn1 : now < 18446744073709551616) :
    Act now (entSlots now rs es) ∧ (entSlots now rs es).map (entOf now) = es.filter (actE now) := by
  obtain ⟨hs, hz⟩ := entRight_all h
  have hc := (entRight_zero h).2.2.2.1
  have hok := entSlots_ok (now := now) (by omega) (by omega) hr he
  have hm : ∀ s ∈ entSlots now rs es, ∃ e ∈ es, now < e.till ∧ s = entSlot now rs e := by
    intro s q
    obtain ⟨e, h2, rfl⟩ := List.mem_map.1 q
    obtain ⟨h3, h4⟩ := List.mem_filter.1 h2
    exact ⟨e, h3, of_decide_eq_true h4, rfl⟩
  refine ⟨⟨?_, hok, ?_, ?_, ?_⟩, ?_⟩
  · have e1 : Rises (es.map (entSlot now rs)) := by
      refine rises_of_sorted _ ?_
      rw [List.map_map]
      exact hs
    exact List.Pairwise.sublist (List.Sublist.map _ List.filter_sublist) e1
  · intro s q
    obtain ⟨e, h1, h2, rfl⟩ := hm s q
    exact (entSlot_good hr (hz e h1) h0 hc hn h2).1
  · intro s q
    obtain ⟨e, h1, h2, rfl⟩ := hm s q
    exact (entErr_zero (hz e h1)).1
  · intro s q
    obtain ⟨e, h1, h2, rfl⟩ := hm s q
    rw [(entSlot_good hr (hz e h1) h0 hc hn h2).2]
    omega
  · unfold entSlots
    rw [List.map_map]
    refine (List.map_congr_left (g := id) ?_).trans (List.map_id _)
    intro e q
    obtain ⟨h3, h4⟩ := List.mem_filter.1 q
    have h5 : now < e.till := of_decide_eq_true h4
    obtain ⟨o1, o2, o3⟩ := he e h3
    simp only [Function.comp, id]
    unfold entOf
    rw [(entSlot_good hr (hz e h3) h0 hc hn h5).2]
    unfold kUntil
    rw [if_pos (by omega), satAdd_lt (by omega)]
    cases e
    simp [entSlot]
    omega
/-- all that a table holds of those who entered -/
theorem ent_table {most clock now : Int} {rs : List Rl} {es : List Ent} (hr : ∀ r ∈ rs, RlOk r) (he : ∀ e ∈ es, EntOk e) (h : entRight most clock rs es = 0) (h0 : 0 ≤ clock) (hn : clock ≤ now) (hn1 : now < 18446744073709551616) :
    ofErr most now (entSlots now rs es) = 0 ∧ entsOf now (putTo (entSlots now rs es)).1 = es.filter (actE now) := by
  obtain ⟨h1, h2, h3, h4, h5⟩ := entRight_zero h
  obtain ⟨ha, hb⟩ := ent_act hr he h h0 hn hn1
  have hl : (entSlots now rs es).length ≤ es.length := by
    unfold entSlots
    rw [List.length_map]
    exact List.length_filter_le _ _
  have e0 : ofErr most now (entSlots now rs es) = 0 := by
    rw [ha.ofErr (by omega), if_neg (by omega), if_neg (by omega)]
  refine ⟨e0, ?_⟩
  unfold entsOf
  rw [ha.put e0 (by omega) (by omega), hb]
end Go.Proofs.YtknlojlcahgnoaaGreat

namespace Go.Proofs.YtknlojlcahgnoaaGreat
open Go.RowKit
set_option linter.unusedVariables false
set_option linter.unusedSimpArgs false

/-- a slice of slices of bytes -/
structure BytesSl (w : World) (v : Value) (l : List (List UInt8)) : Prop where
  form : ∃ a c, v = .slice a l.length c ∧ (l ≠ [] → ∃ b o, a = some ⟨b, o, none⟩ ∧ ∀ j (h : j < l.length), ∃ x, w.cell? ⟨b, o + j, none⟩ = some x ∧ ByteSlice w x l[j])
  len : l.length ≤ maxLen
/-- a slice of u16 -/
structure FarSl (w : World) (v : Value) (l : List Int) : Prop where
  form : ∃ a c, v = .slice a l.length c ∧ (l ≠ [] → ∃ b o, a = some ⟨b, o, none⟩ ∧ ∀ j (h : j < l.length), w.cell? ⟨b, o + j, none⟩ = some (.int .u16 l[j]))
  len : l.length ≤ maxLen
  u : ∀ x ∈ l, 0 ≤ x ∧ x < 65536
theorem BytesSl.ext {w w' : World} {v : Value} {l : List (List UInt8)} (h : BytesSl w v l) (e : Ext w w') : BytesSl w' v l := by
  obtain ⟨a, c, hv, hl⟩ := h.form
  refine ⟨⟨a, c, hv, fun hne => ?_⟩, h.len⟩
  obtain ⟨b, o, ha, hc⟩ := hl hne
  refine ⟨b, o, ha, fun j hj => ?_⟩
  obtain ⟨x, h1, h2⟩ := hc j hj
  exact ⟨x, e.keep h1, h2.ext e⟩
theorem FarSl.ext {w w' : World} {v : Value} {l : List Int} (h : FarSl w v l) (e : Ext w w') : FarSl w' v l := by
  obtain ⟨a, c, hv, hl⟩ := h.form
  refine ⟨⟨a, c, hv, fun hne => ?_⟩, h.len, h.u⟩
  obtain ⟨b, o, ha, hc⟩ := hl hne
  exact ⟨b, o, ha, fun j hj => e.keep (hc j hj)⟩

theorem ent_news {base : Nat} {w : World} {b n c : Nat} {l : List Ent} (h : EntRow base w (.slice (some ⟨b, 0, none⟩) n c) l) (i m : Nat) (hm : i + m ≤ l.length) :
    ∀ j u, (flatE Ent.cells ((l.drop i).take m))[j]? = some u → w.cell? ((⟨b, i * 2, none⟩ : Addr).add j) = some u := by
  intro j u hu
  have hlen : ((l.drop i).take m).length = m := by simp; omega
  have hj : j < m * 2 := by
    have : j < (flatE Ent.cells ((l.drop i).take m)).length := by
      rcases Nat.lt_or_ge j (flatE Ent.cells ((l.drop i).take m)).length with q | q
      · exact q
      · rw [List.getElem?_eq_none q] at hu; cases hu
    rw [flatE_len Ent.size2, hlen] at this
    exact this
  have hjd : j / 2 < m := by omega
  have hjm : j % 2 < 2 := by omega
  have e1 : j = j / 2 * 2 + j % 2 := by omega
  rw [e1, flatE_get Ent.size2 _ (j / 2) (j % 2) (by rw [hlen]; exact hjd) hjm] at hu
  obtain ⟨b', c', hv', -, -, hq⟩ := h.cells Ent.size2 (i + j / 2) (by omega)
  cases hv'
  have e2 : ((⟨b, i * 2, none⟩ : Addr).add j) = ⟨b, (i + j / 2) * 2 + j % 2, none⟩ := by
    unfold Addr.add
    have : i * 2 + j = (i + j / 2) * 2 + j % 2 := by omega
    split
    · rename_i q
      have q' : j = 0 := by simpa using q
      rw [← this, q']
      rfl
    · simp [this]
  rw [e2, hq _ hjm]
  have e3 : ((l.drop i).take m)[j / 2]'(by rw [hlen]; exact hjd) = l[i + j / 2]'(by omega) := by simp
  rw [e3] at hu
  exact hu
theorem ent_news0 {base : Nat} {w : World} {b n c : Nat} {l : List Ent} (h : EntRow base w (.slice (some ⟨b, 0, none⟩) n c) l) (m : Nat) (hm : m ≤ l.length) :
    ∀ j u, (flatE Ent.cells (l.take m))[j]? = some u → w.cell? ((⟨b, 0, none⟩ : Addr).add j) = some u := by
  have := ent_news h 0 m (by omega)
  rw [List.drop_zero, Nat.zero_mul] at this
  exact this
theorem ent_with {base n : Nat} {w : World} {v : Value} {xs : List Ent} {s : Ent} (h : w.ownsRow base 80 2 v (0 + n + 1 + (xs.length - n)) ([] ++ flatE Ent.cells (xs.take n) ++ s.cells.toList ++ flatE Ent.cells ((xs.drop n).take (xs.length - n)))) (hn : n ≤ xs.length) : EntRow base w v (xs.take n ++ s :: xs.drop n) := by
  have e1 : (xs.drop n).take (xs.length - n) = xs.drop n := List.take_of_length_le (by simp)
  rw [e1] at h
  refine RowOf.mk' h (by simp; omega) ?_ ?_
  · rw [show xs.take n ++ s :: xs.drop n = (xs.take n ++ [s]) ++ xs.drop n by simp]
    unfold flatE
    simp
  · obtain ⟨g, cap, rfl⟩ := ownsRow_succ (k := n + (xs.length - n)) (by rw [show n + (xs.length - n) + 1 = 0 + n + 1 + (xs.length - n) by omega]; exact h)
    simp
theorem ent_withz {base n : Nat} {w : World} {v : Value} {xs zs : List Ent} {s : Ent} (h : w.ownsRow base 80 2 v (0 + n + 1 + (xs.length - n)) ([] ++ flatE Ent.cells (xs.take n) ++ s.cells.toList ++ flatE Ent.cells ((xs.drop n).take (xs.length - n)))) (hn : n ≤ xs.length) (e : Hid (xs.take n ++ s :: xs.drop n = zs)) : EntRow base w v zs := by
  rw [← e.out]
  exact ent_with h hn
theorem ent_one {l : List Ent} : ∀ u ∈ flatE Ent.cells l, u.oneCell' = true := by
  intro u hu
  unfold flatE at hu
  rw [List.mem_flatMap] at hu
  obtain ⟨s, -, hs⟩ := hu
  simp [Ent.cells] at hs
  rcases hs with rfl | rfl <;> rfl
theorem ent_first {base : Nat} {w : World} {v : Value} {s : Ent} (h : w.ownsRow base 80 2 v (0 + 1) ([] ++ s.cells.toList)) : EntRow base w v [s] := by
  refine RowOf.mk' h (by simp) (by simp [flatE]) ?_
  obtain ⟨g, cap, rfl⟩ := ownsRow_succ (k := 0) (by simpa using h)
  simp
theorem ent_firstz {base : Nat} {w : World} {v : Value} {s : Ent} {zs : List Ent} (h : w.ownsRow base 80 2 v (0 + 1) ([] ++ s.cells.toList)) (e : Hid ([s] = zs)) : EntRow base w v zs := by
  rw [← e.out]
  exact ent_first h
/-- at the end of a row nothing is left -/
theorem ent_lastz {base n : Nat} {w : World} {v : Value} {xs zs : List Ent} {s : Ent} (h : w.ownsRow base 80 2 v (0 + n + 1 + 0) ([] ++ flatE Ent.cells (xs.take n) ++ s.cells.toList ++ [])) (hn : n = xs.length) (e : Hid (xs.take n ++ s :: xs.drop n = zs)) : EntRow base w v zs := by
  rw [← e.out]
  refine ent_with (n := n) ?_ (Nat.le_of_eq hn)
  rw [show xs.length - n = 0 by omega, List.take_zero]
  exact h
/-- what has been gathered is right -/
def SnapOk (es : List Ent) (k : Nat) : Prop := es.length ≤ k ∧ ∀ e ∈ es, EntOk e
theorem SnapOk.more {es : List Ent} {k j : Nat} {e : Ent} (h : SnapOk es k) (he : EntOk e) : SnapOk (es.take j ++ e :: es.drop j) (k + 1) := by
  obtain ⟨h1, h2⟩ := h
  refine ⟨?_, ?_⟩
  · have := congrArg List.length (List.take_append_drop j es)
    simp only [List.length_append, List.length_cons] at this ⊢
    omega
  · intro x hx
    rcases List.mem_append.1 hx with q | q
    · exact h2 x (List.mem_of_mem_take q)
    · rcases List.mem_cons.1 q with rfl | q
      · exact he
      · exact h2 x (List.mem_of_mem_drop q)
theorem SnapOk.up {es : List Ent} {k : Nat} (h : SnapOk es k) : SnapOk es (k + 1) := ⟨Nat.le_succ_of_le h.1, h.2⟩
end Go.Proofs.YtknlojlcahgnoaaGreat

namespace Go.Proofs.YtknlojlcahgnoaaGreat
open Go.ChangeShapes Go.WideShapes Go.ChangeAt Go.RowKit Go.Deep
set_option linter.unusedVariables false
set_option linter.unusedSimpArgs false

section
variable {H : Type} {enc : TypeId × Value → H} {W : World} {r : Reach} {b0 base : Nat} {held : Bool} {v : Value} {d : DataW H} {p : List MemPlace}

set_option maxRecDepth 100000 in
theorem open_bytessl (hv : Value.okWide Tryz.prog W r b0 53 v) (h : DataW.Trod enc Tryz.prog W base (fun _ => true) held 53 v d p) : ∃ l, BytesSl W v l := by
  obtain ⟨a0, len, cap, rfl⟩ := okWide_slice Tryz.underlying53 hv
  obtain ⟨fuel, hf⟩ := h
  rcases Go.Deep.open_slice1 Tryz.underlying53 (by kernel_rfl) hf with ⟨hcs, _⟩ | ⟨x, len', cap', m, n, V, D, Pl, hcs, hb, hl, hm, hmm, _, hi⟩
  · simp [Value.cells] at hcs
    obtain ⟨rfl, rfl, rfl⟩ := hcs
    exact ⟨[], ⟨_, _, rfl, fun h => absurd rfl h⟩, by simp⟩
  · simp [Value.cells] at hcs
    obtain ⟨rfl, rfl, rfl⟩ := hcs
    simp only [if_true] at hmm
    have each : ∀ i : Fin len, ∃ l, ByteSlice W (V i.1) l := fun i => field_bytes Tryz.underlying22 Tryz.underlying5 (by kernel_rfl) (hi i.1 (by omega)).2
    have hlen : (List.ofFn fun i => Classical.choose (each i)).length = len := List.length_ofFn
    refine ⟨List.ofFn fun i => Classical.choose (each i), ⟨some x, cap, by rw [hlen], fun hne => ?_⟩, by rw [hlen]; omega⟩
    have h0 : 0 < len := by
      rcases Nat.eq_zero_or_pos len with e | e
      · subst e; simp at hne
      · exact e
    have ex := plain_addr (hi 0 (by omega)).1
    refine ⟨x.block, x.off, by rw [← ex], fun j hj => ?_⟩
    rw [hlen] at hj
    refine ⟨V j, ?_, ?_⟩
    · rw [← addr_add, ← ex]
      exact (hi j (by omega)).1
    · rw [List.getElem_ofFn]
      exact Classical.choose_spec (each ⟨j, hj⟩)
set_option maxRecDepth 100000 in
theorem open_far (hv : Value.okWide Tryz.prog W r b0 54 v) (h : DataW.Trod enc Tryz.prog W base (fun _ => true) held 54 v d p) : ∃ l, FarSl W v l := by
  obtain ⟨a0, len, cap, rfl⟩ := okWide_slice Tryz.underlying54 hv
  obtain ⟨fuel, hf⟩ := h
  rcases open_ints Tryz.underlying54 Tryz.underlying23 (by kernel_rfl) hf with ⟨hcs, _⟩ | ⟨x, len', cap', zs, hcs, _, hl, hm, hz, _, hcell, hwz⟩
  · simp [Value.cells] at hcs
    obtain ⟨rfl, rfl, rfl⟩ := hcs
    exact ⟨[], ⟨_, _, rfl, fun h => absurd rfl h⟩, by simp, fun x hx => by cases hx⟩
  · simp [Value.cells] at hcs
    obtain ⟨rfl, rfl, rfl⟩ := hcs
    simp only [if_true] at hz
    have hlen : (zs.take len).length = len := by rw [List.length_take, hz]; omega
    refine ⟨zs.take len, ⟨some x, cap, by rw [hlen], fun hne => ?_⟩, by rw [hlen]; omega, fun y hy => wfu16 (hwz y (List.mem_of_mem_take hy))⟩
    have h0 : 0 < len := by
      rcases Nat.eq_zero_or_pos len with e | e
      · subst e; simp at hne
      · exact e
    have ex := plain_addr (hcell 0 (by omega))
    refine ⟨x.block, x.off, by rw [← ex], fun j hj => ?_⟩
    rw [hlen] at hj
    rw [← addr_add, ← ex, hcell j (by omega)]
    simp [List.getD, List.getElem?_eq_getElem (show j < zs.length by omega)]
end
end Go.Proofs.YtknlojlcahgnoaaGreat
