/- Bytes of a conversion, in a row of the call's own: appended to, a byte at a time. Walks: words.Join. Walk: config.Print. Walk: config.Parse. Plain: what is printed is read. -/
import Derived.Deep.AppendSrc
import Derived.Shelf.Strings.OnBuilder
import Derived.Deep.CutBlock
import Derived.Test.YtknlojlcahgnoaaGreatProg
import Derived.RegionTactic
import Derived.BigRegion
import Derived.Test.YtknlojlcahgnoaaGreatEb1
import Derived.Test.YtknlojlcahgnoaaGreatEb39
import Derived.Test.YtknlojlcahgnoaaGreatEb7
import Derived.Test.YtknlojlcahgnoaaGreatEb54
import Derived.Test.YtknlojlcahgnoaaGreatEb50
import Derived.Test.YtknlojlcahgnoaaGreatEb51
import Derived.Test.YtknlojlcahgnoaaGreatEb36
import Derived.Test.YtknlojlcahgnoaaGreatEb0

namespace Go.Proofs.YtknlojlcahgnoaaGreat
open Go.RowKit
set_option linter.unusedVariables false
set_option linter.unusedSimpArgs false

/-- bytes in a row that lies above a limit and may be written up to its capacity -/
def TailB (base : Nat) (w : World) (v : Value) (l : List UInt8) : Prop :=
  ∃ g cap, v = .slice (some ⟨g, 0, none⟩) l.length cap ∧ base ≤ g ∧ g < w.heap.size ∧ l.length ≤ cap ∧ cap ≤ maxLen ∧ (∀ j, j < cap → (w.cell? ⟨g, j, none⟩).isSome = true ∧ w.frozen? ⟨g, j, none⟩ = false) ∧
    ∀ j (h : j < l.length), w.cell? ⟨g, j, none⟩ = some (.int .u8 (l[j].toNat : Int))
theorem TailB.slice {base : Nat} {w : World} {v : Value} {l : List UInt8} (h : TailB base w v l) : ByteSlice w v l ∧ CapLe v := by
  obtain ⟨g, cap, rfl, -, -, h3, h4, -, h6⟩ := h
  refine ⟨⟨⟨_, _, rfl, fun _ => ⟨g, 0, rfl, fun j hj => ?_⟩⟩, by omega⟩, fun a n c e => by cases e; exact h3⟩
  rw [Nat.zero_add]
  exact h6 j hj
theorem TailB.ext {base : Nat} {w w' : World} {v : Value} {l : List UInt8} (h : TailB base w v l) (e : Ext w w') : TailB base w' v l := by
  obtain ⟨g, cap, rfl, h1, h2, h3, h4, h5, h6⟩ := h
  have k1 : ∀ j, w'.cell? ⟨g, j, none⟩ = w.cell? ⟨g, j, none⟩ := fun j => World.cell?_of_block (a := ⟨g, j, none⟩) (e.block h2)
  have k2 : ∀ j, w'.frozen? ⟨g, j, none⟩ = w.frozen? ⟨g, j, none⟩ := fun j => World.frozen?_of_block (a := ⟨g, j, none⟩) (e.block h2)
  exact ⟨g, cap, rfl, h1, Nat.lt_of_lt_of_le h2 e.sz, h3, h4, fun j hj => by rw [k1, k2]; exact h5 j hj, fun j hj => by rw [k1]; exact h6 j hj⟩
theorem TailB.mono {b c : Nat} {w : World} {v : Value} {l : List UInt8} (h : TailB c w v l) (hb : b ≤ c) : TailB b w v l := by
  obtain ⟨g, cap, e, h1, h2⟩ := h
  exact ⟨g, cap, e, Nat.le_trans hb h1, h2⟩
theorem TailB.low {base : Nat} {w : World} {v : Value} {l : List UInt8} (h : TailB base w v l) {c : Nat} (hc : c < base) : some c ≠ v.ownBlock := by
  obtain ⟨g, cap, rfl, h1, -⟩ := h
  intro q
  have e : c = g := by simpa [Value.ownBlock] using q
  omega
/-- while it grows all else that was there stays -/
def OwnOr (g0 lim : Nat) (v : Value) : Prop := v.ownBlock = some g0 ∨ ∃ k, v.ownBlock = some k ∧ lim ≤ k
theorem OwnOr.step {g0 lim : Nat} {v v' : Value} {n : Nat} (o : OwnOr g0 lim v) (h : v'.ownBlock = v.ownBlock ∨ v'.ownBlock = some n) (hn : lim ≤ n) : OwnOr g0 lim v' := by
  rcases h with h | h
  · unfold OwnOr; rw [h]; exact o
  · exact Or.inr ⟨n, h, hn⟩
end Go.Proofs.YtknlojlcahgnoaaGreat

namespace Go.Proofs.YtknlojlcahgnoaaGreat
open Go.RowKit Go.Shelf
set_option linter.unusedVariables false
set_option linter.unusedSimpArgs false

abbrev BufIs (B b : Nat) (l : List UInt8) (w : World) : Prop := Lib.IsBuilder 169 5 B b (Lib.byteCells l) w
/-- rows of words in memory -/
def LinesStr (w : World) (v : Value) (ls : List (List ByteArray)) : Prop :=
  ∃ a c, v = .slice a ls.length c ∧ (ls ≠ [] → ∃ b o, a = some ⟨b, o, none⟩ ∧ ∀ j (h : j < ls.length), ∃ x, w.cell? ⟨b, o + j, none⟩ = some x ∧ StrSlice w x ls[j] ∧ CapLe x)
theorem LinesStr.ext {w w' : World} {v : Value} {ls : List (List ByteArray)} (h : LinesStr w v ls) (e : Ext w w') : LinesStr w' v ls := by
  obtain ⟨a, c, hv, hl⟩ := h
  refine ⟨a, c, hv, fun hne => ?_⟩
  obtain ⟨b, o, ha, hc⟩ := hl hne
  refine ⟨b, o, ha, fun j hj => ?_⟩
  obtain ⟨x, h1, h2, h3⟩ := hc j hj
  exact ⟨x, e.keep h1, h2.ext e, h3⟩
theorem BufIs.ext {B b : Nat} {l : List UInt8} {w w' : World} (h : BufIs B b l w) (e : Ext w w') : BufIs B b l w' := by
  rcases h with ⟨h1, v, h2, h3, h4⟩ | ⟨h1, v, h2, h3, h4⟩
  · exact Or.inl ⟨h1, v, (e.block (lt_of_block h2)).trans h2, own_ext h3 e, h4⟩
  · exact Or.inr ⟨h1, v, (e.block (lt_of_block h2)).trans h2, own_ext h3 e, h4⟩
end Go.Proofs.YtknlojlcahgnoaaGreat

namespace Go.Proofs.YtknlojlcahgnoaaGreat
open Go.RowKit
set_option linter.unusedVariables false
set_option linter.unusedSimpArgs false

def plW (r : Rl) : List ByteArray := printWords r.p r.e r.b r.k
/-- the lines that are printed -/
def prLines (most : Int) (rs : List Rl) : List (List ByteArray) := [wSize, digStr most] :: (ordL Rl.key rs).map plW
theorem cfg_zero {most : Int} {rs : List Rl} (h : cfgErr most rs = 0) : 1 ≤ most ∧ most ≤ 1000000 ∧ rs.length ≤ 1000 := by
  by_cases h1 : most < 1 ∨ 1000000 < most
  · rw [cfgErr_most h1] at h; cases h
  · by_cases h2 : 1000 < rs.length
    · rw [cfgErr_many h1 h2] at h; cases h
    · omega
theorem cfgErr_rules {most : Int} {rs : List Rl} (h : cfgErr most rs = 0) : ∀ r ∈ rs, rErr r = 0 := by
  obtain ⟨h1, h2, h3⟩ := cfg_zero h
  intro r hr
  by_cases q : rErr r = 0
  · exact q
  · exfalso
    unfold cfgErr at h
    rw [if_neg (by omega), if_neg (by omega)] at h
    cases hf : rs.find? (fun r => decide (rErr r ≠ 0)) with
    | none =>
      rw [List.find?_eq_none] at hf
      exact hf r hr (by simpa using q)
    | some x =>
      rw [hf] at h
      have := List.find?_some hf
      simp at this
      exact this h
/-- words in memory of the call's own -/
structure StrEl (w : World) (x : Value) (l : List ByteArray) : Prop where
  str : StrSlice w x l
  own : OwnS w x
theorem StrEl.ext {w w' : World} {x : Value} {l : List ByteArray} (h : StrEl w x l) (e : Ext w w') : StrEl w' x l := by
  obtain ⟨h1, h2, base, n, xs, h3⟩ := h
  exact ⟨h1.ext e, h2, base, n, xs, own_ext h3 e⟩
theorem StrEl.grown {w y w' : World} {x v : Value} {l : List ByteArray} {base n k : Nat} {xs : List Value} (h : StrEl y x l) (o : w.ownsRow base 32 k v n xs) (e : Ext w y) (g : y.grownBy w' v.ownBlock) : StrEl w' x l := by
  obtain ⟨h1, h2, base', n', xs', h3⟩ := h
  have oy := own_ext o e
  rcases h3 with ⟨h0, ⟨rfl, hn⟩ | ⟨g', cap, cur, rfl, q2, q3, q4⟩⟩
  · obtain ⟨⟨a, c, hv, hl⟩, i1, i2⟩ := h1
    refine ⟨⟨⟨a, c, hv, fun hne => ?_⟩, i1, i2⟩, h2, base', n', xs', h0, Or.inl ⟨rfl, hn⟩⟩
    obtain ⟨b, o', ha, -⟩ := hl hne
    rw [ha] at hv
    cases hv
  · have hb : w'.heap[g']? = y.heap[g']? := g.block g' (lt_of_block q3) (own_type oy (show Blk y g' cur 9 from q3) (by decide))
    obtain ⟨⟨a, c, hv, hl⟩, i1, i2⟩ := h1
    refine ⟨⟨⟨a, c, hv, fun hne => ?_⟩, i1, i2⟩, h2, base', n', xs', h0, Or.inr ⟨g', cap, cur, rfl, q2, hb.trans q3, q4⟩⟩
    obtain ⟨b, o', ha, hc⟩ := hl hne
    rw [ha] at hv
    cases hv
    refine ⟨g', 0, ha, fun j hj => ?_⟩
    have := hc j hj
    unfold World.cell? at this ⊢
    simp only at this ⊢
    rw [hb]
    exact this
theorem own_lit {w : World} {g base : Nat} {C : Array Value} {t : TypeId} (h : Blk w g C t) (hb : base ≤ g) (hm : C.size ≤ maxLen) : w.ownsRow base t 1 (.slice (some ⟨g, 0, none⟩) C.size C.size) C.size C.toList :=
  ⟨by simp, Or.inr ⟨g, C.size, C, rfl, hb, h, Nat.le_refl _, hm, by simp, by rw [Nat.mul_one, ← Array.length_toList, List.take_length]⟩⟩
/-- k rules have been printed -/
def PrAt (w : World) (most : Int) (rs : List Rl) (k : Nat) (v : Value) (wr : World) : Prop :=
  ∃ vs, wr.ownsRow w.heap.size 32 1 v (k + 1) vs ∧ vs.length = k + 1 ∧ (∀ j (h : j < vs.length) (h2 : j < (prLines most rs).length), StrEl wr vs[j] (prLines most rs)[j]) ∧ Ext w wr
theorem PrAt.ext {w wr wr' : World} {most : Int} {rs : List Rl} {k : Nat} {v : Value} (h : PrAt w most rs k v wr) (e : Ext wr wr') : PrAt w most rs k v wr' := by
  obtain ⟨vs, h1, h2, h3, h4⟩ := h
  exact ⟨vs, own_ext h1 e, h2, fun j q1 q2 => (h3 j q1 q2).ext e, h4.trans e⟩
theorem PrAt.start {w w3 : World} {most : Int} {rs : List Rl} {g : Nat} (bs : Blk w3 g #[.string ⟨#[115, 105, 122, 101]⟩, .string (digStr most)] 9) (bl : Blk w3 (g + 1) #[.slice (some ⟨g, 0, none⟩) 2 2] 32) (hds : (digStr most).size ≤ 20) (hg : w.heap.size ≤ g) (e : Ext w w3) :
    PrAt w most rs 0 (.slice (some ⟨g + 1, 0, none⟩) 1 1) w3 := by
  have hm : (20 : Nat) ≤ maxLen := by decide
  refine ⟨[.slice (some ⟨g, 0, none⟩) 2 2], own_lit bl (by omega) (by simp; omega), rfl, fun j h1 h2 => ?_, e⟩
  have hj : j = 0 := by simp at h1; omega
  subst hj
  have e0 : (prLines most rs)[0] = [wSize, digStr most] := rfl
  rw [e0]
  refine ⟨StrSlice.new [wSize, digStr most] bs rfl (by decide) ?_, OwnS.of (own_lit bs (Nat.le_refl g) (by simp; omega))⟩
  intro s hs
  rcases List.mem_cons.1 hs with rfl | hs
  · decide
  · rw [List.mem_singleton.1 hs]; omega
theorem PrAt.step {w wr w5 w6 : World} {most : Int} {rs : List Rl} {k : Nat} {u v' x : Value} {vs : List Value} {r : Rl} (o : wr.ownsRow w.heap.size 32 1 u (k + 1) vs) (hvl : vs.length = k + 1) (hel : ∀ j (h : j < vs.length) (h2 : j < (prLines most rs).length), StrEl wr vs[j] (prLines most rs)[j]) (hwr : Ext w wr) (hx : Ext wr w5) (hs : StrEl w5 x (plW r)) {hlk : k + 1 < (prLines most rs).length} (hle : (prLines most rs)[k + 1] = plW r)
    (ho : w6.ownsRow w.heap.size 32 1 v' (k + 1 + 1) (vs ++ [x])) (hg : (w5.alloc (.cells #[x] 32)).grownBy w6 u.ownBlock) : PrAt w most rs (k + 1) v' w6 := by
  have ox := (own_ext o hx).alloc (.cells #[x] 32)
  refine ⟨vs ++ [x], ho, by simp [hvl], fun j h1 h2 => ?_, Ext.grownAt ((hwr.trans hx).alloc _) ox (Nat.le_refl _) hg⟩
  by_cases q : j < vs.length
  · rw [List.getElem_append_left q]
    exact (((hel j q h2).ext hx).ext ((Ext.refl w5).alloc _)).grown ox (Ext.refl _) hg
  · have hj : j = k + 1 := by simp at h1; omega
    subst hj
    rw [List.getElem_append_right (by omega), hle]
    have : [x][k + 1 - vs.length]'(by simp; omega) = x := by simp
    rw [this]
    exact (hs.ext ((Ext.refl w5).alloc _)).grown ox (Ext.refl _) hg
theorem PrAt.lines {w wr : World} {most : Int} {rs : List Rl} {k : Nat} {v : Value} (h : PrAt w most rs k v wr) (hk : (prLines most rs).length = k + 1) : LinesStr wr v (prLines most rs) := by
  obtain ⟨vs, ho, h2, h3, -⟩ := h
  obtain ⟨-, ⟨rfl, q⟩ | ⟨g, cap, cur, rfl, q2, q3, q4, q5, q6, q7⟩⟩ := ho
  · omega
  · refine ⟨_, _, by rw [hk], fun _ => ⟨g, 0, rfl, fun j hj => ?_⟩⟩
    have hjv : j < vs.length := by omega
    obtain ⟨i1, i2, base, n, xs, i3⟩ := h3 j hjv hj
    refine ⟨vs[j], ?_, i1, fun a n c e => (i2 a n c e).1⟩
    have : cur.toList[j]? = some vs[j] := by
      rw [← List.getElem?_eq_getElem hjv, ← q7, List.getElem?_take_of_lt (by omega)]
    rw [Blk.cell (show Blk wr g cur 32 from q3)]
    simpa using this
end Go.Proofs.YtknlojlcahgnoaaGreat

namespace Go.Proofs.YtknlojlcahgnoaaGreat
open Go.RowKit
set_option linter.unusedVariables false
set_option linter.unusedSimpArgs false

/-- what is right of a line -/
def LnOk (ws : List Wd) : Prop := ws ≠ [] ∧ (∀ x ∈ ws, x.t.size ≤ maxLen) ∧ ws.length ≤ 2000000
theorem ExtB.keepC {b : Nat} {w w' : World} (h : ExtB b w w') {a : Addr} {v : Value} (c : w.cell? a = some v) (hne : a.block ≠ b) : w'.cell? a = some v := by
  have hlt : a.block < w.heap.size := by
    unfold World.cell? at c
    rcases Nat.lt_or_ge a.block w.heap.size with h | h
    · exact h
    · rw [Array.getElem?_eq_none h] at c; cases c
  have hb := h.block a.block hlt hne
  unfold World.cell? at c ⊢
  rw [hb]
  exact c
theorem wds_other {w w' : World} {v : Value} {l : List Wd} {c : Nat} {C : Array Value} {t : TypeId} (h : WdsAt w v l) (hB : Blk w c C t) (hC : ∀ (i : Nat) (s : ByteArray), C[i]? ≠ some (Value.string s)) (e : ExtB c w w') : WdsAt w' v l := by
  obtain ⟨a, cp, hv, hl⟩ := h
  refine ⟨a, cp, hv, fun hne => ?_⟩
  obtain ⟨b, o, ha, hc⟩ := hl hne
  have h0 : 0 < l.length := List.length_pos_iff.2 hne
  have hb : b ≠ c := fun q => by
    subst q
    have := hc 0 h0 0 (by decide)
    rw [hB.cell] at this
    exact hC _ _ this
  refine ⟨b, o, ha, fun j hj i hi => ?_⟩
  have := hc j hj i hi
  rw [Array.getElem?_eq_getElem (by rw [Wd.size3]; exact hi)] at this ⊢
  exact e.keepC this hb
theorem LinesAt.other {w w' : World} {v : Value} {ls : List (List Wd)} {c : Nat} {C : Array Value} {t : TypeId} (h : LinesAt w v ls) (hok : ∀ ws ∈ ls, LnOk ws) (hB : Blk w c C t) (hC : ∀ (i : Nat) (s : ByteArray), C[i]? ≠ some (Value.string s)) (hD : ∀ (i : Nat) (a : Option Addr) (n m : Nat), C[i]? ≠ some (Value.slice a n m)) (e : ExtB c w w') : LinesAt w' v ls := by
  obtain ⟨a, cp, hv, hl⟩ := h
  refine ⟨a, cp, hv, fun hne => ?_⟩
  obtain ⟨b, o, ha, hc⟩ := hl hne
  refine ⟨b, o, ha, fun j hj => ?_⟩
  obtain ⟨x, hx, hws⟩ := hc j hj
  have hb : b ≠ c := fun q => by
    subst q
    obtain ⟨a', c', hx', -⟩ := hws
    rw [hB.cell, hx'] at hx
    exact hD _ _ _ _ hx
  exact ⟨x, e.keepC hx hb, wds_other hws hB hC e⟩
theorem RdMem.size {w w' : World} {bR mb base : Nat} {rv : Value} {s : CfgSt} {l : UMap} {c : Nat} {m : Int} (h : RdMem w bR mb base rv s l c) (hB : Blk w' bR (rdC m rv mb) 105) (e : ExtB bR w w') : RdMem w' bR mb base rv ⟨m, s.rs⟩ l c :=
  ⟨hB, h.met.extB e (Ne.symm h.ne), h.keys, own_extB h.rules e h.b0, h.b0, h.b1, Nat.le_trans h.b2 e.size, h.ne⟩
/-- behind k lines -/
def CfgLoop (w2 : World) (ls : List (List Wd)) (k : Nat) (wr : World) : Prop :=
  ∃ s rv um c, cfgLines cfg0 (ls.take k) = .inr s ∧ s.rs.length ≤ 1000 ∧ 0 ≤ s.most ∧ RdMem wr (w2.heap.size + 1) w2.heap.size (w2.heap.size + 2) rv s um c ∧ Ext w2 wr
theorem CfgLoop.start (w2 : World) (ls : List (List Wd)) : CfgLoop w2 ls 0 ((w2.alloc (.map #[] 0)).alloc (.cells #[.int .i64 0, .slice none 0 0, .map (some w2.heap.size)] 105)) := by
  refine ⟨cfg0, .slice none 0 0, [], 0, rfl, by decide, by decide, ⟨Blk.new' _ _ _ (by simp), ?_, rfl, World.ownsRow_nil _ _ _ _, Nat.lt_succ_self _, by omega, by simp, by omega⟩, ((Ext.refl w2).alloc _).alloc _⟩
  have h1 : (w2.alloc (.map #[] 0)).heap[w2.heap.size]? = some (.map #[] 0) := map_new_at w2 _
  exact (((Ext.refl (w2.alloc (.map #[] 0))).alloc _).block (lt_of_block h1)).trans h1
end Go.Proofs.YtknlojlcahgnoaaGreat

namespace Go.Proofs.YtknlojlcahgnoaaGreat
open Go.RowKit
set_option linter.unusedVariables false
set_option linter.unusedSimpArgs false

/-- a word that is printed -/
def Vis (s : ByteArray) : Prop := s.data.toList ≠ [] ∧ ∀ b ∈ s.data.toList, bKind b = 0
def LineOk (l : List ByteArray) : Prop := l ≠ [] ∧ (∀ s ∈ l, Vis s) ∧ ∀ s ∈ l.head?, s.data.toList.head? ≠ some 35
/-- words that are printed -/
theorem vis_dig (n : Int) (h0 : 0 ≤ n) (h1 : n < 18446744073709551616) : Vis (digStr n) := by
  obtain ⟨a1, a2, a3, a4, -, -⟩ := pdig_spec n.toNat (by omega)
  refine ⟨by rw [digStr_data]; intro e; rw [e] at a3; simp at a3, fun b hb => ?_⟩
  rw [digStr_data] at hb
  have := List.all_eq_true.1 a1 b hb
  rw [isDig_iff] at this
  unfold bKind
  rw [if_neg (by rintro rfl; revert this; decide), if_neg (by rintro (rfl | rfl) <;> revert this <;> decide), if_pos (by omega)]
theorem vis_key {s : ByteArray} (h : keyOk s = true) : Vis s := by
  simp only [keyOk, Bool.and_eq_true, decide_eq_true_eq] at h
  obtain ⟨⟨h1, h2⟩, h3⟩ := h
  refine ⟨by rw [← List.length_pos_iff, data_len]; omega, fun b hb => ?_⟩
  have := List.all_eq_true.1 h3 b hb
  simp [badB] at this
  unfold bKind
  rw [if_neg (by rintro rfl; revert this; decide), if_neg (by rintro (rfl | rfl) <;> revert this <;> decide), if_pos (by omega)]
theorem vis_name {k : Int} (h : rightKind k = true) : Vis (nameOf k) := by
  have h2 : k = 1 ∨ k = 2 ∨ k = 3 := by unfold rightKind at h; simp at h; omega
  unfold Vis
  rcases h2 with rfl | rfl | rfl <;> exact ⟨by decide, by decide⟩
theorem vis_size : Vis wSize := ⟨by decide, by decide⟩
theorem vis_def : Vis wDef := ⟨by decide, by decide⟩
theorem vis_rule : Vis wRule := ⟨by decide, by decide⟩
theorem plW_def {r : Rl} (h : rErr r = 0) (hp : r.p = ⟨#[]⟩) : plW r = [wDef, digStr r.e, digStr r.b, nameOf r.k] := by
  unfold plW printWords
  rw [if_pos (show ruleErr r.p r.e r.b r.k = 0 from h), if_pos hp]
theorem plW_rule {r : Rl} (h : rErr r = 0) (hp : r.p ≠ ⟨#[]⟩) : plW r = [wRule, r.p, digStr r.e, digStr r.b, nameOf r.k] := by
  unfold plW printWords
  rw [if_pos (show ruleErr r.p r.e r.b r.k = 0 from h), if_neg hp]
theorem plW_ok {r : Rl} (h : rErr r = 0) (ho : RlOk r) : LineOk (plW r) := by
  obtain ⟨h1, h2, h3, h4, h5⟩ := ruleErr_zero (show ruleErr r.p r.e r.b r.k = 0 from h)
  obtain ⟨-, e0, e1, b0, b1, -, -⟩ := ho
  have ve := vis_dig r.e e0 e1
  have vb := vis_dig r.b b0 b1
  have vk := vis_name h5
  by_cases hp : r.p = ⟨#[]⟩
  · rw [plW_def h hp]
    exact ⟨by simp, by simp [vis_def, ve, vb, vk], by intro s hs; simp at hs; rw [← hs]; decide⟩
  · rw [plW_rule h hp]
    have vp : Vis r.p := by
      refine vis_key ?_
      simp only [prefOk, Bool.or_eq_true, decide_eq_true_eq] at h1
      rcases h1 with q | q
      · exact absurd (by have := (isEmpty_iff r.p); exact emp_of (by rw [this]; simpa using q)) hp
      · exact q
    exact ⟨by simp, by simp [vis_rule, vp, ve, vb, vk], by intro s hs; simp at hs; rw [← hs]; decide⟩
theorem size_ok {m : Int} (h0 : 0 ≤ m) (h1 : m < 18446744073709551616) : LineOk [wSize, digStr m] := ⟨by simp, by simp [vis_size, vis_dig m h0 h1], by intro s hs; simp at hs; rw [← hs]; decide⟩

/-- policies that may be -/
structure PolOk (most : Int) (rs : List Rl) : Prop where
  m0 : 1 ≤ most
  m1 : most ≤ 1000000
  ok : ∀ r ∈ rs, RlOk r
  err : ∀ r ∈ rs, rErr r = 0
  nd : (rs.map (·.p)).Nodup
  len : rs.length ≤ 1000
  dft : (⟨#[]⟩ : ByteArray) ∈ rs.map (·.p)
theorem PolOk.ord {most : Int} {rs : List Rl} (h : PolOk most rs) : PolOk most (ordL Rl.key rs) := by
  have p := ordL_perm (key := Rl.key) rs
  have pm := p.map (·.p)
  exact ⟨h.m0, h.m1, fun r hr => h.ok r (p.mem_iff.1 hr), fun r hr => h.err r (p.mem_iff.1 hr), pm.nodup_iff.2 h.nd, by rw [ordL_len]; exact h.len, pm.mem_iff.2 h.dft⟩
theorem PolOk.lines {most : Int} {rs : List Rl} (h : PolOk most rs) : ∀ l ∈ [wSize, digStr most] :: rs.map plW, LineOk l := by
  intro l hl
  have h0 := h.m0
  have h1 := h.m1
  rcases List.mem_cons.1 hl with rfl | hl
  · exact size_ok (by omega) (by omega)
  · obtain ⟨r, hr, rfl⟩ := List.mem_map.1 hl
    exact plW_ok (h.err r hr) (h.ok r hr)
end Go.Proofs.YtknlojlcahgnoaaGreat
