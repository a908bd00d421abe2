/- append to a row of the call's own, as a step of a region that draws its order; words in memory. Walks: the closures of words.Split: a word that is none; a line is laid. -/
import Derived.Deep.RegionLawGrows
import Derived.Deep.CutBlock
import Derived.RangeFuncBox
import Derived.Test.YtknlojlcahgnoaaGreatCf15
import Derived.Test.YtknlojlcahgnoaaGreatCf12

namespace Go.Proofs.YtknlojlcahgnoaaGreat
open Go.RowKit
set_option linter.unusedVariables false
set_option linter.unusedSimpArgs false

theorem step_append_own {P : Program} {ops : Array Oper} {o : Oper} {a : Act} {w : World} {K : Act → World → Prop} {Q : Exit → Act → World → Prop} {E : Prop}
    (hg : o.guard = none) (s x : Operand) (t : TypeId) (hop : o.op = Op.call { callee := Callee.builtin Builtin.append, args := #[s, x], argTypes := #[t, t] })
    (base : Nat) (e : TypeId) (i : TypeInfo) (z : Value) (size bytes : Nat) (h1 : P.underlying t = some (.slice e)) (h2 : P.info? e = some i) (h3 : i.zero = some z) (h4 : i.size = size) (h5 : i.bytes = bytes) (h6 : z.cells.size = size) (h7 : 0 < size)
    (v : Value) (n : Nat) (xs : List Value) (hs : a.eval s = v) (hown : w.ownsRow base e size v n xs)
    (ad : Addr) (m c : Nat) (news : List Value) (hx : a.eval x = .slice (some ad) m c) (hn : news.length = m * size) (hc : ∀ j u, news[j]? = some u → w.cell? (ad.add j) = some u) (h1c : ∀ u ∈ news, u.oneCell' = true)
    (b1 : n + m ≤ maxLen) (b2 : (n + m) * bytes ≤ 140737488355328) (hb : base ≤ w.heap.size)
    (hK : ∀ v' w', w'.ownsRow base e size v' (n + m) (xs ++ news) → w.grownBy w' v.ownBlock → K (a.put o.dst v') w') :
    if Region.wanted o (yielded ops a.tmps) = true then Oper.wp P o a w K Q else E := by
  have hw : Region.wanted o (yielded ops a.tmps) = true := by simp [Region.wanted, hg]
  rw [if_pos hw]
  exact wp_append_own w s x t hop base e i z size bytes h1 h2 h3 h4 h5 h6 h7 v n xs hs hown ad m c news hx hn hc h1c b1 b2 hb fun v' w' q1 q2 _ => hK v' w' q1 q2

def Wd.cells (x : Wd) : Array Value := #[.string x.t, .int .i64 x.line, .int .i64 x.col]
theorem Wd.size3 (x : Wd) : x.cells.size = 3 := rfl
/-- words in memory -/
abbrev WdsAt (w : World) (v : Value) (l : List Wd) : Prop := ElemsAt Wd.cells 3 w v l
abbrev WdRow (base : Nat) (w : World) (v : Value) (l : List Wd) : Prop := RowOf Wd.cells 3 108 base w v l
/-- lines of words in memory -/
def LinesAt (w : World) (v : Value) (ls : List (List Wd)) : Prop :=
  ∃ a c, v = .slice a ls.length c ∧ (ls ≠ [] → ∃ b o, a = some ⟨b, o, none⟩ ∧ ∀ j (h : j < ls.length), ∃ x, w.cell? ⟨b, o + j, none⟩ = some x ∧ WdsAt w x ls[j])
theorem LinesAt.ext {w w' : World} {v : Value} {ls : List (List Wd)} (h : LinesAt w v ls) (e : Ext w w') : LinesAt w' v ls := by
  obtain ⟨a, c, hv, hl⟩ := h
  refine ⟨a, c, hv, fun hne => ?_⟩
  obtain ⟨b, o, ha, hc⟩ := hl hne
  refine ⟨b, o, ha, fun j hj => ?_⟩
  obtain ⟨x, h1, h2⟩ := hc j hj
  exact ⟨x, e.keep h1, h2.ext Wd.size3 e⟩

/-- what was below a limit is as it was, but for one block; there may be new blocks -/
structure FrB (b lim : Nat) (w w' : World) : Prop where
  os : w'.os = w.os
  tape : w'.tape = w.tape
  output : w'.output = w.output
  size : w.heap.size ≤ w'.heap.size
  block : ∀ k, k < lim → k ≠ b → w'.heap[k]? = w.heap[k]?
theorem ExtB.fr {b lim : Nat} {w w' : World} (h : ExtB b w w') (hl : lim ≤ w.heap.size) : FrB b lim w w' := ⟨h.os, h.tape, h.output, h.size, fun k hk hne => h.block k (Nat.lt_of_lt_of_le hk hl) hne⟩
theorem own_low {x : World} {lim k n : Nat} {e : TypeId} {v : Value} {xs : List Value} (o : x.ownsRow lim e k v n xs) {c : Nat} (hc : c < lim) : some c ≠ v.ownBlock := by
  obtain ⟨-, ⟨rfl, -⟩ | ⟨g', cap, cur, rfl, h2, -⟩⟩ := o
  · intro h; cases h
  · intro h; cases h; exact absurd hc (Nat.not_lt_of_le h2)
theorem Blk.grownLow {x y z : World} {lim k n c : Nat} {e t : TypeId} {v : Value} {xs : List Value} {C : Array Value} (h : Blk y c C t) (o : x.ownsRow lim e k v n xs) (g : y.grownBy z v.ownBlock) (hc : c < lim) : Blk z c C t :=
  (g.block c h.lt (own_low o hc)).trans h
theorem own_high {x : World} {lim k n : Nat} {e : TypeId} {v : Value} {xs : List Value} (o : x.ownsRow lim e k v n xs) {c : Nat} (hc : x.heap.size ≤ c) : some c ≠ v.ownBlock := by
  obtain ⟨-, ⟨rfl, -⟩ | ⟨g', cap, cur, rfl, h2, h3, -⟩⟩ := o
  · intro h; cases h
  · intro h; cases h; exact absurd (lt_of_block h3) (Nat.not_lt_of_le hc)
theorem Blk.grownOff {y z : World} {c : Nat} {t : TypeId} {v : Value} {C : Array Value} (h : Blk y c C t) (hn : some c ≠ v.ownBlock) (g : y.grownBy z v.ownBlock) : Blk z c C t := (g.block c h.lt hn).trans h
theorem Ext.fr {b lim : Nat} {w w' : World} (h : Ext w w') (hl : lim ≤ w.heap.size) : FrB b lim w w' := (h.toB b).fr hl
theorem FrB.grown {b lim k n : Nat} {w x y z : World} {e : TypeId} {v : Value} {xs : List Value} (h : FrB b lim w y) (hl : lim ≤ y.heap.size) (o : x.ownsRow lim e k v n xs) (g : y.grownBy z v.ownBlock) : FrB b lim w z :=
  ⟨g.os.trans h.os, g.tape.trans h.tape, g.output.trans h.output, Nat.le_trans h.size g.size, fun c hc hne => (g.block c (Nat.lt_of_lt_of_le hc hl) (own_low o hc)).trans (h.block c hc hne)⟩
theorem FrB.setCell {b lim : Nat} {w y : World} (h : FrB b lim w y) (o : Nat) (v : Value) : FrB b lim w (y.setCell ⟨b, o, none⟩ v) :=
  ⟨h.os, h.tape, h.output, by simpa [World.setCell] using h.size, fun k hk hne => (Below.heap_setCell _ _ _ _ hne).trans (h.block k hk hne)⟩
theorem FrB.refl (b lim : Nat) (w : World) : FrB b lim w w := ⟨rfl, rfl, rfl, Nat.le_refl _, fun _ _ _ => rfl⟩
theorem Blk.fr {b lim c : Nat} {w w' : World} {C : Array Value} {t : TypeId} (h : Blk w c C t) (e : FrB b lim w w') (hc : c < lim) (hne : c ≠ b) : Blk w' c C t := (e.block c hc hne).trans h
end Go.Proofs.YtknlojlcahgnoaaGreat

namespace Go.Proofs.YtknlojlcahgnoaaGreat
open Go.RowKit
set_option linter.unusedVariables false
set_option linter.unusedSimpArgs false

/-- the blocks of which p says so are as they were; there may be new blocks -/
structure FrP (p : Nat → Prop) (w w' : World) : Prop where
  os : w'.os = w.os
  tape : w'.tape = w.tape
  output : w'.output = w.output
  size : w.heap.size ≤ w'.heap.size
  block : ∀ k, k < w.heap.size → p k → w'.heap[k]? = w.heap[k]?
theorem FrP.refl (p : Nat → Prop) (w : World) : FrP p w w := ⟨rfl, rfl, rfl, Nat.le_refl _, fun _ _ _ => rfl⟩
theorem Ext.frP {w w' : World} (h : Ext w w') (p : Nat → Prop) : FrP p w w' := ⟨Below.os h, Below.tape h, Below.output h, h.sz, fun k hk _ => Below.block h k hk⟩
theorem FrP.trans {p : Nat → Prop} {x y z : World} (h : FrP p x y) (k : FrP p y z) : FrP p x z :=
  ⟨k.os.trans h.os, k.tape.trans h.tape, k.output.trans h.output, Nat.le_trans h.size k.size, fun i hi hb => (k.block i (Nat.lt_of_lt_of_le hi h.size) hb).trans (h.block i hi hb)⟩
theorem FrP.setCell {p : Nat → Prop} {x y : World} (h : FrP p x y) {b : Nat} (hb : ¬ p b) (o : Nat) (v : Value) : FrP p x (y.setCell ⟨b, o, none⟩ v) :=
  ⟨h.os, h.tape, h.output, by simpa [World.setCell] using h.size, fun k hk hp => (Below.heap_setCell _ _ _ _ (fun e => hb (by have e' : k = b := e; rw [← e']; exact hp))).trans (h.block k hk hp)⟩
theorem FrP.grown {p : Nat → Prop} {x y z : World} (h : FrP p x y) {ob : Option Nat} (g : y.grownBy z ob) (hp : ∀ k, p k → some k ≠ ob) : FrP p x z :=
  ⟨g.os.trans h.os, g.tape.trans h.tape, g.output.trans h.output, Nat.le_trans h.size g.size, fun k hk hpk => (g.block k (Nat.lt_of_lt_of_le hk h.size) (hp k hpk)).trans (h.block k hk hpk)⟩
theorem FrP.mono {p q : Nat → Prop} {x y : World} (h : FrP p x y) (hq : ∀ k, q k → p k) : FrP q x y := ⟨h.os, h.tape, h.output, h.size, fun k hk hpk => h.block k hk (hq k hpk)⟩
theorem Blk.frP {p : Nat → Prop} {c : Nat} {w w' : World} {C : Array Value} {t : TypeId} (h : Blk w c C t) (e : FrP p w w') (hc : p c) : Blk w' c C t := (e.block c h.lt hc).trans h

set_option maxHeartbeats 1000000 in
set_option maxRecDepth 100000 in
theorem split_keep_no (bW bA bK bF bR bT : Nat) (x : Int) (w : World) (hW : Blk w bW #[.int .i64 x] 3) (hx : x ≠ 0) :
    Calls Tryz.prog 94 #[.pointer (some ⟨bW, 0, none⟩), .pointer (some ⟨bA, 0, none⟩), .pointer (some ⟨bK, 0, none⟩), .pointer (some ⟨bF, 0, none⟩), .pointer (some ⟨bR, 0, none⟩), .pointer (some ⟨bT, 0, none⟩)] w fun x w' =>
      x = .returned (.tuple #[]) ∧ w' = w := by
  have cW := hW.cell 0
  have hx' : (x == 0) = false := by simpa using hx
  go_enter Tryz.func94, Tryz.ntmps94
  go_wp2
  go_end0
  exact ⟨rfl, rfl⟩

theorem words_info : (Tryz.prog.info? 106).map (fun i => (i.zero, i.size, i.bytes)) = some (some (.slice none 0 0), 1, 24) := by kernel_rfl
/-- a word that is some -/
def WdOk (x : Wd) : Prop := x.t ≠ ⟨#[]⟩ ∧ x.t.size ≤ maxLen
set_option maxHeartbeats 1000000 in
set_option maxRecDepth 100000 in
theorem split_lay_none (bR bO : Nat) (w : World) (hR : Blk w bR #[.slice none 0 0] 106) :
    Calls Tryz.prog 96 #[.pointer (some ⟨bR, 0, none⟩), .pointer (some ⟨bO, 0, none⟩)] w fun x w' =>
      x = .returned (.tuple #[]) ∧ Blk w' bR #[.slice none 0 0] 106 ∧ FrP (fun k => k ≠ bR) w w' := by
  have cR := hR.cell 0
  have fR := hR.free 0
  go_enter Tryz.func96, Tryz.ntmps96
  go_wp2
  go_end0
  exact ⟨rfl, hR.set 0 _, (FrP.refl _ w).setCell (by simp) 0 _⟩
theorem WdOk.pos {x : Wd} (h : WdOk x) : 0 < x.t.size := by
  rcases Nat.eq_zero_or_pos x.t.size with e | e
  · exact absurd (ByteArray.ext (Array.eq_empty_of_size_eq_zero e)) h.1
  · exact e
theorem says_byte {x : Wd} (h : 0 < x.t.size) (r : List Wd) : saysL (x :: r) = !decide (x.t[0].toNat = 35) := by
  show (!decide (x.t.data.toList.head? = some 35)) = _
  have h' : 0 < x.t.data.toList.length := by rw [Array.length_toList]; exact h
  have e : x.t.data.toList.head? = some x.t[0] := by
    rw [List.head?_eq_getElem?, List.getElem?_eq_getElem h', Array.getElem_toList]
    rfl
  rw [e]
  have : (some x.t[0] = some (35 : UInt8)) ↔ x.t[0].toNat = 35 := by
    rw [Option.some.injEq]
    exact ⟨fun q => by rw [q]; rfl, fun q => UInt8.toNat_inj.1 q⟩
  simp only [this]
set_option maxHeartbeats 2000000 in
set_option maxRecDepth 100000 in
theorem split_lay_yes (bR bO lim base : Nat) (ov rv : Value) (x : Wd) (rest : List Wd) (vs : List Value) (w : World) (hR : Blk w bR #[rv] 106) (hO : Blk w bO #[ov] 96) (hne : bR ≠ bO) (hrow : WdRow lim w rv (x :: rest)) (hok : WdOk x)
    (hs : saysL (x :: rest) = true) (hown : w.ownsRow base 106 1 ov vs.length vs) (hb : base ≤ w.heap.size) (hbR : bR < base) (hbO : bO < base) (hvl : vs.length ≤ 2000000) :
    Calls Tryz.prog 96 #[.pointer (some ⟨bR, 0, none⟩), .pointer (some ⟨bO, 0, none⟩)] w fun x w' =>
      x = .returned (.tuple #[]) ∧ ∃ ov', Blk w' bR #[.slice none 0 0] 106 ∧ Blk w' bO #[ov'] 96 ∧ w'.ownsRow base 106 1 ov' (vs.length + 1) (vs ++ [rv]) ∧ FrP (fun k => k ≠ bR ∧ k ≠ bO ∧ some k ≠ ov.ownBlock) w w' := by
  have cR := hR.cell 0
  have cO := hO.cell 0
  obtain ⟨g, c, rfl, -, -, hcc⟩ := hrow.cells Wd.size3 0 (Nat.succ_pos _)
  have c0 : w.cell? ⟨g, 0, none⟩ = some (.string x.t) := hcc 0 (by decide)
  have hpos := hok.pos
  rw [says_byte hpos] at hs
  have h35 : ¬ ((x.t[0].toNat : Nat) : Int) = 35 := by simp at hs; omega
  generalize hrl : (x :: rest).length = rl at *
  have hrl1 : (0 : Int) < (rl : Int) := by rw [← hrl, List.length_cons]; omega
  have hml : (3000000 : Nat) ≤ maxLen := by decide
  obtain ⟨i0, hi, hz0, hz1, hz2⟩ := info_parts words_info
  have HI := Lib.hid (And.intro hi (And.intro hz0 (And.intro hz1 hz2)))
  have HOWN := Lib.hid hown
  have HBR := Lib.hid hR
  have HBO := Lib.hid hO
  have HL1 := Lib.hid (show vs.length + 1 ≤ maxLen by omega)
  have HL2 := Lib.hid (show (vs.length + 1) * 24 ≤ 140737488355328 by omega)
  have HL3 := Lib.hid (show base ≤ (w.alloc (.cells #[.slice (some ⟨g, 0, none⟩) rl c] 106)).heap.size by simp; omega)
  clear hi hz0 hz1 hz2 hown hcc hrow hs hrl
  go_enter Tryz.func96, Tryz.ntmps96
  go_wp2_with (first
    | (at_builtin; refine wpList_append_own _ rfl (.tmp 13) (.tmp 15) 96 rfl base 106 i0 (.slice none 0 0) 1 24 Tryz.underlying96 HI.out.1 HI.out.2.1 HI.out.2.2.1 HI.out.2.2.2 rfl (by decide) ov vs.length vs rfl (own_ext HOWN.out ((Ext.refl w).alloc _)) ⟨w.heap.size, 0, none⟩ 1 1 [.slice (some ⟨g, 0, none⟩) rl c] rfl rfl (blk_news (C := #[.slice (some ⟨g, 0, none⟩) rl c]) (Blk.new _ _ _)) (by simp [Value.oneCell']) HL1.out HL2.out HL3.out ?_
       rintro v3 w3 hown3 hgrow3 -
       obtain ⟨g3, cap3, rfl⟩ := ownsRow_succ hown3
       have bR3 := Blk.grownLow (HBR.out.alloc _) HOWN.out hgrow3 hbR
       have bO3 := Blk.grownLow (HBO.out.alloc _) HOWN.out hgrow3 hbO
       have cO3 := bO3.cell 0
       have fO3 := bO3.free 0
       have cR3 := bR3.cell 0
       have fR3 := bR3.free 0
       have HG3 := Lib.hid hgrow3
       have HO3 := Lib.hid hown3
       clear hgrow3 hown3)
    | fail)
  go_end0
  refine ⟨rfl, _, (bR3.other (a := ⟨bO, 0, none⟩) hne _).set 0 _, (bO3.set 0 _).other (a := ⟨bR, 0, none⟩) (Ne.symm hne) _, own_extB (own_extB HO3.out ((ExtB.refl bO w3).setCell 0 _) hbO) ((ExtB.refl bR _).setCell 0 _) hbR, ?_⟩
  exact ((((((Ext.refl w).alloc _).frP (fun k => k ≠ bR ∧ k ≠ bO ∧ some k ≠ ov.ownBlock)).grown HG3.out (fun k hk => hk.2.2)).setCell (by simp) 0 _).setCell (by simp) 0 _)
set_option maxHeartbeats 1000000 in
set_option maxRecDepth 100000 in
theorem split_lay_no (bR bO lim : Nat) (rv : Value) (x : Wd) (rest : List Wd) (w : World) (hR : Blk w bR #[rv] 106) (hrow : WdRow lim w rv (x :: rest)) (hok : WdOk x)
    (hs : saysL (x :: rest) = false) :
    Calls Tryz.prog 96 #[.pointer (some ⟨bR, 0, none⟩), .pointer (some ⟨bO, 0, none⟩)] w fun x w' =>
      x = .returned (.tuple #[]) ∧ Blk w' bR #[.slice none 0 0] 106 ∧ FrP (fun k => k ≠ bR) w w' := by
  have cR := hR.cell 0
  have fR := hR.free 0
  obtain ⟨g, c, rfl, -, -, hcc⟩ := hrow.cells Wd.size3 0 (Nat.succ_pos _)
  have c0 : w.cell? ⟨g, 0, none⟩ = some (.string x.t) := hcc 0 (by decide)
  have hpos := hok.pos
  rw [says_byte hpos] at hs
  have h35 : ((x.t[0].toNat : Nat) : Int) = 35 := by simp at hs; omega
  generalize hrl : (x :: rest).length = rl at *
  have hrl1 : (0 : Int) < (rl : Int) := by rw [← hrl, List.length_cons]; omega
  clear hcc hrow hs hrl
  go_enter Tryz.func96, Tryz.ntmps96
  go_wp2
  go_end0
  exact ⟨rfl, hR.set 0 _, (FrP.refl _ w).setCell (by simp) 0 _⟩
end Go.Proofs.YtknlojlcahgnoaaGreat
