/- append to a row of the call's own, as a step of a region that draws its order; words in memory. Walks: the closures of words.Split: a word that is none; a line is laid. rule.Parse: its contract. Plain: what a text of rules reads as: line by line. -/
import Derived.Deep.RegionLawGrows
import Derived.Deep.CutBlock
import Derived.RangeFuncBox
import Derived.Test.YtknlojlcahgnoaaGreatProg
import Derived.Test.YtknlojlcahgnoaaGreatEa35
import Derived.Test.YtknlojlcahgnoaaGreatEa11
import Derived.Test.YtknlojlcahgnoaaGreatEa47
import Derived.Test.YtknlojlcahgnoaaGreatEa5
import Derived.Test.YtknlojlcahgnoaaGreatEa0
import Derived.Test.YtknlojlcahgnoaaGreatEa3

namespace Go.Proofs.YtknlojlcahgnoaaGreat
open Go.RowKit
set_option linter.unusedVariables false
set_option linter.unusedSimpArgs false

def Wd.cells (x : Wd) : Array Value := #[.string x.t, .int .i64 x.line, .int .i64 x.col]
theorem Wd.size3 (x : Wd) : x.cells.size = 3 := rfl
/-- words in memory -/
abbrev WdsAt (w : World) (v : Value) (l : List Wd) : Prop := ElemsAt Wd.cells 3 w v l
abbrev WdRow (base : Nat) (w : World) (v : Value) (l : List Wd) : Prop := RowOf Wd.cells 3 108 base w v l
/-- lines of words in memory -/
def LinesAt (w : World) (v : Value) (ls : List (List Wd)) : Prop :=
  ∃ a c, v = .slice a ls.length c ∧ (ls ≠ [] → ∃ b o, a = some ⟨b, o, none⟩ ∧ ∀ j (h : j < ls.length), ∃ x, w.cell? ⟨b, o + j, none⟩ = some x ∧ WdsAt w x ls[j])
theorem LinesAt.ext {w w' : World} {v : Value} {ls : List (List Wd)} (h : LinesAt w v ls) (e : Ext w w') : LinesAt w' v ls := by
  obtain ⟨a, c, hv, hl⟩ := h
  refine ⟨a, c, hv, fun hne => ?_⟩
  obtain ⟨b, o, ha, hc⟩ := hl hne
  refine ⟨b, o, ha, fun j hj => ?_⟩
  obtain ⟨x, h1, h2⟩ := hc j hj
  exact ⟨x, e.keep h1, h2.ext Wd.size3 e⟩

/-- what was below a limit is as it was, but for one block; there may be new blocks -/
structure FrB (b lim : Nat) (w w' : World) : Prop where
  os : w'.os = w.os
  tape : w'.tape = w.tape
  output : w'.output = w.output
  size : w.heap.size ≤ w'.heap.size
  block : ∀ k, k < lim → k ≠ b → w'.heap[k]? = w.heap[k]?
theorem ExtB.fr {b lim : Nat} {w w' : World} (h : ExtB b w w') (hl : lim ≤ w.heap.size) : FrB b lim w w' := ⟨h.os, h.tape, h.output, h.size, fun k hk hne => h.block k (Nat.lt_of_lt_of_le hk hl) hne⟩
theorem own_low {x : World} {lim k n : Nat} {e : TypeId} {v : Value} {xs : List Value} (o : x.ownsRow lim e k v n xs) {c : Nat} (hc : c < lim) : some c ≠ v.ownBlock := by
  obtain ⟨-, ⟨rfl, -⟩ | ⟨g', cap, cur, rfl, h2, -⟩⟩ := o
  · intro h; cases h
  · intro h; cases h; exact absurd hc (Nat.not_lt_of_le h2)
theorem Ext.fr {b lim : Nat} {w w' : World} (h : Ext w w') (hl : lim ≤ w.heap.size) : FrB b lim w w' := (h.toB b).fr hl
theorem FrB.grown {b lim k n : Nat} {w x y z : World} {e : TypeId} {v : Value} {xs : List Value} (h : FrB b lim w y) (hl : lim ≤ y.heap.size) (o : x.ownsRow lim e k v n xs) (g : y.grownBy z v.ownBlock) : FrB b lim w z :=
  ⟨g.os.trans h.os, g.tape.trans h.tape, g.output.trans h.output, Nat.le_trans h.size g.size, fun c hc hne => (g.block c (Nat.lt_of_lt_of_le hc hl) (own_low o hc)).trans (h.block c hc hne)⟩
theorem FrB.setCell {b lim : Nat} {w y : World} (h : FrB b lim w y) (o : Nat) (v : Value) : FrB b lim w (y.setCell ⟨b, o, none⟩ v) :=
  ⟨h.os, h.tape, h.output, by simpa [World.setCell] using h.size, fun k hk hne => (Below.heap_setCell _ _ _ _ hne).trans (h.block k hk hne)⟩
theorem FrB.refl (b lim : Nat) (w : World) : FrB b lim w w := ⟨rfl, rfl, rfl, Nat.le_refl _, fun _ _ _ => rfl⟩
theorem Blk.fr {b lim c : Nat} {w w' : World} {C : Array Value} {t : TypeId} (h : Blk w c C t) (e : FrB b lim w w') (hc : c < lim) (hne : c ≠ b) : Blk w' c C t := (e.block c hc hne).trans h
end Go.Proofs.YtknlojlcahgnoaaGreat

namespace Go.Proofs.YtknlojlcahgnoaaGreat
open Go.RowKit
set_option linter.unusedVariables false
set_option linter.unusedSimpArgs false

/-- the blocks of which p says so are as they were; there may be new blocks -/
structure FrP (p : Nat → Prop) (w w' : World) : Prop where
  os : w'.os = w.os
  tape : w'.tape = w.tape
  output : w'.output = w.output
  size : w.heap.size ≤ w'.heap.size
  block : ∀ k, k < w.heap.size → p k → w'.heap[k]? = w.heap[k]?
theorem FrP.refl (p : Nat → Prop) (w : World) : FrP p w w := ⟨rfl, rfl, rfl, Nat.le_refl _, fun _ _ _ => rfl⟩
theorem FrP.trans {p : Nat → Prop} {x y z : World} (h : FrP p x y) (k : FrP p y z) : FrP p x z :=
  ⟨k.os.trans h.os, k.tape.trans h.tape, k.output.trans h.output, Nat.le_trans h.size k.size, fun i hi hb => (k.block i (Nat.lt_of_lt_of_le hi h.size) hb).trans (h.block i hi hb)⟩
theorem FrP.setCell {p : Nat → Prop} {x y : World} (h : FrP p x y) {b : Nat} (hb : ¬ p b) (o : Nat) (v : Value) : FrP p x (y.setCell ⟨b, o, none⟩ v) :=
  ⟨h.os, h.tape, h.output, by simpa [World.setCell] using h.size, fun k hk hp => (Below.heap_setCell _ _ _ _ (fun e => hb (by have e' : k = b := e; rw [← e']; exact hp))).trans (h.block k hk hp)⟩
theorem FrP.grown {p : Nat → Prop} {x y z : World} (h : FrP p x y) {ob : Option Nat} (g : y.grownBy z ob) (hp : ∀ k, p k → some k ≠ ob) : FrP p x z :=
  ⟨g.os.trans h.os, g.tape.trans h.tape, g.output.trans h.output, Nat.le_trans h.size g.size, fun k hk hpk => (g.block k (Nat.lt_of_lt_of_le hk h.size) (hp k hpk)).trans (h.block k hk hpk)⟩
theorem FrP.mono {p q : Nat → Prop} {x y : World} (h : FrP p x y) (hq : ∀ k, q k → p k) : FrP q x y := ⟨h.os, h.tape, h.output, h.size, fun k hk hpk => h.block k hk (hq k hpk)⟩
end Go.Proofs.YtknlojlcahgnoaaGreat

namespace Go.Proofs.YtknlojlcahgnoaaGreat
open Go.RowKit
set_option linter.unusedVariables false
set_option linter.unusedSimpArgs false

structure PRes where
  p : ByteArray
  e : Int
  b : Int
  k : Int
  err : Int
  at_ : Int
def pbad (err at_ : Int) : PRes := ⟨⟨#[]⟩, 0, 0, 0, err, at_⟩
def parse3 (s1 s2 s3 : ByteArray) : PRes :=
  if numErr s1 24 ≠ 0 then pbad (numErr s1 24) 1 else if burstErr (digNum s1) s2 ≠ 0 then pbad (burstErr (digNum s1) s2) 2
  else if kindErr (kindOf s3) ≠ 0 then pbad (kindErr (kindOf s3)) 3 else ⟨⟨#[]⟩, digNum s1, digNum s2, kindOf s3, 0, 0⟩
def parse4 (s1 s2 s3 s4 : ByteArray) : PRes :=
  if prefErr s1 ≠ 0 then pbad (prefErr s1) 1 else if numErr s2 24 ≠ 0 then pbad (numErr s2 24) 2 else if burstErr (digNum s2) s3 ≠ 0 then pbad (burstErr (digNum s2) s3) 3
  else if kindErr (kindOf s4) ≠ 0 then pbad (kindErr (kindOf s4)) 4 else ⟨s1, digNum s2, digNum s3, kindOf s4, 0, 0⟩
def parseD : List ByteArray → PRes
  | [a, b, c] => parse3 a b c
  | _ => pbad 22 0
def parseR : List ByteArray → PRes
  | [a, b, c, d] => parse4 a b c d
  | _ => pbad 22 0
def ruleParse : List ByteArray → PRes
  | [] => pbad 22 0
  | s :: r => if s = wDef then parseD r else if s = wRule then parseR r else pbad 22 0
end Go.Proofs.YtknlojlcahgnoaaGreat

namespace Go.Proofs.YtknlojlcahgnoaaGreat
open Go.RowKit
set_option linter.unusedVariables false
set_option linter.unusedSimpArgs false

def wd0 : Wd := ⟨⟨#[]⟩, 0, 0⟩
def wdAt (ws : List Wd) (i : Nat) : Wd := ws.getD i wd0
def wTexts (ws : List Wd) : List ByteArray := ws.map (·.t)
/-- what is wrong with a line of the size, and with which word; 0: nothing -/
def szErr (most : Int) (ws : List Wd) : Int × Nat :=
  if ws.length ≠ 2 then (22, 0) else if most ≠ 0 then (28, 0) else if digErr (wdAt ws 1).t ≠ 0 then (digErr (wdAt ws 1).t, 1)
  else if digNum (wdAt ws 1).t < 1 ∨ 1000000 < digNum (wdAt ws 1).t then (29, 1) else (0, 0)
def prRl (r : PRes) : Rl := ⟨r.p, r.e, r.b, r.k⟩
/-- is there a rule with a prefix -/
def hasPre (rs : List Rl) (p : ByteArray) : Bool := rs.any fun r => decide (r.p = p)
/-- what is wrong with a line of a rule, and with which word; 0: nothing -/
def rlErr (rs : List Rl) (ws : List Wd) : Int × Nat :=
  if (ruleParse (wTexts ws)).err ≠ 0 then ((ruleParse (wTexts ws)).err, (ruleParse (wTexts ws)).at_.toNat)
  else if hasPre rs (ruleParse (wTexts ws)).p = true then (28, if (ruleParse (wTexts ws)).p = ⟨#[]⟩ then 0 else 1)
  else if 1000 ≤ rs.length then (32, 0) else (0, 0)
def wSize : ByteArray := ⟨#[115, 105, 122, 101]⟩
structure CfgSt where
  most : Int
  rs : List Rl
def cfg0 : CfgSt := ⟨0, []⟩
def lnErr (s : CfgSt) (ws : List Wd) : Int × Nat := if (wdAt ws 0).t = wSize then szErr s.most ws else rlErr s.rs ws
def lnPut (s : CfgSt) (ws : List Wd) : CfgSt := if (wdAt ws 0).t = wSize then ⟨digNum (wdAt ws 1).t, s.rs⟩ else ⟨s.most, s.rs ++ [prRl (ruleParse (wTexts ws))]⟩
/-- the lines, one behind another: what comes of them, or what is wrong, and where -/
def cfgLines (s : CfgSt) : List (List Wd) → Sum (Int × Int × Int) CfgSt
  | [] => .inr s
  | ws :: r => if (lnErr s ws).1 ≠ 0 then .inl ((lnErr s ws).1, (wdAt ws (lnErr s ws).2).line, (wdAt ws (lnErr s ws).2).col) else cfgLines (lnPut s ws) r
/-- the prefixes that were met: a map to nothing -/
abbrev UMap := List (ByteArray × Nat)
def uent (x : ByteArray × Nat) : MapEntry := ⟨.string x.1, .agg #[], x.2⟩
def UMapIs (w : World) (b : Nat) (l : UMap) (c : Nat) : Prop := w.heap[b]? = some (.map (l.map uent).toArray c)
theorem UMapIs.lt {w : World} {b c : Nat} {l : UMap} (h : UMapIs w b l c) : b < w.heap.size := lt_of_block h
section
variable {P : Program} {t k e : TypeId}
end
end Go.Proofs.YtknlojlcahgnoaaGreat
