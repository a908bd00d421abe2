/- rule.Parse: its contract. Plain: what a text of rules reads as: line by line. Walks: tollerref14.Of. -/
import Derived.Laws.AppendOwnNone
import Derived.Test.YtknlojlcahgnoaaGreatProg
import Derived.Test.YtknlojlcahgnoaaGreatEb36
import Derived.Test.YtknlojlcahgnoaaGreatEb7
import Derived.Test.YtknlojlcahgnoaaGreatEb18
import Derived.Test.YtknlojlcahgnoaaGreatEb1
import Derived.Test.YtknlojlcahgnoaaGreatEb5
import Derived.Test.YtknlojlcahgnoaaGreatEb48
import Derived.Test.YtknlojlcahgnoaaGreatEb43

namespace Go.Proofs.YtknlojlcahgnoaaGreat
open Go.RowKit
set_option linter.unusedVariables false
set_option linter.unusedSimpArgs false

structure PRes where
  p : ByteArray
  e : Int
  b : Int
  k : Int
  err : Int
  at_ : Int
def pbad (err at_ : Int) : PRes := ⟨⟨#[]⟩, 0, 0, 0, err, at_⟩
def parse3 (s1 s2 s3 : ByteArray) : PRes :=
  if numErr s1 24 ≠ 0 then pbad (numErr s1 24) 1 else if burstErr (digNum s1) s2 ≠ 0 then pbad (burstErr (digNum s1) s2) 2
  else if kindErr (kindOf s3) ≠ 0 then pbad (kindErr (kindOf s3)) 3 else ⟨⟨#[]⟩, digNum s1, digNum s2, kindOf s3, 0, 0⟩
def parse4 (s1 s2 s3 s4 : ByteArray) : PRes :=
  if prefErr s1 ≠ 0 then pbad (prefErr s1) 1 else if numErr s2 24 ≠ 0 then pbad (numErr s2 24) 2 else if burstErr (digNum s2) s3 ≠ 0 then pbad (burstErr (digNum s2) s3) 3
  else if kindErr (kindOf s4) ≠ 0 then pbad (kindErr (kindOf s4)) 4 else ⟨s1, digNum s2, digNum s3, kindOf s4, 0, 0⟩
def parseD : List ByteArray → PRes
  | [a, b, c] => parse3 a b c
  | _ => pbad 22 0
def parseR : List ByteArray → PRes
  | [a, b, c, d] => parse4 a b c d
  | _ => pbad 22 0
def ruleParse : List ByteArray → PRes
  | [] => pbad 22 0
  | s :: r => if s = wDef then parseD r else if s = wRule then parseR r else pbad 22 0
end Go.Proofs.YtknlojlcahgnoaaGreat

namespace Go.Proofs.YtknlojlcahgnoaaGreat
open Go.RowKit
set_option linter.unusedVariables false
set_option linter.unusedSimpArgs false

def wd0 : Wd := ⟨⟨#[]⟩, 0, 0⟩
def wdAt (ws : List Wd) (i : Nat) : Wd := ws.getD i wd0
def wTexts (ws : List Wd) : List ByteArray := ws.map (·.t)
/-- what is wrong with a line of the size, and with which word; 0: nothing -/
def szErr (most : Int) (ws : List Wd) : Int × Nat :=
  if ws.length ≠ 2 then (22, 0) else if most ≠ 0 then (28, 0) else if digErr (wdAt ws 1).t ≠ 0 then (digErr (wdAt ws 1).t, 1)
  else if digNum (wdAt ws 1).t < 1 ∨ 1000000 < digNum (wdAt ws 1).t then (29, 1) else (0, 0)
def prRl (r : PRes) : Rl := ⟨r.p, r.e, r.b, r.k⟩
/-- is there a rule with a prefix -/
def hasPre (rs : List Rl) (p : ByteArray) : Bool := rs.any fun r => decide (r.p = p)
/-- what is wrong with a line of a rule, and with which word; 0: nothing -/
def rlErr (rs : List Rl) (ws : List Wd) : Int × Nat :=
  if (ruleParse (wTexts ws)).err ≠ 0 then ((ruleParse (wTexts ws)).err, (ruleParse (wTexts ws)).at_.toNat)
  else if hasPre rs (ruleParse (wTexts ws)).p = true then (28, if (ruleParse (wTexts ws)).p = ⟨#[]⟩ then 0 else 1)
  else if 1000 ≤ rs.length then (32, 0) else (0, 0)
def wSize : ByteArray := ⟨#[115, 105, 122, 101]⟩
structure CfgSt where
  most : Int
  rs : List Rl
def cfg0 : CfgSt := ⟨0, []⟩
def lnErr (s : CfgSt) (ws : List Wd) : Int × Nat := if (wdAt ws 0).t = wSize then szErr s.most ws else rlErr s.rs ws
def lnPut (s : CfgSt) (ws : List Wd) : CfgSt := if (wdAt ws 0).t = wSize then ⟨digNum (wdAt ws 1).t, s.rs⟩ else ⟨s.most, s.rs ++ [prRl (ruleParse (wTexts ws))]⟩
/-- the lines, one behind another: what comes of them, or what is wrong, and where -/
def cfgLines (s : CfgSt) : List (List Wd) → Sum (Int × Int × Int) CfgSt
  | [] => .inr s
  | ws :: r => if (lnErr s ws).1 ≠ 0 then .inl ((lnErr s ws).1, (wdAt ws (lnErr s ws).2).line, (wdAt ws (lnErr s ws).2).col) else cfgLines (lnPut s ws) r
/-- the prefixes that were met: a map to nothing -/
abbrev UMap := List (ByteArray × Nat)
def uent (x : ByteArray × Nat) : MapEntry := ⟨.string x.1, .agg #[], x.2⟩
def UMapIs (w : World) (b : Nat) (l : UMap) (c : Nat) : Prop := w.heap[b]? = some (.map (l.map uent).toArray c)
theorem UMapIs.lt {w : World} {b c : Nat} {l : UMap} (h : UMapIs w b l c) : b < w.heap.size := lt_of_block h
section
variable {P : Program} {t k e : TypeId}
end
end Go.Proofs.YtknlojlcahgnoaaGreat

namespace Go.Proofs.YtknlojlcahgnoaaGreat
open Go.RowKit
set_option linter.unusedVariables false
set_option linter.unusedSimpArgs false
attribute [local go_sem ↓] Go.wp_at_zero Go.wp_at_succ

/-- what tollerref14.Of hands back -/
def RofIs (w : World) (most clock : Int) (xs : List Slot) (x : Ending) (w' : World) : Prop :=
  ∃ M C v', x = .returned (.tuple #[.agg #[.int .i64 M, .int .u64 C, v'], .int .i64 (ofErr most clock xs)]) ∧ Ext w w' ∧ (∃ a n c, v' = .slice a n c) ∧
    (ofErr most clock xs = 0 → M = most ∧ C = clock ∧ SlotRow w.heap.size w' v' xs)
theorem RofIs.bad {w w' : World} {most clock E : Int} {xs : List Slot} (hE : ofErr most clock xs = E) (h0 : E ≠ 0) (hx : Ext w w') : RofIs w most clock xs (.returned (.tuple #[.agg #[.int .i64 0, .int .u64 0, .slice none 0 0], .int .i64 E])) w' :=
  ⟨0, 0, .slice none 0 0, by rw [hE], hx, ⟨_, _, _, rfl⟩, fun h => absurd (hE.symm.trans h) h0⟩

theorem RofIs.good {w w' : World} {most clock : Int} {xs : List Slot} {va : Option Addr} {n vc : Nat} (hE : ofErr most clock xs = 0) (hx : Ext w w') (hr : SlotRow w.heap.size w' (.slice va n vc) xs) :
    RofIs w most clock xs (.returned (.tuple #[.agg #[.int .i64 most, .int .u64 clock, .slice va n vc], .int .i64 0])) w' :=
  ⟨most, clock, .slice va n vc, by rw [hE], hx, ⟨_, _, _, rfl⟩, fun _ => ⟨rfl, rfl, hr⟩⟩

end Go.Proofs.YtknlojlcahgnoaaGreat
