/- Walks: rule.Print, tollerref11.Print. Plain: a rule that is printed is read. The plain part of the walks of RuleEdge and RuleBack, without their law's functions. Walks: config.must, (*config.reader).size, (*config.reader).end. Walk: (*config.reader).rule. -/
import Derived.Deep.RegionLawGrows
import Derived.Deep.RegionHeld3
import Derived.Lib.SmallJoins
import Derived.Deep.CutBlock
import Derived.BigQuiet
import Derived.Deep.LoopGhost
import Derived.RegionTactic
import Derived.BigRegion
import Derived.Deep.QuietTactic
import Derived.Test.YtknlojlcahgnoaaGreatProg
import Derived.Test.YtknlojlcahgnoaaGreatEb51
import Derived.Test.YtknlojlcahgnoaaGreatEb5
import Derived.Test.YtknlojlcahgnoaaGreatEb7
import Derived.Test.YtknlojlcahgnoaaGreatEb10
import Derived.Test.YtknlojlcahgnoaaGreatEb1
import Derived.Test.YtknlojlcahgnoaaGreatEb6
import Derived.Test.YtknlojlcahgnoaaGreatEb36
import Derived.Test.YtknlojlcahgnoaaGreatEb18
import Derived.Test.YtknlojlcahgnoaaGreatEb41
import Derived.Test.YtknlojlcahgnoaaGreatEb47
import Derived.Test.YtknlojlcahgnoaaGreatEb50

namespace Go.Proofs.YtknlojlcahgnoaaGreat
open Go.RowKit
set_option linter.unusedVariables false
set_option linter.unusedSimpArgs false

theorem Ext.grown {a b c : World} (h : Ext a b) (g : b.grownBy c none) : Ext a c :=
  h.trans ⟨g.os, g.tape, g.output, g.size, fun k hk => g.block k hk (by simp)⟩

/-- a row of the call's own is a slice of strings -/
theorem StrSlice.own {w : World} {base n : Nat} {e : TypeId} {v : Value} (l : List ByteArray) (h : w.ownsRow base e 1 v n (l.map Value.string)) (heach : ∀ s ∈ l, s.size ≤ maxLen) : StrSlice w v l := by
  obtain ⟨h1, h2⟩ := h
  simp at h1
  rcases h2 with ⟨rfl, rfl⟩ | ⟨g, cap, cur, rfl, hb, hc, hn, hm, hs, ht⟩
  · have : l = [] := List.eq_nil_of_length_eq_zero (by omega)
    subst this
    exact ⟨⟨none, 0, rfl, fun q => absurd rfl q⟩, by simp, heach⟩
  · refine ⟨⟨some ⟨g, 0, none⟩, cap, by rw [h1], fun _ => ⟨g, 0, rfl, fun j hj => ?_⟩⟩, by omega, heach⟩
    have e1 : cur.toList[j]? = some (Value.string l[j]) := by
      have := congrArg (fun r => r[j]?) ht
      simp only [Nat.mul_one] at this
      rw [List.getElem?_take_of_lt (by omega)] at this
      rw [this]
      simp [hj]
    have e2 : w.cell? ⟨g, 0 + j, none⟩ = cur[0 + j]? := by simp [World.cell?, hc]
    rw [e2, Nat.zero_add, ← Array.getElem?_toList]
    exact e1

/-- a slice's capacity is no less than its length -/
def CapOk (v : Value) : Prop := ∀ a n c, v = .slice a n c → n ≤ c ∧ c ≤ maxLen
theorem CapOk.nil : CapOk (.slice none 0 0) := fun a n c h => by cases h; exact ⟨Nat.le_refl _, Nat.zero_le _⟩
theorem CapOk.own {w : World} {base size n : Nat} {e : TypeId} {v : Value} {xs : List Value} (h : w.ownsRow base e size v n xs) : CapOk v := by
  rcases h.2 with ⟨rfl, rfl⟩ | ⟨g, cap, cur, rfl, _, _, hn, hm, _⟩
  · exact CapOk.nil
  · intro a m c hv; cases hv; exact ⟨hn, hm⟩
/-- a row of texts of the call's own -/
structure OwnS (w : World) (v : Value) : Prop where
  cap : CapOk v
  own : ∃ base n xs, w.ownsRow base 9 1 v n xs
theorem OwnS.of {w : World} {base n : Nat} {v : Value} {xs : List Value} (h : w.ownsRow base 9 1 v n xs) : OwnS w v := ⟨CapOk.own h, base, n, xs, h⟩
theorem OwnS.nil (w : World) : OwnS w (.slice none 0 0) := ⟨CapOk.nil, 0, 0, [], World.ownsRow_nil _ _ _ _⟩
def printWords (p : ByteArray) (e b k : Int) : List ByteArray :=
  if ruleErr p e b k = 0 then (if p = ⟨#[]⟩ then [wDef, digStr e, digStr b, nameOf k] else [wRule, p, digStr e, digStr b, nameOf k]) else []
end Go.Proofs.YtknlojlcahgnoaaGreat

namespace Go.Proofs.YtknlojlcahgnoaaGreat
open Go.RowKit
set_option linter.unusedVariables false
set_option linter.unusedSimpArgs false

theorem satMul_le {a b : Int} (h : a * b ≤ 4611686018427387904) : satMul a b = a * b := satMul_lt (by omega)
theorem capOk_yes {a b : Int} (h : a * b ≤ 4611686018427387904) : capOk a b = true := by
  unfold capOk; rw [satMul_le h]; simpa using h
theorem ruleErr_yes {p : ByteArray} {e b k : Int} (h1 : prefOk p = true) (h2 : 0 < e) (h3 : 0 < b) (h4 : capOk e b = true) (h5 : rightKind k = true) : ruleErr p e b k = 0 := by
  unfold ruleErr
  rw [if_neg (by simp [h1]), if_neg (by simpa using h2), if_neg (by simpa using h3), if_neg (by simp [h4]), if_neg (by simp [h5])]
end Go.Proofs.YtknlojlcahgnoaaGreat

namespace Go.Proofs.YtknlojlcahgnoaaGreat
open Go.RowKit
set_option linter.unusedVariables false
set_option linter.unusedSimpArgs false

/-- a reader of lines -/
def rdC (most : Int) (rv : Value) (mb : Nat) : Array Value := #[.int .i64 most, rv, .map (some mb)]
theorem UMapIs.ext {w w' : World} {b c : Nat} {l : UMap} (h : UMapIs w b l c) (e : Ext w w') : UMapIs w' b l c := (e.block h.lt).trans h
theorem UMapIs.extB {w w' : World} {b c g : Nat} {l : UMap} (h : UMapIs w b l c) (e : ExtB g w w') (ne : b ≠ g) : UMapIs w' b l c := (e.block b h.lt ne).trans h
end Go.Proofs.YtknlojlcahgnoaaGreat

namespace Go.Proofs.YtknlojlcahgnoaaGreat
open Go.RowKit
set_option linter.unusedVariables false
set_option linter.unusedSimpArgs false

/-- the reader's memory -/
structure RdMem (w : World) (bR mb base : Nat) (rv : Value) (s : CfgSt) (l : UMap) (c : Nat) : Prop where
  rd : Blk w bR (rdC s.most rv mb) 105
  met : UMapIs w mb l c
  keys : l.map (·.1) = s.rs.map (·.p)
  rules : RuleOwn base w rv s.rs
  b0 : bR < base
  b1 : mb < base
  b2 : base ≤ w.heap.size
  ne : bR ≠ mb
end Go.Proofs.YtknlojlcahgnoaaGreat
