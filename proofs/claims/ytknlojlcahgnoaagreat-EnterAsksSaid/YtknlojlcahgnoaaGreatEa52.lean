/- What is printed is read: decimal digits, plainly. Walks: rule.Print, tollerref11.Print. Walks: config.must, (*config.reader).size, (*config.reader).end. Walk: (*config.reader).rule. -/
import Derived.Defers
import Derived.Recover
import Derived.Deep.RegionLawGrows
import Derived.Deep.RegionHeld3
import Derived.Lib.SmallJoins
import Derived.Deep.CutBlock
import Derived.BigQuiet
import Derived.Deep.LoopGhost
import Derived.RegionTactic
import Derived.BigRegion
import Derived.Deep.QuietTactic
import Derived.Test.YtknlojlcahgnoaaGreatProg
import Derived.Test.YtknlojlcahgnoaaGreatEa0
import Derived.Test.YtknlojlcahgnoaaGreatEa3
import Derived.Test.YtknlojlcahgnoaaGreatEa49
import Derived.Test.YtknlojlcahgnoaaGreatEa5
import Derived.Test.YtknlojlcahgnoaaGreatEa12
import Derived.Test.YtknlojlcahgnoaaGreatEa33
import Derived.Test.YtknlojlcahgnoaaGreatEa40
import Derived.Test.YtknlojlcahgnoaaGreatEa43

namespace Go.Proofs.YtknlojlcahgnoaaGreat
open Go.RowKit
set_option linter.unusedVariables false
set_option linter.unusedSimpArgs false

theorem digit_toNat (k : Nat) (h : k < 10) : (UInt8.ofNat (48 + k)).toNat = 48 + k := by
  simp
  omega
theorem digit_isDig (k : Nat) (h : k < 10) : isDig (UInt8.ofNat (48 + k)) = true := by
  rw [isDig_iff, digit_toNat k h]
  omega

theorem pdig_spec (n : Nat) (h : n < 100000000000000000000) :
    (pdig n).all isDig = true ∧ dval (pdig n) = n ∧ 1 ≤ (pdig n).length ∧ (pdig n).length ≤ 20 ∧ (1 ≤ n → ((pdig n).getD 0 0).toNat ≠ 48) ∧ (n < 10 → (pdig n).length = 1) := by
  have key : ∀ m n : Nat, n ≤ m → n < 100000000000000000000 →
      (pdig n).all isDig = true ∧ dval (pdig n) = n ∧ 1 ≤ (pdig n).length ∧ (1 ≤ n → ((pdig n).getD 0 0).toNat ≠ 48) ∧ (n < 10 → (pdig n).length = 1) ∧ ∀ k, n < 10 ^ (k + 1) → (pdig n).length ≤ k + 1 := by
    intro m
    induction m with
    | zero =>
      intro n hn _
      obtain rfl : n = 0 := by omega
      have e : pdig 0 = [UInt8.ofNat 48] := rfl
      rw [e]
      exact ⟨by decide, by decide, by decide, by omega, fun _ => rfl, fun k _ => by simp⟩
    | succ m ih =>
      intro n hn hlt
      rw [pdig_eq n hlt]
      by_cases h10 : n < 10
      · rw [if_pos h10]
        refine ⟨by rw [List.all_cons, digit_isDig n h10]; rfl, ?_, by simp, ?_, fun _ => rfl, fun k _ => by simp⟩
        · simp only [dval, List.foldl_cons, List.foldl_nil]; rw [digit_toNat n h10]; omega
        · intro h1
          simp only [List.getD_cons_zero]
          rw [digit_toNat n h10]; omega
      · rw [if_neg h10]
        obtain ⟨a1, a2, a3, a4, a5, a6⟩ := ih (n / 10) (by omega) (by omega)
        refine ⟨by rw [List.all_append, a1, List.all_cons, digit_isDig (n % 10) (by omega)]; rfl, ?_, by simp, ?_, by omega, ?_⟩
        · rw [dval_snoc, a2, digit_toNat (n % 10) (by omega)]; omega
        · intro _
          have := a4 (by omega)
          rw [List.getD_eq_getElem?_getD, List.getElem?_append_left (by omega), ← List.getD_eq_getElem?_getD]
          exact this
        · intro k hk
          rw [List.length_append, List.length_singleton]
          rcases k with _ | k
          · simp at hk; omega
          · have := a6 k (by rw [Nat.div_lt_iff_lt_mul (by omega), ← Nat.pow_succ]; exact hk)
            omega
  obtain ⟨a1, a2, a3, a4, a5, a6⟩ := key n n (Nat.le_refl _) h
  exact ⟨a1, a2, a3, a6 19 (by omega), a4, a5⟩

theorem digStr_data (n : Int) : (digStr n).data.toList = pdig n.toNat := by simp [digStr]
end Go.Proofs.YtknlojlcahgnoaaGreat

namespace Go.Proofs.YtknlojlcahgnoaaGreat
open Go.RowKit
set_option linter.unusedVariables false
set_option linter.unusedSimpArgs false

theorem Ext.grown {a b c : World} (h : Ext a b) (g : b.grownBy c none) : Ext a c :=
  h.trans ⟨g.os, g.tape, g.output, g.size, fun k hk => g.block k hk (by simp)⟩

/-- a row of the call's own is a slice of strings -/
theorem StrSlice.own {w : World} {base n : Nat} {e : TypeId} {v : Value} (l : List ByteArray) (h : w.ownsRow base e 1 v n (l.map Value.string)) (heach : ∀ s ∈ l, s.size ≤ maxLen) : StrSlice w v l := by
  obtain ⟨h1, h2⟩ := h
  simp at h1
  rcases h2 with ⟨rfl, rfl⟩ | ⟨g, cap, cur, rfl, hb, hc, hn, hm, hs, ht⟩
  · have : l = [] := List.eq_nil_of_length_eq_zero (by omega)
    subst this
    exact ⟨⟨none, 0, rfl, fun q => absurd rfl q⟩, by simp, heach⟩
  · refine ⟨⟨some ⟨g, 0, none⟩, cap, by rw [h1], fun _ => ⟨g, 0, rfl, fun j hj => ?_⟩⟩, by omega, heach⟩
    have e1 : cur.toList[j]? = some (Value.string l[j]) := by
      have := congrArg (fun r => r[j]?) ht
      simp only [Nat.mul_one] at this
      rw [List.getElem?_take_of_lt (by omega)] at this
      rw [this]
      simp [hj]
    have e2 : w.cell? ⟨g, 0 + j, none⟩ = cur[0 + j]? := by simp [World.cell?, hc]
    rw [e2, Nat.zero_add, ← Array.getElem?_toList]
    exact e1

/-- a slice's capacity is no less than its length -/
def CapOk (v : Value) : Prop := ∀ a n c, v = .slice a n c → n ≤ c ∧ c ≤ maxLen
theorem CapOk.nil : CapOk (.slice none 0 0) := fun a n c h => by cases h; exact ⟨Nat.le_refl _, Nat.zero_le _⟩
theorem CapOk.own {w : World} {base size n : Nat} {e : TypeId} {v : Value} {xs : List Value} (h : w.ownsRow base e size v n xs) : CapOk v := by
  rcases h.2 with ⟨rfl, rfl⟩ | ⟨g, cap, cur, rfl, _, _, hn, hm, _⟩
  · exact CapOk.nil
  · intro a m c hv; cases hv; exact ⟨hn, hm⟩
/-- a row of texts of the call's own -/
structure OwnS (w : World) (v : Value) : Prop where
  cap : CapOk v
  own : ∃ base n xs, w.ownsRow base 9 1 v n xs
theorem OwnS.of {w : World} {base n : Nat} {v : Value} {xs : List Value} (h : w.ownsRow base 9 1 v n xs) : OwnS w v := ⟨CapOk.own h, base, n, xs, h⟩
theorem OwnS.nil (w : World) : OwnS w (.slice none 0 0) := ⟨CapOk.nil, 0, 0, [], World.ownsRow_nil _ _ _ _⟩
def printWords (p : ByteArray) (e b k : Int) : List ByteArray :=
  if ruleErr p e b k = 0 then (if p = ⟨#[]⟩ then [wDef, digStr e, digStr b, nameOf k] else [wRule, p, digStr e, digStr b, nameOf k]) else []
end Go.Proofs.YtknlojlcahgnoaaGreat

namespace Go.Proofs.YtknlojlcahgnoaaGreat
open Go.RowKit
set_option linter.unusedVariables false
set_option linter.unusedSimpArgs false

/-- a reader of lines -/
def rdC (most : Int) (rv : Value) (mb : Nat) : Array Value := #[.int .i64 most, rv, .map (some mb)]
theorem UMapIs.ext {w w' : World} {b c : Nat} {l : UMap} (h : UMapIs w b l c) (e : Ext w w') : UMapIs w' b l c := (e.block h.lt).trans h
theorem UMapIs.extB {w w' : World} {b c g : Nat} {l : UMap} (h : UMapIs w b l c) (e : ExtB g w w') (ne : b ≠ g) : UMapIs w' b l c := (e.block b h.lt ne).trans h
end Go.Proofs.YtknlojlcahgnoaaGreat

namespace Go.Proofs.YtknlojlcahgnoaaGreat
open Go.RowKit
set_option linter.unusedVariables false
set_option linter.unusedSimpArgs false

/-- the reader's memory -/
structure RdMem (w : World) (bR mb base : Nat) (rv : Value) (s : CfgSt) (l : UMap) (c : Nat) : Prop where
  rd : Blk w bR (rdC s.most rv mb) 105
  met : UMapIs w mb l c
  keys : l.map (·.1) = s.rs.map (·.p)
  rules : RuleOwn base w rv s.rs
  b0 : bR < base
  b1 : mb < base
  b2 : base ≤ w.heap.size
  ne : bR ≠ mb
end Go.Proofs.YtknlojlcahgnoaaGreat
