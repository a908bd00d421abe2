/- Rows of rules of the call's own. Walk: tollerlaw15.Rules. -/
import Derived.Test.YtknlojlcahgnoaaG37
import Derived.Test.YtknlojlcahgnoaaG35
import Derived.Test.YtknlojlcahgnoaaG44
import Derived.Test.YtknlojlcahgnoaaG36
import Derived.Test.YtknlojlcahgnoaaG4

/- Rows of rules of the call's own. -/
namespace Go.Proofs.Ytknlojlcahgnoaa
open Go.RowKit
set_option linter.unusedVariables false
set_option linter.unusedSimpArgs false

abbrev RuleRow (base : Nat) (w : World) (v : Value) (l : List Rl) : Prop := RowOf Rl.cells 4 34 base w v l
theorem rule_info : (Try.prog.info? 34).map (fun i => (i.zero, i.size, i.bytes)) = some (some (.agg #[.string ⟨#[]⟩, .int .u64 0, .int .u64 0, .int .u8 0]), 4, 40) := by kernel_rfl
theorem rulerow_more {base : Nat} {w : World} {v : Value} {l l' : List Rl} {r : Rl} (h : w.ownsRow base 34 4 v (l.length + 1) (flatE Rl.cells l ++ r.cells.toList)) (e : l' = l ++ [r]) : RuleRow base w v l' := by
  subst e
  refine RowOf.mk' h (by simp) (flatE_snoc _ _ _).symm ?_
  obtain ⟨g, cap, rfl⟩ := ownsRow_succ h
  simp
/-- a slice that was written out, of one rule -/
theorem rulerow_one {base b : Nat} {w : World} {r : Rl} (h : Blk w b r.cells 34) (hb : base ≤ b) : RuleRow base w (.slice (some ⟨b, 0, none⟩) 1 1) [r] :=
  RowOf.mk' (n := 1) (xs := r.cells.toList) ⟨by simp [Rl.cells], Or.inr ⟨b, 1, r.cells, rfl, hb, h, Nat.le_refl _, by decide, by simp [Rl.cells], by simp [Rl.cells]⟩⟩ rfl (by simp [flatE]) (by simp)
theorem RuleRow.at {base : Nat} {w : World} {v : Value} {l : List Rl} (h : RuleRow base w v l) : RulesAt w v l := RowOf.elems Rl.size4 h
/-- a block of another make stays as it is while a row grows -/
theorem Blk.grownNe {y z : World} {base size n k : Nat} {e t : TypeId} {v : Value} {xs : List Value} {C : Array Value} (hb : Blk y k C t) (g : y.grownBy z v.ownBlock) (o : y.ownsRow base e size v n xs) (ne : e ≠ t) : Blk z k C t := by
  refine (g.block k (lt_of_block hb) ?_).trans hb
  intro q
  obtain ⟨-, ⟨rfl, -⟩ | ⟨g', cap, cur, rfl, h2, h3, -⟩⟩ := o
  · cases q
  · have e1 : k = g' := by simpa [Value.ownBlock] using q
    subst e1
    have e2 := h3.symm.trans hb
    simp at e2
    exact ne e2.2
end Go.Proofs.Ytknlojlcahgnoaa

/- Walk: tollerlaw15.Rules. -/
namespace Go.Proofs.Ytknlojlcahgnoaa
open Go.RowKit
set_option linter.unusedVariables false
set_option linter.unusedSimpArgs false

theorem Blk.set2 {w : World} {b : Nat} {a0 a1 : Value} {t : TypeId} (h : Blk w b #[a0, a1] t) (v0 v1 : Value) : Blk ((w.setCell ⟨b, 0, none⟩ v0).setCell ⟨b, 1, none⟩ v1) b #[v0, v1] t := by
  have h0 : Blk _ b #[v0, a1] t := h.set 0 v0
  exact h0.set 1 v1
def pre15 (k : Nat) : ByteArray := if k = 0 then ⟨#[97]⟩ else if k = 1 then ⟨#[98]⟩ else if k = 2 then ⟨#[97, 47]⟩ else if k = 3 then ⟨#[99]⟩ else if k = 4 then ⟨#[122]⟩ else if k = 5 then ⟨#[126]⟩ else if k = 6 then ⟨#[33]⟩ else ⟨#[]⟩
def pres15 : Array Value := #[.string ⟨#[97]⟩, .string ⟨#[98]⟩, .string ⟨#[97, 47]⟩, .string ⟨#[99]⟩, .string ⟨#[122]⟩, .string ⟨#[126]⟩, .string ⟨#[33]⟩, .string ⟨#[]⟩]
theorem pres15_at (n : Nat) (h : n < 8) : pres15[n]? = some (.string (pre15 n)) := by
  rcases (by omega : n = 0 ∨ n = 1 ∨ n = 2 ∨ n = 3 ∨ n = 4 ∨ n = 5 ∨ n = 6 ∨ n = 7) with rfl | rfl | rfl | rfl | rfl | rfl | rfl | rfl <;> rfl
theorem pre15_size (n : Nat) : (pre15 n).size ≤ maxLen := by
  have h : (pre15 n).size ≤ 2 := by
    unfold pre15
    repeat' split
    all_goals decide
  have : 2 ≤ maxLen := by decide
  omega

end Go.Proofs.Ytknlojlcahgnoaa
