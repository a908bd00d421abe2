/- Walks: tollerref14.Of. -/
import Derived.Laws.AppendOwnNone
import Derived.Test.YtknlojlcahgnoaaGreatEa42
import Derived.Test.YtknlojlcahgnoaaGreatEa37
import Derived.Test.YtknlojlcahgnoaaGreatEa28

namespace Go.Proofs.YtknlojlcahgnoaaGreat
open Go.RowKit
set_option linter.unusedVariables false
set_option linter.unusedSimpArgs false
attribute [local go_sem ↓] Go.wp_at_zero Go.wp_at_succ

/-- what tollerref14.Of hands back -/
def RofIs (w : World) (most clock : Int) (xs : List Slot) (x : Ending) (w' : World) : Prop :=
  ∃ M C v', x = .returned (.tuple #[.agg #[.int .i64 M, .int .u64 C, v'], .int .i64 (ofErr most clock xs)]) ∧ Ext w w' ∧ (∃ a n c, v' = .slice a n c) ∧
    (ofErr most clock xs = 0 → M = most ∧ C = clock ∧ SlotRow w.heap.size w' v' xs)
theorem RofIs.bad {w w' : World} {most clock E : Int} {xs : List Slot} (hE : ofErr most clock xs = E) (h0 : E ≠ 0) (hx : Ext w w') : RofIs w most clock xs (.returned (.tuple #[.agg #[.int .i64 0, .int .u64 0, .slice none 0 0], .int .i64 E])) w' :=
  ⟨0, 0, .slice none 0 0, by rw [hE], hx, ⟨_, _, _, rfl⟩, fun h => absurd (hE.symm.trans h) h0⟩

theorem RofIs.good {w w' : World} {most clock : Int} {xs : List Slot} {va : Option Addr} {n vc : Nat} (hE : ofErr most clock xs = 0) (hx : Ext w w') (hr : SlotRow w.heap.size w' (.slice va n vc) xs) :
    RofIs w most clock xs (.returned (.tuple #[.agg #[.int .i64 most, .int .u64 clock, .slice va n vc], .int .i64 0])) w' :=
  ⟨most, clock, .slice va n vc, by rw [hE], hx, ⟨_, _, _, rfl⟩, fun _ => ⟨rfl, rfl, hr⟩⟩

end Go.Proofs.YtknlojlcahgnoaaGreat
