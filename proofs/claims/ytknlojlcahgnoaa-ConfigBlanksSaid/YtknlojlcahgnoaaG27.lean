/- Walks: the references 07 (Right) and 11 but for Parse and Print. -/
import Derived.Deep.QuietTactic
import Derived.BigQuiet
import Derived.Test.YtknlojlcahgnoaaG17
import Derived.Test.YtknlojlcahgnoaaG3
import Derived.Test.YtknlojlcahgnoaaG4
import Derived.Test.YtknlojlcahgnoaaG8

/- Walks: the references 07 (Right) and 11 but for Parse and Print. -/
namespace Go.Proofs.Ytknlojlcahgnoaa
open Go.RowKit
set_option linter.unusedVariables false
set_option linter.unusedSimpArgs false

theorem ref11_Name (k : Int) (w : World) : Calls Try.prog 18 #[.int .u8 k] w fun x w' => x = .returned (.string (nameOf k)) ∧ w = w' := by
  by_cases h1 : k = 1
  · subst h1
    go_enter Try.func18, Try.ntmps18
    go_wp2
    go_ret
    exact ⟨rfl, rfl⟩
  by_cases h2 : k = 2
  · subst h2
    go_enter Try.func18, Try.ntmps18
    go_wp2
    go_ret
    exact ⟨rfl, rfl⟩
  by_cases h3 : k = 3
  · subst h3
    go_enter Try.func18, Try.ntmps18
    go_wp2
    go_ret
    exact ⟨rfl, rfl⟩
  have H := Lib.hid (show nameOf k = ⟨#[]⟩ by unfold nameOf; rw [if_neg h1, if_neg h2, if_neg h3])
  have e1 : (k == 1) = false := by simpa using h1
  have e2 : (k == 2) = false := by simpa using h2
  have e3 : (k == 3) = false := by simpa using h3
  clear h1 h2 h3
  go_enter Try.func18, Try.ntmps18
  go_wp2
  go_ret
  exact ⟨ret_str H.out.symm, rfl⟩

end Go.Proofs.Ytknlojlcahgnoaa
