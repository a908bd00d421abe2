/- Walks: the references 02 (but Mul), 04, 05, 06. -/
import Derived.Deep.DeepCutAuto
import Derived.Deep.CutRange
import Derived.Test.YtknlojlcahgnoaaG12
import Derived.Test.YtknlojlcahgnoaaG15
import Derived.Test.YtknlojlcahgnoaaG2

/- Walks: the references 02 (but Mul), 04, 05, 06. -/
namespace Go.Proofs.Ytknlojlcahgnoaa
open Go.RowKit
set_option linter.unusedVariables false
set_option linter.unusedSimpArgs false

end Go.Proofs.Ytknlojlcahgnoaa
