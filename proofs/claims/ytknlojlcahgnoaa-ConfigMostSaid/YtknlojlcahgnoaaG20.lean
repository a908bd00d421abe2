/- Walks: package table: a slot; table.fill. Walks: table.slot. Plain: a slot that has gone over to a kernel. -/
import Derived.Deep.QuietTactic
import Derived.BigQuiet
import Derived.Test.YtknlojlcahgnoaaG15
import Derived.Test.YtknlojlcahgnoaaG3
import Derived.Test.YtknlojlcahgnoaaG7

/- Walks: package table: a slot; table.fill. -/
namespace Go.Proofs.Ytknlojlcahgnoaa
open Go.RowKit
set_option linter.unusedVariables false
set_option linter.unusedSimpArgs false

def Slot.cap (s : Slot) : Int := ruleCap s.p s.e s.b s.rk
def Slot.fill (s : Slot) (clock : Int) : Int := kFill s.sk s.sa s.sb clock s.cap

theorem ruleCap_u (p : ByteArray) (e b k : Int) (he0 : 0 ≤ e) (hb0 : 0 ≤ b) : 0 ≤ ruleCap p e b k ∧ ruleCap p e b k ≤ 4611686018427387904 := by
  unfold ruleCap
  split
  · rename_i h
    exact ⟨Int.mul_nonneg he0 hb0, capOk_lt (ruleErr_zero h).2.2.2.1⟩
  · omega

end Go.Proofs.Ytknlojlcahgnoaa

/- Walks: table.slot. -/
namespace Go.Proofs.Ytknlojlcahgnoaa
open Go.RowKit
set_option linter.unusedVariables false
set_option linter.unusedSimpArgs false

end Go.Proofs.Ytknlojlcahgnoaa

/- Plain: a slot that has gone over to a kernel. -/
namespace Go.Proofs.Ytknlojlcahgnoaa

def movedS (clock : Int) (s : Slot) (kind : Int) : Slot := ⟨s.key, s.p, s.e, s.b, s.rk, kind, kOfA kind clock s.cap (s.fill clock), kOfB kind clock⟩
end Go.Proofs.Ytknlojlcahgnoaa
