/- Walks: the parts of a rule that words are read into. Walks: rule.burst. Walks: rule.Parse. Walk: tollerlaw17.EnterWrong. -/
import Derived.Deep.RegionHeld3
import Derived.Deep.QuietTactic
import Derived.BigQuiet
import Derived.KernelRfl
import Derived.Test.YtknlojlcahgnoaaGreatProg
import Derived.Test.YtknlojlcahgnoaaGreatEa8
import Derived.Test.YtknlojlcahgnoaaGreatEa3
import Derived.Test.YtknlojlcahgnoaaGreatEa46
import Derived.Test.YtknlojlcahgnoaaGreatEa37
import Derived.Test.YtknlojlcahgnoaaGreatEa41

namespace Go.Proofs.YtknlojlcahgnoaaGreat
open Go.RowKit
set_option linter.unusedVariables false
set_option linter.unusedSimpArgs false

def numErr (s : ByteArray) (none : Int) : Int := if digErr s = 0 ∧ digNum s = 0 then none else digErr s
def prefErr (s : ByteArray) : Int := if keyOk s = true then 0 else 23
def kindErr (k : Int) : Int := if 0 < k then 0 else 27

end Go.Proofs.YtknlojlcahgnoaaGreat

namespace Go.Proofs.YtknlojlcahgnoaaGreat
open Go.RowKit
set_option linter.unusedVariables false
set_option linter.unusedSimpArgs false

def burstErr (e : Int) (s : ByteArray) : Int := if numErr s 25 = 0 ∧ capOk e (digNum s) = false then 26 else numErr s 25
theorem Ext.drewN (w : World) (n : Nat) : Ext w (w.drewN n) := ⟨rfl, rfl, rfl, Nat.le_refl _, fun _ _ => rfl⟩

end Go.Proofs.YtknlojlcahgnoaaGreat

namespace Go.Proofs.YtknlojlcahgnoaaGreat
open Go.RowKit
set_option linter.unusedVariables false
set_option linter.unusedSimpArgs false

def wDef : ByteArray := ⟨#[100, 101, 102, 97, 117, 108, 116]⟩
def wRule : ByteArray := ⟨#[114, 117, 108, 101]⟩
end Go.Proofs.YtknlojlcahgnoaaGreat

namespace Go.Proofs.YtknlojlcahgnoaaGreat
open Go.RowKit
attribute [local go_sem] Oper.semAt_some
set_option linter.unusedVariables false
set_option linter.unusedSimpArgs false

theorem wrap_u {x : Int} (h0 : 0 ≤ x) (h1 : x < 18446744073709551616) : IntKind.u64.wrap x = x := by
  simp [IntKind.wrap, IntKind.signed, IntKind.bits]; omega
end Go.Proofs.YtknlojlcahgnoaaGreat
