/- Walks: package table: a slot; table.fill. -/
import Derived.Deep.QuietTactic
import Derived.BigQuiet
import Derived.Test.YtknlojlcahgnoaaGreatCf13
import Derived.Test.YtknlojlcahgnoaaGreatCf3
import Derived.Test.YtknlojlcahgnoaaGreatCf7

namespace Go.Proofs.YtknlojlcahgnoaaGreat
open Go.RowKit
set_option linter.unusedVariables false
set_option linter.unusedSimpArgs false

def Slot.cap (s : Slot) : Int := ruleCap s.p s.e s.b s.rk
def Slot.fill (s : Slot) (clock : Int) : Int := kFill s.sk s.sa s.sb clock s.cap

theorem ruleCap_u (p : ByteArray) (e b k : Int) (he0 : 0 ≤ e) (hb0 : 0 ≤ b) : 0 ≤ ruleCap p e b k ∧ ruleCap p e b k ≤ 4611686018427387904 := by
  unfold ruleCap
  split
  · rename_i h
    exact ⟨Int.mul_nonneg he0 hb0, capOk_lt (ruleErr_zero h).2.2.2.1⟩
  · omega

/-- a table in memory -/
structure TabAt (w : World) (t mb : Nat) (most clock : Int) (l : SMap) (c : Nat) : Prop where
  blk : Blk w t #[.int .i64 most, .int .u64 clock, .map (some mb)] 130
  map : MapIs w mb l c
theorem TabAt.ext {w w' : World} {t mb c : Nat} {most clock : Int} {l : SMap} (h : TabAt w t mb most clock l c) (e : Ext w w') : TabAt w' t mb most clock l c := ⟨h.blk.ext e, h.map.ext e⟩
theorem TabAt.ne {w : World} {t mb c : Nat} {most clock : Int} {l : SMap} (h : TabAt w t mb most clock l c) : t ≠ mb := fun e => h.map.ne h.blk e.symm
theorem TabAt.swap {w w' : World} {t mb c c' : Nat} {most clock : Int} {l l' : SMap} (h : TabAt w t mb most clock l c) (e : ExtB mb w w') (m : MapIs w' mb l' c') : TabAt w' t mb most clock l' c' := ⟨h.blk.extB e h.ne, m⟩

end Go.Proofs.YtknlojlcahgnoaaGreat
