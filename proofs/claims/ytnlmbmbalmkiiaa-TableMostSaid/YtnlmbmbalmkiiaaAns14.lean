/- Walks: tollerref14.Answers at answers that are alike. -/
import Derived.Test.YtnlmbmbalmkiiaaChB
namespace Go.Proofs.Ytnlmbmbalmkiiaa
open Go.RowKit
set_option linter.unusedVariables false
set_option linter.unusedSimpArgs false

set_option maxHeartbeats 1000000 in
set_option maxRecDepth 100000 in
theorem ref14_Answers_yes (code err limit left reset aft nan : Int) (ret : Bool) (w : World) :
    Calls Try.prog 16 #[.agg #[.int .u8 code, .int .u16 err, .int .u64 limit, .int .u64 left, .int .u64 reset, .int .u64 aft, .int .u64 nan, .bool ret, .int .i64 0, .slice none 0 0], .agg #[.int .u8 code, .int .u16 err, .int .u64 limit, .int .u64 left, .int .u64 reset, .int .u64 aft, .int .u64 nan, .bool ret, .int .i64 0, .slice none 0 0]] w fun x w' => x = .returned (.bool true) ∧ Ext w w' := by
  have hcv : ∀ W : World, (convert 23 9 (.slice none 0 0)).run Try.prog W = .ok (.string ⟨#[]⟩) W := fun W => by kernel_rfl
  go_enter Try.func16, Try.ntmps16
  go_wp2
  trace_state
  go_ret
  exact ⟨rfl, ((Ext.refl w).alloc _).alloc _⟩
end Go.Proofs.Ytnlmbmbalmkiiaa
