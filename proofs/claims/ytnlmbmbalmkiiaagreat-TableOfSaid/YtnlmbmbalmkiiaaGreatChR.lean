/- Walks: Charge: a wrong rule. -/
import Derived.Test.YtnlmbmbalmkiiaaGreatChB
namespace Go.Proofs.YtnlmbmbalmkiiaaGreat
open Go.RowKit
set_option linter.unusedVariables false
set_option linter.unusedSimpArgs false

set_option maxHeartbeats 1000000 in
set_option maxRecDepth 100000 in
theorem charge_rule (t : Nat) (k p : ByteArray) (e b rk n er : Int) (w : World) (hk : k.size ≤ maxLen) (H : Hid (keyOk k = true)) (hp : p.size ≤ maxLen) (he0 : 0 ≤ e) (he1 : e < 18446744073709551616) (hb0 : 0 ≤ b) (hb1 : b < 18446744073709551616)
    (HR : Hid (ruleErr p e b rk = er)) (hne : (er != 0) = true) :
    Calls Tryz.prog 11 #[.pointer (some ⟨t, 0, none⟩), .string k, .agg #[.string p, .int .u64 e, .int .u64 b, .int .u8 rk], .int .u64 n] w fun x w' => x = .returned (ansV 5 er 0 0 0 0 0 false) ∧ Ext w w' := by
  have br := (Blk.new w #[.string p, .int .u64 e, .int .u64 b, .int .u8 rk] 41).alloc (.cells (ansC 0 0 0 0 0 0 0 false) 44)
  go_enter Tryz.func11, Tryz.ntmps11
  go_wp2_with fail
  refine (key_Right k _ hk).mono ?_
  rw [H.out]
  rintro x w1 ⟨rfl, hx⟩
  have br1 := br.ext hx
  have hcr := br1.cell
  go_wp2_with fail
  refine (rule_Right p e b rk _ hp he0 he1 hb0 hb1).mono ?_
  rw [HR.out]
  rintro x w2 ⟨rfl, hx2⟩
  have bz := ((Blk.new' (w.alloc (.cells #[.string p, .int .u64 e, .int .u64 b, .int .u8 rk] 41)) (ansC 0 0 0 0 0 0 0 false) 44 (b := w.heap.size + 1) (by simp)).ext hx).ext hx2
  have hxw := ((((Ext.refl w).alloc (.cells #[.string p, .int .u64 e, .int .u64 b, .int .u8 rk] 41)).alloc (.cells (ansC 0 0 0 0 0 0 0 false) 44)).trans hx).trans hx2
  simp only [ansC] at bz
  clear hcr
  have hfz := bz.free
  have hcz := bz.cell
  go_wp2
  have hS := bz.set10 (.int .u8 5) (.int .u16 er) (.int .u64 0) (.int .u64 0) (.int .u64 0) (.int .u64 0) (.int .u64 0) (.bool false) (.int .i64 0) (.slice none 0 0)
  refine ret_cell Tryz.results11 rfl hS Tryz.underlying44 rfl (by kernel_rfl) ⟨rfl, ?_⟩
  exact hxw.new10 (by omega) _ _ _ _ _ _ _ _ _ _ 
end Go.Proofs.YtnlmbmbalmkiiaaGreat
