/- Walks: tollerlaw11.asks. -/
import Derived.Test.YtphbhinobdkidaaStrs
import Derived.Deep.RegionHeld3
namespace Go.Proofs.Ytphbhinobdkidaa
open Go.RowKit
set_option linter.unusedVariables false
set_option linter.unusedSimpArgs false

set_option maxHeartbeats 8000000 in
set_option maxRecDepth 100000 in
theorem law11_asks (p : ByteArray) (e b k : Int) (w : World) (hm : p.size ≤ maxLen) (he0 : 0 ≤ e) (he1 : e < 18446744073709551616) (hb0 : 0 ≤ b) (hb1 : b < 18446744073709551616) :
    Calls Try.prog 20 #[.agg #[.string p, .int .u64 e, .int .u64 b, .int .u8 k]] w fun x w' => x = .returned (.bool true) ∧ Ext w w' := by
  generalize hE : ruleErr p e b k = E
  generalize hC : ruleCap p e b k = C
  generalize hL : printWords p e b k = L
  have HE := Lib.hid hE
  have HC := Lib.hid hC
  have HL := Lib.hid hL
  have hEc : E = 0 ∨ E = 23 ∨ E = 24 ∨ E = 25 ∨ E = 26 ∨ E = 27 := by
    rw [← hE]; unfold ruleErr; repeat' split
    all_goals omega
  clear hE hC hL
  rcases hEc with rfl | rfl | rfl | rfl | rfl | rfl
  all_goals
  go_enter Try.func20, Try.ntmps20
  go_wp2_with fail
  generalize hw0 : w.alloc (Obj.cells #[.string p, .int .u64 e, .int .u64 b, .int .u8 k] 25) = w0
  have hx0 : Ext w w0 := by rw [← hw0]; exact (Ext.refl _).alloc _
  have B : Blk w0 w.heap.size #[.string p, .int .u64 e, .int .u64 b, .int .u8 k] 25 := by rw [← hw0]; exact Blk.new _ _ _
  have q0 : w0.cell? ⟨w.heap.size, 0, none⟩ = some (.string p) := B.cell 0
  have q1 : w0.cell? ⟨w.heap.size, 1, none⟩ = some (.int .u64 e) := B.cell 1
  have q2 : w0.cell? ⟨w.heap.size, 2, none⟩ = some (.int .u64 b) := B.cell 2
  have q3 : w0.cell? ⟨w.heap.size, 3, none⟩ = some (.int .u8 k) := B.cell 3
  clear hw0 B
  go_region_held3 (fun w' => w'.cell? ⟨w.heap.size, 0, none⟩ = some (.string p) ∧ w'.cell? ⟨w.heap.size, 1, none⟩ = some (.int .u64 e) ∧ w'.cell? ⟨w.heap.size, 2, none⟩ = some (.int .u64 b) ∧ w'.cell? ⟨w.heap.size, 3, none⟩ = some (.int .u8 k) ∧ Ext w0 w')
    (first
      | exact ⟨q0, q1, q2, q3, (Ext.refl _).drew⟩
      | ((try go_split_ands); refine ⟨Ext.keep hx ?_, Ext.keep hx ?_, Ext.keep hx ?_, Ext.keep hx ?_, Ext.trans ?_ hx⟩ <;> first | with_reducible assumption | exact q0 | exact q1 | exact q2 | exact q3 | exact (Ext.refl _).drew))
    (first
      | (go_at_call 12; with_reducible refine (rule_Right p e b k _ hm he0 he1 hb0 hb1).mono ?_; rw [HE.out]; rintro x w' ⟨rfl, hx⟩)
      | (go_at_call 36; with_reducible refine (ref11_Right p e b k _ hm he0 he1 hb0 hb1).mono ?_; rw [HE.out]; rintro x w' ⟨rfl, hx⟩)
      | (go_at_call 10; with_reducible refine (rule_Cap p e b k _ hm he0 he1 hb0 hb1).mono ?_; rw [HC.out]; rintro x w' ⟨rfl, hx⟩)
      | (go_at_call 37; with_reducible refine (ref11_Cap p e b k _ hm he0 he1 hb0 hb1).mono ?_; rw [HC.out]; rintro x w' ⟨rfl, hx⟩)
      | (go_at_call 23; with_reducible refine (rule_Print p e b k _ hm he0 he1 hb0 hb1).mono ?_; rw [HL.out]; rintro x w' ⟨v8, rfl, hs8, -, hx⟩)
      | (go_at_call 18; with_reducible refine (ref11_Print p e b k _ hm he0 he1 hb0 hb1).mono ?_; rw [HL.out]; rintro x w' ⟨v9, rfl, hs9, -, hx⟩)
      | (go_at_call 24; with_reducible refine (ref11_Strings_yes v8 v9 L _ (hs8.ext hx) hs9).mono ?_; rintro x w' ⟨rfl, hx⟩))
  go_wp2
  go_split_ands
  go_ret
  exact ⟨rfl, hx0.trans (by assumption)⟩
end Go.Proofs.Ytphbhinobdkidaa
