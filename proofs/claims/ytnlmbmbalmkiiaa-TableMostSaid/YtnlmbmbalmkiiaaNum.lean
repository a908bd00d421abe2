/- Walks: packages wide and num; the references 01 and 02. -/
import Derived.Test.YtnlmbmbalmkiiaaProg
import Derived.Test.YtnlmbmbalmkiiaaBase
namespace Go.Proofs.Ytnlmbmbalmkiiaa
open Go.RowKit
set_option linter.unusedVariables false
set_option linter.unusedSimpArgs false

theorem wide_parts (n : Int) (w : World) :
    Calls Try.prog 81 #[.int .u64 n] w fun e w' => e = .returned (.agg #[.int .u64 (bits BinOp.and IntKind.u64 n 4294967295), .int .u64 (n / 4294967296)]) ∧ Ext w w' := by
  go_enter Try.func81, Try.ntmps81
  go_wp2
  exact bodyPost_ret (v := .agg #[.int .u64 (bits BinOp.and IntKind.u64 n 4294967295), .int .u64 (n / 4294967296)]) (by simp [results, Try.results81, go_sem]) rfl ⟨rfl, (by repeat (first | with_reducible exact Ext.refl _ | with_reducible assumption | with_reducible refine Ext.alloc ?_ _ | with_reducible refine Ext.drew ?_ | with_reducible refine Ext.trans ?_ (by with_reducible assumption)))⟩

set_option maxHeartbeats 400000 in
theorem wide_Mul (a b : Int) (w : World) (ha0 : 0 ≤ a) (ha1 : a < 18446744073709551616) (hb0 : 0 ≤ b) (hb1 : b < 18446744073709551616)  :
    Calls Try.prog 54 #[.int .u64 a, .int .u64 b] w fun e w' => e = .returned (.tuple #[.int .u64 (a * b / 18446744073709551616), .int .u64 (a * b % 18446744073709551616)]) ∧ Ext w w' := by
  obtain ⟨h1, h2⟩ := mul_halves a b ha0 ha1 hb0 hb1
  have H1 := Lib.hid h1
  have H2 := Lib.hid h2
  clear h1 h2
  go_enter Try.func54, Try.ntmps54
  go_wp2_with (go_at_call 81; refine (wide_parts _ _).mono ?_; rintro e w' ⟨rfl, hb⟩)
  rw [H1.out, H2.out]
  go_ret2
  exact ⟨rfl, (by repeat (first | with_reducible exact Ext.refl _ | with_reducible assumption | with_reducible refine Ext.alloc ?_ _ | with_reducible refine Ext.drew ?_ | with_reducible refine Ext.trans ?_ (by with_reducible assumption)))⟩

/-- the product, or the end -/
def satMul (a b : Int) : Int := if a * b < 18446744073709551616 then a * b else 18446744073709551615
theorem satMul_lt {a b : Int} (h : a * b < 18446744073709551616) : satMul a b = a * b := if_pos h
theorem satMul_ge {a b : Int} (h : ¬ a * b < 18446744073709551616) : satMul a b = 18446744073709551615 := if_neg h

theorem num_Mul (a b : Int) (w : World) (ha0 : 0 ≤ a) (ha1 : a < 18446744073709551616) (hb0 : 0 ≤ b) (hb1 : b < 18446744073709551616)  :
    Calls Try.prog 32 #[.int .u64 a, .int .u64 b] w fun e w' => e = .returned (.int .u64 (satMul a b)) ∧ Ext w w' := by
  have hp : 0 ≤ a * b := Int.mul_nonneg ha0 hb0
  by_cases h : a * b < 18446744073709551616
  · have h1 : (a * b / 18446744073709551616 != 0) = false := by rw [bne_eq_false_iff_eq]; omega
    have h2 := Lib.hid (show a * b % 18446744073709551616 = a * b by omega)
    have h3 := Lib.hid h
    clear h
    go_enter Try.func32, Try.ntmps32
    go_wp2_with (go_at_call 54; refine (wide_Mul _ _ _ ha0 ha1 hb0 hb1).mono ?_; rintro e w' ⟨rfl, hb⟩)
    go_ret
    exact ⟨ret_int (by rw [satMul_lt h3.out, h2.out]), (by repeat (first | with_reducible exact Ext.refl _ | with_reducible assumption | with_reducible refine Ext.alloc ?_ _ | with_reducible refine Ext.drew ?_ | with_reducible refine Ext.trans ?_ (by with_reducible assumption)))⟩
  · have h1 : (a * b / 18446744073709551616 != 0) = true := by rw [bne_iff_ne]; omega
    have h3 := Lib.hid h
    clear h
    go_enter Try.func32, Try.ntmps32
    go_wp2_with (go_at_call 54; refine (wide_Mul _ _ _ ha0 ha1 hb0 hb1).mono ?_; rintro e w' ⟨rfl, hb⟩)
    go_ret
    exact ⟨ret_int (by rw [satMul_ge (Int.not_lt.2 h3.out)]), (by repeat (first | with_reducible exact Ext.refl _ | with_reducible assumption | with_reducible refine Ext.alloc ?_ _ | with_reducible refine Ext.drew ?_ | with_reducible refine Ext.trans ?_ (by with_reducible assumption)))⟩

end Go.Proofs.Ytnlmbmbalmkiiaa
