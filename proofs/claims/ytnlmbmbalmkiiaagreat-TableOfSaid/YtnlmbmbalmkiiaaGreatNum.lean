/- Walks: packages wide and num; the references 01 and 02. -/
import Derived.Test.YtnlmbmbalmkiiaaGreatProg
import Derived.Test.YtnlmbmbalmkiiaaGreatBase
namespace Go.Proofs.YtnlmbmbalmkiiaaGreat
open Go.RowKit
set_option linter.unusedVariables false
set_option linter.unusedSimpArgs false

theorem wide_parts (n : Int) (w : World) :
    Calls Tryz.prog 117 #[.int .u64 n] w fun e w' => e = .returned (.agg #[.int .u64 (bits BinOp.and IntKind.u64 n 4294967295), .int .u64 (n / 4294967296)]) ∧ Ext w w' := by
  go_enter Tryz.func117, Tryz.ntmps117
  go_wp2
  exact bodyPost_ret (v := .agg #[.int .u64 (bits BinOp.and IntKind.u64 n 4294967295), .int .u64 (n / 4294967296)]) (by simp [results, Tryz.results117, go_sem]) rfl ⟨rfl, (by repeat (first | with_reducible exact Ext.refl _ | with_reducible assumption | with_reducible refine Ext.alloc ?_ _ | with_reducible refine Ext.drew ?_ | (with_reducible refine Ext.setCell ?_ (by first | exact Nat.le_refl _ | (dsimp only; omega) | (simp; done) | (simp; omega)) _) | with_reducible refine Ext.trans ?_ (by with_reducible assumption)))⟩

set_option maxHeartbeats 400000 in
theorem wide_Mul (a b : Int) (w : World) (ha0 : 0 ≤ a) (ha1 : a < 18446744073709551616) (hb0 : 0 ≤ b) (hb1 : b < 18446744073709551616)  :
    Calls Tryz.prog 75 #[.int .u64 a, .int .u64 b] w fun e w' => e = .returned (.tuple #[.int .u64 (a * b / 18446744073709551616), .int .u64 (a * b % 18446744073709551616)]) ∧ Ext w w' := by
  obtain ⟨h1, h2⟩ := mul_halves a b ha0 ha1 hb0 hb1
  have H1 := Lib.hid h1
  have H2 := Lib.hid h2
  clear h1 h2
  go_enter Tryz.func75, Tryz.ntmps75
  go_wp2_with (go_at_call 117; refine (wide_parts _ _).mono ?_; rintro e w' ⟨rfl, hb⟩)
  rw [H1.out, H2.out]
  go_ret2
  exact ⟨rfl, (by repeat (first | with_reducible exact Ext.refl _ | with_reducible assumption | with_reducible refine Ext.alloc ?_ _ | with_reducible refine Ext.drew ?_ | (with_reducible refine Ext.setCell ?_ (by first | exact Nat.le_refl _ | (dsimp only; omega) | (simp; done) | (simp; omega)) _) | with_reducible refine Ext.trans ?_ (by with_reducible assumption)))⟩

/-- the product, or the end -/
def satMul (a b : Int) : Int := if a * b < 18446744073709551616 then a * b else 18446744073709551615
theorem satMul_lt {a b : Int} (h : a * b < 18446744073709551616) : satMul a b = a * b := if_pos h
theorem satMul_ge {a b : Int} (h : ¬ a * b < 18446744073709551616) : satMul a b = 18446744073709551615 := if_neg h

theorem num_Mul (a b : Int) (w : World) (ha0 : 0 ≤ a) (ha1 : a < 18446744073709551616) (hb0 : 0 ≤ b) (hb1 : b < 18446744073709551616)  :
    Calls Tryz.prog 33 #[.int .u64 a, .int .u64 b] w fun e w' => e = .returned (.int .u64 (satMul a b)) ∧ Ext w w' := by
  have hp : 0 ≤ a * b := Int.mul_nonneg ha0 hb0
  by_cases h : a * b < 18446744073709551616
  · have h1 : (a * b / 18446744073709551616 != 0) = false := by rw [bne_eq_false_iff_eq]; omega
    have h2 := Lib.hid (show a * b % 18446744073709551616 = a * b by omega)
    have h3 := Lib.hid h
    clear h
    go_enter Tryz.func33, Tryz.ntmps33
    go_wp2_with (go_at_call 75; refine (wide_Mul _ _ _ ha0 ha1 hb0 hb1).mono ?_; rintro e w' ⟨rfl, hb⟩)
    go_ret
    exact ⟨ret_int (by rw [satMul_lt h3.out, h2.out]), (by repeat (first | with_reducible exact Ext.refl _ | with_reducible assumption | with_reducible refine Ext.alloc ?_ _ | with_reducible refine Ext.drew ?_ | (with_reducible refine Ext.setCell ?_ (by first | exact Nat.le_refl _ | (dsimp only; omega) | (simp; done) | (simp; omega)) _) | with_reducible refine Ext.trans ?_ (by with_reducible assumption)))⟩
  · have h1 : (a * b / 18446744073709551616 != 0) = true := by rw [bne_iff_ne]; omega
    have h3 := Lib.hid h
    clear h
    go_enter Tryz.func33, Tryz.ntmps33
    go_wp2_with (go_at_call 75; refine (wide_Mul _ _ _ ha0 ha1 hb0 hb1).mono ?_; rintro e w' ⟨rfl, hb⟩)
    go_ret
    exact ⟨ret_int (by rw [satMul_ge (Int.not_lt.2 h3.out)]), (by repeat (first | with_reducible exact Ext.refl _ | with_reducible assumption | with_reducible refine Ext.alloc ?_ _ | with_reducible refine Ext.drew ?_ | (with_reducible refine Ext.setCell ?_ (by first | exact Nat.le_refl _ | (dsimp only; omega) | (simp; done) | (simp; omega)) _) | with_reducible refine Ext.trans ?_ (by with_reducible assumption)))⟩

set_option maxHeartbeats 400000 in
theorem ref01_Mul (a b : Int) (w : World) (ha0 : 0 ≤ a) (ha1 : a < 18446744073709551616) (hb0 : 0 ≤ b) (hb1 : b < 18446744073709551616)  :
    Calls Tryz.prog 123 #[.int .u64 a, .int .u64 b] w fun e w' => e = .returned (.tuple #[.int .u64 (a * b / 18446744073709551616), .int .u64 (a * b % 18446744073709551616)]) ∧ w = w' := by
  go_enter Tryz.func123, Tryz.ntmps123
  go_wp2
  go_loop [6, 7, 8] (fun h l i => ∃ k : Nat, k ≤ 64 ∧ i = .int .i64 ((k : Int) - 1) ∧ ∃ hv lv, h = .int .u64 hv ∧ l = .int .u64 lv ∧ MulRel a b k hv lv) (fun _ _ i => (intOf i + 1).toNat)
  case atStart => exact ⟨64, by omega, by simp, 0, 0, rfl, rfl, mulRel_start a b hb0 hb1⟩
  case round =>
    obtain ⟨k, hk, rfl, hv, lv, rfl, rfl, R⟩ := hrel
    by_cases hlt : 1 ≤ k
    · go_wp2
      all_goals
        go_round
        case rel =>
          have hstep : ((k : Int) - 1 - 1) = ((k - 1 : Nat) : Int) - 1 := by omega
          refine ⟨k - 1, by omega, by rw [hstep], _, _, rfl, rfl, ?_⟩
          first
            | (have hbit : ((b / 2 ^ (k - 1)).tmod 2 == 1) = false := by with_reducible assumption
               with_reducible exact mulRel_zero ha0 ha1 hb0 hb1 hlt R hbit)
            | (have hbit : ((b / 2 ^ (k - 1)).tmod 2 == 1) = true := by with_reducible assumption
               have hc : IntKind.u64.wrap (IntKind.u64.wrap (lv * 2) + a) < IntKind.u64.wrap (lv * 2) := by with_reducible assumption
               with_reducible exact mulRel_carry ha0 ha1 hb0 hb1 hlt R hbit hc)
            | (have hbit : ((b / 2 ^ (k - 1)).tmod 2 == 1) = true := by with_reducible assumption
               have hc : IntKind.u64.wrap (lv * 2) ≤ IntKind.u64.wrap (IntKind.u64.wrap (lv * 2) + a) := by with_reducible assumption
               with_reducible exact mulRel_one ha0 ha1 hb0 hb1 hlt R hbit (Int.not_lt.2 hc))
        case measure => simp [intOf]; omega
    · go_wp2
      go_ret2
      obtain rfl : k = 0 := by omega
      obtain ⟨e1, e2⟩ := mulRel_end R
      exact ⟨ret_2 (val_int e1) (val_int e2), rfl⟩
theorem ref02_Mul (a b : Int) (w : World) (ha0 : 0 ≤ a) (ha1 : a < 18446744073709551616) (hb0 : 0 ≤ b) (hb1 : b < 18446744073709551616)  :
    Calls Tryz.prog 88 #[.int .u64 a, .int .u64 b] w fun e w' => e = .returned (.int .u64 (satMul a b)) ∧ w = w' := by
  have hp : 0 ≤ a * b := Int.mul_nonneg ha0 hb0
  by_cases h : a * b < 18446744073709551616
  · have h1 : ¬ 0 < a * b / 18446744073709551616 := by omega
    have h2 := Lib.hid (show a * b % 18446744073709551616 = a * b by omega)
    have h3 := Lib.hid h
    clear h
    go_enter Tryz.func88, Tryz.ntmps88
    go_wp2_with (go_at_call 123; refine (ref01_Mul _ _ _ ha0 ha1 hb0 hb1).mono ?_; rintro e w' ⟨rfl, rfl⟩)
    go_ret
    exact ⟨ret_int (by rw [satMul_lt h3.out, h2.out]), rfl⟩
  · have h1 : 0 < a * b / 18446744073709551616 := by omega
    have h3 := Lib.hid h
    clear h
    go_enter Tryz.func88, Tryz.ntmps88
    go_wp2_with (go_at_call 123; refine (ref01_Mul _ _ _ ha0 ha1 hb0 hb1).mono ?_; rintro e w' ⟨rfl, rfl⟩)
    go_ret
    exact ⟨ret_int (by rw [satMul_ge (Int.not_lt.2 h3.out)]), rfl⟩
end Go.Proofs.YtnlmbmbalmkiiaaGreat
