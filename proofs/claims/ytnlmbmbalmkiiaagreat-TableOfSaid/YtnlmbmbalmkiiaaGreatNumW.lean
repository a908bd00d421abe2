/- Walks: num.Add, Sub, Fits, Div, Ceil; wide.Add, Less. -/
import Derived.Test.YtnlmbmbalmkiiaaGreatNum
import Derived.Test.YtnlmbmbalmkiiaaGreatKPlain
namespace Go.Proofs.YtnlmbmbalmkiiaaGreat
open Go.RowKit
set_option linter.unusedVariables false
set_option linter.unusedSimpArgs false

theorem num_Sub (a b : Int) (w : World) (ha0 : 0 ≤ a) (ha1 : a < 18446744073709551616) (hb0 : 0 ≤ b) (hb1 : b < 18446744073709551616) :
    Calls Tryz.prog 80 #[.int .u64 a, .int .u64 b] w fun e w' => e = .returned (.int .u64 (satSub a b)) ∧ w = w' := by
  go_enter Tryz.func80, Tryz.ntmps80
  go_wp2
  all_goals
    go_ret
    exact ⟨ret_int (by unfold satSub; split <;> omega), rfl⟩

theorem wide_Less0 (c l : Int) (w : World) (hc0 : 0 ≤ c) (hc1 : c < 18446744073709551616) (hl0 : 0 ≤ l) (hl1 : l < 18446744073709551616) :
    Calls Tryz.prog 119 #[.int .u64 0, .int .u64 c, .int .u64 0, .int .u64 l] w fun e w' => e = .returned (.bool (decide (c < l))) ∧ w = w' := by
  go_enter Tryz.func119, Tryz.ntmps119
  go_wp2
  all_goals
    go_ret
    exact ⟨ret_bool (by simp; try omega), rfl⟩
theorem wide_Less1 (c l : Int) (w : World) (hc0 : 0 ≤ c) (hc1 : c < 18446744073709551616) (hl0 : 0 ≤ l) (hl1 : l < 18446744073709551616) :
    Calls Tryz.prog 119 #[.int .u64 0, .int .u64 c, .int .u64 1, .int .u64 l] w fun e w' => e = .returned (.bool true) ∧ w = w' := by
  go_enter Tryz.func119, Tryz.ntmps119
  go_wp2
  all_goals
    go_ret
    exact ⟨ret_bool (by simp; try omega), rfl⟩
theorem wide_Add0 (a b : Int) (w : World) (ha0 : 0 ≤ a) (ha1 : a < 18446744073709551616) (hb0 : 0 ≤ b) (hb1 : b < 18446744073709551616) (h : a + b < 18446744073709551616) :
    Calls Tryz.prog 118 #[.int .u64 0, .int .u64 a, .int .u64 0, .int .u64 b] w fun e w' => e = .returned (.tuple #[.int .u64 0, .int .u64 (a + b), .bool false]) ∧ w = w' := by
  have h1 : a ≤ a + b := by omega
  have h2 : ¬ a + b < a := by omega
  go_enter Tryz.func118, Tryz.ntmps118
  go_wp2
  go_ret3
  exact ⟨rfl, rfl⟩
theorem wide_Add1 (a b : Int) (w : World) (ha0 : 0 ≤ a) (ha1 : a < 18446744073709551616) (hb0 : 0 ≤ b) (hb1 : b < 18446744073709551616) (h : ¬ a + b < 18446744073709551616) :
    Calls Tryz.prog 118 #[.int .u64 0, .int .u64 a, .int .u64 0, .int .u64 b] w fun e w' => e = .returned (.tuple #[.int .u64 1, .int .u64 (a + b - 18446744073709551616), .bool false]) ∧ w = w' := by
  have H1 := Lib.hid (show IntKind.u64.wrap (a + b) = a + b - 18446744073709551616 by rw [wrap_u64]; omega)
  have h2 : IntKind.u64.wrap (a + b) < a := by rw [wrap_u64]; omega
  clear h
  go_enter Tryz.func118, Tryz.ntmps118
  go_wp2
  go_ret3
  exact ⟨ret_3 rfl (val_int H1.out) rfl, rfl⟩
theorem num_Fits (a b c : Int) (w : World) (ha0 : 0 ≤ a) (ha1 : a < 18446744073709551616) (hb0 : 0 ≤ b) (hb1 : b < 18446744073709551616) (hc0 : 0 ≤ c) (hc1 : c < 18446744073709551616) :
    Calls Tryz.prog 76 #[.int .u64 a, .int .u64 b, .int .u64 c] w fun e w' => e = .returned (.bool (fitsB a b c)) ∧ w = w' := by
  by_cases h : a + b < 18446744073709551616
  · go_enter Tryz.func76, Tryz.ntmps76
    go_wp2_with (first
      | (go_at_call 118; refine (wide_Add0 _ _ _ ha0 ha1 hb0 hb1 h).mono ?_; rintro e w' ⟨rfl, rfl⟩)
      | (go_at_call 119; refine (wide_Less0 _ _ _ hc0 hc1 (by omega) h).mono ?_; rintro e w' ⟨rfl, rfl⟩))
    go_ret
    exact ⟨ret_bool (by unfold fitsB; by_cases h3 : a + b ≤ c
                        · simp [h3]
                        · simp [h3]; omega), rfl⟩
  · have H := Lib.hid (show fitsB a b c = false by simp [fitsB]; omega)
    have h1 : 0 ≤ a + b - 18446744073709551616 := by omega
    have h2 : a + b - 18446744073709551616 < 18446744073709551616 := by omega
    go_enter Tryz.func76, Tryz.ntmps76
    go_wp2_with (first
      | (go_at_call 118; refine (wide_Add1 _ _ _ ha0 ha1 hb0 hb1 h).mono ?_; rintro e w' ⟨rfl, rfl⟩)
      | (go_at_call 119; refine (wide_Less1 _ _ _ hc0 hc1 h1 h2).mono ?_; rintro e w' ⟨rfl, rfl⟩))
    go_ret
    exact ⟨ret_bool H.out.symm, rfl⟩

set_option maxHeartbeats 400000 in
theorem num_Add (B : Nat) (a b : Int) (w : World) (ha0 : 0 ≤ a) (ha1 : a < 18446744073709551616) (hb0 : 0 ≤ b) (hb1 : b < 18446744073709551616)
    (c0 : w.cell? ⟨B, 0, none⟩ = some (.int .u64 a)) (c1 : w.cell? ⟨B, 1, none⟩ = some (.int .u64 b)) :
    Calls Tryz.prog 98 #[.slice (some ⟨B, 0, none⟩) 2 2] w fun e w' => e = .returned (.int .u64 (satAdd a b)) ∧ w = w' := by
  by_cases h : a + b < 18446744073709551616
  · have H := Lib.hid (satAdd_lt h)
    have h1 : ¬ a < a := by omega
    have h2 : ¬ a + b < b := by omega
    go_enter Tryz.func98, Tryz.ntmps98
    go_wp2
    refine wp_loop_rounds 3 ?_
    rw [rounds_succ]
    go_wp2
    rw [rounds_succ]
    go_wp2
    rw [rounds_succ]
    go_wp2
    go_ret
    exact ⟨ret_int (by rw [H.out]), rfl⟩
  · have H := Lib.hid (satAdd_ge h)
    have h1 : ¬ a < a := by omega
    have h2 : IntKind.u64.wrap (a + b) < b := by rw [wrap_u64]; omega
    clear h
    go_enter Tryz.func98, Tryz.ntmps98
    go_wp2
    refine wp_loop_rounds 3 ?_
    rw [rounds_succ]
    go_wp2
    rw [rounds_succ]
    go_wp2
    go_ret
    exact ⟨ret_int (by rw [H.out]), rfl⟩

theorem num_Div1 (a b : Int) (w : World) (ha0 : 0 ≤ a) (ha1 : a < 18446744073709551616) (hb0 : 0 < b) (hb1 : b < 18446744073709551616) :
    Calls Tryz.prog 120 #[.int .u64 a, .int .u64 b] w fun e w' => e = .returned (.int .u64 (a / b)) ∧ w = w' := by
  have h1 : ¬ b = 0 := by omega
  have hq0 := Int.ediv_nonneg ha0 (Int.le_of_lt hb0)
  have hq1 := Int.ediv_le_self b ha0
  have hq2 : a / b < 18446744073709551616 := by omega
  go_enter Tryz.func120, Tryz.ntmps120
  go_wp2
  go_ret
  exact ⟨rfl, rfl⟩
theorem num_Ceil1 (a b : Int) (w : World) (ha0 : 0 ≤ a) (ha1 : a < 18446744073709551616) (hb0 : 0 < b) (hb1 : b < 18446744073709551616) :
    Calls Tryz.prog 77 #[.int .u64 a, .int .u64 b] w fun e w' => e = .returned (.int .u64 (ceilS a b)) ∧ w = w' := by
  have h1 : ¬ b = 0 := by omega
  have hc := ceilS_u a b ha0 ha1 (Int.le_of_lt hb0)
  have hq0 := Int.ediv_nonneg ha0 (Int.le_of_lt hb0)
  have hq1 := Int.ediv_le_self b ha0
  have hq2 : a / b < 18446744073709551616 := by omega
  have hm0 := Int.emod_nonneg a h1
  by_cases h : a % b = 0
  · have H := Lib.hid (show ceilS a b = a / b by simp [ceilS, h, h1])
    have h2 : (a % b == 0) = true := by simp [h]
    clear h hc
    go_enter Tryz.func77, Tryz.ntmps77
    go_wp2
    go_ret
    exact ⟨ret_int H.out.symm, rfl⟩
  · have e : ceilS a b = a / b + 1 := by simp [ceilS, h, h1]
    have hq3 : a / b + 1 < 18446744073709551616 := by omega
    have H := Lib.hid e
    have h2 : (a % b == 0) = false := by simp [h]
    clear h hc e
    go_enter Tryz.func77, Tryz.ntmps77
    go_wp2
    go_ret
    exact ⟨ret_int H.out.symm, rfl⟩
theorem num_over0 (a : Int) (f : Value) (m : Int) (w : World) :
    Calls Tryz.prog 78 #[.int .u64 a, .int .u64 0, f, .int .u64 m] w fun e w' => e = .returned (.int .u64 m) ∧ w = w' := by
  go_enter Tryz.func78, Tryz.ntmps78
  go_wp2
  go_ret
  exact ⟨rfl, rfl⟩
theorem num_over_Div (a b : Int) (m : Int) (w : World) (ha0 : 0 ≤ a) (ha1 : a < 18446744073709551616) (hb0 : 0 < b) (hb1 : b < 18446744073709551616) :
    Calls Tryz.prog 78 #[.int .u64 a, .int .u64 b, .func (.func 120) #[] #[], .int .u64 m] w fun e w' => e = .returned (.int .u64 (a / b)) ∧ w = w' := by
  have h1 : (b == 0) = false := by simp; omega
  go_enter Tryz.func78, Tryz.ntmps78
  go_wp2_with (go_at_call 120; refine (num_Div1 a b _ ha0 ha1 hb0 hb1).mono ?_; rintro e w' ⟨rfl, rfl⟩)
  go_ret
  exact ⟨rfl, rfl⟩
theorem num_over_Ceil (a b : Int) (m : Int) (w : World) (ha0 : 0 ≤ a) (ha1 : a < 18446744073709551616) (hb0 : 0 < b) (hb1 : b < 18446744073709551616) :
    Calls Tryz.prog 78 #[.int .u64 a, .int .u64 b, .func (.func 77) #[] #[], .int .u64 m] w fun e w' => e = .returned (.int .u64 (ceilS a b)) ∧ w = w' := by
  have h1 : (b == 0) = false := by simp; omega
  go_enter Tryz.func78, Tryz.ntmps78
  go_wp2_with (go_at_call 77; refine (num_Ceil1 a b _ ha0 ha1 hb0 hb1).mono ?_; rintro e w' ⟨rfl, rfl⟩)
  go_ret
  exact ⟨rfl, rfl⟩
theorem num_Div (a b : Int) (w : World) (ha0 : 0 ≤ a) (ha1 : a < 18446744073709551616) (hb0 : 0 ≤ b) (hb1 : b < 18446744073709551616) :
    Calls Tryz.prog 79 #[.int .u64 a, .int .u64 b] w fun e w' => e = .returned (.int .u64 (divS a b)) ∧ w = w' := by
  by_cases h : b = 0
  · subst h
    have H := Lib.hid (show divS a 0 = 18446744073709551615 from if_pos rfl)
    go_enter Tryz.func79, Tryz.ntmps79
    go_wp2_with fail
    refine (num_over0 a (.func (.func 120) #[] #[]) _ _).mono ?_
    rintro e w' ⟨rfl, rfl⟩
    go_wp2
    go_ret
    exact ⟨ret_int H.out.symm, rfl⟩
  · have hb : 0 < b := by omega
    go_enter Tryz.func79, Tryz.ntmps79
    go_wp2_with fail
    refine (num_over_Div a b _ _ ha0 ha1 hb hb1).mono ?_
    rintro e w' ⟨rfl, rfl⟩
    go_wp2
    go_ret
    exact ⟨ret_int (by rw [show divS a b = a / b from if_neg h]), rfl⟩
theorem num_Ceil (a b : Int) (w : World) (ha0 : 0 ≤ a) (ha1 : a < 18446744073709551616) (hb0 : 0 ≤ b) (hb1 : b < 18446744073709551616) :
    Calls Tryz.prog 35 #[.int .u64 a, .int .u64 b] w fun e w' => e = .returned (.int .u64 (ceilS a b)) ∧ w = w' := by
  by_cases h : b = 0
  · subst h
    have H := Lib.hid (show ceilS a 0 = 18446744073709551615 from if_pos rfl)
    go_enter Tryz.func35, Tryz.ntmps35
    go_wp2_with fail
    refine (num_over0 a (.func (.func 77) #[] #[]) _ _).mono ?_
    rintro e w' ⟨rfl, rfl⟩
    go_wp2
    go_ret
    exact ⟨ret_int H.out.symm, rfl⟩
  · have hb : 0 < b := by omega
    go_enter Tryz.func35, Tryz.ntmps35
    go_wp2_with fail
    refine (num_over_Ceil a b _ _ ha0 ha1 hb hb1).mono ?_
    rintro e w' ⟨rfl, rfl⟩
    go_wp2
    go_ret
    exact ⟨rfl, rfl⟩
end Go.Proofs.YtnlmbmbalmkiiaaGreat
