/- The walk of tollerlaw11.RuleNames. -/
import Derived.Test.YtphbhinobdkidaaLaw11
namespace Go.Proofs.Ytphbhinobdkidaa
open Go.RowKit
set_option linter.unusedVariables false
set_option linter.unusedSimpArgs false

theorem kind_name_yes (k : Int) (h : 1 ≤ k ∧ k ≤ 3) : kindOf (nameOf k) = k ∧ (nameOf k).toList.isEmpty = false ∧ ¬ (nameOf k).toList = [] := by
  rcases (by omega : k = 1 ∨ k = 2 ∨ k = 3) with rfl | rfl | rfl
  · exact ⟨by kernel_rfl, by rw [isEmpty_iff]; decide, by rw [toList_nil_iff]; decide⟩
  · exact ⟨by kernel_rfl, by rw [isEmpty_iff]; decide, by rw [toList_nil_iff]; decide⟩
  · exact ⟨by kernel_rfl, by rw [isEmpty_iff]; decide, by rw [toList_nil_iff]; decide⟩
theorem kind_name_no (k : Int) (h : ¬ (1 ≤ k ∧ k ≤ 3)) : kindOf (nameOf k) = 0 ∧ (nameOf k).toList.isEmpty = true ∧ (nameOf k).toList = [] := by
  have e : nameOf k = ⟨#[]⟩ := by
    unfold nameOf
    rw [if_neg (by omega), if_neg (by omega), if_neg (by omega)]
  rw [e]
  exact ⟨by kernel_rfl, by rw [isEmpty_iff]; decide, by rw [toList_nil_iff]; decide⟩
theorem bytes_of_toList {a b : ByteArray} (h : (a.toList == b.toList) = true) : a = b := by
  have h' : a.toList = b.toList := by simpa using h
  rw [ByteArray.toList_eq, ByteArray.toList_eq] at h'
  have := Array.toList_inj.1 h'
  cases a; cases b; simp_all
theorem kindOf_cases (s : ByteArray) : (kindOf s = 0 ∧ s ≠ nmG ∧ s ≠ nmB ∧ s ≠ nmL) ∨ (kindOf s = 1 ∧ s = nmG) ∨ (kindOf s = 2 ∧ s = nmB) ∨ (kindOf s = 3 ∧ s = nmL) := by
  unfold kindOf
  simp only [sIdx]
  by_cases h1 : (s.toList == nmG.toList) = true
  · right; left; exact ⟨by simp [h1], bytes_of_toList h1⟩
  by_cases h2 : (s.toList == nmB.toList) = true
  · right; right; left; exact ⟨by simp [h1, h2], bytes_of_toList h2⟩
  by_cases h3 : (s.toList == nmL.toList) = true
  · right; right; right; exact ⟨by simp [h1, h2, h3], bytes_of_toList h3⟩
  left
  refine ⟨by simp [h1, h2, h3], ?_, ?_, ?_⟩
  · intro e; subst e; simp at h1
  · intro e; subst e; simp at h2
  · intro e; subst e; simp at h3
theorem name_kind (s : ByteArray) (h : 0 < kindOf s) : ((nameOf (kindOf s)).toList == s.toList) = true := by
  rcases kindOf_cases s with ⟨h0, -⟩ | ⟨h1, rfl⟩ | ⟨h1, rfl⟩ | ⟨h1, rfl⟩
  · omega
  · rw [h1]; simp [nameOf]
  · rw [h1]; simp [nameOf]
  · rw [h1]; simp [nameOf]

set_option maxHeartbeats 1000000 in
set_option maxRecDepth 100000 in
theorem names_walk (k : Int) (s : ByteArray) (w : World) (h0 : 0 ≤ k) (h1 : k < 256) :
    Calls Try.prog 4 #[.int .u8 k, .string s] w fun x w' => x = .returned (.bool true) ∧ Ext w w' := by
  by_cases hs : 100 < s.size
  · have hs' : (100 : Int) < s.size := by omega
    go_enter Try.func4, Try.ntmps4
    go_wp2_with (go_at_call 11; refine (law11_known _).mono ?_; rintro x w' ⟨rfl, hx⟩)
    go_ret
    exact ⟨rfl, (by repeat (first | with_reducible exact Ext.refl _ | with_reducible assumption | with_reducible refine Ext.alloc ?_ _ | with_reducible refine Ext.drew ?_ | with_reducible refine Ext.trans ?_ (by with_reducible assumption)))⟩
  have hs' : ¬ (100 : Int) < s.size := by omega
  have hK := kindOf_cases s
  have hN := name_kind s
  have hk0 : 0 ≤ kindOf s ∧ kindOf s ≤ 3 := by omega
  generalize hK2 : kindOf s = K2 at *
  have HK2 := Lib.hid hK2
  have HN := Lib.hid hN
  clear hK hK2 hs hN
  obtain ⟨hk0, hk3⟩ := hk0
  by_cases hin : 1 ≤ k ∧ k ≤ 3
  · obtain ⟨e1, e2, e3⟩ := kind_name_yes k hin
    obtain ⟨hin1, hin2⟩ := hin
    generalize hN1 : nameOf k = N1 at *
    have HN1 := Lib.hid hN1
    have HK1 := Lib.hid e1
    clear e1 hN1
    have hkp : 0 < k := by omega
    by_cases hare : 0 < K2
    · have hn2 := HN.out hare
      generalize hN2 : nameOf K2 = N2 at *
      have HN2 := Lib.hid hN2
      clear hN2
      go_enter Try.func4, Try.ntmps4
      go_wp2_with fail
      refine (rule_Name _ _).mono ?_
      rw [HN1.out]
      rintro x w1 ⟨rfl, hx1⟩
      go_wp2_with fail
      refine (rule_Kind _ _).mono ?_
      rw [HK1.out]
      rintro x w2 ⟨rfl, hx2⟩
      go_wp2_with fail
      refine (rule_Kind _ _).mono ?_
      rw [HK2.out]
      rintro x w3 ⟨rfl, hx3⟩
      go_wp2_with fail
      refine (law11_known _).mono ?_
      rintro x w4 ⟨rfl, hx4⟩
      go_wp2_with fail
      refine (rule_Name _ _).mono ?_
      rw [HN1.out]
      rintro x w5 ⟨rfl, hx5⟩
      go_wp2_with fail
      refine (rule_Name _ _).mono ?_
      rw [HN2.out]
      rintro x w6 ⟨rfl, hx6⟩
      go_wp2
      go_ret
      exact ⟨rfl, (by repeat (first | with_reducible exact Ext.refl _ | with_reducible assumption | with_reducible refine Ext.alloc ?_ _ | with_reducible refine Ext.drew ?_ | with_reducible refine Ext.trans ?_ (by with_reducible assumption)))⟩
    · have hz : (K2 == 0) = true := by rw [beq_iff_eq]; omega
      go_enter Try.func4, Try.ntmps4
      go_wp2_with fail
      refine (rule_Name _ _).mono ?_
      rw [HN1.out]
      rintro x w1 ⟨rfl, hx1⟩
      go_wp2_with fail
      refine (rule_Kind _ _).mono ?_
      rw [HK1.out]
      rintro x w2 ⟨rfl, hx2⟩
      go_wp2_with fail
      refine (rule_Kind _ _).mono ?_
      rw [HK2.out]
      rintro x w3 ⟨rfl, hx3⟩
      go_wp2_with fail
      refine (law11_known _).mono ?_
      rintro x w4 ⟨rfl, hx4⟩
      go_wp2_with fail
      refine (rule_Name _ _).mono ?_
      rw [HN1.out]
      rintro x w5 ⟨rfl, hx5⟩
      go_wp2
      go_ret
      exact ⟨rfl, (by repeat (first | with_reducible exact Ext.refl _ | with_reducible assumption | with_reducible refine Ext.alloc ?_ _ | with_reducible refine Ext.drew ?_ | with_reducible refine Ext.trans ?_ (by with_reducible assumption)))⟩
  · obtain ⟨e1, e2, e3⟩ := kind_name_no k hin
    have hinB : ¬ 1 ≤ k ∨ (1 ≤ k ∧ ¬ k ≤ 3) := by omega
    generalize hN1 : nameOf k = N1 at *
    have HN1 := Lib.hid hN1
    have HK1 := Lib.hid e1
    clear e1 hN1 hin
    rcases hinB with hin1 | ⟨hin1, hin2⟩
    all_goals
      by_cases hare : 0 < K2
      · have hn2 := HN.out hare
        generalize hN2 : nameOf K2 = N2 at *
        have HN2 := Lib.hid hN2
        clear hN2
        go_enter Try.func4, Try.ntmps4
        go_wp2_with fail
        refine (rule_Name _ _).mono ?_
        rw [HN1.out]
        rintro x w1 ⟨rfl, hx1⟩
        go_wp2_with fail
        refine (rule_Kind _ _).mono ?_
        rw [HK1.out]
        rintro x w2 ⟨rfl, hx2⟩
        go_wp2_with fail
        refine (rule_Kind _ _).mono ?_
        rw [HK2.out]
        rintro x w3 ⟨rfl, hx3⟩
        go_wp2_with fail
        refine (law11_known _).mono ?_
        rintro x w4 ⟨rfl, hx4⟩
        go_wp2_with fail
        refine (rule_Name _ _).mono ?_
        rw [HN1.out]
        rintro x w5 ⟨rfl, hx5⟩
        go_wp2_with fail
        refine (rule_Name _ _).mono ?_
        rw [HN2.out]
        rintro x w6 ⟨rfl, hx6⟩
        go_wp2
        go_ret
        exact ⟨rfl, (by repeat (first | with_reducible exact Ext.refl _ | with_reducible assumption | with_reducible refine Ext.alloc ?_ _ | with_reducible refine Ext.drew ?_ | with_reducible refine Ext.trans ?_ (by with_reducible assumption)))⟩
      · have hz : (K2 == 0) = true := by rw [beq_iff_eq]; omega
        go_enter Try.func4, Try.ntmps4
        go_wp2_with fail
        refine (rule_Name _ _).mono ?_
        rw [HN1.out]
        rintro x w1 ⟨rfl, hx1⟩
        go_wp2_with fail
        refine (rule_Kind _ _).mono ?_
        rw [HK1.out]
        rintro x w2 ⟨rfl, hx2⟩
        go_wp2_with fail
        refine (rule_Kind _ _).mono ?_
        rw [HK2.out]
        rintro x w3 ⟨rfl, hx3⟩
        go_wp2_with fail
        refine (law11_known _).mono ?_
        rintro x w4 ⟨rfl, hx4⟩
        go_wp2_with fail
        refine (rule_Name _ _).mono ?_
        rw [HN1.out]
        rintro x w5 ⟨rfl, hx5⟩
        go_wp2
        go_ret
        exact ⟨rfl, (by repeat (first | with_reducible exact Ext.refl _ | with_reducible assumption | with_reducible refine Ext.alloc ?_ _ | with_reducible refine Ext.drew ?_ | with_reducible refine Ext.trans ?_ (by with_reducible assumption)))⟩

end Go.Proofs.Ytphbhinobdkidaa
