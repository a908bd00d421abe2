/- The walk of tollerlaw11.RuleEdge. -/
import Derived.Test.YtphbhinobdkidaaNames
import Derived.Test.YtphbhinobdkidaaDigBack
namespace Go.Proofs.Ytphbhinobdkidaa
open Go.RowKit
set_option linter.unusedVariables false
set_option linter.unusedSimpArgs false

theorem numErr_digits {n : Int} (h0 : 0 < n) (h1 : n < 18446744073709551616) (q : Int) : numErr (digStr n) q = 0 := by
  obtain ⟨e1, e2, -, -⟩ := dig_back n (by omega) h1
  unfold numErr
  rw [e1, e2, if_neg (by omega)]
theorem digNum_digits {n : Int} (h0 : 0 ≤ n) (h1 : n < 18446744073709551616) : digNum (digStr n) = n := (dig_back n h0 h1).2.1
theorem satMul_le {a b : Int} (h : a * b ≤ 4611686018427387904) : satMul a b = a * b := satMul_lt (by omega)
theorem capOk_yes {a b : Int} (h : a * b ≤ 4611686018427387904) : capOk a b = true := by
  unfold capOk; rw [satMul_le h]; simpa using h
theorem capOk_no {a b : Int} (h : 4611686018427387904 < a * b) : capOk a b = false := by
  unfold capOk satMul
  split <;> simp <;> omega
theorem burstErr_yes {a b : Int} (hb0 : 0 < b) (hb1 : b < 18446744073709551616) (h : a * b ≤ 4611686018427387904) : burstErr a (digStr b) = 0 := by
  unfold burstErr
  rw [numErr_digits hb0 hb1, digNum_digits (by omega) hb1, capOk_yes h, if_neg (by simp)]
theorem burstErr_no {a b : Int} (hb0 : 0 < b) (hb1 : b < 18446744073709551616) (h : 4611686018427387904 < a * b) : burstErr a (digStr b) = 26 := by
  unfold burstErr
  rw [numErr_digits hb0 hb1, digNum_digits (by omega) hb1, capOk_no h, if_pos (by simp)]
theorem kindErr_name {k : Int} (h : 1 ≤ k ∧ k ≤ 3) : kindErr (kindOf (nameOf k)) = 0 := by
  rw [(kind_name_yes k h).1]; unfold kindErr; rw [if_pos (by omega)]
theorem parse_default {a b k : Int} (ha0 : 0 < a) (ha1 : a < 18446744073709551616) (hb0 : 0 < b) (hb1 : b < 18446744073709551616) (h : a * b ≤ 4611686018427387904) (hk : 1 ≤ k ∧ k ≤ 3) :
    ruleParse [wDef, digStr a, digStr b, nameOf k] = ⟨⟨#[]⟩, a, b, k, 0, 0⟩ := by
  rw [ruleParse_def]
  show parse3 _ _ _ = _
  unfold parse3
  rw [numErr_digits ha0 ha1, digNum_digits (by omega) ha1, burstErr_yes hb0 hb1 h, kindErr_name hk, digNum_digits (by omega) hb1, (kind_name_yes k hk).1]
  simp
theorem parse_default_cap {a b k : Int} (ha0 : 0 < a) (ha1 : a < 18446744073709551616) (hb0 : 0 < b) (hb1 : b < 18446744073709551616) (h : 4611686018427387904 < a * b) (hk : 1 ≤ k ∧ k ≤ 3) :
    ruleParse [wDef, digStr a, digStr b, nameOf k] = pbad 26 2 := by
  rw [ruleParse_def]
  show parse3 _ _ _ = _
  unfold parse3
  rw [numErr_digits ha0 ha1, digNum_digits (by omega) ha1, burstErr_no hb0 hb1 h]
  simp
theorem ruleCap_yes {a b k : Int} (ha0 : 0 < a) (hb0 : 0 < b) (h : a * b ≤ 4611686018427387904) (hk : 1 ≤ k ∧ k ≤ 3) : ruleCap ⟨#[]⟩ a b k = a * b := by
  have hp : prefOk ⟨#[]⟩ = true := by decide
  have hk' : rightKind k = true := by simp [rightKind, hk]
  unfold ruleCap ruleErr
  rw [hp, hk', capOk_yes h]
  simp [ha0, hb0, Int.not_le.2 ha0, Int.not_le.2 hb0]
theorem nameOf_size (k : Int) : (nameOf k).size ≤ 6 := by
  unfold nameOf
  split
  · decide
  · split
    · decide
    · split <;> decide

theorem edge_facts (k : Int) (h0 : 0 ≤ k) : ∃ A B : Int, IntKind.u64.wrap (2 ^ (k % 63).toNat) = A ∧ IntKind.u64.wrap (2 ^ (62 - k % 63).toNat) = B ∧ 0 < A ∧ A ≤ 4611686018427387904 ∧ 0 < B ∧ B ≤ 4611686018427387904 ∧ A * B = 4611686018427387904 := by
  have hs : (k % 63).toNat ≤ 62 := by omega
  have hs2 : (62 - k % 63).toNat = 62 - (k % 63).toNat := by omega
  rw [hs2]
  generalize (k % 63).toNat = s at *
  have hp : (2 : Int) ^ s * 2 ^ (62 - s) = 4611686018427387904 := by
    rw [← Int.pow_add, show s + (62 - s) = 62 by omega]; rfl
  have h1 : (0 : Int) < 2 ^ s := Int.pow_pos (by omega)
  have h2 : (0 : Int) < 2 ^ (62 - s) := Int.pow_pos (by omega)
  have h3 : (2 : Int) ^ s ≤ 4611686018427387904 := by
    rw [← hp]
    have := Int.mul_le_mul_of_nonneg_left (show (1 : Int) ≤ 2 ^ (62 - s) by omega) (show (0 : Int) ≤ 2 ^ s by omega)
    omega
  have h4 : (2 : Int) ^ (62 - s) ≤ 4611686018427387904 := by
    rw [← hp]
    have := Int.mul_le_mul_of_nonneg_right (show (1 : Int) ≤ 2 ^ s by omega) (show (0 : Int) ≤ 2 ^ (62 - s) by omega)
    omega
  exact ⟨_, _, by rw [wrap_u64]; exact Int.emod_eq_of_lt (by omega) (by omega), by rw [wrap_u64]; exact Int.emod_eq_of_lt (by omega) (by omega), h1, h3, h2, h4, hp⟩

set_option maxHeartbeats 2000000 in
set_option maxRecDepth 100000 in
theorem edge_walk (k kind : Int) (w : World) (hk0 : 0 ≤ k) (hk1 : k < 256) (hq0 : 0 ≤ kind) (hq1 : kind < 256) :
    Calls Try.prog 5 #[.int .u8 k, .int .u8 kind] w fun x w' => x = .returned (.bool true) ∧ Ext w w' := by
  obtain ⟨A, B, eA, eB, a0, a1, b0, b1, hab⟩ := edge_facts k hk0
  have HA := Lib.hid eA
  have HB := Lib.hid eB
  have bK : 1 ≤ 1 + kind % 3 ∧ 1 + kind % 3 ≤ 3 := by omega
  have HK := Lib.hid bK
  have P1 := Lib.hid (parse_default (a := A) (b := B) (k := 1 + kind % 3) a0 (by omega) b0 (by omega) (by omega) bK)
  have hab2 : A * (B + 1) = A * B + A := by rw [Int.mul_add, Int.mul_one]
  have P2 := Lib.hid (parse_default_cap (a := A) (b := B + 1) (k := 1 + kind % 3) a0 (by omega) (by omega) (by omega) (by omega) bK)
  have P3 := Lib.hid (show ruleCap ⟨#[]⟩ A B (1 + kind % 3) = 4611686018427387904 by rw [ruleCap_yes a0 b0 (by omega) bK, hab])
  have S1 := (dig_back A (by omega) (by omega)).2.2.1
  have S2 := (dig_back B (by omega) (by omega)).2.2.1
  have S3 := (dig_back (B + 1) (by omega) (by omega)).2.2.1
  have S4 := nameOf_size (1 + kind % 3)
  have T1 : ∀ s ∈ [wDef, digStr A, digStr B, nameOf (1 + kind % 3)], s.size ≤ maxLen := by
    unfold maxLen
    intro s hs
    simp only [List.mem_cons, List.not_mem_nil, or_false] at hs
    rcases hs with rfl | rfl | rfl | rfl
    · decide
    · omega
    · omega
    · omega
  have T2 : ∀ s ∈ [wDef, digStr A, digStr (B + 1), nameOf (1 + kind % 3)], s.size ≤ maxLen := by
    unfold maxLen
    intro s hs
    simp only [List.mem_cons, List.not_mem_nil, or_false] at hs
    rcases hs with rfl | rfl | rfl | rfl
    · decide
    · omega
    · omega
    · omega
  have HT1 := Lib.hid T1
  have HT2 := Lib.hid T2
  clear eA eB bK hab hab2 S1 S2 S3 S4 T1 T2
  go_enter Try.func5, Try.ntmps5
  go_wp2_with fail
  rw [HA.out, HB.out]
  refine (ref03_Print _ _ (by omega) (by omega)).mono ?_
  rintro e w1 ⟨rfl, rfl⟩
  go_wp2_with fail
  refine (ref03_Print _ _ (by omega) (by omega)).mono ?_
  rintro e w1 ⟨rfl, rfl⟩
  go_wp2_with fail
  refine (rule_Name _ _).mono ?_
  rintro e w1 ⟨rfl, hx1⟩
  go_wp2_with fail
  refine (ref03_Print _ _ (by omega) (by omega)).mono ?_
  rintro e w2 ⟨rfl, rfl⟩
  go_wp2_with fail
  refine (ref03_Print _ _ (by omega) (by omega)).mono ?_
  rintro e w2 ⟨rfl, rfl⟩
  go_wp2_with fail
  refine (rule_Name _ _).mono ?_
  rintro e w2 ⟨rfl, hx2⟩
  go_wp2_with fail
  have bl1 := (Blk.new w1 ([wDef, digStr A, digStr B, nameOf (1 + kind % 3)].map Value.string).toArray 9).ext hx2
  refine (rule_Parse _ [wDef, digStr A, digStr B, nameOf (1 + kind % 3)] _ (StrSlice.new _ (bl1.alloc _) rfl (show 4 ≤ maxLen by decide) HT1.out)).mono ?_
  rw [P1.out]
  rintro e w3 ⟨rfl, hx3⟩
  simp only [PRes.v, parseRet]
  have bl2 := (Blk.new w2 ([wDef, digStr A, digStr (B + 1), nameOf (1 + kind % 3)].map Value.string).toArray 9).ext hx3
  clear bl1
  go_wp2_with fail
  refine (rule_Parse _ [wDef, digStr A, digStr (B + 1), nameOf (1 + kind % 3)] _ (StrSlice.new _ (bl2.alloc _) rfl (show 4 ≤ maxLen by decide) HT2.out)).mono ?_
  rw [P2.out]
  rintro e w4 ⟨rfl, hx4⟩
  simp only [PRes.v, parseRet, pbad]
  have b3 := (Blk.new w3 (ruleBox ⟨#[]⟩ A B (1 + kind % 3)) 25).ext hx4
  clear bl2
  go_wp2_with fail
  refine (law11_known _).mono ?_
  rintro e w5 ⟨rfl, hx5⟩
  have b4 := (b3.alloc (.cells (ruleBox ⟨#[]⟩ 0 0 0) 25)).ext hx5
  have c4 := b4.cell
  simp only [ruleBox] at c4
  go_wp2_with fail
  refine (rule_Cap _ _ _ _ _ (by decide) (by omega) (by omega) (by omega) (by omega)).mono ?_
  rw [P3.out]
  rintro e w6 ⟨rfl, hx6⟩
  go_wp2
  go_ret
  exact ⟨rfl, (by repeat (first | with_reducible exact Ext.refl _ | with_reducible assumption | with_reducible refine Ext.alloc ?_ _ | with_reducible refine Ext.drew ?_ | with_reducible refine Ext.trans ?_ (by with_reducible assumption)))⟩
end Go.Proofs.Ytphbhinobdkidaa
