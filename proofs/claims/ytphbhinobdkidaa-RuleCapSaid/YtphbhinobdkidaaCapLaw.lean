/- The walk of tollerlaw11.RuleCap. -/
import Derived.Test.YtphbhinobdkidaaLaw11
namespace Go.Proofs.Ytphbhinobdkidaa
open Go.RowKit
set_option linter.unusedVariables false
set_option linter.unusedSimpArgs false

theorem cap_facts (E B K : Int) (hE : 0 ≤ E) (hB : 0 ≤ B) (hK : 1 ≤ K ∧ K ≤ 3) :
    (E = 0 ∧ satMul E B = 0 ∧ ruleErr ⟨#[]⟩ E B K = 24 ∧ ruleCap ⟨#[]⟩ E B K = 0) ∨
    (0 < E ∧ B = 0 ∧ satMul E B = 0 ∧ ruleErr ⟨#[]⟩ E B K = 25 ∧ ruleCap ⟨#[]⟩ E B K = 0) ∨
    (0 < E ∧ 0 < B ∧ 0 < satMul E B ∧ satMul E B ≤ 4611686018427387904 ∧ ruleErr ⟨#[]⟩ E B K = 0 ∧ ruleCap ⟨#[]⟩ E B K = satMul E B) ∨
    (0 < E ∧ 0 < B ∧ 4611686018427387904 < satMul E B ∧ ruleErr ⟨#[]⟩ E B K = 26 ∧ ruleCap ⟨#[]⟩ E B K = 0) := by
  have hp : prefOk ⟨#[]⟩ = true := by decide
  have hk : rightKind K = true := by simp [rightKind, hK]
  unfold ruleCap ruleErr
  rw [hp, hk]
  by_cases h1 : 0 < E
  · by_cases h2 : 0 < B
    · have hpos : 0 < E * B := Int.mul_pos h1 h2
      by_cases h3 : satMul E B ≤ 4611686018427387904
      · right; right; left
        have hc : capOk E B = true := by simp [capOk, h3]
        have hs : satMul E B = E * B := by
          unfold satMul at h3 ⊢
          split at h3
          · rename_i q; rw [if_pos q]
          · omega
        rw [hc, hs]
        rw [hs] at h3
        simp [h1, h2, hpos, h3, Int.not_le.2 h1, Int.not_le.2 h2]
      · right; right; right
        have hc : capOk E B = false := by simp [capOk]; omega
        rw [hc]
        simp [h1, h2, Int.not_le.2 h1, Int.not_le.2 h2]
        omega
    · right; left
      have : B = 0 := by omega
      subst this
      simp [h1, satMul, Int.not_le.2 h1]
  · left
    have : E = 0 := by omega
    subst this
    simp [satMul]

set_option maxHeartbeats 2000000 in
set_option maxRecDepth 100000 in
theorem cap_walk (x y k kind : Int) (w : World) (hx0 : 0 ≤ x) (hx1 : x < 18446744073709551616) (hy0 : 0 ≤ y) (hy1 : y < 18446744073709551616) (hk0 : 0 ≤ k) (hk1 : k < 256) (hq0 : 0 ≤ kind) (hq1 : kind < 256) :
    Calls Try.prog 3 #[.int .u64 x, .int .u64 y, .int .u8 k, .int .u8 kind] w fun x w' => x = .returned (.bool true) ∧ Ext w w' := by
  have bE := part_le x (k % 64).toNat hx0
  have bB := part_le y (k / 4).toNat hy0
  have bK : 1 ≤ 1 + kind % 3 ∧ 1 + kind % 3 ≤ 3 := by omega
  have HbE := Lib.hid bE
  have HbB := Lib.hid bB
  have HbK := Lib.hid bK
  clear bE bB bK
  go_enter Try.func3, Try.ntmps3
  go_wp2_with fail
  obtain ⟨eE0, eE1⟩ := HbE.out
  obtain ⟨eB0, eB1⟩ := HbB.out
  have eK := HbK.out
  generalize x / 2 ^ (k % 64).toNat = E at *
  generalize y / 2 ^ (k / 4).toNat = B at *
  generalize 1 + kind % 3 = K at *
  have F := Lib.hid (cap_facts E B K eE0 eB0 eK)
  have hE2 : E < 18446744073709551616 := by omega
  have hB2 : B < 18446744073709551616 := by omega
  clear HbE HbB HbK eK hk0 hk1 hq0 hq1 hx0 hx1 hy0 hy1 eE1 eB1
  generalize hP : satMul E B = P at *
  generalize hR : ruleErr ⟨#[]⟩ E B K = R at *
  generalize hC : ruleCap ⟨#[]⟩ E B K = C at *
  have HP := Lib.hid hP
  have HR := Lib.hid hR
  have HC := Lib.hid hC
  clear hP hR hC
  refine (ref02_Mul _ _ _ eE0 hE2 eB0 hB2).mono ?_
  rw [HP.out]
  rintro e w1 ⟨rfl, rfl⟩
  rcases F.out with ⟨rfl, rfl, rfl, rfl⟩ | ⟨f1, rfl, rfl, rfl, rfl⟩ | ⟨f1, f2, f3, f4, rfl, rfl⟩ | ⟨f1, f2, f3, rfl, rfl⟩
  all_goals
    clear F
    go_wp2_with fail
    refine (rule_Cap _ _ _ _ _ (by decide) eE0 hE2 eB0 hB2).mono ?_
    rw [HC.out]
    rintro e w2 ⟨rfl, hx2⟩
    go_wp2_with fail
    refine (law11_known _).mono ?_
    rintro e w3 ⟨rfl, hx3⟩
    have b1 := ((Blk.new w (ruleBox ⟨#[]⟩ _ _ _) 25).ext hx2).ext hx3
    have c1 := b1.cell
    simp only [ruleBox] at c1
    go_wp2_with fail
    refine (rule_Right _ _ _ _ _ (by decide) eE0 hE2 eB0 hB2).mono ?_
    rw [HR.out]
    rintro e w4 ⟨rfl, hx4⟩
    have b2 := b1.ext hx4
    clear c1
    have c1 := b2.cell
    simp only [ruleBox] at c1
    go_wp2_with fail
    try
      refine (rule_Right _ _ _ _ _ (by decide) eE0 hE2 eB0 hB2).mono ?_
      rw [HR.out]
      rintro e w5 ⟨rfl, hx5⟩
      have b3 := b2.ext hx5
      clear c1
      have c1 := b3.cell
      simp only [ruleBox] at c1
      go_wp2
    go_ret
    exact ⟨rfl, (by repeat (first | exact Ext.refl _ | assumption | refine Ext.alloc ?_ _ | refine Ext.drew ?_ | refine Ext.trans ?_ (by assumption)))⟩
end Go.Proofs.Ytphbhinobdkidaa
