/- Walks: the references 07 (Right) and 11 (Right, Cap). -/
import Derived.Deep.QuietTactic
import Derived.BigQuiet
import Derived.Test.YtknlojlcahgnoaaGreatEa8
import Derived.Test.YtknlojlcahgnoaaGreatEa0
import Derived.Test.YtknlojlcahgnoaaGreatEa4
import Derived.Test.YtknlojlcahgnoaaGreatEa3

namespace Go.Proofs.YtknlojlcahgnoaaGreat
open Go.RowKit
set_option linter.unusedVariables false
set_option linter.unusedSimpArgs false

theorem ref07_Right (k : Int) (w : World) : Calls Tryz.prog 139 #[.int .u8 k] w fun x w' => x = .returned (.bool (rightKind k)) ∧ w = w' := by
  by_cases h : 1 ≤ k
  · have H := Lib.hid (show rightKind k = decide (k ≤ 3) by simp [rightKind, h])
    go_enter Tryz.func139, Tryz.ntmps139
    go_wp2
    all_goals
      go_ret
      exact ⟨ret_bool H.out.symm, rfl⟩
  · have H := Lib.hid (show rightKind k = false by simp [rightKind, h])
    go_enter Tryz.func139, Tryz.ntmps139
    go_wp2
    go_ret
    exact ⟨ret_bool H.out.symm, rfl⟩

theorem right_cases (p : ByteArray) (e b k : Int) (he0 : 0 ≤ e) (hb0 : 0 ≤ b) :
    (p.toList.isEmpty = false ∧ p.toList ≠ [] ∧ keyOk p = false ∧ ruleErr p e b k = 23) ∨
    (((p.toList.isEmpty = true ∧ p.toList = []) ∨ (p.toList.isEmpty = false ∧ p.toList ≠ [] ∧ keyOk p = true)) ∧
      ((e = 0 ∧ ruleErr p e b k = 24) ∨ (0 < e ∧ (e == 0) = false ∧ b = 0 ∧ ruleErr p e b k = 25) ∨
       (0 < e ∧ (e == 0) = false ∧ 0 < b ∧ (b == 0) = false ∧ 4611686018427387904 < satMul e b ∧ ruleErr p e b k = 26) ∨
       (0 < e ∧ (e == 0) = false ∧ 0 < b ∧ (b == 0) = false ∧ satMul e b ≤ 4611686018427387904 ∧ rightKind k = false ∧ ruleErr p e b k = 27) ∨
       (0 < e ∧ (e == 0) = false ∧ 0 < b ∧ (b == 0) = false ∧ satMul e b ≤ 4611686018427387904 ∧ rightKind k = true ∧ ruleErr p e b k = 0))) := by
  have hemp : ∀ h : p.size = 0, p.toList.isEmpty = true ∧ p.toList = [] := fun h => ⟨by rw [isEmpty_iff]; simpa using h, (toList_nil_iff p).2 h⟩
  have hnon : ∀ h : ¬ p.size = 0, p.toList.isEmpty = false ∧ p.toList ≠ [] := fun h => ⟨by rw [isEmpty_iff]; simpa using h, fun q => h ((toList_nil_iff p).1 q)⟩
  unfold ruleErr
  cases hp : prefOk p
  · left
    have h0 : ¬ p.size = 0 := by intro h; simp [prefOk, h] at hp
    have hk : keyOk p = false := by simp [prefOk, h0] at hp; exact hp
    exact ⟨(hnon h0).1, (hnon h0).2, hk, by simp⟩
  · right
    refine ⟨?_, ?_⟩
    · by_cases h0 : p.size = 0
      · left; exact hemp h0
      · right
        have hk : keyOk p = true := by simp [prefOk, h0] at hp; exact hp
        exact ⟨(hnon h0).1, (hnon h0).2, hk⟩
    · by_cases h1 : 0 < e
      · have g1 : (e == 0) = false := by simp; omega
        right
        by_cases h2 : 0 < b
        · have g2 : (b == 0) = false := by simp; omega
          right
          by_cases h3 : satMul e b ≤ 4611686018427387904
          · right
            have hc : capOk e b = true := by simp [capOk, h3]
            cases hk : rightKind k
            · left; exact ⟨h1, g1, h2, g2, h3, rfl, by simp [hc, Int.not_le.2 h1, Int.not_le.2 h2]⟩
            · right; exact ⟨h1, g1, h2, g2, h3, rfl, by simp [hc, Int.not_le.2 h1, Int.not_le.2 h2]⟩
          · left
            have hc : capOk e b = false := by simp [capOk]; omega
            exact ⟨h1, g1, h2, g2, by omega, by simp [hc, Int.not_le.2 h1, Int.not_le.2 h2]⟩
        · left
          exact ⟨h1, g1, by omega, by simp [h1, h2]⟩
      · left
        exact ⟨by omega, by simp [h1]⟩

set_option maxHeartbeats 4000000 in
set_option maxRecDepth 100000 in
theorem ref11_Right (p : ByteArray) (e b k : Int) (w : World) (hm : p.size ≤ maxLen) (he0 : 0 ≤ e) (he1 : e < 18446744073709551616) (hb0 : 0 ≤ b) (hb1 : b < 18446744073709551616) :
    Calls Tryz.prog 89 #[.agg #[.string p, .int .u64 e, .int .u64 b, .int .u8 k]] w fun x w' => x = .returned (.int .i64 (ruleErr p e b k)) ∧ Ext w w' := by
  have key := right_cases p e b k he0 hb0
  generalize hR : ruleErr p e b k = R at *
  generalize hM : satMul e b = M at *
  generalize hK : rightKind k = K at *
  generalize hO : keyOk p = O at *
  have HM := Lib.hid hM
  have HK := Lib.hid hK
  have HO := Lib.hid hO
  have HC := Lib.hid key
  clear hR hM hK hO key
  rcases HC.out with ⟨e1, e2, rfl, rfl⟩ | ⟨⟨e1, e2⟩ | ⟨e1, e2, rfl⟩, ⟨rfl, rfl⟩ | ⟨h1, g1, rfl, rfl⟩ | ⟨h1, g1, h2, g2, h3, rfl⟩ | ⟨h1, g1, h2, g2, h3, rfl, rfl⟩ | ⟨h1, g1, h2, g2, h3, rfl, rfl⟩⟩
  all_goals
    clear HC
    go_enter Tryz.func89, Tryz.ntmps89
    go_wp2_with (first
      | (go_at_call 138; refine (ref02_Mul _ _ _ he0 he1 hb0 hb1).mono ?_; rw [HM.out]; rintro x w' ⟨rfl, rfl⟩)
      | (go_at_call 139; refine (ref07_Right _ _).mono ?_; rw [HK.out]; rintro x w' ⟨rfl, rfl⟩)
      | (go_at_call 116; refine (ref09_Right _ _ hm).mono ?_; rw [HO.out]; rintro x w' ⟨rfl, rfl⟩))
    go_ret
    exact ⟨rfl, (by repeat (first | with_reducible exact Ext.refl _ | with_reducible assumption | with_reducible refine Ext.alloc ?_ _ | with_reducible refine Ext.drew ?_ | (with_reducible refine Ext.setCell ?_ (by first | exact Nat.le_refl _ | (dsimp only; omega) | (simp; done) | (simp; omega)) _) | with_reducible refine Ext.trans ?_ (by with_reducible assumption)))⟩

theorem ref11_Cap (p : ByteArray) (e b k : Int) (w : World) (hm : p.size ≤ maxLen) (he0 : 0 ≤ e) (he1 : e < 18446744073709551616) (hb0 : 0 ≤ b) (hb1 : b < 18446744073709551616) :
    Calls Tryz.prog 115 #[.agg #[.string p, .int .u64 e, .int .u64 b, .int .u8 k]] w fun x w' => x = .returned (.int .u64 (ruleCap p e b k)) ∧ Ext w w' := by
  generalize hE : ruleErr p e b k = E
  have HE := Lib.hid hE
  by_cases h : E = 0
  · have H := Lib.hid (show ruleCap p e b k = e * b by simp [ruleCap, hE, h])
    subst h
    have hc := capOk_lt (ruleErr_zero hE).2.2.2.1
    have hp : 0 ≤ e * b := Int.mul_nonneg he0 hb0
    have hw : IntKind.u64.wrap (e * b) = e * b := by rw [wrap_u64]; omega
    have HW := Lib.hid hw
    clear hE hw hc
    go_enter Tryz.func115, Tryz.ntmps115
    go_wp2_with fail
    refine (ref11_Right _ _ _ _ _ hm he0 he1 hb0 hb1).mono ?_
    rw [HE.out]
    rintro x w1 ⟨rfl, hx⟩
    have b0 := (Blk.new w (ruleBox p e b k) 37).ext hx
    have bc := b0.cell
    simp only [ruleBox] at bc
    go_wp2
    go_ret
    exact ⟨ret_int (by rw [H.out]; exact HW.out), (by repeat (first | with_reducible exact Ext.refl _ | with_reducible assumption | with_reducible refine Ext.alloc ?_ _ | with_reducible refine Ext.drew ?_ | (with_reducible refine Ext.setCell ?_ (by first | exact Nat.le_refl _ | (dsimp only; omega) | (simp; done) | (simp; omega)) _) | with_reducible refine Ext.trans ?_ (by with_reducible assumption)))⟩
  · have H := Lib.hid (show ruleCap p e b k = 0 by simp [ruleCap, hE, h])
    have hE' : (E != 0) = true := by rw [bne_iff_ne]; exact h
    clear hE h
    go_enter Tryz.func115, Tryz.ntmps115
    go_wp2_with fail
    refine (ref11_Right _ _ _ _ _ hm he0 he1 hb0 hb1).mono ?_
    rw [HE.out]
    rintro x w1 ⟨rfl, hx⟩
    go_wp2
    go_ret
    exact ⟨ret_int H.out.symm, (by repeat (first | with_reducible exact Ext.refl _ | with_reducible assumption | with_reducible refine Ext.alloc ?_ _ | with_reducible refine Ext.drew ?_ | (with_reducible refine Ext.setCell ?_ (by first | exact Nat.le_refl _ | (dsimp only; omega) | (simp; done) | (simp; omega)) _) | with_reducible refine Ext.trans ?_ (by with_reducible assumption)))⟩
end Go.Proofs.YtknlojlcahgnoaaGreat
