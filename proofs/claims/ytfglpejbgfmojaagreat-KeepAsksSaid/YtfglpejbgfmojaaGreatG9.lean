/- Walks: rule.Cap, rule.Kind, rule.Name; slices.Index over strings. -/
import Derived.Test.YtfglpejbgfmojaaGreatG5

/- Walks: rule.Cap, rule.Kind, rule.Name; slices.Index over strings. -/
namespace Go.Proofs.YtfglpejbgfmojaaGreat
open Go.RowKit
set_option linter.unusedVariables false
set_option linter.unusedSimpArgs false

def ruleCap (p : ByteArray) (e b k : Int) : Int := if ruleErr p e b k = 0 then e * b else 0

theorem capOk_lt {e b : Int} (h : capOk e b = true) : e * b ≤ 4611686018427387904 := by
  unfold capOk satMul at h
  split at h <;> simp at h
  omega
theorem ruleErr_zero {p : ByteArray} {e b k : Int} (h : ruleErr p e b k = 0) : prefOk p = true ∧ 0 < e ∧ 0 < b ∧ capOk e b = true ∧ rightKind k = true := by
  unfold ruleErr at h
  by_cases h1 : prefOk p = false
  · rw [if_pos h1] at h; omega
  rw [if_neg h1] at h
  by_cases h2 : ¬ 0 < e
  · rw [if_pos h2] at h; omega
  rw [if_neg h2] at h
  by_cases h3 : ¬ 0 < b
  · rw [if_pos h3] at h; omega
  rw [if_neg h3] at h
  by_cases h4 : capOk e b = false
  · rw [if_pos h4] at h; omega
  rw [if_neg h4] at h
  by_cases h5 : rightKind k = false
  · rw [if_pos h5] at h; omega
  simp at h1 h4 h5
  exact ⟨h1, by omega, by omega, h4, h5⟩

theorem rule_Cap (p : ByteArray) (e b k : Int) (w : World) (hm : p.size ≤ maxLen) (he0 : 0 ≤ e) (he1 : e < 18446744073709551616) (hb0 : 0 ≤ b) (hb1 : b < 18446744073709551616) :
    Calls Tryz.prog 51 #[.agg #[.string p, .int .u64 e, .int .u64 b, .int .u8 k]] w fun x w' => x = .returned (.int .u64 (ruleCap p e b k)) ∧ Ext w w' := by
  generalize hE : ruleErr p e b k = E
  have HE := Lib.hid hE
  by_cases h : E = 0
  · have H := Lib.hid (show ruleCap p e b k = e * b by simp [ruleCap, hE, h])
    subst h
    have hc := capOk_lt (ruleErr_zero hE).2.2.2.1
    have hp : 0 ≤ e * b := Int.mul_nonneg he0 hb0
    have hw : IntKind.u64.wrap (e * b) = e * b := by rw [wrap_u64]; omega
    have HW := Lib.hid hw
    clear hE hw hc
    go_enter Tryz.func51, Tryz.ntmps51
    go_wp2_with fail
    refine (rule_Right _ _ _ _ _ hm he0 he1 hb0 hb1).mono ?_
    rw [HE.out]
    rintro x w1 ⟨rfl, hx⟩
    have b0 := (Blk.new w (ruleBox p e b k) 29).ext hx
    have bc := b0.cell
    simp only [ruleBox] at bc
    go_wp2
    go_ret
    exact ⟨ret_int (by rw [H.out]; exact HW.out), (by repeat (first | with_reducible exact Ext.refl _ | with_reducible assumption | with_reducible refine Ext.alloc ?_ _ | with_reducible refine Ext.drew ?_ | (with_reducible refine Ext.setCell ?_ (by first | exact Nat.le_refl _ | (dsimp only; omega) | (simp; done) | (simp; omega)) _) | with_reducible refine Ext.trans ?_ (by with_reducible assumption)))⟩
  · have H := Lib.hid (show ruleCap p e b k = 0 by simp [ruleCap, hE, h])
    have hE' : (E != 0) = true := by rw [bne_iff_ne]; exact h
    clear hE h
    go_enter Tryz.func51, Tryz.ntmps51
    go_wp2_with fail
    refine (rule_Right _ _ _ _ _ hm he0 he1 hb0 hb1).mono ?_
    rw [HE.out]
    rintro x w1 ⟨rfl, hx⟩
    go_wp2
    go_ret
    exact ⟨ret_int H.out.symm, (by repeat (first | with_reducible exact Ext.refl _ | with_reducible assumption | with_reducible refine Ext.alloc ?_ _ | with_reducible refine Ext.drew ?_ | (with_reducible refine Ext.setCell ?_ (by first | exact Nat.le_refl _ | (dsimp only; omega) | (simp; done) | (simp; omega)) _) | with_reducible refine Ext.trans ?_ (by with_reducible assumption)))⟩

end Go.Proofs.YtfglpejbgfmojaaGreat
