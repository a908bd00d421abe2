/- Walks: rule.burst. -/
import Derived.Test.YtphbhinobdkidaaRule4
import Derived.Deep.QuietTactic
import Derived.BigQuiet
namespace Go.Proofs.Ytphbhinobdkidaa
open Go.RowKit
set_option linter.unusedVariables false
set_option linter.unusedSimpArgs false

def burstErr (e : Int) (s : ByteArray) : Int := if numErr s 25 = 0 ∧ capOk e (digNum s) = false then 26 else numErr s 25
theorem digNum_bounds (s : ByteArray) : 0 ≤ digNum s ∧ digNum s < 18446744073709551616 := by
  unfold digNum
  split
  · rename_i h
    unfold digErr at h
    by_cases h1 : digLead s = true
    · rw [if_pos h1] at h; omega
    rw [if_neg h1] at h
    by_cases h2 : s.data.toList.all isDig = false
    · rw [if_pos h2] at h; omega
    rw [if_neg h2] at h
    by_cases h3 : 18446744073709551616 ≤ dval s.data.toList
    · rw [if_pos h3] at h; omega
    exact ⟨dval_nonneg (by simpa using h2), by omega⟩
  · omega

theorem Ext.drewN (w : World) (n : Nat) : Ext w (w.drewN n) := ⟨rfl, rfl, rfl, Nat.le_refl _, fun _ _ => rfl⟩

set_option maxHeartbeats 1000000 in
theorem rule_burst (B : Nat) (s p : ByteArray) (e b k : Int) (w : World) (hm : s.size ≤ maxLen) (he0 : 0 ≤ e) (he1 : e < 18446744073709551616) (hB : Blk w B (ruleBox p e b k) 25) :
    Calls Try.prog 32 #[.pointer (some ⟨B, 0, none⟩), .string s] w fun x w' =>
      x = .returned (.int .u16 (burstErr e s)) ∧ Blk w' B (ruleBox p e (digNum s) k) 25 ∧ ExtB B w w' := by
  have HB := Lib.hid hB
  clear hB
  obtain ⟨hd0, hd1⟩ := digNum_bounds s
  generalize hD : digNum s = D at *
  have HD := Lib.hid hD
  have hcap : capOk e D = decide (satMul e D ≤ 4611686018427387904) := rfl
  generalize hM : satMul e D = M at *
  have HM := Lib.hid hM
  have HC := Lib.hid hcap
  have hbe : burstErr e s = if numErr s 25 = 0 ∧ capOk e D = false then 26 else numErr s 25 := by unfold burstErr; rw [hD]
  generalize hN : numErr s 25 = N at *
  have HN := Lib.hid hN
  have HBE := Lib.hid hbe
  clear hD hM hcap hbe hN
  by_cases hz : N = 0
  · have HZ := Lib.hid hz
    have hz' : (N == 0) = true := by rw [hz]; rfl
    have hz2 : decide (N = 0) = true := by simp [hz]
    clear hz
    go_enter Try.func32, Try.ntmps32
    go_wp2_with fail
    refine (rule_number_burst _ _).mono ?_
    rintro x w1 ⟨rfl, hx1, bf, bn⟩
    have HBf := Lib.hid bf
    have HBn := Lib.hid bn
    clear bf bn
    go_wp2_with fail
    refine (number_burst B _ _ s p e b k 25 w1 hm (HB.out.ext hx1) HBf.out HBn.out).mono ?_
    rw [HN.out, HD.out]
    rintro x w2 ⟨rfl, hb2, hx2⟩
    have c1 : w2.cell? ⟨B, 1, none⟩ = some (.int .u64 e) := hb2.cell 1
    have c2 : w2.cell? ⟨B, 2, none⟩ = some (.int .u64 D) := hb2.cell 2
    have HB2 := Lib.hid hb2
    clear hb2
    go_wp2_with fail
    go_region_held3 (fun w' => w'.cell? ⟨B, 1, none⟩ = some (.int .u64 e) ∧ w'.cell? ⟨B, 2, none⟩ = some (.int .u64 D) ∧ Ext w2 w')
      (first | exact ⟨c1, c2, (Ext.refl _).drew⟩ | exact ⟨Ext.keep hx c1, Ext.keep hx c2, Ext.trans ((Ext.refl _).drew) hx⟩)
      (first | (go_at_call 45; refine (num_Mul _ _ _ he0 he1 hd0 hd1).mono ?_; rw [HM.out]; rintro x w' ⟨rfl, hx⟩))
    have hx3 : Ext w2 w' := (Ext.refl _).drew.trans hx
    have hz3 : N = 0 := HZ.out
    cases hbig : decide (4611686018427387904 < M)
    all_goals
      have HG := Lib.hid hbig
      clear hz3
      go_wp2
      go_ret
      refine ⟨ret_int ?_, HB2.out.ext hx3, (hx1.toB B).trans (hx2.trans (hx3.toB B))⟩
      rw [HBE.out, HC.out]
      have h1 := HG.out
      have h2 := HZ.out
      simp at h1
      first
        | (rw [if_pos ⟨h2, by simp; omega⟩]; done)
        | (rw [if_neg (by simp; omega)]; try rw [h2])
  · have HZ := Lib.hid hz
    have hz' : (N == 0) = false := by simpa using hz
    have hz2 : decide (N = 0) = false := by simpa using hz
    clear hz
    go_enter Try.func32, Try.ntmps32
    go_wp2_with fail
    refine (rule_number_burst _ _).mono ?_
    rintro x w1 ⟨rfl, hx1, bf, bn⟩
    have HBf := Lib.hid bf
    have HBn := Lib.hid bn
    clear bf bn
    go_wp2_with fail
    refine (number_burst B _ _ s p e b k 25 w1 hm (HB.out.ext hx1) HBf.out HBn.out).mono ?_
    rw [HN.out, HD.out]
    rintro x w2 ⟨rfl, hb2, hx2⟩
    have HB2 := Lib.hid hb2
    clear hb2
    go_wp2_with fail
    go_quiet (fail)
    go_wp2
    go_ret
    refine ⟨ret_int ?_, ?_, ?_⟩
    · rw [HBE.out, if_neg (fun q => HZ.out q.1)]
    · exact HB2.out.ext (Ext.drewN _ _)
    · exact (hx1.toB B).trans (hx2.trans ((Ext.drewN w2 nq).toB B))
end Go.Proofs.Ytphbhinobdkidaa
