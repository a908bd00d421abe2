/- Walks: tollerref11.Parse. -/
import Derived.Test.YtphbhinobdkidaaRef11
import Derived.Test.YtphbhinobdkidaaRuleP
namespace Go.Proofs.Ytphbhinobdkidaa
open Go.RowKit
set_option linter.unusedVariables false
set_option linter.unusedSimpArgs false

def refRet (p : ByteArray) (e b k err at_ : Int) : Value := .tuple #[.agg #[.string p, .int .u64 e, .int .u64 b, .int .u8 k], .int .i64 err, .int .i64 at_]
def PRes.r (r : PRes) : Value := refRet r.p r.e r.b r.k r.err r.at_

def Parse3Facts (N1 N2 M K D1 D2 : Int) (o : Int) (p : ByteArray) (r : PRes) : Prop :=
  ((N1 != 0) = true ∧ r = pbad N1 (1 + o)) ∨ ((N1 != 0) = false ∧ (N2 == 0) = false ∧ (N2 != 0) = true ∧ r = pbad N2 (2 + o)) ∨
  ((N1 != 0) = false ∧ (N2 == 0) = true ∧ 4611686018427387904 < M ∧ r = pbad 26 (2 + o)) ∨
  ((N1 != 0) = false ∧ (N2 == 0) = true ∧ (N2 != 0) = false ∧ ¬ 4611686018427387904 < M ∧ decide (0 < K) = false ∧ r = pbad 27 (3 + o)) ∨
  ((N1 != 0) = false ∧ (N2 == 0) = true ∧ (N2 != 0) = false ∧ ¬ 4611686018427387904 < M ∧ decide (0 < K) = true ∧ r = ⟨p, D1, D2, K, 0, 0⟩)
theorem burstErr_cases (e : Int) (s : ByteArray) : (numErr s 25 ≠ 0 ∧ burstErr e s = numErr s 25) ∨ (numErr s 25 = 0 ∧ 4611686018427387904 < satMul e (digNum s) ∧ burstErr e s = 26) ∨ (numErr s 25 = 0 ∧ ¬ 4611686018427387904 < satMul e (digNum s) ∧ burstErr e s = 0) := by
  unfold burstErr capOk
  by_cases h : numErr s 25 = 0
  · right
    by_cases h2 : 4611686018427387904 < satMul e (digNum s)
    · left; refine ⟨h, h2, ?_⟩; rw [if_pos ⟨h, by simp; omega⟩]
    · right; refine ⟨h, h2, ?_⟩; rw [if_neg (by simp; omega), h]
  · left; refine ⟨h, ?_⟩; rw [if_neg (fun q => h q.1)]
theorem parse3_facts (s1 s2 s3 : ByteArray) : Parse3Facts (numErr s1 24) (numErr s2 25) (satMul (digNum s1) (digNum s2)) (kindOf s3) (digNum s1) (digNum s2) 0 ⟨#[]⟩ (parse3 s1 s2 s3) := by
  unfold Parse3Facts parse3
  by_cases h1 : numErr s1 24 = 0
  · rw [if_neg (by simpa using h1)]
    rcases burstErr_cases (digNum s1) s2 with ⟨q, e⟩ | ⟨q, m, e⟩ | ⟨q, m, e⟩
    · right; left; rw [e]; exact ⟨by simpa using h1, by simpa using q, by simpa using q, by rw [if_pos q]; rfl⟩
    · right; right; left; rw [e]; exact ⟨by simpa using h1, by simpa using q, m, by rw [if_pos (by omega)]; rfl⟩
    · right; right; right; rw [e, if_neg (by simp)]
      by_cases hk : 0 < kindOf s3
      · right; refine ⟨by simpa using h1, by simpa using q, by simpa using q, m, by simpa using hk, ?_⟩
        rw [if_neg (by simp [kindErr, hk])]
      · left; refine ⟨by simpa using h1, by simpa using q, by simpa using q, m, by simpa using hk, ?_⟩
        have : kindErr (kindOf s3) = 27 := by unfold kindErr; rw [if_neg hk]
        rw [this, if_pos (by omega)]; rfl
  · left; exact ⟨by simpa using h1, by rw [if_pos h1]; rfl⟩
theorem parse4_facts (s0 s1 s2 s3 : ByteArray) (hk : keyOk s0 = true) : Parse3Facts (numErr s1 24) (numErr s2 25) (satMul (digNum s1) (digNum s2)) (kindOf s3) (digNum s1) (digNum s2) 1 s0 (parse4 s0 s1 s2 s3) := by
  have hp : prefErr s0 = 0 := by unfold prefErr; rw [if_pos hk]
  unfold Parse3Facts parse4
  rw [hp, if_neg (by simp)]
  by_cases h1 : numErr s1 24 = 0
  · rw [if_neg (by simpa using h1)]
    rcases burstErr_cases (digNum s1) s2 with ⟨q, e⟩ | ⟨q, m, e⟩ | ⟨q, m, e⟩
    · right; left; rw [e]; exact ⟨by simpa using h1, by simpa using q, by simpa using q, by rw [if_pos q]; rfl⟩
    · right; right; left; rw [e]; exact ⟨by simpa using h1, by simpa using q, m, by rw [if_pos (by omega)]; rfl⟩
    · right; right; right; rw [e, if_neg (by simp)]
      by_cases hk : 0 < kindOf s3
      · right; refine ⟨by simpa using h1, by simpa using q, by simpa using q, m, by simpa using hk, ?_⟩
        rw [if_neg (by simp [kindErr, hk])]
      · left; refine ⟨by simpa using h1, by simpa using q, by simpa using q, m, by simpa using hk, ?_⟩
        have : kindErr (kindOf s3) = 27 := by unfold kindErr; rw [if_neg hk]
        rw [this, if_pos (by omega)]; rfl
  · left; exact ⟨by simpa using h1, by rw [if_pos h1]; rfl⟩
theorem parse4_bad (s0 s1 s2 s3 : ByteArray) (hk : keyOk s0 = false) : parse4 s0 s1 s2 s3 = pbad 23 1 := by
  have hp : prefErr s0 = 23 := by unfold prefErr; rw [hk]; rfl
  unfold parse4; rw [hp, if_pos (by omega)]
theorem beqW {s w : ByteArray} : ((s.toList == w.toList) = true) = (s = w) := by
  apply propext; constructor
  · exact bytes_of_toList
  · intro h; subst h; simp

set_option maxHeartbeats 1000000 in
set_option maxRecDepth 100000 in
theorem ref11_Parse_len (a : Option Addr) (n c : Nat) (w : World) (hn : n ≤ maxLen) (h4 : n ≠ 4) (h5 : n ≠ 5) :
    Calls Try.prog 38 #[.slice a n c] w fun x w' => x = .returned (pbad 22 0).r ∧ Ext w w' := by
  unfold maxLen at hn
  have e4 : ((n : Int) == 4) = false := by rw [beq_eq_false_iff_ne]; omega
  have e5 : ((n : Int) == 5) = false := by rw [beq_eq_false_iff_ne]; omega
  clear h4 h5
  go_enter Try.func38, Try.ntmps38
  go_wp2
  exact bodyPost_ret (v := refRet ⟨#[]⟩ 0 0 0 22 0) (by simp [results, Try.results38, go_sem, refRet]) rfl ⟨rfl, (by repeat (first | with_reducible exact Ext.refl _ | with_reducible assumption | with_reducible refine Ext.alloc ?_ _ | with_reducible refine Ext.drew ?_ | with_reducible refine Ext.setCell ?_ (by simp; try omega) _ | with_reducible refine Ext.trans ?_ (by with_reducible assumption)))⟩

set_option maxHeartbeats 1000000 in
set_option maxRecDepth 100000 in
theorem ref11_Parse_w4 (b o c : Nat) (s : ByteArray) (w : World) (c0 : w.cell? ⟨b, o, none⟩ = some (.string s)) (hs : s ≠ wDef) :
    Calls Try.prog 38 #[.slice (some ⟨b, o, none⟩) 4 c] w fun x w' => x = .returned (pbad 22 0).r ∧ Ext w w' := by
  have hbl := cell_lt c0
  have e : (s.toList == wDef.toList) = false := by rw [Bool.eq_false_iff]; intro q; exact hs (bytes_of_toList q)
  have e2 : wDef.toList = [100, 101, 102, 97, 117, 108, 116] := by rw [ByteArray.toList_eq]; rfl
  rw [e2] at e
  clear hs e2
  go_enter Try.func38, Try.ntmps38
  go_wp2
  exact bodyPost_ret (v := refRet ⟨#[]⟩ 0 0 0 22 0) (by simp [results, Try.results38, go_sem, refRet]) rfl ⟨rfl, (by repeat (first | with_reducible exact Ext.refl _ | with_reducible assumption | with_reducible refine Ext.alloc ?_ _ | with_reducible refine Ext.drew ?_ | with_reducible refine Ext.setCell ?_ (by simp; try omega) _ | with_reducible refine Ext.trans ?_ (by with_reducible assumption)))⟩

set_option maxHeartbeats 1000000 in
set_option maxRecDepth 100000 in
theorem ref11_Parse_w5 (b o c : Nat) (s : ByteArray) (w : World) (c0 : w.cell? ⟨b, o, none⟩ = some (.string s)) (hs : s ≠ wRule) :
    Calls Try.prog 38 #[.slice (some ⟨b, o, none⟩) 5 c] w fun x w' => x = .returned (pbad 22 0).r ∧ Ext w w' := by
  have hbl := cell_lt c0
  have e : (s.toList == wRule.toList) = false := by rw [Bool.eq_false_iff]; intro q; exact hs (bytes_of_toList q)
  have e2 : wRule.toList = [114, 117, 108, 101] := by rw [ByteArray.toList_eq]; rfl
  rw [e2] at e
  clear hs e2
  go_enter Try.func38, Try.ntmps38
  go_wp2
  exact bodyPost_ret (v := refRet ⟨#[]⟩ 0 0 0 22 0) (by simp [results, Try.results38, go_sem, refRet]) rfl ⟨rfl, (by repeat (first | with_reducible exact Ext.refl _ | with_reducible assumption | with_reducible refine Ext.alloc ?_ _ | with_reducible refine Ext.drew ?_ | with_reducible refine Ext.setCell ?_ (by simp; try omega) _ | with_reducible refine Ext.trans ?_ (by with_reducible assumption)))⟩

set_option maxHeartbeats 1000000 in
set_option maxRecDepth 100000 in
theorem ref11_Parse_key (b o c : Nat) (s1 : ByteArray) (w : World) (c0 : w.cell? ⟨b, o, none⟩ = some (.string wRule)) (c1 : w.cell? ⟨b, o + 1, none⟩ = some (.string s1)) (m1 : s1.size ≤ maxLen) (hk : keyOk s1 = false) :
    Calls Try.prog 38 #[.slice (some ⟨b, o, none⟩) 5 c] w fun x w' => x = .returned (pbad 23 1).r ∧ Ext w w' := by
  have hbl := cell_lt c0
  simp only [wRule] at c0
  have HK := Lib.hid hk
  clear hk
  go_enter Try.func38, Try.ntmps38
  go_wp2_with (go_at_call 51; refine (ref09_Right _ _ m1).mono ?_; rw [HK.out]; rintro x w' ⟨rfl, rfl⟩)
  exact bodyPost_ret (v := refRet ⟨#[]⟩ 0 0 0 23 1) (by simp [results, Try.results38, go_sem, refRet]) rfl ⟨rfl, (by repeat (first | with_reducible exact Ext.refl _ | with_reducible assumption | with_reducible refine Ext.alloc ?_ _ | with_reducible refine Ext.drew ?_ | with_reducible refine Ext.setCell ?_ (by simp; try omega) _ | with_reducible refine Ext.trans ?_ (by with_reducible assumption)))⟩

set_option maxHeartbeats 4000000 in
set_option maxRecDepth 100000 in
theorem ref11_Parse_def (b o c : Nat) (s1 s2 s3 : ByteArray) (w : World) (c0 : w.cell? ⟨b, o, none⟩ = some (.string wDef)) (c1 : w.cell? ⟨b, o + 1, none⟩ = some (.string s1)) (m1 : s1.size ≤ maxLen) (c2 : w.cell? ⟨b, o + 2, none⟩ = some (.string s2)) (m2 : s2.size ≤ maxLen) (c3 : w.cell? ⟨b, o + 3, none⟩ = some (.string s3)) (m3 : s3.size ≤ maxLen) :
    Calls Try.prog 38 #[.slice (some ⟨b, o, none⟩) 4 c] w fun x w' => x = .returned (parse3 s1 s2 s3).r ∧ Ext w w' := by
  have F := parse3_facts s1 s2 s3
  obtain ⟨d0, d1⟩ := digNum_bounds s1
  obtain ⟨d2, d3⟩ := digNum_bounds s2
  have hbl := cell_lt c0
  simp only [wDef] at c0
  generalize hN1 : numErr s1 24 = N1 at *
  generalize hN2 : numErr s2 25 = N2 at *
  generalize hM : satMul (digNum s1) (digNum s2) = M at *
  generalize hD1 : digNum s1 = D1 at *
  generalize hD2 : digNum s2 = D2 at *
  generalize hK : kindOf s3 = K at *
  generalize hR : parse3 s1 s2 s3 = R at *
  have HN1 := Lib.hid hN1
  have HN2 := Lib.hid hN2
  have HM := Lib.hid hM
  have HD1 := Lib.hid hD1
  have HD2 := Lib.hid hD2
  have HK := Lib.hid hK
  have HF := Lib.hid F
  clear hN1 hN2 hM hD1 hD2 hK hR F
  rcases HF.out with ⟨f1, rfl⟩ | ⟨f1, f2, f3, rfl⟩ | ⟨f1, f2, f3, rfl⟩ | ⟨f1, f2, f3, f4, f5, rfl⟩ | ⟨f1, f2, f3, f4, f5, rfl⟩
  · clear HF
    go_enter Try.func38, Try.ntmps38
    go_wp2_with (first
      | (go_at_call 53; with_reducible refine (ref11_number s1 24 _ m1).mono ?_; rw [HN1.out, HD1.out]; rintro x w' ⟨rfl, rfl⟩)
      | (go_at_call 53; with_reducible refine (ref11_number s2 25 _ m2).mono ?_; rw [HN2.out, HD2.out]; rintro x w' ⟨rfl, rfl⟩)
      | (go_at_call 9; refine (ref02_Mul _ _ _ d0 d1 d2 d3).mono ?_; rw [HM.out]; rintro x w' ⟨rfl, rfl⟩)
      | (go_at_call 19; refine (ref11_Kind _ _).mono ?_; rw [HK.out]; rintro x w' ⟨rfl, rfl⟩))
    exact bodyPost_ret (v := refRet ⟨#[]⟩ 0 0 0 N1 1) (by simp [results, Try.results38, go_sem, refRet]) rfl ⟨rfl, (by repeat (first | with_reducible exact Ext.refl _ | with_reducible assumption | with_reducible refine Ext.alloc ?_ _ | with_reducible refine Ext.drew ?_ | with_reducible refine Ext.setCell ?_ (by simp; try omega) _ | with_reducible refine Ext.trans ?_ (by with_reducible assumption)))⟩
  · clear HF
    go_enter Try.func38, Try.ntmps38
    go_wp2_with (first
      | (go_at_call 53; with_reducible refine (ref11_number s1 24 _ m1).mono ?_; rw [HN1.out, HD1.out]; rintro x w' ⟨rfl, rfl⟩)
      | (go_at_call 53; with_reducible refine (ref11_number s2 25 _ m2).mono ?_; rw [HN2.out, HD2.out]; rintro x w' ⟨rfl, rfl⟩)
      | (go_at_call 9; refine (ref02_Mul _ _ _ d0 d1 d2 d3).mono ?_; rw [HM.out]; rintro x w' ⟨rfl, rfl⟩)
      | (go_at_call 19; refine (ref11_Kind _ _).mono ?_; rw [HK.out]; rintro x w' ⟨rfl, rfl⟩))
    exact bodyPost_ret (v := refRet ⟨#[]⟩ 0 0 0 N2 2) (by simp [results, Try.results38, go_sem, refRet]) rfl ⟨rfl, (by repeat (first | with_reducible exact Ext.refl _ | with_reducible assumption | with_reducible refine Ext.alloc ?_ _ | with_reducible refine Ext.drew ?_ | with_reducible refine Ext.setCell ?_ (by simp; try omega) _ | with_reducible refine Ext.trans ?_ (by with_reducible assumption)))⟩
  · clear HF
    go_enter Try.func38, Try.ntmps38
    go_wp2_with (first
      | (go_at_call 53; with_reducible refine (ref11_number s1 24 _ m1).mono ?_; rw [HN1.out, HD1.out]; rintro x w' ⟨rfl, rfl⟩)
      | (go_at_call 53; with_reducible refine (ref11_number s2 25 _ m2).mono ?_; rw [HN2.out, HD2.out]; rintro x w' ⟨rfl, rfl⟩)
      | (go_at_call 9; refine (ref02_Mul _ _ _ d0 d1 d2 d3).mono ?_; rw [HM.out]; rintro x w' ⟨rfl, rfl⟩)
      | (go_at_call 19; refine (ref11_Kind _ _).mono ?_; rw [HK.out]; rintro x w' ⟨rfl, rfl⟩))
    exact bodyPost_ret (v := refRet ⟨#[]⟩ 0 0 0 26 2) (by simp [results, Try.results38, go_sem, refRet]) rfl ⟨rfl, (by repeat (first | with_reducible exact Ext.refl _ | with_reducible assumption | with_reducible refine Ext.alloc ?_ _ | with_reducible refine Ext.drew ?_ | with_reducible refine Ext.setCell ?_ (by simp; try omega) _ | with_reducible refine Ext.trans ?_ (by with_reducible assumption)))⟩
  · clear HF
    go_enter Try.func38, Try.ntmps38
    go_wp2_with (first
      | (go_at_call 53; with_reducible refine (ref11_number s1 24 _ m1).mono ?_; rw [HN1.out, HD1.out]; rintro x w' ⟨rfl, rfl⟩)
      | (go_at_call 53; with_reducible refine (ref11_number s2 25 _ m2).mono ?_; rw [HN2.out, HD2.out]; rintro x w' ⟨rfl, rfl⟩)
      | (go_at_call 9; refine (ref02_Mul _ _ _ d0 d1 d2 d3).mono ?_; rw [HM.out]; rintro x w' ⟨rfl, rfl⟩)
      | (go_at_call 19; refine (ref11_Kind _ _).mono ?_; rw [HK.out]; rintro x w' ⟨rfl, rfl⟩))
    exact bodyPost_ret (v := refRet ⟨#[]⟩ 0 0 0 27 3) (by simp [results, Try.results38, go_sem, refRet]) rfl ⟨rfl, (by repeat (first | with_reducible exact Ext.refl _ | with_reducible assumption | with_reducible refine Ext.alloc ?_ _ | with_reducible refine Ext.drew ?_ | with_reducible refine Ext.setCell ?_ (by simp; try omega) _ | with_reducible refine Ext.trans ?_ (by with_reducible assumption)))⟩
  · clear HF
    go_enter Try.func38, Try.ntmps38
    go_wp2_with (first
      | (go_at_call 53; with_reducible refine (ref11_number s1 24 _ m1).mono ?_; rw [HN1.out, HD1.out]; rintro x w' ⟨rfl, rfl⟩)
      | (go_at_call 53; with_reducible refine (ref11_number s2 25 _ m2).mono ?_; rw [HN2.out, HD2.out]; rintro x w' ⟨rfl, rfl⟩)
      | (go_at_call 9; refine (ref02_Mul _ _ _ d0 d1 d2 d3).mono ?_; rw [HM.out]; rintro x w' ⟨rfl, rfl⟩)
      | (go_at_call 19; refine (ref11_Kind _ _).mono ?_; rw [HK.out]; rintro x w' ⟨rfl, rfl⟩))
    exact bodyPost_ret (v := refRet ⟨#[]⟩ D1 D2 K 0 0) (by simp [results, Try.results38, go_sem, refRet]) rfl ⟨rfl, (by repeat (first | with_reducible exact Ext.refl _ | with_reducible assumption | with_reducible refine Ext.alloc ?_ _ | with_reducible refine Ext.drew ?_ | with_reducible refine Ext.setCell ?_ (by simp; try omega) _ | with_reducible refine Ext.trans ?_ (by with_reducible assumption)))⟩

end Go.Proofs.Ytphbhinobdkidaa
