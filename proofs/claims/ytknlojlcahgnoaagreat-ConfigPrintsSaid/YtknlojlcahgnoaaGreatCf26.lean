/- Walks: the references 07 (Right) and 11 but for Parse and Print. Walks: tollerref11.Parse. Walks: tollerref11.Parse: a rule's line; the contract. -/
import Derived.Deep.QuietTactic
import Derived.BigQuiet
import Derived.Test.YtknlojlcahgnoaaGreatCf20
import Derived.Test.YtknlojlcahgnoaaGreatCf3
import Derived.Test.YtknlojlcahgnoaaGreatCf6
import Derived.Test.YtknlojlcahgnoaaGreatCf8

namespace Go.Proofs.YtknlojlcahgnoaaGreat
open Go.RowKit
set_option linter.unusedVariables false
set_option linter.unusedSimpArgs false

theorem ref11_Name (k : Int) (w : World) : Calls Tryz.prog 133 #[.int .u8 k] w fun x w' => x = .returned (.string (nameOf k)) ∧ w = w' := by
  by_cases h1 : k = 1
  · subst h1
    go_enter Tryz.func133, Tryz.ntmps133
    go_wp2
    go_ret
    exact ⟨rfl, rfl⟩
  by_cases h2 : k = 2
  · subst h2
    go_enter Tryz.func133, Tryz.ntmps133
    go_wp2
    go_ret
    exact ⟨rfl, rfl⟩
  by_cases h3 : k = 3
  · subst h3
    go_enter Tryz.func133, Tryz.ntmps133
    go_wp2
    go_ret
    exact ⟨rfl, rfl⟩
  have H := Lib.hid (show nameOf k = ⟨#[]⟩ by unfold nameOf; rw [if_neg h1, if_neg h2, if_neg h3])
  have e1 : (k == 1) = false := by simpa using h1
  have e2 : (k == 2) = false := by simpa using h2
  have e3 : (k == 3) = false := by simpa using h3
  clear h1 h2 h3
  go_enter Tryz.func133, Tryz.ntmps133
  go_wp2
  go_ret
  exact ⟨ret_str H.out.symm, rfl⟩

set_option maxHeartbeats 1000000 in
set_option maxRecDepth 100000 in
theorem ref11_Kind (s : ByteArray) (w : World) : Calls Tryz.prog 190 #[.string s] w fun x w' => x = .returned (.tuple #[.int .u8 (kindOf s), .bool (decide (0 < kindOf s))]) ∧ w = w' := by
  have n1 : nameOf 1 = nmG := rfl
  have n2 : nameOf 2 = nmB := rfl
  have n3 : nameOf 3 = nmL := rfl
  have N1 := Lib.hid n1
  have N2 := Lib.hid n2
  have N3 := Lib.hid n3
  have key : (kindOf s = 1 ∧ (nmG.toList == s.toList) = true) ∨ (kindOf s = 2 ∧ (nmG.toList == s.toList) = false ∧ (nmB.toList == s.toList) = true) ∨
      (kindOf s = 3 ∧ (nmG.toList == s.toList) = false ∧ (nmB.toList == s.toList) = false ∧ (nmL.toList == s.toList) = true) ∨
      (kindOf s = 0 ∧ (nmG.toList == s.toList) = false ∧ (nmB.toList == s.toList) = false ∧ (nmL.toList == s.toList) = false) := by
    have ne : ∀ a : ByteArray, s ≠ a → (a.toList == s.toList) = false := fun a h => by
      rw [Bool.eq_false_iff]; intro q; exact h (bytes_of_toList q).symm
    rcases kindOf_cases s with ⟨h0, h1, h2, h3⟩ | ⟨h0, rfl⟩ | ⟨h0, rfl⟩ | ⟨h0, rfl⟩
    · exact .inr (.inr (.inr ⟨h0, ne _ h1, ne _ h2, ne _ h3⟩))
    · exact .inl ⟨h0, by simp⟩
    · exact .inr (.inl ⟨h0, ne _ (by intro h; have := congrArg ByteArray.size h; revert this; decide), by simp⟩)
    · exact .inr (.inr (.inl ⟨h0, ne _ (by intro h; have := congrArg ByteArray.size h; revert this; decide), ne _ (by intro h; have := congrArg ByteArray.size h; revert this; decide), by simp⟩))
  generalize hK : kindOf s = K at *
  have HK := Lib.hid key
  clear key hK n1 n2 n3
  generalize nmG = g1 at *
  generalize nmB = g2 at *
  generalize nmL = g3 at *
  rcases HK.out with ⟨rfl, t1⟩ | ⟨rfl, t1, t2⟩ | ⟨rfl, t1, t2, t3⟩ | ⟨rfl, t1, t2, t3⟩
  all_goals
    go_enter Tryz.func190, Tryz.ntmps190
    go_wp2
    refine wp_loop_rounds 4 ?_
    rw [rounds_succ]
    go_wp2_with fail
    refine (ref11_Name _ _).mono ?_
    rw [N1.out]
    rintro e w' ⟨rfl, rfl⟩
    go_wp2
    try
      rw [rounds_succ]
      go_wp2_with fail
      refine (ref11_Name _ _).mono ?_
      rw [N2.out]
      rintro e w' ⟨rfl, rfl⟩
      go_wp2
    try
      rw [rounds_succ]
      go_wp2_with fail
      refine (ref11_Name _ _).mono ?_
      rw [N3.out]
      rintro e w' ⟨rfl, rfl⟩
      go_wp2
    try
      rw [rounds_succ]
      go_wp2
    go_ret2
    exact ⟨rfl, rfl⟩

theorem ref11_number (s : ByteArray) (q : Int) (w : World) (hm : s.size ≤ maxLen) :
    Calls Tryz.prog 189 #[.string s, .int .i64 q] w fun x w' => x = .returned (.tuple #[.int .u64 (digNum s), .int .i64 (numErr s q)]) ∧ w = w' := by
  have HC := Lib.hid (numErr_cases s q)
  generalize hE : digErr s = E at *
  generalize hM : digNum s = M at *
  have HE := Lib.hid hE
  have HM := Lib.hid hM
  clear hE hM
  rcases HC.out with ⟨h1, h2⟩ | ⟨h1, h3, h2⟩ | ⟨h1, h3, h2⟩
  all_goals
    have H2 := Lib.hid h2
    clear h2
    go_enter Tryz.func189, Tryz.ntmps189
    go_wp2_with (go_at_call 188; refine (ref03_Parse s _ hm).mono ?_; rw [HE.out, HM.out]; rintro x w' ⟨rfl, rfl⟩)
    go_ret2
    exact ⟨ret_2 rfl (val_int H2.out.symm), rfl⟩

end Go.Proofs.YtknlojlcahgnoaaGreat

namespace Go.Proofs.YtknlojlcahgnoaaGreat
open Go.RowKit
set_option linter.unusedVariables false
set_option linter.unusedSimpArgs false

def refRet (p : ByteArray) (e b k err at_ : Int) : Value := .tuple #[.agg #[.string p, .int .u64 e, .int .u64 b, .int .u8 k], .int .i64 err, .int .i64 at_]
def PRes.r (r : PRes) : Value := refRet r.p r.e r.b r.k r.err r.at_

def Parse3Facts (N1 N2 M K D1 D2 : Int) (o : Int) (p : ByteArray) (r : PRes) : Prop :=
  ((N1 != 0) = true ∧ r = pbad N1 (1 + o)) ∨ ((N1 != 0) = false ∧ (N2 == 0) = false ∧ (N2 != 0) = true ∧ r = pbad N2 (2 + o)) ∨
  ((N1 != 0) = false ∧ (N2 == 0) = true ∧ 4611686018427387904 < M ∧ r = pbad 26 (2 + o)) ∨
  ((N1 != 0) = false ∧ (N2 == 0) = true ∧ (N2 != 0) = false ∧ ¬ 4611686018427387904 < M ∧ decide (0 < K) = false ∧ r = pbad 27 (3 + o)) ∨
  ((N1 != 0) = false ∧ (N2 == 0) = true ∧ (N2 != 0) = false ∧ ¬ 4611686018427387904 < M ∧ decide (0 < K) = true ∧ r = ⟨p, D1, D2, K, 0, 0⟩)
theorem burstErr_cases (e : Int) (s : ByteArray) : (numErr s 25 ≠ 0 ∧ burstErr e s = numErr s 25) ∨ (numErr s 25 = 0 ∧ 4611686018427387904 < satMul e (digNum s) ∧ burstErr e s = 26) ∨ (numErr s 25 = 0 ∧ ¬ 4611686018427387904 < satMul e (digNum s) ∧ burstErr e s = 0) := by
  unfold burstErr capOk
  by_cases h : numErr s 25 = 0
  · right
    by_cases h2 : 4611686018427387904 < satMul e (digNum s)
    · left; refine ⟨h, h2, ?_⟩; rw [if_pos ⟨h, by simp; omega⟩]
    · right; refine ⟨h, h2, ?_⟩; rw [if_neg (by simp; omega), h]
  · left; refine ⟨h, ?_⟩; rw [if_neg (fun q => h q.1)]
theorem parse3_facts (s1 s2 s3 : ByteArray) : Parse3Facts (numErr s1 24) (numErr s2 25) (satMul (digNum s1) (digNum s2)) (kindOf s3) (digNum s1) (digNum s2) 0 ⟨#[]⟩ (parse3 s1 s2 s3) := by
  unfold Parse3Facts parse3
  by_cases h1 : numErr s1 24 = 0
  · rw [if_neg (by simpa using h1)]
    rcases burstErr_cases (digNum s1) s2 with ⟨q, e⟩ | ⟨q, m, e⟩ | ⟨q, m, e⟩
    · right; left; rw [e]; exact ⟨by simpa using h1, by simpa using q, by simpa using q, by rw [if_pos q]; rfl⟩
    · right; right; left; rw [e]; exact ⟨by simpa using h1, by simpa using q, m, by rw [if_pos (by omega)]; rfl⟩
    · right; right; right; rw [e, if_neg (by simp)]
      by_cases hk : 0 < kindOf s3
      · right; refine ⟨by simpa using h1, by simpa using q, by simpa using q, m, by simpa using hk, ?_⟩
        rw [if_neg (by simp [kindErr, hk])]
      · left; refine ⟨by simpa using h1, by simpa using q, by simpa using q, m, by simpa using hk, ?_⟩
        have : kindErr (kindOf s3) = 27 := by unfold kindErr; rw [if_neg hk]
        rw [this, if_pos (by omega)]; rfl
  · left; exact ⟨by simpa using h1, by rw [if_pos h1]; rfl⟩
theorem parse4_facts (s0 s1 s2 s3 : ByteArray) (hk : keyOk s0 = true) : Parse3Facts (numErr s1 24) (numErr s2 25) (satMul (digNum s1) (digNum s2)) (kindOf s3) (digNum s1) (digNum s2) 1 s0 (parse4 s0 s1 s2 s3) := by
  have hp : prefErr s0 = 0 := by unfold prefErr; rw [if_pos hk]
  unfold Parse3Facts parse4
  rw [hp, if_neg (by simp)]
  by_cases h1 : numErr s1 24 = 0
  · rw [if_neg (by simpa using h1)]
    rcases burstErr_cases (digNum s1) s2 with ⟨q, e⟩ | ⟨q, m, e⟩ | ⟨q, m, e⟩
    · right; left; rw [e]; exact ⟨by simpa using h1, by simpa using q, by simpa using q, by rw [if_pos q]; rfl⟩
    · right; right; left; rw [e]; exact ⟨by simpa using h1, by simpa using q, m, by rw [if_pos (by omega)]; rfl⟩
    · right; right; right; rw [e, if_neg (by simp)]
      by_cases hk : 0 < kindOf s3
      · right; refine ⟨by simpa using h1, by simpa using q, by simpa using q, m, by simpa using hk, ?_⟩
        rw [if_neg (by simp [kindErr, hk])]
      · left; refine ⟨by simpa using h1, by simpa using q, by simpa using q, m, by simpa using hk, ?_⟩
        have : kindErr (kindOf s3) = 27 := by unfold kindErr; rw [if_neg hk]
        rw [this, if_pos (by omega)]; rfl
  · left; exact ⟨by simpa using h1, by rw [if_pos h1]; rfl⟩
theorem parse4_bad (s0 s1 s2 s3 : ByteArray) (hk : keyOk s0 = false) : parse4 s0 s1 s2 s3 = pbad 23 1 := by
  have hp : prefErr s0 = 23 := by unfold prefErr; rw [hk]; rfl
  unfold parse4; rw [hp, if_pos (by omega)]
set_option maxHeartbeats 1000000 in
set_option maxRecDepth 100000 in
theorem ref11_Parse_len (a : Option Addr) (n c : Nat) (w : World) (hn : n ≤ maxLen) (h4 : n ≠ 4) (h5 : n ≠ 5) :
    Calls Tryz.prog 137 #[.slice a n c] w fun x w' => x = .returned (pbad 22 0).r ∧ Ext w w' := by
  unfold maxLen at hn
  have e4 : ((n : Int) == 4) = false := by rw [beq_eq_false_iff_ne]; omega
  have e5 : ((n : Int) == 5) = false := by rw [beq_eq_false_iff_ne]; omega
  clear h4 h5
  go_enter Tryz.func137, Tryz.ntmps137
  go_wp2
  exact bodyPost_ret (v := refRet ⟨#[]⟩ 0 0 0 22 0) (by simp [results, Tryz.results137, go_sem, refRet]) rfl ⟨rfl, (by repeat (first | with_reducible exact Ext.refl _ | with_reducible assumption | with_reducible refine Ext.alloc ?_ _ | with_reducible refine Ext.drew ?_ | (with_reducible refine Ext.setCell ?_ (by first | exact Nat.le_refl _ | (dsimp only; omega) | (simp; done) | (simp; omega)) _) | with_reducible refine Ext.setCell ?_ (by simp; try omega) _ | with_reducible refine Ext.trans ?_ (by with_reducible assumption)))⟩

set_option maxHeartbeats 1000000 in
set_option maxRecDepth 100000 in
theorem ref11_Parse_w4 (b o c : Nat) (s : ByteArray) (w : World) (c0 : w.cell? ⟨b, o, none⟩ = some (.string s)) (hs : s ≠ wDef) :
    Calls Tryz.prog 137 #[.slice (some ⟨b, o, none⟩) 4 c] w fun x w' => x = .returned (pbad 22 0).r ∧ Ext w w' := by
  have hbl := cell_lt c0
  have e : (s.toList == wDef.toList) = false := by rw [Bool.eq_false_iff]; intro q; exact hs (bytes_of_toList q)
  have e2 : wDef.toList = [100, 101, 102, 97, 117, 108, 116] := by rw [ByteArray.toList_eq]; rfl
  rw [e2] at e
  clear hs e2
  go_enter Tryz.func137, Tryz.ntmps137
  go_wp2
  exact bodyPost_ret (v := refRet ⟨#[]⟩ 0 0 0 22 0) (by simp [results, Tryz.results137, go_sem, refRet]) rfl ⟨rfl, (by repeat (first | with_reducible exact Ext.refl _ | with_reducible assumption | with_reducible refine Ext.alloc ?_ _ | with_reducible refine Ext.drew ?_ | (with_reducible refine Ext.setCell ?_ (by first | exact Nat.le_refl _ | (dsimp only; omega) | (simp; done) | (simp; omega)) _) | with_reducible refine Ext.setCell ?_ (by simp; try omega) _ | with_reducible refine Ext.trans ?_ (by with_reducible assumption)))⟩

set_option maxHeartbeats 1000000 in
set_option maxRecDepth 100000 in
theorem ref11_Parse_w5 (b o c : Nat) (s : ByteArray) (w : World) (c0 : w.cell? ⟨b, o, none⟩ = some (.string s)) (hs : s ≠ wRule) :
    Calls Tryz.prog 137 #[.slice (some ⟨b, o, none⟩) 5 c] w fun x w' => x = .returned (pbad 22 0).r ∧ Ext w w' := by
  have hbl := cell_lt c0
  have e : (s.toList == wRule.toList) = false := by rw [Bool.eq_false_iff]; intro q; exact hs (bytes_of_toList q)
  have e2 : wRule.toList = [114, 117, 108, 101] := by rw [ByteArray.toList_eq]; rfl
  rw [e2] at e
  clear hs e2
  go_enter Tryz.func137, Tryz.ntmps137
  go_wp2
  exact bodyPost_ret (v := refRet ⟨#[]⟩ 0 0 0 22 0) (by simp [results, Tryz.results137, go_sem, refRet]) rfl ⟨rfl, (by repeat (first | with_reducible exact Ext.refl _ | with_reducible assumption | with_reducible refine Ext.alloc ?_ _ | with_reducible refine Ext.drew ?_ | (with_reducible refine Ext.setCell ?_ (by first | exact Nat.le_refl _ | (dsimp only; omega) | (simp; done) | (simp; omega)) _) | with_reducible refine Ext.setCell ?_ (by simp; try omega) _ | with_reducible refine Ext.trans ?_ (by with_reducible assumption)))⟩

set_option maxHeartbeats 1000000 in
set_option maxRecDepth 100000 in
theorem ref11_Parse_key (b o c : Nat) (s1 : ByteArray) (w : World) (c0 : w.cell? ⟨b, o, none⟩ = some (.string wRule)) (c1 : w.cell? ⟨b, o + 1, none⟩ = some (.string s1)) (m1 : s1.size ≤ maxLen) (hk : keyOk s1 = false) :
    Calls Tryz.prog 137 #[.slice (some ⟨b, o, none⟩) 5 c] w fun x w' => x = .returned (pbad 23 1).r ∧ Ext w w' := by
  have hbl := cell_lt c0
  simp only [wRule] at c0
  have HK := Lib.hid hk
  clear hk
  go_enter Tryz.func137, Tryz.ntmps137
  go_wp2_with (go_at_call 116; refine (ref09_Right _ _ m1).mono ?_; rw [HK.out]; rintro x w' ⟨rfl, rfl⟩)
  exact bodyPost_ret (v := refRet ⟨#[]⟩ 0 0 0 23 1) (by simp [results, Tryz.results137, go_sem, refRet]) rfl ⟨rfl, (by repeat (first | with_reducible exact Ext.refl _ | with_reducible assumption | with_reducible refine Ext.alloc ?_ _ | with_reducible refine Ext.drew ?_ | (with_reducible refine Ext.setCell ?_ (by first | exact Nat.le_refl _ | (dsimp only; omega) | (simp; done) | (simp; omega)) _) | with_reducible refine Ext.setCell ?_ (by simp; try omega) _ | with_reducible refine Ext.trans ?_ (by with_reducible assumption)))⟩

set_option maxHeartbeats 4000000 in
set_option maxRecDepth 100000 in
theorem ref11_Parse_def (b o c : Nat) (s1 s2 s3 : ByteArray) (w : World) (c0 : w.cell? ⟨b, o, none⟩ = some (.string wDef)) (c1 : w.cell? ⟨b, o + 1, none⟩ = some (.string s1)) (m1 : s1.size ≤ maxLen) (c2 : w.cell? ⟨b, o + 2, none⟩ = some (.string s2)) (m2 : s2.size ≤ maxLen) (c3 : w.cell? ⟨b, o + 3, none⟩ = some (.string s3)) (m3 : s3.size ≤ maxLen) :
    Calls Tryz.prog 137 #[.slice (some ⟨b, o, none⟩) 4 c] w fun x w' => x = .returned (parse3 s1 s2 s3).r ∧ Ext w w' := by
  have F := parse3_facts s1 s2 s3
  obtain ⟨d0, d1⟩ := digNum_bounds s1
  obtain ⟨d2, d3⟩ := digNum_bounds s2
  have hbl := cell_lt c0
  simp only [wDef] at c0
  generalize hN1 : numErr s1 24 = N1 at *
  generalize hN2 : numErr s2 25 = N2 at *
  generalize hM : satMul (digNum s1) (digNum s2) = M at *
  generalize hD1 : digNum s1 = D1 at *
  generalize hD2 : digNum s2 = D2 at *
  generalize hK : kindOf s3 = K at *
  generalize hR : parse3 s1 s2 s3 = R at *
  have HN1 := Lib.hid hN1
  have HN2 := Lib.hid hN2
  have HM := Lib.hid hM
  have HD1 := Lib.hid hD1
  have HD2 := Lib.hid hD2
  have HK := Lib.hid hK
  have HF := Lib.hid F
  clear hN1 hN2 hM hD1 hD2 hK hR F
  rcases HF.out with ⟨f1, rfl⟩ | ⟨f1, f2, f3, rfl⟩ | ⟨f1, f2, f3, rfl⟩ | ⟨f1, f2, f3, f4, f5, rfl⟩ | ⟨f1, f2, f3, f4, f5, rfl⟩
  · clear HF
    go_enter Tryz.func137, Tryz.ntmps137
    go_wp2_with (first
      | (go_at_call 189; with_reducible refine (ref11_number s1 24 _ m1).mono ?_; rw [HN1.out, HD1.out]; rintro x w' ⟨rfl, rfl⟩)
      | (go_at_call 189; with_reducible refine (ref11_number s2 25 _ m2).mono ?_; rw [HN2.out, HD2.out]; rintro x w' ⟨rfl, rfl⟩)
      | (go_at_call 138; refine (ref02_Mul _ _ _ d0 d1 d2 d3).mono ?_; rw [HM.out]; rintro x w' ⟨rfl, rfl⟩)
      | (go_at_call 190; refine (ref11_Kind _ _).mono ?_; rw [HK.out]; rintro x w' ⟨rfl, rfl⟩))
    exact bodyPost_ret (v := refRet ⟨#[]⟩ 0 0 0 N1 1) (by simp [results, Tryz.results137, go_sem, refRet]) rfl ⟨rfl, (by repeat (first | with_reducible exact Ext.refl _ | with_reducible assumption | with_reducible refine Ext.alloc ?_ _ | with_reducible refine Ext.drew ?_ | (with_reducible refine Ext.setCell ?_ (by first | exact Nat.le_refl _ | (dsimp only; omega) | (simp; done) | (simp; omega)) _) | with_reducible refine Ext.setCell ?_ (by simp; try omega) _ | with_reducible refine Ext.trans ?_ (by with_reducible assumption)))⟩
  · clear HF
    go_enter Tryz.func137, Tryz.ntmps137
    go_wp2_with (first
      | (go_at_call 189; with_reducible refine (ref11_number s1 24 _ m1).mono ?_; rw [HN1.out, HD1.out]; rintro x w' ⟨rfl, rfl⟩)
      | (go_at_call 189; with_reducible refine (ref11_number s2 25 _ m2).mono ?_; rw [HN2.out, HD2.out]; rintro x w' ⟨rfl, rfl⟩)
      | (go_at_call 138; refine (ref02_Mul _ _ _ d0 d1 d2 d3).mono ?_; rw [HM.out]; rintro x w' ⟨rfl, rfl⟩)
      | (go_at_call 190; refine (ref11_Kind _ _).mono ?_; rw [HK.out]; rintro x w' ⟨rfl, rfl⟩))
    exact bodyPost_ret (v := refRet ⟨#[]⟩ 0 0 0 N2 2) (by simp [results, Tryz.results137, go_sem, refRet]) rfl ⟨rfl, (by repeat (first | with_reducible exact Ext.refl _ | with_reducible assumption | with_reducible refine Ext.alloc ?_ _ | with_reducible refine Ext.drew ?_ | (with_reducible refine Ext.setCell ?_ (by first | exact Nat.le_refl _ | (dsimp only; omega) | (simp; done) | (simp; omega)) _) | with_reducible refine Ext.setCell ?_ (by simp; try omega) _ | with_reducible refine Ext.trans ?_ (by with_reducible assumption)))⟩
  · clear HF
    go_enter Tryz.func137, Tryz.ntmps137
    go_wp2_with (first
      | (go_at_call 189; with_reducible refine (ref11_number s1 24 _ m1).mono ?_; rw [HN1.out, HD1.out]; rintro x w' ⟨rfl, rfl⟩)
      | (go_at_call 189; with_reducible refine (ref11_number s2 25 _ m2).mono ?_; rw [HN2.out, HD2.out]; rintro x w' ⟨rfl, rfl⟩)
      | (go_at_call 138; refine (ref02_Mul _ _ _ d0 d1 d2 d3).mono ?_; rw [HM.out]; rintro x w' ⟨rfl, rfl⟩)
      | (go_at_call 190; refine (ref11_Kind _ _).mono ?_; rw [HK.out]; rintro x w' ⟨rfl, rfl⟩))
    exact bodyPost_ret (v := refRet ⟨#[]⟩ 0 0 0 26 2) (by simp [results, Tryz.results137, go_sem, refRet]) rfl ⟨rfl, (by repeat (first | with_reducible exact Ext.refl _ | with_reducible assumption | with_reducible refine Ext.alloc ?_ _ | with_reducible refine Ext.drew ?_ | (with_reducible refine Ext.setCell ?_ (by first | exact Nat.le_refl _ | (dsimp only; omega) | (simp; done) | (simp; omega)) _) | with_reducible refine Ext.setCell ?_ (by simp; try omega) _ | with_reducible refine Ext.trans ?_ (by with_reducible assumption)))⟩
  · clear HF
    go_enter Tryz.func137, Tryz.ntmps137
    go_wp2_with (first
      | (go_at_call 189; with_reducible refine (ref11_number s1 24 _ m1).mono ?_; rw [HN1.out, HD1.out]; rintro x w' ⟨rfl, rfl⟩)
      | (go_at_call 189; with_reducible refine (ref11_number s2 25 _ m2).mono ?_; rw [HN2.out, HD2.out]; rintro x w' ⟨rfl, rfl⟩)
      | (go_at_call 138; refine (ref02_Mul _ _ _ d0 d1 d2 d3).mono ?_; rw [HM.out]; rintro x w' ⟨rfl, rfl⟩)
      | (go_at_call 190; refine (ref11_Kind _ _).mono ?_; rw [HK.out]; rintro x w' ⟨rfl, rfl⟩))
    exact bodyPost_ret (v := refRet ⟨#[]⟩ 0 0 0 27 3) (by simp [results, Tryz.results137, go_sem, refRet]) rfl ⟨rfl, (by repeat (first | with_reducible exact Ext.refl _ | with_reducible assumption | with_reducible refine Ext.alloc ?_ _ | with_reducible refine Ext.drew ?_ | (with_reducible refine Ext.setCell ?_ (by first | exact Nat.le_refl _ | (dsimp only; omega) | (simp; done) | (simp; omega)) _) | with_reducible refine Ext.setCell ?_ (by simp; try omega) _ | with_reducible refine Ext.trans ?_ (by with_reducible assumption)))⟩
  · clear HF
    go_enter Tryz.func137, Tryz.ntmps137
    go_wp2_with (first
      | (go_at_call 189; with_reducible refine (ref11_number s1 24 _ m1).mono ?_; rw [HN1.out, HD1.out]; rintro x w' ⟨rfl, rfl⟩)
      | (go_at_call 189; with_reducible refine (ref11_number s2 25 _ m2).mono ?_; rw [HN2.out, HD2.out]; rintro x w' ⟨rfl, rfl⟩)
      | (go_at_call 138; refine (ref02_Mul _ _ _ d0 d1 d2 d3).mono ?_; rw [HM.out]; rintro x w' ⟨rfl, rfl⟩)
      | (go_at_call 190; refine (ref11_Kind _ _).mono ?_; rw [HK.out]; rintro x w' ⟨rfl, rfl⟩))
    exact bodyPost_ret (v := refRet ⟨#[]⟩ D1 D2 K 0 0) (by simp [results, Tryz.results137, go_sem, refRet]) rfl ⟨rfl, (by repeat (first | with_reducible exact Ext.refl _ | with_reducible assumption | with_reducible refine Ext.alloc ?_ _ | with_reducible refine Ext.drew ?_ | (with_reducible refine Ext.setCell ?_ (by first | exact Nat.le_refl _ | (dsimp only; omega) | (simp; done) | (simp; omega)) _) | with_reducible refine Ext.setCell ?_ (by simp; try omega) _ | with_reducible refine Ext.trans ?_ (by with_reducible assumption)))⟩

end Go.Proofs.YtknlojlcahgnoaaGreat

namespace Go.Proofs.YtknlojlcahgnoaaGreat
open Go.RowKit
set_option linter.unusedVariables false
set_option linter.unusedSimpArgs false

set_option maxHeartbeats 4000000 in
set_option maxRecDepth 100000 in
theorem ref11_Parse_rule (b o c : Nat) (s1 s2 s3 s4 : ByteArray) (w : World) (c0 : w.cell? ⟨b, o, none⟩ = some (.string wRule)) (c1 : w.cell? ⟨b, o + 1, none⟩ = some (.string s1)) (m1 : s1.size ≤ maxLen) (c2 : w.cell? ⟨b, o + 2, none⟩ = some (.string s2)) (m2 : s2.size ≤ maxLen) (c3 : w.cell? ⟨b, o + 3, none⟩ = some (.string s3)) (m3 : s3.size ≤ maxLen) (c4 : w.cell? ⟨b, o + 4, none⟩ = some (.string s4)) (m4 : s4.size ≤ maxLen) (hk : keyOk s1 = true) :
    Calls Tryz.prog 137 #[.slice (some ⟨b, o, none⟩) 5 c] w fun x w' => x = .returned (parse4 s1 s2 s3 s4).r ∧ Ext w w' := by
  have F := parse4_facts s1 s2 s3 s4 hk
  obtain ⟨d0, d1⟩ := digNum_bounds s2
  obtain ⟨d2, d3⟩ := digNum_bounds s3
  have hbl := cell_lt c0
  simp only [wRule] at c0
  generalize hN1 : numErr s2 24 = N1 at *
  generalize hN2 : numErr s3 25 = N2 at *
  generalize hM : satMul (digNum s2) (digNum s3) = M at *
  generalize hD1 : digNum s2 = D1 at *
  generalize hD2 : digNum s3 = D2 at *
  generalize hK : kindOf s4 = K at *
  generalize hR : parse4 s1 s2 s3 s4 = R at *
  have HN1 := Lib.hid hN1
  have HN2 := Lib.hid hN2
  have HM := Lib.hid hM
  have HD1 := Lib.hid hD1
  have HD2 := Lib.hid hD2
  have HK := Lib.hid hK
  have HF := Lib.hid F
  clear hN1 hN2 hM hD1 hD2 hK hR F
  rcases HF.out with ⟨f1, rfl⟩ | ⟨f1, f2, f3, rfl⟩ | ⟨f1, f2, f3, rfl⟩ | ⟨f1, f2, f3, f4, f5, rfl⟩ | ⟨f1, f2, f3, f4, f5, rfl⟩
  · clear HF
    go_enter Tryz.func137, Tryz.ntmps137
    go_wp2_with (first
      | (go_at_call 116; refine (ref09_Right _ _ m1).mono ?_; rw [hk]; rintro x w' ⟨rfl, rfl⟩)
      | (go_at_call 189; with_reducible refine (ref11_number s2 24 _ m2).mono ?_; rw [HN1.out, HD1.out]; rintro x w' ⟨rfl, rfl⟩)
      | (go_at_call 189; with_reducible refine (ref11_number s3 25 _ m3).mono ?_; rw [HN2.out, HD2.out]; rintro x w' ⟨rfl, rfl⟩)
      | (go_at_call 138; refine (ref02_Mul _ _ _ d0 d1 d2 d3).mono ?_; rw [HM.out]; rintro x w' ⟨rfl, rfl⟩)
      | (go_at_call 190; refine (ref11_Kind _ _).mono ?_; rw [HK.out]; rintro x w' ⟨rfl, rfl⟩))
    exact bodyPost_ret (v := refRet ⟨#[]⟩ 0 0 0 N1 2) (by simp [results, Tryz.results137, go_sem, refRet]) rfl ⟨rfl, (by repeat (first | with_reducible exact Ext.refl _ | with_reducible assumption | with_reducible refine Ext.alloc ?_ _ | with_reducible refine Ext.drew ?_ | (with_reducible refine Ext.setCell ?_ (by first | exact Nat.le_refl _ | (dsimp only; omega) | (simp; done) | (simp; omega)) _) | with_reducible refine Ext.setCell ?_ (by simp; try omega) _ | with_reducible refine Ext.trans ?_ (by with_reducible assumption)))⟩
  · clear HF
    go_enter Tryz.func137, Tryz.ntmps137
    go_wp2_with (first
      | (go_at_call 116; refine (ref09_Right _ _ m1).mono ?_; rw [hk]; rintro x w' ⟨rfl, rfl⟩)
      | (go_at_call 189; with_reducible refine (ref11_number s2 24 _ m2).mono ?_; rw [HN1.out, HD1.out]; rintro x w' ⟨rfl, rfl⟩)
      | (go_at_call 189; with_reducible refine (ref11_number s3 25 _ m3).mono ?_; rw [HN2.out, HD2.out]; rintro x w' ⟨rfl, rfl⟩)
      | (go_at_call 138; refine (ref02_Mul _ _ _ d0 d1 d2 d3).mono ?_; rw [HM.out]; rintro x w' ⟨rfl, rfl⟩)
      | (go_at_call 190; refine (ref11_Kind _ _).mono ?_; rw [HK.out]; rintro x w' ⟨rfl, rfl⟩))
    exact bodyPost_ret (v := refRet ⟨#[]⟩ 0 0 0 N2 3) (by simp [results, Tryz.results137, go_sem, refRet]) rfl ⟨rfl, (by repeat (first | with_reducible exact Ext.refl _ | with_reducible assumption | with_reducible refine Ext.alloc ?_ _ | with_reducible refine Ext.drew ?_ | (with_reducible refine Ext.setCell ?_ (by first | exact Nat.le_refl _ | (dsimp only; omega) | (simp; done) | (simp; omega)) _) | with_reducible refine Ext.setCell ?_ (by simp; try omega) _ | with_reducible refine Ext.trans ?_ (by with_reducible assumption)))⟩
  · clear HF
    go_enter Tryz.func137, Tryz.ntmps137
    go_wp2_with (first
      | (go_at_call 116; refine (ref09_Right _ _ m1).mono ?_; rw [hk]; rintro x w' ⟨rfl, rfl⟩)
      | (go_at_call 189; with_reducible refine (ref11_number s2 24 _ m2).mono ?_; rw [HN1.out, HD1.out]; rintro x w' ⟨rfl, rfl⟩)
      | (go_at_call 189; with_reducible refine (ref11_number s3 25 _ m3).mono ?_; rw [HN2.out, HD2.out]; rintro x w' ⟨rfl, rfl⟩)
      | (go_at_call 138; refine (ref02_Mul _ _ _ d0 d1 d2 d3).mono ?_; rw [HM.out]; rintro x w' ⟨rfl, rfl⟩)
      | (go_at_call 190; refine (ref11_Kind _ _).mono ?_; rw [HK.out]; rintro x w' ⟨rfl, rfl⟩))
    exact bodyPost_ret (v := refRet ⟨#[]⟩ 0 0 0 26 3) (by simp [results, Tryz.results137, go_sem, refRet]) rfl ⟨rfl, (by repeat (first | with_reducible exact Ext.refl _ | with_reducible assumption | with_reducible refine Ext.alloc ?_ _ | with_reducible refine Ext.drew ?_ | (with_reducible refine Ext.setCell ?_ (by first | exact Nat.le_refl _ | (dsimp only; omega) | (simp; done) | (simp; omega)) _) | with_reducible refine Ext.setCell ?_ (by simp; try omega) _ | with_reducible refine Ext.trans ?_ (by with_reducible assumption)))⟩
  · clear HF
    go_enter Tryz.func137, Tryz.ntmps137
    go_wp2_with (first
      | (go_at_call 116; refine (ref09_Right _ _ m1).mono ?_; rw [hk]; rintro x w' ⟨rfl, rfl⟩)
      | (go_at_call 189; with_reducible refine (ref11_number s2 24 _ m2).mono ?_; rw [HN1.out, HD1.out]; rintro x w' ⟨rfl, rfl⟩)
      | (go_at_call 189; with_reducible refine (ref11_number s3 25 _ m3).mono ?_; rw [HN2.out, HD2.out]; rintro x w' ⟨rfl, rfl⟩)
      | (go_at_call 138; refine (ref02_Mul _ _ _ d0 d1 d2 d3).mono ?_; rw [HM.out]; rintro x w' ⟨rfl, rfl⟩)
      | (go_at_call 190; refine (ref11_Kind _ _).mono ?_; rw [HK.out]; rintro x w' ⟨rfl, rfl⟩))
    exact bodyPost_ret (v := refRet ⟨#[]⟩ 0 0 0 27 4) (by simp [results, Tryz.results137, go_sem, refRet]) rfl ⟨rfl, (by repeat (first | with_reducible exact Ext.refl _ | with_reducible assumption | with_reducible refine Ext.alloc ?_ _ | with_reducible refine Ext.drew ?_ | (with_reducible refine Ext.setCell ?_ (by first | exact Nat.le_refl _ | (dsimp only; omega) | (simp; done) | (simp; omega)) _) | with_reducible refine Ext.setCell ?_ (by simp; try omega) _ | with_reducible refine Ext.trans ?_ (by with_reducible assumption)))⟩
  · clear HF
    go_enter Tryz.func137, Tryz.ntmps137
    go_wp2_with (first
      | (go_at_call 116; refine (ref09_Right _ _ m1).mono ?_; rw [hk]; rintro x w' ⟨rfl, rfl⟩)
      | (go_at_call 189; with_reducible refine (ref11_number s2 24 _ m2).mono ?_; rw [HN1.out, HD1.out]; rintro x w' ⟨rfl, rfl⟩)
      | (go_at_call 189; with_reducible refine (ref11_number s3 25 _ m3).mono ?_; rw [HN2.out, HD2.out]; rintro x w' ⟨rfl, rfl⟩)
      | (go_at_call 138; refine (ref02_Mul _ _ _ d0 d1 d2 d3).mono ?_; rw [HM.out]; rintro x w' ⟨rfl, rfl⟩)
      | (go_at_call 190; refine (ref11_Kind _ _).mono ?_; rw [HK.out]; rintro x w' ⟨rfl, rfl⟩))
    exact bodyPost_ret (v := refRet s1 D1 D2 K 0 0) (by simp [results, Tryz.results137, go_sem, refRet]) rfl ⟨rfl, (by repeat (first | with_reducible exact Ext.refl _ | with_reducible assumption | with_reducible refine Ext.alloc ?_ _ | with_reducible refine Ext.drew ?_ | (with_reducible refine Ext.setCell ?_ (by first | exact Nat.le_refl _ | (dsimp only; omega) | (simp; done) | (simp; omega)) _) | with_reducible refine Ext.setCell ?_ (by simp; try omega) _ | with_reducible refine Ext.trans ?_ (by with_reducible assumption)))⟩

theorem ref11_Parse (v : Value) (l : List ByteArray) (w : World) (h : StrSlice w v l) :
    Calls Tryz.prog 137 #[v] w fun x w' => x = .returned (ruleParse l).r ∧ Ext w w' := by
  obtain ⟨⟨a, c, rfl, hl⟩, hlen, heach⟩ := h
  by_cases h4 : l.length = 4
  · match l, h4, hl, hlen, heach with
    | [s, s1, s2, s3], _, hl, hlen, heach =>
      obtain ⟨b, o, rfl, hc⟩ := hl (by simp)
      have c0 : w.cell? ⟨b, o, none⟩ = some (.string s) := hc 0 (by simp)
      have c1 : w.cell? ⟨b, o + 1, none⟩ = some (.string s1) := hc 1 (by simp)
      have c2 : w.cell? ⟨b, o + 2, none⟩ = some (.string s2) := hc 2 (by simp)
      have c3 : w.cell? ⟨b, o + 3, none⟩ = some (.string s3) := hc 3 (by simp)
      by_cases h1 : s = wDef
      · subst h1
        rw [ruleParse_def]
        exact ref11_Parse_def b o c s1 s2 s3 w c0 c1 (heach s1 (by simp)) c2 (heach s2 (by simp)) c3 (heach s3 (by simp))
      · have e : ruleParse [s, s1, s2, s3] = pbad 22 0 := by
          rw [ruleParse_cons, if_neg h1]
          split
          · rfl
          · rfl
        rw [e]
        exact ref11_Parse_w4 b o c s w c0 h1
  by_cases h5 : l.length = 5
  · match l, h5, hl, hlen, heach with
    | [s, s1, s2, s3, s4], _, hl, hlen, heach =>
      obtain ⟨b, o, rfl, hc⟩ := hl (by simp)
      have c0 : w.cell? ⟨b, o, none⟩ = some (.string s) := hc 0 (by simp)
      have c1 : w.cell? ⟨b, o + 1, none⟩ = some (.string s1) := hc 1 (by simp)
      have c2 : w.cell? ⟨b, o + 2, none⟩ = some (.string s2) := hc 2 (by simp)
      have c3 : w.cell? ⟨b, o + 3, none⟩ = some (.string s3) := hc 3 (by simp)
      have c4 : w.cell? ⟨b, o + 4, none⟩ = some (.string s4) := hc 4 (by simp)
      by_cases h1 : s = wRule
      · subst h1
        rw [ruleParse_rule]
        show Calls _ _ _ _ fun x w' => x = .returned (parse4 s1 s2 s3 s4).r ∧ _
        cases hk : keyOk s1
        · rw [parse4_bad s1 s2 s3 s4 hk]
          exact ref11_Parse_key b o c s1 w c0 c1 (heach s1 (by simp)) hk
        · exact ref11_Parse_rule b o c s1 s2 s3 s4 w c0 c1 (heach s1 (by simp)) c2 (heach s2 (by simp)) c3 (heach s3 (by simp)) c4 (heach s4 (by simp)) hk
      · have e : ruleParse [s, s1, s2, s3, s4] = pbad 22 0 := by
          rw [ruleParse_cons]
          split
          · rfl
          · rfl
        rw [e]
        exact ref11_Parse_w5 b o c s w c0 h1
  · have e : ruleParse l = pbad 22 0 := by
      match l, h4, h5 with
      | [], _, _ => rfl
      | s :: r, h4, h5 =>
        rw [ruleParse_cons]
        split
        · exact parseD_len r (by simpa using h4)
        · split
          · exact parseR_len r (by simpa using h5)
          · rfl
    rw [e]
    exact ref11_Parse_len a _ c w hlen h4 h5

end Go.Proofs.YtknlojlcahgnoaaGreat
