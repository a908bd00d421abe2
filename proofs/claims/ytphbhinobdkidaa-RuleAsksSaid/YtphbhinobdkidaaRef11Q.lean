/- Walks: tollerref11.Parse: a rule's line; the contract. -/
import Derived.Test.YtphbhinobdkidaaRef11P
namespace Go.Proofs.Ytphbhinobdkidaa
open Go.RowKit
set_option linter.unusedVariables false
set_option linter.unusedSimpArgs false

set_option maxHeartbeats 4000000 in
set_option maxRecDepth 100000 in
theorem ref11_Parse_rule (b o c : Nat) (s1 s2 s3 s4 : ByteArray) (w : World) (c0 : w.cell? ⟨b, o, none⟩ = some (.string wRule)) (c1 : w.cell? ⟨b, o + 1, none⟩ = some (.string s1)) (m1 : s1.size ≤ maxLen) (c2 : w.cell? ⟨b, o + 2, none⟩ = some (.string s2)) (m2 : s2.size ≤ maxLen) (c3 : w.cell? ⟨b, o + 3, none⟩ = some (.string s3)) (m3 : s3.size ≤ maxLen) (c4 : w.cell? ⟨b, o + 4, none⟩ = some (.string s4)) (m4 : s4.size ≤ maxLen) (hk : keyOk s1 = true) :
    Calls Try.prog 38 #[.slice (some ⟨b, o, none⟩) 5 c] w fun x w' => x = .returned (parse4 s1 s2 s3 s4).r ∧ Ext w w' := by
  have F := parse4_facts s1 s2 s3 s4 hk
  obtain ⟨d0, d1⟩ := digNum_bounds s2
  obtain ⟨d2, d3⟩ := digNum_bounds s3
  have hbl := cell_lt c0
  simp only [wRule] at c0
  generalize hN1 : numErr s2 24 = N1 at *
  generalize hN2 : numErr s3 25 = N2 at *
  generalize hM : satMul (digNum s2) (digNum s3) = M at *
  generalize hD1 : digNum s2 = D1 at *
  generalize hD2 : digNum s3 = D2 at *
  generalize hK : kindOf s4 = K at *
  generalize hR : parse4 s1 s2 s3 s4 = R at *
  have HN1 := Lib.hid hN1
  have HN2 := Lib.hid hN2
  have HM := Lib.hid hM
  have HD1 := Lib.hid hD1
  have HD2 := Lib.hid hD2
  have HK := Lib.hid hK
  have HF := Lib.hid F
  clear hN1 hN2 hM hD1 hD2 hK hR F
  rcases HF.out with ⟨f1, rfl⟩ | ⟨f1, f2, f3, rfl⟩ | ⟨f1, f2, f3, rfl⟩ | ⟨f1, f2, f3, f4, f5, rfl⟩ | ⟨f1, f2, f3, f4, f5, rfl⟩
  · clear HF
    go_enter Try.func38, Try.ntmps38
    go_wp2_with (first
      | (go_at_call 51; refine (ref09_Right _ _ m1).mono ?_; rw [hk]; rintro x w' ⟨rfl, rfl⟩)
      | (go_at_call 53; with_reducible refine (ref11_number s2 24 _ m2).mono ?_; rw [HN1.out, HD1.out]; rintro x w' ⟨rfl, rfl⟩)
      | (go_at_call 53; with_reducible refine (ref11_number s3 25 _ m3).mono ?_; rw [HN2.out, HD2.out]; rintro x w' ⟨rfl, rfl⟩)
      | (go_at_call 9; refine (ref02_Mul _ _ _ d0 d1 d2 d3).mono ?_; rw [HM.out]; rintro x w' ⟨rfl, rfl⟩)
      | (go_at_call 19; refine (ref11_Kind _ _).mono ?_; rw [HK.out]; rintro x w' ⟨rfl, rfl⟩))
    exact bodyPost_ret (v := refRet ⟨#[]⟩ 0 0 0 N1 2) (by simp [results, Try.results38, go_sem, refRet]) rfl ⟨rfl, (by repeat (first | with_reducible exact Ext.refl _ | with_reducible assumption | with_reducible refine Ext.alloc ?_ _ | with_reducible refine Ext.drew ?_ | with_reducible refine Ext.setCell ?_ (by simp; try omega) _ | with_reducible refine Ext.trans ?_ (by with_reducible assumption)))⟩
  · clear HF
    go_enter Try.func38, Try.ntmps38
    go_wp2_with (first
      | (go_at_call 51; refine (ref09_Right _ _ m1).mono ?_; rw [hk]; rintro x w' ⟨rfl, rfl⟩)
      | (go_at_call 53; with_reducible refine (ref11_number s2 24 _ m2).mono ?_; rw [HN1.out, HD1.out]; rintro x w' ⟨rfl, rfl⟩)
      | (go_at_call 53; with_reducible refine (ref11_number s3 25 _ m3).mono ?_; rw [HN2.out, HD2.out]; rintro x w' ⟨rfl, rfl⟩)
      | (go_at_call 9; refine (ref02_Mul _ _ _ d0 d1 d2 d3).mono ?_; rw [HM.out]; rintro x w' ⟨rfl, rfl⟩)
      | (go_at_call 19; refine (ref11_Kind _ _).mono ?_; rw [HK.out]; rintro x w' ⟨rfl, rfl⟩))
    exact bodyPost_ret (v := refRet ⟨#[]⟩ 0 0 0 N2 3) (by simp [results, Try.results38, go_sem, refRet]) rfl ⟨rfl, (by repeat (first | with_reducible exact Ext.refl _ | with_reducible assumption | with_reducible refine Ext.alloc ?_ _ | with_reducible refine Ext.drew ?_ | with_reducible refine Ext.setCell ?_ (by simp; try omega) _ | with_reducible refine Ext.trans ?_ (by with_reducible assumption)))⟩
  · clear HF
    go_enter Try.func38, Try.ntmps38
    go_wp2_with (first
      | (go_at_call 51; refine (ref09_Right _ _ m1).mono ?_; rw [hk]; rintro x w' ⟨rfl, rfl⟩)
      | (go_at_call 53; with_reducible refine (ref11_number s2 24 _ m2).mono ?_; rw [HN1.out, HD1.out]; rintro x w' ⟨rfl, rfl⟩)
      | (go_at_call 53; with_reducible refine (ref11_number s3 25 _ m3).mono ?_; rw [HN2.out, HD2.out]; rintro x w' ⟨rfl, rfl⟩)
      | (go_at_call 9; refine (ref02_Mul _ _ _ d0 d1 d2 d3).mono ?_; rw [HM.out]; rintro x w' ⟨rfl, rfl⟩)
      | (go_at_call 19; refine (ref11_Kind _ _).mono ?_; rw [HK.out]; rintro x w' ⟨rfl, rfl⟩))
    exact bodyPost_ret (v := refRet ⟨#[]⟩ 0 0 0 26 3) (by simp [results, Try.results38, go_sem, refRet]) rfl ⟨rfl, (by repeat (first | with_reducible exact Ext.refl _ | with_reducible assumption | with_reducible refine Ext.alloc ?_ _ | with_reducible refine Ext.drew ?_ | with_reducible refine Ext.setCell ?_ (by simp; try omega) _ | with_reducible refine Ext.trans ?_ (by with_reducible assumption)))⟩
  · clear HF
    go_enter Try.func38, Try.ntmps38
    go_wp2_with (first
      | (go_at_call 51; refine (ref09_Right _ _ m1).mono ?_; rw [hk]; rintro x w' ⟨rfl, rfl⟩)
      | (go_at_call 53; with_reducible refine (ref11_number s2 24 _ m2).mono ?_; rw [HN1.out, HD1.out]; rintro x w' ⟨rfl, rfl⟩)
      | (go_at_call 53; with_reducible refine (ref11_number s3 25 _ m3).mono ?_; rw [HN2.out, HD2.out]; rintro x w' ⟨rfl, rfl⟩)
      | (go_at_call 9; refine (ref02_Mul _ _ _ d0 d1 d2 d3).mono ?_; rw [HM.out]; rintro x w' ⟨rfl, rfl⟩)
      | (go_at_call 19; refine (ref11_Kind _ _).mono ?_; rw [HK.out]; rintro x w' ⟨rfl, rfl⟩))
    exact bodyPost_ret (v := refRet ⟨#[]⟩ 0 0 0 27 4) (by simp [results, Try.results38, go_sem, refRet]) rfl ⟨rfl, (by repeat (first | with_reducible exact Ext.refl _ | with_reducible assumption | with_reducible refine Ext.alloc ?_ _ | with_reducible refine Ext.drew ?_ | with_reducible refine Ext.setCell ?_ (by simp; try omega) _ | with_reducible refine Ext.trans ?_ (by with_reducible assumption)))⟩
  · clear HF
    go_enter Try.func38, Try.ntmps38
    go_wp2_with (first
      | (go_at_call 51; refine (ref09_Right _ _ m1).mono ?_; rw [hk]; rintro x w' ⟨rfl, rfl⟩)
      | (go_at_call 53; with_reducible refine (ref11_number s2 24 _ m2).mono ?_; rw [HN1.out, HD1.out]; rintro x w' ⟨rfl, rfl⟩)
      | (go_at_call 53; with_reducible refine (ref11_number s3 25 _ m3).mono ?_; rw [HN2.out, HD2.out]; rintro x w' ⟨rfl, rfl⟩)
      | (go_at_call 9; refine (ref02_Mul _ _ _ d0 d1 d2 d3).mono ?_; rw [HM.out]; rintro x w' ⟨rfl, rfl⟩)
      | (go_at_call 19; refine (ref11_Kind _ _).mono ?_; rw [HK.out]; rintro x w' ⟨rfl, rfl⟩))
    exact bodyPost_ret (v := refRet s1 D1 D2 K 0 0) (by simp [results, Try.results38, go_sem, refRet]) rfl ⟨rfl, (by repeat (first | with_reducible exact Ext.refl _ | with_reducible assumption | with_reducible refine Ext.alloc ?_ _ | with_reducible refine Ext.drew ?_ | with_reducible refine Ext.setCell ?_ (by simp; try omega) _ | with_reducible refine Ext.trans ?_ (by with_reducible assumption)))⟩

theorem ref11_Parse (v : Value) (l : List ByteArray) (w : World) (h : StrSlice w v l) :
    Calls Try.prog 38 #[v] w fun x w' => x = .returned (ruleParse l).r ∧ Ext w w' := by
  obtain ⟨⟨a, c, rfl, hl⟩, hlen, heach⟩ := h
  by_cases h4 : l.length = 4
  · match l, h4, hl, hlen, heach with
    | [s, s1, s2, s3], _, hl, hlen, heach =>
      obtain ⟨b, o, rfl, hc⟩ := hl (by simp)
      have c0 : w.cell? ⟨b, o, none⟩ = some (.string s) := hc 0 (by simp)
      have c1 : w.cell? ⟨b, o + 1, none⟩ = some (.string s1) := hc 1 (by simp)
      have c2 : w.cell? ⟨b, o + 2, none⟩ = some (.string s2) := hc 2 (by simp)
      have c3 : w.cell? ⟨b, o + 3, none⟩ = some (.string s3) := hc 3 (by simp)
      by_cases h1 : s = wDef
      · subst h1
        rw [ruleParse_def]
        exact ref11_Parse_def b o c s1 s2 s3 w c0 c1 (heach s1 (by simp)) c2 (heach s2 (by simp)) c3 (heach s3 (by simp))
      · have e : ruleParse [s, s1, s2, s3] = pbad 22 0 := by
          rw [ruleParse_cons, if_neg h1]
          split
          · rfl
          · rfl
        rw [e]
        exact ref11_Parse_w4 b o c s w c0 h1
  by_cases h5 : l.length = 5
  · match l, h5, hl, hlen, heach with
    | [s, s1, s2, s3, s4], _, hl, hlen, heach =>
      obtain ⟨b, o, rfl, hc⟩ := hl (by simp)
      have c0 : w.cell? ⟨b, o, none⟩ = some (.string s) := hc 0 (by simp)
      have c1 : w.cell? ⟨b, o + 1, none⟩ = some (.string s1) := hc 1 (by simp)
      have c2 : w.cell? ⟨b, o + 2, none⟩ = some (.string s2) := hc 2 (by simp)
      have c3 : w.cell? ⟨b, o + 3, none⟩ = some (.string s3) := hc 3 (by simp)
      have c4 : w.cell? ⟨b, o + 4, none⟩ = some (.string s4) := hc 4 (by simp)
      by_cases h1 : s = wRule
      · subst h1
        rw [ruleParse_rule]
        show Calls _ _ _ _ fun x w' => x = .returned (parse4 s1 s2 s3 s4).r ∧ _
        cases hk : keyOk s1
        · rw [parse4_bad s1 s2 s3 s4 hk]
          exact ref11_Parse_key b o c s1 w c0 c1 (heach s1 (by simp)) hk
        · exact ref11_Parse_rule b o c s1 s2 s3 s4 w c0 c1 (heach s1 (by simp)) c2 (heach s2 (by simp)) c3 (heach s3 (by simp)) c4 (heach s4 (by simp)) hk
      · have e : ruleParse [s, s1, s2, s3, s4] = pbad 22 0 := by
          rw [ruleParse_cons]
          split
          · rfl
          · rfl
        rw [e]
        exact ref11_Parse_w5 b o c s w c0 h1
  · have e : ruleParse l = pbad 22 0 := by
      match l, h4, h5 with
      | [], _, _ => rfl
      | s :: r, h4, h5 =>
        rw [ruleParse_cons]
        split
        · exact parseD_len r (by simpa using h4)
        · split
          · exact parseR_len r (by simpa using h5)
          · rfl
    rw [e]
    exact ref11_Parse_len a _ c w hlen h4 h5

end Go.Proofs.Ytphbhinobdkidaa
