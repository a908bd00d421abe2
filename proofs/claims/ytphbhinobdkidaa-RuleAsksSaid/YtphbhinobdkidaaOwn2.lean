/- Plain laws of rules' lines: what is read is right and prints back; lines of other words. -/
import Derived.Test.YtphbhinobdkidaaOwn
namespace Go.Proofs.Ytphbhinobdkidaa
open Go.RowKit
set_option linter.unusedVariables false
set_option linter.unusedSimpArgs false

theorem numErr_zero {s : ByteArray} {q : Int} (hq : q ≠ 0) (h : numErr s q = 0) : digErr s = 0 ∧ 0 < digNum s ∧ digNum s < 18446744073709551616 ∧ digStr (digNum s) = s := by
  have hb := digNum_bounds s
  unfold numErr at h
  by_cases h1 : digErr s = 0 ∧ digNum s = 0
  · rw [if_pos h1] at h; exact absurd h hq
  · rw [if_neg h1] at h
    have : digNum s ≠ 0 := fun q => h1 ⟨h, q⟩
    exact ⟨h, by omega, hb.2, dig_read s h⟩
theorem burstErr_zero {e : Int} {s : ByteArray} (h : burstErr e s = 0) : capOk e (digNum s) = true ∧ digErr s = 0 ∧ 0 < digNum s ∧ digStr (digNum s) = s := by
  unfold burstErr at h
  by_cases h1 : numErr s 25 = 0 ∧ capOk e (digNum s) = false
  · rw [if_pos h1] at h; omega
  · rw [if_neg h1] at h
    obtain ⟨a, b, c, d⟩ := numErr_zero (by omega) h
    exact ⟨by simpa [h] using h1, a, b, d⟩
theorem kindErr_zero {s : ByteArray} (h : kindErr (kindOf s) = 0) : rightKind (kindOf s) = true ∧ nameOf (kindOf s) = s := by
  unfold kindErr at h
  rcases kindOf_cases s with ⟨h0, -⟩ | ⟨h1, rfl⟩ | ⟨h1, rfl⟩ | ⟨h1, rfl⟩
  · rw [h0] at h; simp at h
  all_goals rw [h1]; exact ⟨by decide, by unfold nameOf; simp⟩

/-- what a line read says -/
structure Read (l : List ByteArray) (r : PRes) : Prop where
  e0 : 0 ≤ r.e
  e1 : r.e < 18446744073709551616
  b0 : 0 ≤ r.b
  b1 : r.b < 18446744073709551616
  k0 : 0 ≤ r.k
  k1 : r.k ≤ 3
  size : r.err = 0 → r.p = ⟨#[]⟩ ∨ r.p ∈ l
  good : r.err = 0 → ruleErr r.p r.e r.b r.k = 0 ∧ printWords r.p r.e r.b r.k = l
  bad : r.err ≠ 0 → r = pbad r.err r.at_ ∧ 0 ≤ r.at_ ∧ (r.at_ < l.length ∨ r.at_ = 0)
theorem Read.pbad {l : List ByteArray} {e a : Int} (he : e ≠ 0) (h0 : 0 ≤ a) (h1 : a < l.length ∨ a = 0) : Read l (pbad e a) :=
  ⟨show (0 : Int) ≤ 0 by decide, show (0 : Int) < 18446744073709551616 by decide, show (0 : Int) ≤ 0 by decide, show (0 : Int) < 18446744073709551616 by decide, show (0 : Int) ≤ 0 by decide, show (0 : Int) ≤ 3 by decide, fun h => absurd h he, fun h => absurd h he, fun _ => ⟨rfl, h0, h1⟩⟩
theorem kindOf_range (s : ByteArray) : 0 ≤ kindOf s ∧ kindOf s ≤ 3 := by
  rcases kindOf_cases s with ⟨h, -⟩ | ⟨h, -⟩ | ⟨h, -⟩ | ⟨h, -⟩ <;> omega
theorem read3 (s1 s2 s3 : ByteArray) : Read [wDef, s1, s2, s3] (parse3 s1 s2 s3) := by
  unfold parse3
  by_cases h1 : numErr s1 24 = 0
  · rw [if_neg (by simpa using h1)]
    by_cases h2 : burstErr (digNum s1) s2 = 0
    · rw [if_neg (by simpa using h2)]
      by_cases h3 : kindErr (kindOf s3) = 0
      · rw [if_neg (by simpa using h3)]
        obtain ⟨a1, a2, a3, a4⟩ := numErr_zero (by omega) h1
        obtain ⟨b1, b2, b3, b4⟩ := burstErr_zero h2
        obtain ⟨c1, c2⟩ := kindErr_zero h3
        have hb := digNum_bounds s2
        have hk := kindOf_range s3
        have hr : ruleErr ⟨#[]⟩ (digNum s1) (digNum s2) (kindOf s3) = 0 := ruleErr_yes (by decide) a2 b3 b1 c1
        refine ⟨by show 0 ≤ digNum s1; omega, a3, hb.1, hb.2, hk.1, hk.2, fun _ => Or.inl rfl, fun _ => ⟨hr, ?_⟩, fun q => absurd rfl q⟩
        show printWords ⟨#[]⟩ (digNum s1) (digNum s2) (kindOf s3) = _
        unfold printWords
        rw [if_pos hr, if_pos rfl, a4, b4, c2]
      · rw [if_pos h3]; exact Read.pbad h3 (by omega) (by simp)
    · rw [if_pos h2]; exact Read.pbad h2 (by omega) (by simp)
  · rw [if_pos h1]; exact Read.pbad h1 (by omega) (by simp)
theorem read4 (s1 s2 s3 s4 : ByteArray) : Read [wRule, s1, s2, s3, s4] (parse4 s1 s2 s3 s4) := by
  unfold parse4
  by_cases h0 : prefErr s1 = 0
  · rw [if_neg (by simpa using h0)]
    by_cases h1 : numErr s2 24 = 0
    · rw [if_neg (by simpa using h1)]
      by_cases h2 : burstErr (digNum s2) s3 = 0
      · rw [if_neg (by simpa using h2)]
        by_cases h3 : kindErr (kindOf s4) = 0
        · rw [if_neg (by simpa using h3)]
          obtain ⟨a1, a2, a3, a4⟩ := numErr_zero (by omega) h1
          obtain ⟨b1, b2, b3, b4⟩ := burstErr_zero h2
          obtain ⟨c1, c2⟩ := kindErr_zero h3
          have hb := digNum_bounds s3
          have hk := kindOf_range s4
          have hko : keyOk s1 = true := by
            unfold prefErr at h0
            by_cases q : keyOk s1 = true
            · exact q
            · rw [if_neg q] at h0; omega
          have hr : ruleErr s1 (digNum s2) (digNum s3) (kindOf s4) = 0 := ruleErr_yes (by unfold prefOk; rw [hko]; simp) a2 b3 b1 c1
          refine ⟨by show 0 ≤ digNum s2; omega, a3, hb.1, hb.2, hk.1, hk.2, fun _ => Or.inr (by show s1 ∈ _; simp), fun _ => ⟨hr, ?_⟩, fun q => absurd rfl q⟩
          show printWords s1 (digNum s2) (digNum s3) (kindOf s4) = _
          unfold printWords
          rw [if_pos hr, if_neg (keyOk_ne hko), a4, b4, c2]
        · rw [if_pos h3]; exact Read.pbad h3 (by omega) (by simp)
      · rw [if_pos h2]; exact Read.pbad h2 (by omega) (by simp)
    · rw [if_pos h1]; exact Read.pbad h1 (by omega) (by simp)
  · rw [if_pos h0]; exact Read.pbad h0 (by omega) (by simp)
theorem read_line (l : List ByteArray) : Read l (ruleParse l) := by
  match l with
  | [] => exact Read.pbad (by omega) (by omega) (by simp)
  | s :: r =>
    rw [ruleParse_cons]
    by_cases h1 : s = wDef
    · rw [if_pos h1, h1]
      by_cases hr : r.length = 3
      · match r, hr with
        | [a, b, c], _ => exact read3 a b c
      · rw [parseD_len r hr]; exact Read.pbad (by omega) (by omega) (Or.inr rfl)
    · rw [if_neg h1]
      by_cases h2 : s = wRule
      · rw [if_pos h2, h2]
        by_cases hr : r.length = 4
        · match r, hr with
          | [a, b, c, d], _ => exact read4 a b c d
        · rw [parseR_len r hr]; exact Read.pbad (by omega) (by omega) (Or.inr rfl)
      · rw [if_neg h2]; exact Read.pbad (by omega) (by omega) (Or.inr rfl)

/-! ## lines of fewer, more, other words -/
theorem wDef_ne : wDef ≠ wRule := by intro h; have := congrArg ByteArray.size h; revert this; decide
theorem words_cases {p : ByteArray} {e b k : Int} (h : ruleErr p e b k = 0) :
    (∃ x y z, printWords p e b k = [wDef, x, y, z]) ∨ (∃ x y z u, printWords p e b k = [wRule, x, y, z, u]) := by
  unfold printWords
  rw [if_pos h]
  split
  · exact Or.inl ⟨_, _, _, rfl⟩
  · exact Or.inr ⟨_, _, _, _, rfl⟩
theorem parse_def_len (r : List ByteArray) (h : r.length ≠ 3) : ruleParse (wDef :: r) = pbad 22 0 := by rw [ruleParse_def, parseD_len r h]
theorem parse_rule_len (r : List ByteArray) (h : r.length ≠ 4) : ruleParse (wRule :: r) = pbad 22 0 := by rw [ruleParse_rule, parseR_len r h]
theorem parse_fewer {p : ByteArray} {e b k : Int} (h : ruleErr p e b k = 0) (n : Nat) (hn : n < (printWords p e b k).length) : ruleParse ((printWords p e b k).take n) = pbad 22 0 := by
  rcases words_cases h with ⟨x, y, z, e⟩ | ⟨x, y, z, u, e⟩
  · rw [e] at hn ⊢
    cases n with
    | zero => rfl
    | succ n => rw [List.take_succ_cons]; exact parse_def_len _ (by simp at hn ⊢; omega)
  · rw [e] at hn ⊢
    cases n with
    | zero => rfl
    | succ n => rw [List.take_succ_cons]; exact parse_rule_len _ (by simp at hn ⊢; omega)
theorem parse_more {p : ByteArray} {e b k : Int} (h : ruleErr p e b k = 0) (w : ByteArray) : ruleParse (printWords p e b k ++ [w]) = pbad 22 0 := by
  rcases words_cases h with ⟨x, y, z, e⟩ | ⟨x, y, z, u, e⟩
  · rw [e]; exact parse_def_len _ (by simp)
  · rw [e]; exact parse_rule_len _ (by simp)
theorem parse_other {p : ByteArray} {e b k : Int} (h : ruleErr p e b k = 0) (w : ByteArray) (hw : w ≠ (printWords p e b k).getD 0 ⟨#[]⟩) : ruleParse (w :: (printWords p e b k).tail) = pbad 22 0 := by
  rcases words_cases h with ⟨x, y, z, e⟩ | ⟨x, y, z, u, e⟩
  · rw [e] at hw ⊢
    rw [ruleParse_cons, if_neg (by simpa using hw)]
    split
    · exact parseR_len _ (by simp)
    · rfl
  · rw [e] at hw ⊢
    rw [ruleParse_cons]
    split
    · exact parseD_len _ (by simp)
    · rw [if_neg (by simpa using hw)]
theorem words_len {p : ByteArray} {e b k : Int} (h : ruleErr p e b k = 0) : 4 ≤ (printWords p e b k).length ∧ (printWords p e b k).length ≤ 5 := by
  rcases words_cases h with ⟨x, y, z, e⟩ | ⟨x, y, z, u, e⟩ <;> rw [e] <;> simp
theorem words_none {p : ByteArray} {e b k : Int} : (printWords p e b k).length = 0 ↔ ruleErr p e b k ≠ 0 := by
  by_cases h : ruleErr p e b k = 0
  · have := words_len h
    constructor
    · intro q; omega
    · intro q; exact absurd h q
  · unfold printWords; rw [if_neg h]; simp [h]
end Go.Proofs.Ytphbhinobdkidaa
