/- Plain laws of rules: what is printed is read, what is read prints back. -/
import Derived.Test.YtphbhinobdkidaaPrint
import Derived.Test.YtphbhinobdkidaaEdge
import Derived.Test.YtphbhinobdkidaaRuleLaw
namespace Go.Proofs.Ytphbhinobdkidaa
open Go.RowKit
set_option linter.unusedVariables false
set_option linter.unusedSimpArgs false

/-! ## keys of choices -/
theorem pieceOf_ok (n : Nat) : noBad (pieceOf n).data.toList = true := by
  unfold pieceOf
  repeat' split
  all_goals decide
theorem noBad_append (a b : List UInt8) : noBad (a ++ b) = (noBad a && noBad b) := by simp [noBad]
theorem keyCat_ok : ∀ (m : Nat) (l : List UInt8), l.length = m → noBad (keyCat l).data.toList = true := by
  intro m
  induction m with
  | zero => intro l h; obtain rfl := List.eq_nil_of_length_eq_zero h; decide
  | succ m ih =>
    intro l h
    have hne : l ≠ [] := by intro e; subst e; simp at h
    rw [← List.dropLast_concat_getLast hne, keyCat_snoc, ByteArray.data_append, Array.toList_append, noBad_append, ih l.dropLast (by rw [List.length_dropLast]; omega), pieceOf_ok]
    rfl
theorem keyText_ok (l : List UInt8) : keyOk (keyText l) = true ∧ (keyText l).size ≤ 12 := by
  unfold keyText
  split
  · decide
  · rename_i h
    have h2 := keyCat_size (l.take 6)
    rw [List.length_take] at h2
    have h3 := keyCat_ok _ (l.take 6) rfl
    refine ⟨?_, by omega⟩
    unfold keyOk
    rw [h3]
    simp
    omega
theorem keyOk_ne {p : ByteArray} (h : keyOk p = true) : p ≠ ⟨#[]⟩ := by
  intro e; subst e; revert h; decide
theorem lawPre_cases (l : List UInt8) : (lawPre l = ⟨#[]⟩) ∨ keyOk (lawPre l) = true := by
  unfold lawPre
  split
  · exact Or.inr (keyText_ok l).1
  · exact Or.inl rfl
theorem lawPre_size (l : List UInt8) : (lawPre l).size ≤ 12 := by
  unfold lawPre
  split
  · exact (keyText_ok l).2
  · decide
theorem lawPre_ok (l : List UInt8) : prefOk (lawPre l) = true := by
  rcases lawPre_cases l with h | h
  · rw [h]; decide
  · unfold prefOk; rw [h]; simp

theorem ruleErr_parts {p : ByteArray} {e b k : Int} (h : ruleErr p e b k = 0) : prefOk p = true ∧ 0 < e ∧ 0 < b ∧ capOk e b = true ∧ rightKind k = true := by
  unfold ruleErr at h
  by_cases h1 : prefOk p = false
  · rw [if_pos h1] at h; omega
  by_cases h2 : 0 < e
  · by_cases h3 : 0 < b
    · by_cases h4 : capOk e b = false
      · rw [if_neg h1, if_neg (by simpa using h2), if_neg (by simpa using h3), if_pos h4] at h; omega
      · by_cases h5 : rightKind k = false
        · rw [if_neg h1, if_neg (by simpa using h2), if_neg (by simpa using h3), if_neg h4, if_pos h5] at h; omega
        · exact ⟨by simpa using h1, h2, h3, by simpa using h4, by simpa using h5⟩
    · rw [if_neg h1, if_neg (by simpa using h2), if_pos h3] at h; omega
  · rw [if_neg h1, if_pos h2] at h; omega
theorem ruleErr_yes {p : ByteArray} {e b k : Int} (h1 : prefOk p = true) (h2 : 0 < e) (h3 : 0 < b) (h4 : capOk e b = true) (h5 : rightKind k = true) : ruleErr p e b k = 0 := by
  unfold ruleErr
  rw [if_neg (by simp [h1]), if_neg (by simpa using h2), if_neg (by simpa using h3), if_neg (by simp [h4]), if_neg (by simp [h5])]
theorem own_right (l : List UInt8) (e b k : Int) (he0 : 0 ≤ e) (he1 : e < 4294967296) (hb0 : 0 ≤ b) (hb1 : b < 65536) (hk0 : 0 ≤ k) : ruleErr (lawPre l) (1 + e) (1 + b) (1 + k % 3) = 0 := by
  refine ruleErr_yes (lawPre_ok l) (by omega) (by omega) (capOk_yes ?_) ?_
  · have : (1 + e) * (1 + b) ≤ 4294967296 * 65536 := Int.mul_le_mul (by omega) (by omega) (by omega) (by omega)
    omega
  · unfold rightKind; simp; omega

theorem capOk_mul {e b : Int} (he : 0 ≤ e) (hb : 0 ≤ b) (h : capOk e b = true) : e * b ≤ 4611686018427387904 := by
  unfold capOk satMul at h
  split at h
  · simpa using h
  · simp at h
/-- what is printed is read -/
theorem print_parse {p : ByteArray} {e b k : Int} (h : ruleErr p e b k = 0) (he1 : e < 18446744073709551616) (hb1 : b < 18446744073709551616) :
    ruleParse (printWords p e b k) = ⟨p, e, b, k, 0, 0⟩ := by
  obtain ⟨h1, h2, h3, h4, h5⟩ := ruleErr_parts h
  have hk : 1 ≤ k ∧ k ≤ 3 := by unfold rightKind at h5; simpa using h5
  have hm := capOk_mul (by omega) (by omega) h4
  unfold printWords
  rw [if_pos h]
  by_cases hp : p = ⟨#[]⟩
  · rw [if_pos hp, parse_default h2 he1 h3 hb1 hm hk, hp]
  · rw [if_neg hp, ruleParse_rule]
    have hko : keyOk p = true := by
      unfold prefOk at h1
      have : p.size ≠ 0 := by
        intro q
        apply hp
        apply str_empty
        rw [disEmpty_iff]; simpa using q
      simpa [this] using h1
    show parse4 _ _ _ _ = _
    unfold parse4
    rw [numErr_digits h2 he1, digNum_digits (by omega) he1, burstErr_yes h3 hb1 hm, kindErr_name hk, digNum_digits (by omega) hb1, (kind_name_yes k hk).1]
    simp [prefErr, hko]

/-! ## what is read prints back -/
theorem dval_snoc' (l : List UInt8) (c : UInt8) : dval (l ++ [c]) = 10 * dval l + ((c.toNat : Int) - 48) := by simp [dval]
theorem digit_back {c : UInt8} (h : isDig c = true) : ∃ d : Nat, d < 10 ∧ c = UInt8.ofNat (48 + d) ∧ (c.toNat : Int) - 48 = d := by
  unfold isDig at h
  simp at h
  refine ⟨c.toNat - 48, by omega, ?_, by omega⟩
  have : 48 + (c.toNat - 48) = c.toNat := by omega
  rw [this]
  simp
theorem pdig_back : ∀ (m : Nat) (l : List UInt8), l.length = m + 1 → l.all isDig = true → (1 < l.length → (l.getD 0 0).toNat ≠ 48) → dval l < 18446744073709551616 → pdig (dval l).toNat = l ∧ 0 ≤ dval l ∧ (1 < l.length → 1 ≤ dval l) := by
  intro m
  induction m with
  | zero =>
    intro l hl ha hd hb
    obtain ⟨c, rfl⟩ := List.length_eq_one_iff.1 hl
    obtain ⟨d, hd10, rfl, hv⟩ := digit_back (c := c) (by simpa using ha)
    have e : dval [UInt8.ofNat (48 + d)] = d := by
      have := dval_snoc' [] (UInt8.ofNat (48 + d))
      simp only [List.nil_append] at this
      rw [this, hv]; simp [dval]
    rw [e]
    refine ⟨?_, by omega, by simp⟩
    rw [pdig_eq _ (by omega), if_pos (by omega)]
    simp
  | succ m ih =>
    intro l hl ha hd hb
    have hne : l ≠ [] := by intro e; subst e; simp at hl
    obtain ⟨r, c, rfl⟩ : ∃ r c, l = r ++ [c] := ⟨_, _, (List.dropLast_concat_getLast hne).symm⟩
    have hr : r.length = m + 1 := by simpa using hl
    rw [List.all_append] at ha
    simp only [Bool.and_eq_true] at ha
    obtain ⟨d, hd10, rfl, hv⟩ := digit_back (c := c) (by simpa using ha.2)
    have h48 : (r.getD 0 0).toNat ≠ 48 := by
      have := hd (by simp; omega)
      cases r with
      | nil => simp at hr
      | cons x y => simpa using this
    rw [dval_snoc', hv] at hb ⊢
    have hrne : 1 ≤ dval r := by
      by_cases hm : 1 < r.length
      · have hp := dval_nonneg (l := r) ha.1
        exact (ih r hr ha.1 (fun _ => h48) (by omega)).2.2 hm
      · cases r with
        | nil => simp at hr
        | cons x y =>
          have : y = [] := List.eq_nil_of_length_eq_zero (by simpa using hm)
          subst this
          obtain ⟨d', hd', rfl, hv'⟩ := digit_back (c := x) (by simpa using ha.1)
          have e : dval [UInt8.ofNat (48 + d')] = d' := by
            have := dval_snoc' [] (UInt8.ofNat (48 + d'))
            simp only [List.nil_append] at this
            rw [this, hv']; simp [dval]
          rw [e]
          simp at h48
          rcases Nat.eq_zero_or_pos d' with rfl | q
          · exact absurd rfl h48
          · omega
    obtain ⟨h1, h2, h3⟩ := ih r hr ha.1 (fun _ => h48) (by omega)
    refine ⟨?_, by omega, by omega⟩
    have e1 : (10 * dval r + (d : Int)).toNat = 10 * (dval r).toNat + d := by omega
    rw [e1, pdig_eq _ (by omega), if_neg (by omega)]
    have e2 : (10 * (dval r).toNat + d) / 10 = (dval r).toNat := by omega
    have e3 : (10 * (dval r).toNat + d) % 10 = d := by omega
    rw [e2, e3, h1]
theorem dig_read (s : ByteArray) (h : digErr s = 0) : digStr (digNum s) = s := by
  have hn : digNum s = dval s.data.toList := by unfold digNum; rw [if_pos h]
  unfold digErr at h
  by_cases h1 : digLead s = true
  · rw [if_pos h1] at h; omega
  by_cases h2 : s.data.toList.all isDig = false
  · rw [if_neg h1, if_pos h2] at h; omega
  by_cases h3 : 18446744073709551616 ≤ dval s.data.toList
  · rw [if_neg h1, if_neg h2, if_pos h3] at h; omega
  have hsz : s.data.toList.length = s.size := by rw [data_len]
  unfold digLead at h1
  simp only [Bool.or_eq_true, decide_eq_true_eq, Bool.and_eq_true, not_or, not_and] at h1
  have hb := (pdig_back (s.size - 1) s.data.toList (by omega) (by revert h2; cases s.data.toList.all isDig <;> simp) (fun q => h1.2 (by omega)) (by omega)).1
  rw [hn]
  unfold digStr
  rw [hb]
end Go.Proofs.Ytphbhinobdkidaa
