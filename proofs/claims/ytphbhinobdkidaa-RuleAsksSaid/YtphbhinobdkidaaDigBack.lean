/- What is printed is read: decimal digits, plainly. -/
import Derived.Test.YtphbhinobdkidaaDigPlain
namespace Go.Proofs.Ytphbhinobdkidaa
open Go.RowKit
set_option linter.unusedVariables false
set_option linter.unusedSimpArgs false

theorem digit_toNat (k : Nat) (h : k < 10) : (UInt8.ofNat (48 + k)).toNat = 48 + k := by
  simp
  omega
theorem digit_isDig (k : Nat) (h : k < 10) : isDig (UInt8.ofNat (48 + k)) = true := by
  rw [isDig_iff, digit_toNat k h]
  omega

theorem pdig_spec (n : Nat) (h : n < 100000000000000000000) :
    (pdig n).all isDig = true ∧ dval (pdig n) = n ∧ 1 ≤ (pdig n).length ∧ (pdig n).length ≤ 20 ∧ (1 ≤ n → ((pdig n).getD 0 0).toNat ≠ 48) ∧ (n < 10 → (pdig n).length = 1) := by
  have key : ∀ m n : Nat, n ≤ m → n < 100000000000000000000 →
      (pdig n).all isDig = true ∧ dval (pdig n) = n ∧ 1 ≤ (pdig n).length ∧ (1 ≤ n → ((pdig n).getD 0 0).toNat ≠ 48) ∧ (n < 10 → (pdig n).length = 1) ∧ ∀ k, n < 10 ^ (k + 1) → (pdig n).length ≤ k + 1 := by
    intro m
    induction m with
    | zero =>
      intro n hn _
      obtain rfl : n = 0 := by omega
      have e : pdig 0 = [UInt8.ofNat 48] := rfl
      rw [e]
      exact ⟨by decide, by decide, by decide, by omega, fun _ => rfl, fun k _ => by simp⟩
    | succ m ih =>
      intro n hn hlt
      rw [pdig_eq n hlt]
      by_cases h10 : n < 10
      · rw [if_pos h10]
        refine ⟨by rw [List.all_cons, digit_isDig n h10]; rfl, ?_, by simp, ?_, fun _ => rfl, fun k _ => by simp⟩
        · simp only [dval, List.foldl_cons, List.foldl_nil]; rw [digit_toNat n h10]; omega
        · intro h1
          simp only [List.getD_cons_zero]
          rw [digit_toNat n h10]; omega
      · rw [if_neg h10]
        obtain ⟨a1, a2, a3, a4, a5, a6⟩ := ih (n / 10) (by omega) (by omega)
        refine ⟨by rw [List.all_append, a1, List.all_cons, digit_isDig (n % 10) (by omega)]; rfl, ?_, by simp, ?_, by omega, ?_⟩
        · rw [dval_snoc, a2, digit_toNat (n % 10) (by omega)]; omega
        · intro _
          have := a4 (by omega)
          rw [List.getD_eq_getElem?_getD, List.getElem?_append_left (by omega), ← List.getD_eq_getElem?_getD]
          exact this
        · intro k hk
          rw [List.length_append, List.length_singleton]
          rcases k with _ | k
          · simp at hk; omega
          · have := a6 k (by rw [Nat.div_lt_iff_lt_mul (by omega), ← Nat.pow_succ]; exact hk)
            omega
  obtain ⟨a1, a2, a3, a4, a5, a6⟩ := key n n (Nat.le_refl _) h
  exact ⟨a1, a2, a3, a6 19 (by omega), a4, a5⟩

theorem digStr_data (n : Int) : (digStr n).data.toList = pdig n.toNat := by simp [digStr]
theorem digStr_size (n : Int) : (digStr n).size = (pdig n.toNat).length := by rw [← data_len, digStr_data]

/-- what is printed is read -/
theorem dig_back (n : Int) (h0 : 0 ≤ n) (h1 : n < 18446744073709551616) : digErr (digStr n) = 0 ∧ digNum (digStr n) = n ∧ (digStr n).size ≤ 20 ∧ 0 < (digStr n).size := by
  obtain ⟨a1, a2, a3, a4, a5, a6⟩ := pdig_spec n.toNat (by omega)
  have hl : digLead (digStr n) = false := by
    unfold digLead
    rw [digStr_size, digStr_data]
    have e : decide ((pdig n.toNat).length = 0) = false := decide_eq_false (by omega)
    rw [e, Bool.false_or]
    by_cases h10 : n.toNat < 10
    · rw [a6 h10]; rfl
    · have := a5 (by omega)
      rw [decide_eq_false this, Bool.and_false]
  have he : digErr (digStr n) = 0 := by
    unfold digErr
    rw [hl, digStr_data, a1, a2, if_neg (by simp), if_neg (by simp), if_neg (by omega)]
  refine ⟨he, ?_, by rw [digStr_size]; omega, by rw [digStr_size]; omega⟩
  unfold digNum
  rw [if_pos he, digStr_data, a2]
  omega
end Go.Proofs.Ytphbhinobdkidaa
