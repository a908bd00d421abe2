/- Keys of choices are right keys; so is their first byte; the rules of choices are right. -/
import Derived.Test.YtfglpejbgfmojaaGreatKeyLaw
import Derived.Test.YtfglpejbgfmojaaGreatKey
import Derived.Test.YtfglpejbgfmojaaGreatRule14
namespace Go.Proofs.YtfglpejbgfmojaaGreat
open Go.RowKit
set_option linter.unusedVariables false
set_option linter.unusedSimpArgs false

theorem pieceOf_ok (n : Nat) : noBad (pieceOf n).data.toList = true := by
  unfold pieceOf
  repeat' split
  all_goals decide
theorem noBad_append (a b : List UInt8) : noBad (a ++ b) = (noBad a && noBad b) := by simp [noBad]
theorem keyCat_ok : ∀ (m : Nat) (l : List UInt8), l.length = m → noBad (keyCat l).data.toList = true := by
  intro m
  induction m with
  | zero => intro l h; obtain rfl := List.eq_nil_of_length_eq_zero h; decide
  | succ m ih =>
    intro l h
    have hne : l ≠ [] := by intro e; subst e; simp at h
    rw [← List.dropLast_concat_getLast hne, keyCat_snoc, ByteArray.data_append, Array.toList_append, noBad_append, ih l.dropLast (by rw [List.length_dropLast]; omega), pieceOf_ok]
    rfl
theorem keyText_ok (l : List UInt8) : keyOk (keyText l) = true ∧ (keyText l).size ≤ 12 := by
  unfold keyText
  split
  · decide
  · rename_i h
    have h2 := keyCat_size (l.take 6)
    rw [List.length_take] at h2
    have h3 := keyCat_ok _ (l.take 6) rfl
    refine ⟨?_, by omega⟩
    unfold keyOk
    rw [h3]
    simp
    omega
/-- the first byte of a text -/
def first1 (s : ByteArray) : ByteArray := s.extract 0 1
theorem first1_ok {s : ByteArray} (h : keyOk s = true) : keyOk (first1 s) = true ∧ (first1 s).size = 1 := by
  unfold keyOk at h
  simp only [Bool.and_eq_true, decide_eq_true_eq] at h
  obtain ⟨⟨h1, h2⟩, h3⟩ := h
  have hsz : (first1 s).size = 1 := by unfold first1; rw [ByteArray.size_extract]; omega
  refine ⟨?_, hsz⟩
  unfold keyOk
  rw [hsz]
  have hd : (first1 s).data.toList = s.data.toList.take 1 := by
    unfold first1
    rw [ByteArray.data_extract]
    simp [Array.toList_extract]
  rw [hd]
  have : noBad (s.data.toList.take 1) = true := by
    unfold noBad at h3 ⊢
    rw [List.all_eq_true] at h3 ⊢
    intro x hx
    exact h3 x (List.mem_of_mem_take hx)
  rw [this]
  rfl

theorem rule_ok {j : Int} (h0 : 0 ≤ j) (h1 : j < 250) : ruleErr (rP j) (rE j) (rB j) (rK j) = 0 ∧ rE j < 18446744073709551616 ∧ rB j < 18446744073709551616 ∧ 0 < rE j ∧ 0 < rB j ∧ rE j * rB j ≤ 4611686018427387904 ∧ (rP j).size ≤ maxLen ∧ rE j ≤ 3000000000 := by
  have hk : rK j = 1 ∨ rK j = 2 ∨ rK j = 3 := by unfold rK; omega
  unfold rP rE rB
  rw [if_neg (by omega : ¬ 250 ≤ j)]
  rcases (by omega : j % 6 = 0 ∨ j % 6 = 1 ∨ j % 6 = 2 ∨ j % 6 = 3 ∨ j % 6 = 4 ∨ j % 6 = 5) with h | h | h | h | h | h <;> rw [h] <;> rcases hk with q | q | q <;> rw [q] <;> decide
theorem rule_bounds {j : Int} (h0 : 0 ≤ j) (h1 : j < 256) : 0 ≤ rE j ∧ rE j < 18446744073709551616 ∧ 0 ≤ rB j ∧ rB j < 18446744073709551616 ∧ 0 ≤ rK j ∧ rK j < 256 ∧ (rP j).size ≤ maxLen := by
  have hk : rK j = 1 ∨ rK j = 2 ∨ rK j = 3 := by unfold rK; omega
  refine ⟨?_, ?_, ?_, ?_, by omega, by omega, ?_⟩
  · unfold rE; repeat' split
    all_goals omega
  · unfold rE; repeat' split
    all_goals omega
  · unfold rB; repeat' split
    all_goals omega
  · unfold rB; repeat' split
    all_goals omega
  · unfold rP; split <;> decide
end Go.Proofs.YtfglpejbgfmojaaGreat
