/- Decimal digits, plainly. -/
import Derived.Test.YtnlmbmbalmkiiaaGreatBase
namespace Go.Proofs.YtnlmbmbalmkiiaaGreat
open Go.RowKit
set_option linter.unusedVariables false
set_option linter.unusedSimpArgs false

theorem data_len (s : ByteArray) : s.data.toList.length = s.size := Array.length_toList
theorem data_get (s : ByteArray) (k : Nat) (h : k < s.size) : s.data.toList[k]'(by rw [data_len]; exact h) = s[k] := by
  rw [Array.getElem_toList]; rfl

theorem data_getD (s : ByteArray) (k : Nat) (h : k < s.size) : s.data.toList.getD k 0 = s[k] := by
  rw [List.getD_eq_getElem?_getD, List.getElem?_eq_getElem (by rw [data_len]; exact h), Option.getD_some, data_get s k h]
def isDig (b : UInt8) : Bool := decide (48 ≤ (b.toNat : Int)) && decide ((b.toNat : Int) ≤ 57)
def dval (l : List UInt8) : Int := l.foldl (fun n b => 10 * n + ((b.toNat : Int) - 48)) 0
def digLead (s : ByteArray) : Bool := decide (s.size = 0) || (decide (1 < s.size) && decide ((s.data.toList.getD 0 0).toNat = 48))
def digErr (s : ByteArray) : Int :=
  if digLead s = true then 10 else if s.data.toList.all isDig = false then 10 else if 18446744073709551616 ≤ dval s.data.toList then 11 else 0
def digNum (s : ByteArray) : Int := if digErr s = 0 then dval s.data.toList else 0

theorem digLead_yes {s : ByteArray} (h : 0 < s.size) (hl : digLead s = true) : 1 < s.size ∧ s[0].toNat = 48 := by
  unfold digLead at hl
  rw [data_getD s 0 h] at hl
  simp only [Bool.or_eq_true, decide_eq_true_eq, Bool.and_eq_true] at hl
  omega
theorem digLead_no {s : ByteArray} (h : 0 < s.size) (hl : ¬ digLead s = true) : s.size ≤ 1 ∨ ¬ s[0].toNat = 48 := by
  unfold digLead at hl
  rw [data_getD s 0 h] at hl
  simp only [Bool.or_eq_true, decide_eq_true_eq, Bool.and_eq_true] at hl
  omega
theorem dval_snoc (l : List UInt8) (b : UInt8) : dval (l ++ [b]) = 10 * dval l + ((b.toNat : Int) - 48) := by simp [dval]
theorem take_snoc' (s : ByteArray) (k : Nat) (h : k < s.size) : s.data.toList.take (k + 1) = s.data.toList.take k ++ [s[k]] := by
  rw [List.take_succ_eq_append_getElem (by rw [data_len]; exact h), data_get s k h]
theorem dval_nonneg {l : List UInt8} (h : l.all isDig = true) : 0 ≤ dval l := by
  have key : ∀ (l : List UInt8) (n : Int), 0 ≤ n → l.all isDig = true → 0 ≤ l.foldl (fun n b => 10 * n + ((b.toNat : Int) - 48)) n := by
    intro l
    induction l with
    | nil => intro n hn _; exact hn
    | cons b r ih =>
      intro n hn h
      simp only [List.all_cons, Bool.and_eq_true] at h
      simp only [List.foldl_cons]
      have hb := h.1
      unfold isDig at hb
      simp at hb
      exact ih _ (by omega) h.2
  exact key l 0 (by omega) h
theorem isDig_iff (b : UInt8) : isDig b = true ↔ 48 ≤ (b.toNat : Int) ∧ (b.toNat : Int) ≤ 57 := by simp [isDig]

/-- what a reader of digits knows behind k of them: n as it stands, and whether it went beyond -/
def DigRel (s : ByteArray) (k : Nat) (n : Int) (big : Bool) : Prop :=
  k ≤ s.size ∧ (s.data.toList.take k).all isDig = true ∧ big = decide (18446744073709551616 ≤ dval (s.data.toList.take k)) ∧ 0 ≤ n ∧ n < 18446744073709551616 ∧ (big = false → n = dval (s.data.toList.take k))
theorem digRel_start (s : ByteArray) : DigRel s 0 0 false := ⟨by omega, by simp, by simp [dval], by omega, by omega, fun _ => by simp [dval]⟩
theorem digRel_step {s : ByteArray} {k : Nat} {n : Int} {big : Bool} (h : k < s.size) (R : DigRel s k n big) {d : Int} (hd : d = (s[k].toNat : Int) - 48) (h0 : 0 ≤ d) (h9 : d < 10) :
    DigRel s (k + 1) (IntKind.u64.wrap (IntKind.u64.wrap (n * 10) + d)) (big || decide ((18446744073709551615 - d) / 10 < n)) := by
  obtain ⟨r1, r2, r3, r4, r5, r6⟩ := R
  have hk := take_snoc' s k h
  have hdig : isDig s[k] = true := (isDig_iff _).2 (by omega)
  have hall : (s.data.toList.take (k + 1)).all isDig = true := by rw [hk, List.all_append, r2]; simp [hdig]
  have hv : dval (s.data.toList.take (k + 1)) = 10 * dval (s.data.toList.take k) + d := by rw [hk, dval_snoc, hd]
  have hn := dval_nonneg r2
  refine ⟨by omega, hall, ?_, by rw [wrap_u64]; omega, by rw [wrap_u64]; omega, ?_⟩
  · rw [hv]
    cases hb : big
    · have := r6 hb
      rw [Bool.false_or]
      congr 1
      rw [← this]
      apply propext
      constructor <;> intro q <;> omega
    · rw [hb] at r3
      have := of_decide_eq_true r3.symm
      rw [Bool.true_or]
      symm
      apply decide_eq_true
      omega
  · intro hb
    rw [Bool.or_eq_false_iff] at hb
    have e := r6 hb.1
    have lt := of_decide_eq_false hb.2
    rw [hv, wrap_u64, wrap_u64, e]
    omega
theorem digRel_end {s : ByteArray} {k : Nat} {n : Int} {big : Bool} (h : k = s.size) (R : DigRel s k n big) (hl : digLead s = false) :
    digErr s = (if big then 11 else 0) ∧ digNum s = (if big then 0 else n) := by
  obtain ⟨r1, r2, r3, r4, r5, r6⟩ := R
  have ht : s.data.toList.take k = s.data.toList := List.take_of_length_le (by rw [data_len]; omega)
  rw [ht] at r2 r3 r6
  have he : digErr s = (if big then 11 else 0) := by
    unfold digErr
    rw [hl, r2]
    simp only [Bool.false_eq_true, if_false, Bool.true_eq_false]
    cases big
    · rw [if_neg (of_decide_eq_false r3.symm)]; rfl
    · rw [if_pos (of_decide_eq_true r3.symm)]; rfl
  refine ⟨he, ?_⟩
  unfold digNum
  rw [he]
  cases big
  · simp [r6 rfl]
  · simp
theorem digErr_bad {s : ByteArray} {k : Nat} (h : k < s.size) (hb : isDig s[k] = false) : digErr s = 10 := by
  have : s.data.toList.all isDig = false := by
    rw [List.all_eq_false]
    refine ⟨s[k], ?_, by simp [hb]⟩
    rw [← data_get s k h]
    exact List.getElem_mem _
  unfold digErr
  rw [this]
  simp
theorem digNum_err {s : ByteArray} (h : digErr s ≠ 0) : digNum s = 0 := if_neg h
theorem digErr_lead {s : ByteArray} (h : digLead s = true) : digErr s = 10 := if_pos h

/-! printing -/
def pdigF : Nat → Nat → List UInt8
  | 0, _ => []
  | f + 1, n => if n < 10 then [UInt8.ofNat (48 + n)] else pdigF f (n / 10) ++ [UInt8.ofNat (48 + n % 10)]
def pdig (n : Nat) : List UInt8 := pdigF 20 n
def digStr (n : Int) : ByteArray := ⟨(pdig n.toNat).toArray⟩

theorem pdigF_fuel : ∀ (f n : Nat), n < 10 ^ (f + 1) → pdigF (f + 2) n = pdigF (f + 1) n
  | 0, n, h => by
    have : n < 10 := by simpa using h
    simp [pdigF, this]
  | f + 1, n, h => by
    have h' : n / 10 < 10 ^ (f + 1) := by
      rw [Nat.div_lt_iff_lt_mul (by omega)]
      rw [Nat.pow_succ] at h
      exact h
    conv => lhs; unfold pdigF
    conv => rhs; unfold pdigF
    rw [pdigF_fuel f (n / 10) h']
theorem pdig_eq (n : Nat) (h : n < 100000000000000000000) : pdig n = if n < 10 then [UInt8.ofNat (48 + n)] else pdig (n / 10) ++ [UInt8.ofNat (48 + n % 10)] := by
  have e := pdigF_fuel 18 (n / 10) (by omega)
  unfold pdig
  conv => lhs; unfold pdigF
  rw [← e]
/-- the digits that are still to come, and those that are there -/
def pcat (n : Nat) (D : List UInt8) : List UInt8 := if n = 0 then D else pdig n ++ D
theorem pdig_step (n : Nat) (D : List UInt8) (h : n < 100000000000000000000) : pdig n ++ D = pcat (n / 10) (UInt8.ofNat (48 + n % 10) :: D) := by
  rw [pdig_eq n h]
  unfold pcat
  by_cases hn : n < 10
  · rw [if_pos hn, if_pos (by omega), Nat.mod_eq_of_lt hn]; rfl
  · rw [if_neg hn, if_neg (by omega)]; simp
end Go.Proofs.YtnlmbmbalmkiiaaGreat
