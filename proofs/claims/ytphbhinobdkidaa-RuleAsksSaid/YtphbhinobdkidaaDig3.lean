/- Walks: the reference 03. -/
import Derived.Test.YtphbhinobdkidaaProg
import Derived.Test.YtphbhinobdkidaaDigPlain
namespace Go.Proofs.Ytphbhinobdkidaa
open Go.RowKit
set_option linter.unusedVariables false
set_option linter.unusedSimpArgs false

def tenDigits : ByteArray := ⟨#[48, 49, 50, 51, 52, 53, 54, 55, 56, 57]⟩
theorem ten_cut (k : Nat) (h : k < 10) : tenDigits.extract k (k + 1) = ⟨#[UInt8.ofNat (48 + k)]⟩ := by
  rcases (by omega : k = 0 ∨ k = 1 ∨ k = 2 ∨ k = 3 ∨ k = 4 ∨ k = 5 ∨ k = 6 ∨ k = 7 ∨ k = 8 ∨ k = 9) with rfl | rfl | rfl | rfl | rfl | rfl | rfl | rfl | rfl | rfl <;> rfl
theorem ten_slice (m : Int) (n : Nat) (hm : m = n) (w : World) :
    (Instr.slice 9 (.string tenDigits) (some (.int .u64 (m % 10))) (some (.int .u64 (m % 10 + 1))) none).run Try.prog w = .ok (.string ⟨#[UInt8.ofNat (48 + n % 10)]⟩) w := by
  have h10 : tenDigits.size = 10 := rfl
  rw [run_slice_string (P := Try.prog) (w := w) 9 tenDigits .u64 .u64 (m % 10) (m % 10 + 1) Try.underlying9 (by omega) (by omega) (by rw [h10]; omega)]
  have e1 : (m % 10).toNat = n % 10 := by omega
  have e2 : (m % 10 + 1).toNat = n % 10 + 1 := by omega
  rw [e1, e2, ten_cut _ (by omega)]
theorem add_digit (d : UInt8) (D : List UInt8) (h : D.length ≤ 20) (w : World) : (Op.stringOp .add ⟨#[d]⟩ ⟨D.toArray⟩).run Try.prog w = .ok (.string ⟨(d :: D).toArray⟩) w := by
  have hs : (ByteArray.mk D.toArray).size = D.length := by show D.toArray.size = _; simp
  have h1 : (ByteArray.mk #[d]).size = 1 := rfl
  rw [run_string_add_sum (P := Try.prog) (w := w) _ _ (by rw [hs, h1]; omega)]
  have e : (ByteArray.mk #[d]) = ByteArray.mk [d].toArray := rfl
  rw [e, ByteArray.mk_append_mk]
  rfl

def Ref03J (N : Nat) (n : Int) (s : Value) : Prop := ∃ (a k : Nat) (D : List UInt8), n = k ∧ s = .string ⟨D.toArray⟩ ∧ a + D.length = 20 ∧ k < 10 ^ a ∧ pdig N = pcat k D
theorem ref03J_step {N k a : Nat} {D : List UInt8} (h1 : a + D.length = 20) (h2 : k < 10 ^ a) (h3 : pdig N = pcat k D) (hk : 0 < k) :
    ∃ a', a' + (UInt8.ofNat (48 + k % 10) :: D).length = 20 ∧ k / 10 < 10 ^ a' ∧ pdig N = pcat (k / 10) (UInt8.ofNat (48 + k % 10) :: D) := by
  have ha : 1 ≤ a := by
    rcases (by omega : a = 0 ∨ 1 ≤ a) with e | e
    · subst e; simp at h2; omega
    · exact e
  have hn20 : k < 100000000000000000000 := by
    have := Nat.pow_le_pow_right (show 0 < 10 by omega) (show a ≤ 20 by omega)
    omega
  refine ⟨a - 1, by simp only [List.length_cons]; omega, ?_, ?_⟩
  · rw [Nat.div_lt_iff_lt_mul (by omega), ← Nat.pow_succ]
    have : (a - 1).succ = a := by omega
    rw [this]; exact h2
  · rw [h3, ← pdig_step k D hn20]
    unfold pcat
    rw [if_neg (by omega)]

set_option maxHeartbeats 1000000 in
set_option maxRecDepth 100000 in
theorem ref03_Print (n0 : Int) (w : World) (h0 : 0 ≤ n0) (h1 : n0 < 18446744073709551616) :
    Calls Try.prog 15 #[.int .u64 n0] w fun x w' => x = .returned (.string (digStr n0)) ∧ w = w' := by
  obtain ⟨N, hN⟩ := Int.eq_ofNat_of_zero_le h0
  have hsl := ten_slice n0 N hN
  have hstart := pdig_step N [] (by omega)
  have HN := Lib.hid hN
  have H0 := Lib.hid hstart
  clear hN hstart
  simp only [tenDigits] at hsl
  generalize hdg : UInt8.ofNat (48 + N % 10) = dg at *
  have HD := Lib.hid hdg
  clear hdg
  go_enter Try.func15, Try.ntmps15
  go_wp2
  go_loop [0, 3] (fun n s => ∃ m, n = .int .u64 m ∧ 0 ≤ m ∧ m < 18446744073709551616 ∧ Ref03J N m s) (fun n _ => (intOf n).toNat)
  case atStart =>
    refine ⟨n0 / 10, rfl, by omega, by omega, 19, N / 10, [dg], ?_, rfl, rfl, ?_, ?_⟩
    · have := HN.out; omega
    · have := HN.out; omega
    · have e := H0.out
      rw [List.append_nil] at e
      exact e
  case round =>
    obtain ⟨m, rfl, hm0, hm1, a, k, D, hm, rfl, ha, hk, hp⟩ := hrel
    by_cases hz : 0 < m
    · have hsl2 := ten_slice m k hm
      obtain ⟨a', r1, r2, r3⟩ := ref03J_step ha hk hp (by omega)
      have hadd := add_digit (UInt8.ofNat (48 + k % 10)) D (by omega)
      have hm' : m / 10 = (k / 10 : Nat) := by omega
      have HM := Lib.hid hm
      have HM' := Lib.hid hm'
      simp only [tenDigits] at hsl2
      generalize UInt8.ofNat (48 + k % 10) = d2 at *
      generalize hs1 : (ByteArray.mk #[d2]) = s1 at *
      generalize hs2 : (ByteArray.mk D.toArray) = s2 at *
      generalize hs3 : (ByteArray.mk (d2 :: D).toArray) = s3 at *
      have HS3 := Lib.hid hs3
      have R2 := Lib.hid r2
      have R3 := Lib.hid r3
      have R1 := Lib.hid r1
      clear hs1 hs2 hs3 hm hm' ha hk hp r2 r3 r1 hsl
      go_wp2
      go_round
      case rel => exact ⟨m / 10, rfl, by omega, by omega, a', k / 10, d2 :: D, HM'.out, by rw [HS3.out], R1.out, R2.out, R3.out⟩
      case measure => simp [intOf]; omega
    · clear hsl
      have HM := Lib.hid hm
      clear hm ha hk
      have HP := Lib.hid hp
      clear hp
      go_wp2
      go_ret
      refine ⟨ret_str ?_, rfl⟩
      unfold digStr
      have hk0 : k = 0 := by have := HM.out; omega
      have e := HP.out
      unfold pcat at e
      rw [if_pos hk0] at e
      have e0 : n0.toNat = N := by have := HN.out; omega
      rw [e0, e]

theorem dval_snoc_le {l : List UInt8} {b : UInt8} (h : isDig b = true) : dval (l ++ [b]) = 10 * dval l + ((b.toNat : Int) - 48) ∧ 48 ≤ (b.toNat : Int) ∧ (b.toNat : Int) ≤ 57 := ⟨dval_snoc l b, (isDig_iff b).1 h⟩
/-- the value of a list's front is at most that of the list -/
theorem dval_take_le {l : List UInt8} (h : l.all isDig = true) (k : Nat) : dval (l.take k) ≤ dval l := by
  have key : ∀ (r l : List UInt8), l.all isDig = true → r.all isDig = true → dval l ≤ dval (l ++ r) := by
    intro r
    induction r with
    | nil => intro l _ _; simp
    | cons b r ih =>
      intro l hl hr
      simp only [List.all_cons, Bool.and_eq_true] at hr
      have e : l ++ b :: r = (l ++ [b]) ++ r := by simp
      rw [e]
      have h1 : (l ++ [b]).all isDig = true := by rw [List.all_append, hl]; simp [hr.1]
      have h2 := ih (l ++ [b]) h1 hr.2
      have h3 := dval_snoc_le (l := l) hr.1
      have h4 := dval_nonneg hl
      omega
  have e := List.take_append_drop k l
  have h1 : (l.take k).all isDig = true := by
    rw [List.all_eq_true] at h ⊢
    exact fun x hx => h x (List.mem_of_mem_take hx)
  have h2 : (l.drop k).all isDig = true := by
    rw [List.all_eq_true] at h ⊢
    exact fun x hx => h x (List.mem_of_mem_drop hx)
  have := key _ _ h1 h2
  rw [e] at this
  exact this

theorem digErr_big {s : ByteArray} (hl : digLead s = false) (hall : s.data.toList.all isDig = true) (h : 18446744073709551616 ≤ dval s.data.toList) : digErr s = 11 := by
  unfold digErr; rw [hl, hall, if_neg (by simp), if_neg (by simp), if_pos h]
theorem digErr_fine {s : ByteArray} (hl : digLead s = false) (hall : s.data.toList.all isDig = true) (h : dval s.data.toList < 18446744073709551616) : digErr s = 0 := by
  unfold digErr; rw [hl, hall, if_neg (by simp), if_neg (by simp), if_neg (by omega)]
def AllDig (s : ByteArray) (k : Nat) : Prop := (s.data.toList.take k).all isDig = true
def ValIs (s : ByteArray) (k : Nat) (n : Int) : Prop := n = dval (s.data.toList.take k) ∧ 0 ≤ n ∧ n < 18446744073709551616
theorem all_get {s : ByteArray} (h : s.data.toList.all isDig = true) (k : Nat) (hk : k < s.size) : 48 ≤ (s[k].toNat : Int) ∧ (s[k].toNat : Int) ≤ 57 := by
  rw [List.all_eq_true] at h
  refine (isDig_iff _).1 (h _ ?_)
  rw [← data_get s k hk]
  exact List.getElem_mem _

set_option maxHeartbeats 1000000 in
set_option maxRecDepth 100000 in
theorem ref03_Parse (s : ByteArray) (w : World) (hm : s.size ≤ maxLen) :
    Calls Try.prog 66 #[.string s] w fun x w' => x = .returned (.tuple #[.int .u64 (digNum s), .int .i64 (digErr s)]) ∧ w = w' := by
  unfold maxLen at hm
  by_cases h0 : s.size = 0
  · have hl : digLead s = true := by simp [digLead, h0]
    have H1 := Lib.hid (digErr_lead hl)
    have H2 := Lib.hid (digNum_err (s := s) (by rw [H1.out]; omega))
    have h1 : ((s.size : Int) == 0) = true := by rw [beq_iff_eq]; omega
    clear hl h0
    go_enter Try.func66, Try.ntmps66
    go_wp2
    go_ret2
    exact ⟨ret_2 (val_int H2.out.symm) (val_int H1.out.symm), rfl⟩
  have h1 : ((s.size : Int) == 0) = false := by rw [beq_eq_false_iff_ne]; omega
  have h3 : 0 < s.size := by omega
  by_cases hl : digLead s = true
  · have H1 := Lib.hid (digErr_lead hl)
    have H2 := Lib.hid (digNum_err (s := s) (by rw [H1.out]; omega))
    obtain ⟨h5, h4'⟩ := digLead_yes h3 hl
    have h4 : ((s[0].toNat : Int) == 48) = true := by rw [beq_iff_eq]; omega
    clear hl h0
    go_enter Try.func66, Try.ntmps66
    go_wp2
    go_ret2
    exact ⟨ret_2 (val_int H2.out.symm) (val_int H1.out.symm), rfl⟩
  have HL := Lib.hid (by simpa using hl : digLead s = false)
  have hsp : ¬ (1 : Int) < s.size ∨ ((1 : Int) < s.size ∧ ((s[0].toNat : Int) == 48) = false) := by
    by_cases h : 1 < s.size
    · right
      refine ⟨by omega, ?_⟩
      rcases digLead_no h3 hl with h' | h'
      · omega
      · rw [beq_eq_false_iff_ne]; omega
    · left; omega
  clear hl h0
  rcases hsp with hs | ⟨hs1, hs2⟩
  all_goals
    go_enter Try.func66, Try.ntmps66
    go_wp2
    go_loop [4] (fun i => ∃ k : Nat, k ≤ s.size ∧ i = .int .i64 k ∧ AllDig s k) (fun i => s.size - (intOf i).toNat)
    case atStart => exact ⟨0, by omega, rfl, rfl⟩
    case round =>
      obtain ⟨k, hk, rfl, R⟩ := hrel
      by_cases hlt : k < s.size
      · have HB : isDig s[k] = false → Hid (digErr s = 10) := fun h => Lib.hid (digErr_bad hlt h)
        have HBh := Lib.hid HB
        have HR : isDig s[k] = true → AllDig s (k + 1) := fun h => by
          unfold AllDig at R ⊢
          rw [take_snoc' s k hlt, List.all_append, R]
          simp [h]
        have HRh := Lib.hid HR
        clear HB HR R
        go_wp2
        all_goals first
          | (go_ret2
             have hb : isDig s[k] = false := by rw [Bool.eq_false_iff]; intro q; have := (isDig_iff _).1 q; omega
             have he := (HBh.out hb).out
             exact ⟨ret_2 (val_int (digNum_err (by rw [he]; omega)).symm) (val_int he.symm), rfl⟩)
          | (go_round
             case rel => exact ⟨k + 1, by omega, by go_num, HRh.out ((isDig_iff _).2 (by omega))⟩
             case measure => simp [intOf]; omega)
      · have hall : s.data.toList.all isDig = true := by
          unfold AllDig at R
          rw [List.take_of_length_le (by rw [data_len]; omega)] at R
          exact R
        have HA := Lib.hid hall
        clear R hall
        go_wp2
        go_loop [5, 6] (fun n i => ∃ (k : Nat) (m : Int), k ≤ s.size ∧ i = .int .i64 k ∧ n = .int .u64 m ∧ ValIs s k m) (fun _ i => s.size - (intOf i).toNat)
        case atStart => exact ⟨0, 0, by omega, rfl, rfl, by simp [ValIs, dval]⟩
        case round =>
          obtain ⟨k, m, hk, rfl, rfl, hm1, hm2, hm3⟩ := hrel
          by_cases hlt : k < s.size
          · obtain ⟨d0, d1⟩ := all_get HA.out k hlt
            have hsn := dval_snoc (s.data.toList.take k) s[k]
            rw [← take_snoc' s k hlt, ← hm1] at hsn
            have hle := dval_take_le HA.out (k + 1)
            rw [hsn] at hle
            have HV := Lib.hid hsn
            have HE := Lib.hid hle
            clear hsn hle hm1
            by_cases hbig : (18446744073709551615 - ((s[k].toNat : Int) - 48)) / 10 < m
            · have he := digErr_big HL.out HA.out (by have := HE.out; omega)
              have H1 := Lib.hid he
              have H2 := Lib.hid (digNum_err (s := s) (by rw [he]; omega))
              clear he
              go_wp2
              go_ret2
              exact ⟨ret_2 (val_int H2.out.symm) (val_int H1.out.symm), rfl⟩
            · have hn2 : 10 * m + ((s[k].toNat : Int) - 48) < 18446744073709551616 := by omega
              go_wp2
              go_round
              case rel => exact ⟨k + 1, 10 * m + ((s[k].toNat : Int) - 48), by omega, by go_num, rfl, HV.out.symm, by omega, hn2⟩
              case measure => simp [intOf]; omega
          · rw [List.take_of_length_le (by rw [data_len]; omega)] at hm1
            have he := digErr_fine HL.out HA.out (by omega)
            have H1 := Lib.hid he
            have H2 := Lib.hid (show digNum s = m by rw [hm1]; exact if_pos he)
            clear he hm1
            go_wp2
            go_ret2
            exact ⟨ret_2 (val_int H2.out.symm) (val_int H1.out.symm), rfl⟩
end Go.Proofs.Ytphbhinobdkidaa
