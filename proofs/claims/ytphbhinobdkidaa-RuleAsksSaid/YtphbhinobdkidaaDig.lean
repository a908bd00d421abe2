/- Walks: package digit, the reference 03. -/
import Derived.Test.YtphbhinobdkidaaProg
import Derived.Test.YtphbhinobdkidaaDigPlain
namespace Go.Proofs.Ytphbhinobdkidaa
open Go.RowKit
set_option linter.unusedVariables false
set_option linter.unusedSimpArgs false

theorem dtoList_nil_iff (s : ByteArray) : (s.toList = []) ↔ s.size = 0 := by
  rw [ByteArray.toList_eq, ← List.length_eq_zero_iff, data_len]
theorem disEmpty_iff (s : ByteArray) : s.toList.isEmpty = decide (s.size = 0) := by
  rw [Bool.eq_iff_iff, List.isEmpty_iff, dtoList_nil_iff]; simp

def DigJ (s : ByteArray) (w : World) (a' : Act) (w' : World) : Prop := w' = w ∧ ∃ (k : Nat) (n : Int) (big : Bool) (i : Int), i = k ∧ k < s.size ∧ DigRel s k n big ∧ ∃ u7 u8 u9 u10 u11 u12 u13 u14 u15 u16 u17 u18 u19 u20 u21 u22 u23 u24 u25 u26 u27 u28 u29 u30 u31 u32 u33 u34 u35 u36 u37 u38 u39 u40 u41 u42 u43 u44 u45 u46 : Value, a' = { tmps := #[.string s, undef, .int .u64 0, .int .u16 0, .int .u64 n, .bool big, .int .i64 i, u7, u8, u9, u10, u11, u12, u13, u14, u15, u16, u17, u18, u19, u20, u21, u22, u23, u24, u25, u26, u27, u28, u29, u30, u31, u32, u33, u34, u35, u36, u37, u38, u39, u40, u41, u42, u43, u44, u45, u46], defers := [] }
theorem not_dig {n : Int} (h0 : 0 ≤ n) (h1 : n < 256) (hd : ¬ (48 ≤ n ∧ n ≤ 57)) : 10 ≤ IntKind.u64.wrap (n - 48) := by rw [wrap_u64]; omega

set_option maxHeartbeats 1000000 in
set_option maxRecDepth 100000 in
theorem digit_Parse (s : ByteArray) (w : World) (hm : s.size ≤ maxLen) :
    Calls Try.prog 49 #[.string s] w fun x w' => x = .returned (.tuple #[.int .u64 (digNum s), .int .u16 (digErr s)]) ∧ w = w' := by
  unfold maxLen at hm
  by_cases h0 : s.size = 0
  · have hl : digLead s = true := by simp [digLead, h0]
    have H1 := Lib.hid (digErr_lead hl)
    have H2 := Lib.hid (digNum_err (s := s) (by rw [H1.out]; omega))
    have h1 : s.toList.isEmpty = true := by rw [disEmpty_iff]; simpa using h0
    have h2 : s.toList = [] := (dtoList_nil_iff s).2 h0
    clear hl h0
    go_enter Try.func49, Try.ntmps49
    go_wp2
    go_step3
    go_wp2
    rw [Exit.noGoto_ret]
    go_ret2
    exact ⟨ret_2 (val_int H2.out.symm) (val_int H1.out.symm), rfl⟩
  have h1 : s.toList.isEmpty = false := by rw [disEmpty_iff]; simpa using h0
  have h2 : ¬ s.toList = [] := fun e => h0 ((dtoList_nil_iff s).1 e)
  have h3 : 0 < s.size := by omega
  by_cases hl : digLead s = true
  · have H1 := Lib.hid (digErr_lead hl)
    have H2 := Lib.hid (digNum_err (s := s) (by rw [H1.out]; omega))
    obtain ⟨h5, h4'⟩ := digLead_yes h3 hl
    have h4 : ((s[0].toNat : Int) == 48) = true := by rw [beq_iff_eq]; omega
    clear hl h0
    go_enter Try.func49, Try.ntmps49
    go_wp2
    go_step3
    go_wp2
    rw [Exit.noGoto_ret]
    go_ret2
    exact ⟨ret_2 (val_int H2.out.symm) (val_int H1.out.symm), rfl⟩
  · have HL := Lib.hid (by simpa using hl : digLead s = false)
    have hsp : s.size ≤ 1 ∨ ((s[0].toNat : Int) == 48) = false := by
      rcases digLead_no h3 hl with h | h
      · exact .inl h
      · right; rw [beq_eq_false_iff_ne]; omega
    have HS := Lib.hid hsp
    clear hl hsp h0
    go_enter Try.func49, Try.ntmps49
    go_wp2
    refine wp_scope_jumps2 0 (DigJ s w) (fun a' _ => s.size - (intOf (a'.tmps.getD 6 undef)).toNat) rfl ?_ ?_
    · rintro a' w' ⟨rfl, k, n, big, i, rfl, hk, R, u7, u8, u9, u10, u11, u12, u13, u14, u15, u16, u17, u18, u19, u20, u21, u22, u23, u24, u25, u26, u27, u28, u29, u30, u31, u32, u33, u34, u35, u36, u37, u38, u39, u40, u41, u42, u43, u44, u45, u46, rfl⟩
      by_cases hd : 48 ≤ (s[k].toNat : Int) ∧ (s[k].toNat : Int) ≤ 57
      · have R' := digRel_step hk R (d := (s[k].toNat : Int) - 48) rfl (by omega) (by omega)
        have HR := Lib.hid R'
        obtain ⟨-, -, -, n0, n1, -⟩ := R
        clear R'
        obtain ⟨d0, d1⟩ := hd
        cases big
        all_goals
          go_wp2
          all_goals first
            | (go_step3
               refine ⟨rfl, ⟨rfl, k + 1, _, _, (k : Int) + 1, by omega, by omega, HR.out, _, _, _, _, _, _, _, _, _, _, _, _, _, _, _, _, _, _, _, _, _, _, _, _, _, _, _, _, _, _, _, _, _, _, _, _, _, _, _, _, rfl⟩, ?_⟩
               simp [intOf]; omega)
            | (simp only [Exit.jump]
               go_ret2
               obtain ⟨e1, e2⟩ := digRel_end (by omega) HR.out HL.out
               first
                 | (have hc : (18446744073709551615 - ((s[k].toNat : Int) - 48)) / 10 < n := by assumption
                    rw [decide_eq_true hc] at e1 e2
                    exact ⟨ret_2 (val_int e2.symm) (val_int e1.symm), rfl⟩)
                 | (have hc : n ≤ (18446744073709551615 - ((s[k].toNat : Int) - 48)) / 10 := by assumption
                    rw [decide_eq_false (Int.not_lt.2 hc)] at e1 e2
                    exact ⟨ret_2 (val_int e2.symm) (val_int e1.symm), rfl⟩)
                 | exact ⟨ret_2 (val_int e2.symm) (val_int e1.symm), rfl⟩)
      · have hbd : 0 ≤ (s[k].toNat : Int) ∧ (s[k].toNat : Int) < 256 := ⟨by omega, by have := s[k].toNat_lt; omega⟩
        have hnd := not_dig hbd.1 hbd.2 hd
        have HE := Lib.hid (digErr_bad hk (by rw [Bool.eq_false_iff]; intro q; exact hd ((isDig_iff _).1 q)))
        have H2 := Lib.hid (digNum_err (s := s) (by rw [HE.out]; omega))
        clear R
        obtain ⟨hb0, hb1⟩ := hbd
        rcases (by omega : (s[k].toNat : Int) < 48 ∨ 57 < (s[k].toNat : Int)) with hlo | hlo
        all_goals
          clear hd
          go_wp2
          simp only [Exit.jump]
          go_ret2
          exact ⟨ret_2 (val_int H2.out.symm) (val_int HE.out.symm), rfl⟩
    · intro hp
      rcases HS.out with hs | hs
      all_goals
        go_wp2
        all_goals
          go_step3
          go_step
          go_step
          exact hp _ _ ⟨rfl, 0, 0, false, 0, rfl, h3, digRel_start s, _, _, _, _, _, _, _, _, _, _, _, _, _, _, _, _, _, _, _, _, _, _, _, _, _, _, _, _, _, _, _, _, _, _, _, _, _, _, _, _, rfl⟩
end Go.Proofs.Ytphbhinobdkidaa
