/- Walks: kernel.Wait, Left, Until, Migrate. -/
import Derived.Test.YtfglpejbgfmojaaGreatG20

/- Walks: kernel.Wait, Left, Until, Migrate. -/
namespace Go.Proofs.YtfglpejbgfmojaaGreat
open Go.RowKit
set_option linter.unusedVariables false
set_option linter.unusedSimpArgs false

theorem kWait_no {f cap x : Int} (h : cap < x ∨ f + x ≤ cap) : kRetry f cap x = false ∧ kWait f cap x = 0 := by
  have e : kRetry f cap x = false := by unfold kRetry; simp; omega
  exact ⟨e, by unfold kWait; rw [e]; rfl⟩
theorem kWait_yes {f cap x : Int} (h : x ≤ cap) (h' : cap < f + x) : kRetry f cap x = true ∧ kWait f cap x = f - (cap - x) := by
  have e : kRetry f cap x = true := by unfold kRetry; simp; omega
  exact ⟨e, by unfold kWait; rw [e]; rfl⟩

set_option maxHeartbeats 1000000 in
set_option maxRecDepth 100000 in
theorem kernel_Wait (k a b now cap x : Int) (w : World) (ha0 : 0 ≤ a) (ha1 : a < 18446744073709551616) (hb0 : 0 ≤ b) (hb1 : b < 18446744073709551616) (hn0 : 0 ≤ now) (hn1 : now < 18446744073709551616) (hc0 : 0 ≤ cap) (hc1 : cap < 18446744073709551616) (hx0 : 0 ≤ x) (hx1 : x < 18446744073709551616) :
    Calls Tryz.prog 61 #[.agg #[.int .u8 k, .int .u64 a, .int .u64 b], .int .u64 now, .int .u64 cap, .int .u64 x] w fun e w' => e = .returned (.tuple #[.int .u64 (kWait (kFill k a b now cap) cap x), .bool (kRetry (kFill k a b now cap) cap x)]) ∧ Ext w w' := by
  have hF := kFill_u k a b now cap ha0 ha1 hb0 hn0 hn1 hc0 hc1
  generalize hf : kFill k a b now cap = F at *
  have HF := Lib.hid hf
  obtain ⟨hF0, hF1⟩ := hF
  clear hf
  by_cases h : cap < x
  · obtain ⟨e1, e2⟩ := kWait_no (f := F) (Or.inl h)
    have HR := Lib.hid (And.intro e1 e2)
    clear e1 e2
    go_enter Tryz.func61, Tryz.ntmps61
    go_wp2_with (go_at_call 65; (with_reducible refine (kernel_Fill k a b now cap _ ha0 ha1 hb0 hb1 hn0 hn1 hc0 hc1).mono ?_); rw [HF.out]; rintro e w1 ⟨rfl, hx⟩)
    go_ret2
    exact ⟨ret_2 (val_int HR.out.2.symm) (val_bool HR.out.1.symm), (by repeat (first | with_reducible exact Ext.refl _ | with_reducible assumption | with_reducible refine Ext.alloc ?_ _ | with_reducible refine Ext.drew ?_ | (with_reducible refine Ext.setCell ?_ (by first | exact Nat.le_refl _ | (dsimp only; omega) | (simp; done) | (simp; omega)) _) | with_reducible refine Ext.trans ?_ (by with_reducible assumption)))⟩
  · have h' : x ≤ cap := by omega
    cases hf : fitsB F x cap
    · have hlt : cap < F + x := by simpa [fitsB] using hf
      obtain ⟨e1, e2⟩ := kWait_yes (f := F) h' hlt
      have HR := Lib.hid (And.intro e1 e2)
      have HK := Lib.hid hf
      clear e1 e2 hf
      have hs1 : 0 ≤ cap - x := by omega
      have hs2 : cap - x < 18446744073709551616 := by omega
      have hs3 : 0 ≤ F - (cap - x) := by omega
      have hs4 : F - (cap - x) < 18446744073709551616 := by omega
      go_enter Tryz.func61, Tryz.ntmps61
      go_wp2_with (first
        | (go_at_call 65; (with_reducible refine (kernel_Fill k a b now cap _ ha0 ha1 hb0 hb1 hn0 hn1 hc0 hc1).mono ?_); rw [HF.out]; rintro e w1 ⟨rfl, hx⟩)
        | (go_at_call 107; (with_reducible refine (num_Fits F x cap _ hF0 hF1 hx0 hx1 hc0 hc1).mono ?_); rw [HK.out]; rintro e w' ⟨rfl, rfl⟩))
      go_ret2
      exact ⟨ret_2 (val_int HR.out.2.symm) (val_bool HR.out.1.symm), (by repeat (first | with_reducible exact Ext.refl _ | with_reducible assumption | with_reducible refine Ext.alloc ?_ _ | with_reducible refine Ext.drew ?_ | (with_reducible refine Ext.setCell ?_ (by first | exact Nat.le_refl _ | (dsimp only; omega) | (simp; done) | (simp; omega)) _) | with_reducible refine Ext.trans ?_ (by with_reducible assumption)))⟩
    · have hle : F + x ≤ cap := by simpa [fitsB] using hf
      obtain ⟨e1, e2⟩ := kWait_no (f := F) (Or.inr hle)
      have HR := Lib.hid (And.intro e1 e2)
      have HK := Lib.hid hf
      clear e1 e2 hf
      go_enter Tryz.func61, Tryz.ntmps61
      go_wp2_with (first
        | (go_at_call 65; (with_reducible refine (kernel_Fill k a b now cap _ ha0 ha1 hb0 hb1 hn0 hn1 hc0 hc1).mono ?_); rw [HF.out]; rintro e w1 ⟨rfl, hx⟩)
        | (go_at_call 107; (with_reducible refine (num_Fits F x cap _ hF0 hF1 hx0 hx1 hc0 hc1).mono ?_); rw [HK.out]; rintro e w' ⟨rfl, rfl⟩))
      go_ret2
      exact ⟨ret_2 (val_int HR.out.2.symm) (val_bool HR.out.1.symm), (by repeat (first | with_reducible exact Ext.refl _ | with_reducible assumption | with_reducible refine Ext.alloc ?_ _ | with_reducible refine Ext.drew ?_ | (with_reducible refine Ext.setCell ?_ (by first | exact Nat.le_refl _ | (dsimp only; omega) | (simp; done) | (simp; omega)) _) | with_reducible refine Ext.trans ?_ (by with_reducible assumption)))⟩

set_option maxHeartbeats 1000000 in
set_option maxRecDepth 100000 in
theorem kernel_Left (k a b now cap x : Int) (w : World) (ha0 : 0 ≤ a) (ha1 : a < 18446744073709551616) (hb0 : 0 ≤ b) (hb1 : b < 18446744073709551616) (hn0 : 0 ≤ now) (hn1 : now < 18446744073709551616) (hc0 : 0 ≤ cap) (hc1 : cap < 18446744073709551616) (hx0 : 0 ≤ x) (hx1 : x < 18446744073709551616) :
    Calls Tryz.prog 64 #[.agg #[.int .u8 k, .int .u64 a, .int .u64 b], .int .u64 now, .int .u64 cap, .int .u64 x] w fun e w' => e = .returned (.int .u64 (divS (satSub cap (kFill k a b now cap)) x)) ∧ Ext w w' := by
  have hF := kFill_u k a b now cap ha0 ha1 hb0 hn0 hn1 hc0 hc1
  generalize hf : kFill k a b now cap = F at *
  have HF := Lib.hid hf
  obtain ⟨hF0, hF1⟩ := hF
  clear hf
  have hs := satSub_u cap F hc0 hc1 hF0
  generalize hs' : satSub cap F = s at *
  have HS := Lib.hid hs'
  obtain ⟨hs0, hs1⟩ := hs
  clear hs'
  go_enter Tryz.func64, Tryz.ntmps64
  go_wp2_with (first
    | (go_at_call 65; (with_reducible refine (kernel_Fill k a b now cap _ ha0 ha1 hb0 hb1 hn0 hn1 hc0 hc1).mono ?_); rw [HF.out]; rintro e w1 ⟨rfl, hx⟩)
    | (go_at_call 96; (with_reducible refine (num_Sub cap F _ hc0 hc1 hF0 hF1).mono ?_); rw [HS.out]; rintro e w' ⟨rfl, rfl⟩)
    | (go_at_call 110; (with_reducible refine (num_Div s x _ hs0 (by omega) hx0 hx1).mono ?_); rintro e w' ⟨rfl, rfl⟩))
  go_ret
  exact ⟨rfl, (by repeat (first | with_reducible exact Ext.refl _ | with_reducible assumption | with_reducible refine Ext.alloc ?_ _ | with_reducible refine Ext.drew ?_ | (with_reducible refine Ext.setCell ?_ (by first | exact Nat.le_refl _ | (dsimp only; omega) | (simp; done) | (simp; omega)) _) | with_reducible refine Ext.trans ?_ (by with_reducible assumption)))⟩

def kUntil (f now : Int) : Int := if 0 < f then satAdd now f else 0
set_option maxHeartbeats 1000000 in
set_option maxRecDepth 100000 in
theorem kernel_Until (k a b now cap : Int) (w : World) (ha0 : 0 ≤ a) (ha1 : a < 18446744073709551616) (hb0 : 0 ≤ b) (hb1 : b < 18446744073709551616) (hn0 : 0 ≤ now) (hn1 : now < 18446744073709551616) (hc0 : 0 ≤ cap) (hc1 : cap < 18446744073709551616) :
    Calls Tryz.prog 50 #[.agg #[.int .u8 k, .int .u64 a, .int .u64 b], .int .u64 now, .int .u64 cap] w fun e w' => e = .returned (.int .u64 (kUntil (kFill k a b now cap) now)) ∧ Ext w w' := by
  have hF := kFill_u k a b now cap ha0 ha1 hb0 hn0 hn1 hc0 hc1
  generalize hf : kFill k a b now cap = F at *
  have HF := Lib.hid hf
  obtain ⟨hF0, hF1⟩ := hF
  clear hf
  by_cases h : 0 < F
  · have HR := Lib.hid (show kUntil F now = satAdd now F from if_pos h)
    go_enter Tryz.func50, Tryz.ntmps50
    go_wp2_with (first
      | (go_at_call 65; (with_reducible refine (kernel_Fill k a b now cap _ ha0 ha1 hb0 hb1 hn0 hn1 hc0 hc1).mono ?_); rw [HF.out]; rintro e w1 ⟨rfl, hx⟩)
      | (go_at_call 91; (with_reducible refine (num_Add _ now F _ hn0 hn1 hF0 hF1 ?_ ?_).mono ?_); exact Eq.trans (Blk.cell (Blk.new' _ _ _ rfl) 0) rfl; exact Eq.trans (Blk.cell (Blk.new' _ _ _ rfl) 1) rfl; rintro e w' ⟨rfl, rfl⟩))
    go_ret
    exact ⟨ret_int HR.out.symm, (by repeat (first | with_reducible exact Ext.refl _ | with_reducible assumption | with_reducible refine Ext.alloc ?_ _ | with_reducible refine Ext.drew ?_ | (with_reducible refine Ext.setCell ?_ (by first | exact Nat.le_refl _ | (dsimp only; omega) | (simp; done) | (simp; omega)) _) | with_reducible refine Ext.trans ?_ (by with_reducible assumption)))⟩
  · have HR := Lib.hid (show kUntil F now = 0 from if_neg h)
    go_enter Tryz.func50, Tryz.ntmps50
    go_wp2_with (go_at_call 65; (with_reducible refine (kernel_Fill k a b now cap _ ha0 ha1 hb0 hb1 hn0 hn1 hc0 hc1).mono ?_); rw [HF.out]; rintro e w1 ⟨rfl, hx⟩)
    go_ret
    exact ⟨ret_int HR.out.symm, (by repeat (first | with_reducible exact Ext.refl _ | with_reducible assumption | with_reducible refine Ext.alloc ?_ _ | with_reducible refine Ext.drew ?_ | (with_reducible refine Ext.setCell ?_ (by first | exact Nat.le_refl _ | (dsimp only; omega) | (simp; done) | (simp; omega)) _) | with_reducible refine Ext.trans ?_ (by with_reducible assumption)))⟩
end Go.Proofs.YtfglpejbgfmojaaGreat
