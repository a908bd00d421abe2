/- Walks: the references 02 (but Mul), 04, 05, 06. -/
import Derived.Deep.DeepCutAuto
import Derived.Deep.CutRange
import Derived.Test.YtknlojlcahgnoaaGreatEa10
import Derived.Test.YtknlojlcahgnoaaGreatEa13
import Derived.Test.YtknlojlcahgnoaaGreatEa3

namespace Go.Proofs.YtknlojlcahgnoaaGreat
open Go.RowKit
set_option linter.unusedVariables false
set_option linter.unusedSimpArgs false

theorem ref02_Sub (a b : Int) (w : World) (ha0 : 0 ≤ a) (ha1 : a < 18446744073709551616) (hb0 : 0 ≤ b) (hb1 : b < 18446744073709551616) :
    Calls Tryz.prog 117 #[.int .u64 a, .int .u64 b] w fun e w' => e = .returned (.int .u64 (satSub a b)) ∧ w = w' := by
  by_cases h : b ≤ a
  · have H := Lib.hid (satSub_le h)
    go_enter Tryz.func117, Tryz.ntmps117
    go_wp2
    go_ret
    exact ⟨ret_int (by rw [H.out]), rfl⟩
  · have H := Lib.hid (satSub_gt h)
    go_enter Tryz.func117, Tryz.ntmps117
    go_wp2
    go_ret
    exact ⟨ret_int (by rw [H.out]), rfl⟩
theorem ref02_Add (a b : Int) (w : World) (ha0 : 0 ≤ a) (ha1 : a < 18446744073709551616) (hb0 : 0 ≤ b) (hb1 : b < 18446744073709551616) :
    Calls Tryz.prog 202 #[.int .u64 a, .int .u64 b] w fun e w' => e = .returned (.int .u64 (satAdd a b)) ∧ w = w' := by
  by_cases h : a + b < 18446744073709551616
  · have H := Lib.hid (satAdd_lt h)
    have h2 : ¬ a + b < a := by omega
    go_enter Tryz.func202, Tryz.ntmps202
    go_wp2
    go_ret
    exact ⟨ret_int (by rw [H.out]), rfl⟩
  · have H := Lib.hid (satAdd_ge h)
    have h2 : IntKind.u64.wrap (a + b) < a := by rw [wrap_u64]; omega
    clear h
    go_enter Tryz.func202, Tryz.ntmps202
    go_wp2
    go_ret
    exact ⟨ret_int (by rw [H.out]), rfl⟩
theorem ref06_Of (now fill : Int) (w : World) (hn0 : 0 ≤ now) (hn1 : now < 18446744073709551616) (hf0 : 0 ≤ fill) (hf1 : fill < 18446744073709551616) :
    Calls Tryz.prog 160 #[.int .u64 now, .int .u64 fill] w fun e w' => e = .returned (stV 1 (satAdd now fill) 0) ∧ Ext w w' := by
  go_enter Tryz.func160, Tryz.ntmps160
  go_wp2_with (go_at_call 202; refine (ref02_Add _ _ _ hn0 hn1 hf0 hf1).mono ?_; rintro e w' ⟨rfl, rfl⟩)
  exact bodyPost_ret (v := stV 1 (satAdd now fill) 0) (by simp [results, Tryz.results160, go_sem, stV]) rfl ⟨rfl, (by repeat (first | with_reducible exact Ext.refl _ | with_reducible assumption | with_reducible refine Ext.alloc ?_ _ | with_reducible refine Ext.drew ?_ | (with_reducible refine Ext.setCell ?_ (by first | exact Nat.le_refl _ | (dsimp only; omega) | (simp; done) | (simp; omega)) _) | with_reducible refine Ext.setCell ?_ (by simp; try omega) _ | with_reducible refine Ext.trans ?_ (by with_reducible assumption)))⟩
theorem ref05_Of (now cap fill : Int) (w : World) (hc0 : 0 ≤ cap) (hc1 : cap < 18446744073709551616) (hf0 : 0 ≤ fill) (hf1 : fill < 18446744073709551616) :
    Calls Tryz.prog 161 #[.int .u64 now, .int .u64 cap, .int .u64 fill] w fun e w' => e = .returned (stV 2 (satSub cap fill) now) ∧ Ext w w' := by
  go_enter Tryz.func161, Tryz.ntmps161
  go_wp2_with (go_at_call 117; refine (ref02_Sub _ _ _ hc0 hc1 hf0 hf1).mono ?_; rintro e w' ⟨rfl, rfl⟩)
  exact bodyPost_ret (v := stV 2 (satSub cap fill) now) (by simp [results, Tryz.results161, go_sem, stV]) rfl ⟨rfl, (by repeat (first | with_reducible exact Ext.refl _ | with_reducible assumption | with_reducible refine Ext.alloc ?_ _ | with_reducible refine Ext.drew ?_ | (with_reducible refine Ext.setCell ?_ (by first | exact Nat.le_refl _ | (dsimp only; omega) | (simp; done) | (simp; omega)) _) | with_reducible refine Ext.setCell ?_ (by simp; try omega) _ | with_reducible refine Ext.trans ?_ (by with_reducible assumption)))⟩
theorem ref04_Of (now fill : Int) (w : World) :
    Calls Tryz.prog 162 #[.int .u64 now, .int .u64 fill] w fun e w' => e = .returned (stV 3 fill now) ∧ Ext w w' := by
  go_enter Tryz.func162, Tryz.ntmps162
  go_wp2
  exact bodyPost_ret (v := stV 3 fill now) (by simp [results, Tryz.results162, go_sem, stV]) rfl ⟨rfl, (by repeat (first | with_reducible exact Ext.refl _ | with_reducible assumption | with_reducible refine Ext.alloc ?_ _ | with_reducible refine Ext.drew ?_ | (with_reducible refine Ext.setCell ?_ (by first | exact Nat.le_refl _ | (dsimp only; omega) | (simp; done) | (simp; omega)) _) | with_reducible refine Ext.setCell ?_ (by simp; try omega) _ | with_reducible refine Ext.trans ?_ (by with_reducible assumption)))⟩
theorem ref06_Fill (k a b now : Int) (w : World) (ha0 : 0 ≤ a) (ha1 : a < 18446744073709551616) (hn0 : 0 ≤ now) (hn1 : now < 18446744073709551616) :
    Calls Tryz.prog 206 #[.agg #[.int .u8 k, .int .u64 a, .int .u64 b], .int .u64 now] w fun e w' => e = .returned (.int .u64 (satSub a now)) ∧ Ext w w' := by
  go_enter Tryz.func206, Tryz.ntmps206
  go_wp2_with (go_at_call 117; refine (ref02_Sub _ _ _ ha0 ha1 hn0 hn1).mono ?_; rintro e w' ⟨rfl, rfl⟩)
  go_ret
  exact ⟨rfl, (by repeat (first | with_reducible exact Ext.refl _ | with_reducible assumption | with_reducible refine Ext.alloc ?_ _ | with_reducible refine Ext.drew ?_ | (with_reducible refine Ext.setCell ?_ (by first | exact Nat.le_refl _ | (dsimp only; omega) | (simp; done) | (simp; omega)) _) | with_reducible refine Ext.trans ?_ (by with_reducible assumption)))⟩
set_option maxHeartbeats 1000000 in
set_option maxRecDepth 100000 in
theorem ref04_Fill (k a b now : Int) (w : World) (ha0 : 0 ≤ a) (ha1 : a < 18446744073709551616) (hb0 : 0 ≤ b) (hb1 : b < 18446744073709551616) (hn0 : 0 ≤ now) (hn1 : now < 18446744073709551616) :
    Calls Tryz.prog 208 #[.agg #[.int .u8 k, .int .u64 a, .int .u64 b], .int .u64 now] w fun e w' => e = .returned (.int .u64 (meterT a b now)) ∧ Ext w w' := by
  have hs := satSub_u now b hn0 hn1 hb0
  have ht : meterT a b now = satSub a (satSub now b) := rfl
  generalize hS : satSub now b = s at *
  have HS := Lib.hid hS
  have HT := Lib.hid ht
  obtain ⟨hs0, hs1⟩ := hs
  clear hS ht
  go_enter Tryz.func208, Tryz.ntmps208
  go_upto_region 1 with fail
  have bq := Blk.new w #[.int .u8 k, .int .u64 a, .int .u64 b] 140
  have hx0 : Ext w (w.alloc (.cells #[.int .u8 k, .int .u64 a, .int .u64 b] 140)) := (Ext.refl w).alloc _
  generalize w.alloc (.cells #[.int .u8 k, .int .u64 a, .int .u64 b] 140) = w0 at *
  have q1 : w0.cell? ⟨w.heap.size, 1, none⟩ = some (.int .u64 a) := bq.cell 1
  have q2 : w0.cell? ⟨w.heap.size, 2, none⟩ = some (.int .u64 b) := bq.cell 2
  clear bq
  go_region_held3 (fun w' => w'.cell? ⟨w.heap.size, 1, none⟩ = some (.int .u64 a) ∧ w'.cell? ⟨w.heap.size, 2, none⟩ = some (.int .u64 b) ∧ Ext w0 w')
    (((try go_split_ands); refine ⟨?_, ?_, ?_⟩ <;> first | with_reducible assumption | exact (Ext.refl _).drew | ((repeat (first | with_reducible exact Ext.refl _ | with_reducible assumption | with_reducible refine Ext.alloc ?_ _ | with_reducible refine Ext.drew ?_ | (with_reducible refine Ext.setCell ?_ (by first | exact Nat.le_refl _ | (dsimp only; omega) | (simp; done) | (simp; omega)) _) | with_reducible refine Ext.trans ?_ (by with_reducible assumption))); done) | (refine Ext.keep (w := w0) (by repeat (first | with_reducible exact Ext.refl _ | with_reducible assumption | with_reducible refine Ext.alloc ?_ _ | with_reducible refine Ext.drew ?_ | (with_reducible refine Ext.setCell ?_ (by first | exact Nat.le_refl _ | (dsimp only; omega) | (simp; done) | (simp; omega)) _) | with_reducible refine Ext.trans ?_ (by with_reducible assumption))) ?_; with_reducible assumption)))
    (first
      | (go_at_call 117; (with_reducible refine (ref02_Sub now b _ hn0 hn1 hb0 hb1).mono ?_); rw [HS.out]; rintro e w' ⟨rfl, rfl⟩)
      | (go_at_call 117; (with_reducible refine (ref02_Sub a s _ ha0 ha1 hs0 (by omega)).mono ?_); rw [← HT.out]; rintro e w' ⟨rfl, rfl⟩))
  go_wp2
  go_ret
  exact ⟨rfl, (by repeat (first | with_reducible exact Ext.refl _ | with_reducible assumption | with_reducible refine Ext.alloc ?_ _ | with_reducible refine Ext.drew ?_ | (with_reducible refine Ext.setCell ?_ (by first | exact Nat.le_refl _ | (dsimp only; omega) | (simp; done) | (simp; omega)) _) | with_reducible refine Ext.trans ?_ (by with_reducible assumption)))⟩
set_option maxHeartbeats 1000000 in
set_option maxRecDepth 100000 in
theorem ref05_tokens (k a b now cap : Int) (w : World) (ha0 : 0 ≤ a) (ha1 : a < 18446744073709551616) (hb0 : 0 ≤ b) (hb1 : b < 18446744073709551616) (hn0 : 0 ≤ now) (hn1 : now < 18446744073709551616) (hc0 : 0 ≤ cap) (hc1 : cap < 18446744073709551616) :
    Calls Tryz.prog 226 #[.agg #[.int .u8 k, .int .u64 a, .int .u64 b], .int .u64 now, .int .u64 cap] w fun e w' => e = .returned (.int .u64 (tokens a b now cap)) ∧ Ext w w' := by
  have hs := satSub_u now b hn0 hn1 hb0
  have hp := satAdd_u a (satSub now b) ha0 hs.1
  have ht : tokens a b now cap = min (satAdd a (satSub now b)) cap := rfl
  generalize hS : satSub now b = s at *
  generalize hP : satAdd a s = p at *
  have HS := Lib.hid hS
  have HP := Lib.hid hP
  obtain ⟨hs0, hs1⟩ := hs
  obtain ⟨hp0, hp1⟩ := hp
  clear hS hP
  generalize htt : tokens a b now cap = t at *
  have HT := Lib.hid ht
  clear htt ht
  go_enter Tryz.func226, Tryz.ntmps226
  go_upto_region 1 with fail
  have bq := Blk.new w #[.int .u8 k, .int .u64 a, .int .u64 b] 140
  have hx0 : Ext w (w.alloc (.cells #[.int .u8 k, .int .u64 a, .int .u64 b] 140)) := (Ext.refl w).alloc _
  generalize w.alloc (.cells #[.int .u8 k, .int .u64 a, .int .u64 b] 140) = w0 at *
  have q1 : w0.cell? ⟨w.heap.size, 1, none⟩ = some (.int .u64 a) := bq.cell 1
  have q2 : w0.cell? ⟨w.heap.size, 2, none⟩ = some (.int .u64 b) := bq.cell 2
  clear bq
  go_region_held3 (fun w' => w'.cell? ⟨w.heap.size, 1, none⟩ = some (.int .u64 a) ∧ w'.cell? ⟨w.heap.size, 2, none⟩ = some (.int .u64 b) ∧ Ext w0 w')
    (((try go_split_ands); refine ⟨?_, ?_, ?_⟩ <;> first | with_reducible assumption | exact (Ext.refl _).drew | ((repeat (first | with_reducible exact Ext.refl _ | with_reducible assumption | with_reducible refine Ext.alloc ?_ _ | with_reducible refine Ext.drew ?_ | (with_reducible refine Ext.setCell ?_ (by first | exact Nat.le_refl _ | (dsimp only; omega) | (simp; done) | (simp; omega)) _) | with_reducible refine Ext.trans ?_ (by with_reducible assumption))); done) | (refine Ext.keep (w := w0) (by repeat (first | with_reducible exact Ext.refl _ | with_reducible assumption | with_reducible refine Ext.alloc ?_ _ | with_reducible refine Ext.drew ?_ | (with_reducible refine Ext.setCell ?_ (by first | exact Nat.le_refl _ | (dsimp only; omega) | (simp; done) | (simp; omega)) _) | with_reducible refine Ext.trans ?_ (by with_reducible assumption))) ?_; with_reducible assumption)))
    (first
      | (go_at_call 117; (with_reducible refine (ref02_Sub now b _ hn0 hn1 hb0 hb1).mono ?_); rw [HS.out]; rintro e w' ⟨rfl, rfl⟩)
      | (go_at_call 202; (with_reducible refine (ref02_Add a s _ ha0 ha1 hs0 (by omega)).mono ?_); rw [HP.out]; rintro e w' ⟨rfl, rfl⟩))
  go_wp2
  all_goals
    go_ret
    exact ⟨ret_int (by rw [HT.out]; omega), (by repeat (first | with_reducible exact Ext.refl _ | with_reducible assumption | with_reducible refine Ext.alloc ?_ _ | with_reducible refine Ext.drew ?_ | (with_reducible refine Ext.setCell ?_ (by first | exact Nat.le_refl _ | (dsimp only; omega) | (simp; done) | (simp; omega)) _) | with_reducible refine Ext.trans ?_ (by with_reducible assumption)))⟩
set_option maxHeartbeats 400000 in
theorem ref05_Fill (k a b now cap : Int) (w : World) (ha0 : 0 ≤ a) (ha1 : a < 18446744073709551616) (hb0 : 0 ≤ b) (hb1 : b < 18446744073709551616) (hn0 : 0 ≤ now) (hn1 : now < 18446744073709551616) (hc0 : 0 ≤ cap) (hc1 : cap < 18446744073709551616) :
    Calls Tryz.prog 207 #[.agg #[.int .u8 k, .int .u64 a, .int .u64 b], .int .u64 now, .int .u64 cap] w fun e w' => e = .returned (.int .u64 (cap - tokens a b now cap)) ∧ Ext w w' := by
  have ht := tokens_u a b now cap ha0 ha1 hb0 hb1 hn0 hn1 hc0 hc1
  generalize htt : tokens a b now cap = t at *
  have HT := Lib.hid htt
  obtain ⟨ht0, ht1⟩ := ht
  clear htt
  go_enter Tryz.func207, Tryz.ntmps207
  go_wp2_with (go_at_call 226; (with_reducible refine (ref05_tokens k a b now cap _ ha0 ha1 hb0 hb1 hn0 hn1 hc0 hc1).mono ?_); rw [HT.out]; rintro e w1 ⟨rfl, hx⟩)
  go_ret
  exact ⟨rfl, (by repeat (first | with_reducible exact Ext.refl _ | with_reducible assumption | with_reducible refine Ext.alloc ?_ _ | with_reducible refine Ext.drew ?_ | (with_reducible refine Ext.setCell ?_ (by first | exact Nat.le_refl _ | (dsimp only; omega) | (simp; done) | (simp; omega)) _) | with_reducible refine Ext.trans ?_ (by with_reducible assumption)))⟩

end Go.Proofs.YtknlojlcahgnoaaGreat
