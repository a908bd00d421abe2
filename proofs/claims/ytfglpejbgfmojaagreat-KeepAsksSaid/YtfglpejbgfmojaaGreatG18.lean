/- Walks: the references 02 (but Mul), 04, 05, 06. -/
import Derived.Deep.DeepCutAuto
import Derived.Deep.CutRange
import Derived.Test.YtfglpejbgfmojaaGreatG8
import Derived.Test.YtfglpejbgfmojaaGreatG12
import Derived.Test.YtfglpejbgfmojaaGreatG15
import Derived.Test.YtfglpejbgfmojaaGreatG2

/- Walks: the references 02 (but Mul), 04, 05, 06. -/
namespace Go.Proofs.YtfglpejbgfmojaaGreat
open Go.RowKit
set_option linter.unusedVariables false
set_option linter.unusedSimpArgs false

theorem ref02_Sub (a b : Int) (w : World) (ha0 : 0 ≤ a) (ha1 : a < 18446744073709551616) (hb0 : 0 ≤ b) (hb1 : b < 18446744073709551616) :
    Calls Tryz.prog 158 #[.int .u64 a, .int .u64 b] w fun e w' => e = .returned (.int .u64 (satSub a b)) ∧ w = w' := by
  by_cases h : b ≤ a
  · have H := Lib.hid (satSub_le h)
    go_enter Tryz.func158, Tryz.ntmps158
    go_wp2
    go_ret
    exact ⟨ret_int (by rw [H.out]), rfl⟩
  · have H := Lib.hid (satSub_gt h)
    go_enter Tryz.func158, Tryz.ntmps158
    go_wp2
    go_ret
    exact ⟨ret_int (by rw [H.out]), rfl⟩
theorem ref02_Add (a b : Int) (w : World) (ha0 : 0 ≤ a) (ha1 : a < 18446744073709551616) (hb0 : 0 ≤ b) (hb1 : b < 18446744073709551616) :
    Calls Tryz.prog 134 #[.int .u64 a, .int .u64 b] w fun e w' => e = .returned (.int .u64 (satAdd a b)) ∧ w = w' := by
  by_cases h : a + b < 18446744073709551616
  · have H := Lib.hid (satAdd_lt h)
    have h2 : ¬ a + b < a := by omega
    go_enter Tryz.func134, Tryz.ntmps134
    go_wp2
    go_ret
    exact ⟨ret_int (by rw [H.out]), rfl⟩
  · have H := Lib.hid (satAdd_ge h)
    have h2 : IntKind.u64.wrap (a + b) < a := by rw [wrap_u64]; omega
    clear h
    go_enter Tryz.func134, Tryz.ntmps134
    go_wp2
    go_ret
    exact ⟨ret_int (by rw [H.out]), rfl⟩
theorem ref02_Div (a b : Int) (w : World) (ha0 : 0 ≤ a) (ha1 : a < 18446744073709551616) (hb0 : 0 ≤ b) (hb1 : b < 18446744073709551616) :
    Calls Tryz.prog 161 #[.int .u64 a, .int .u64 b] w fun e w' => e = .returned (.int .u64 (divS a b)) ∧ w = w' := by
  by_cases h : b = 0
  · subst h
    have H := Lib.hid (show divS a 0 = 18446744073709551615 from rfl)
    go_enter Tryz.func161, Tryz.ntmps161
    go_wp2
    go_ret
    exact ⟨ret_int (by rw [H.out]), rfl⟩
  · have H := Lib.hid (show divS a b = a / b from if_neg h)
    have hq0 := Int.ediv_nonneg ha0 hb0
    have hq1 := Int.ediv_le_self b ha0
    have hq2 : a / b < 18446744073709551616 := by omega
    have h2 : (b == 0) = false := by simp [h]
    go_enter Tryz.func161, Tryz.ntmps161
    go_wp2
    go_ret
    exact ⟨ret_int (by rw [H.out]), rfl⟩
theorem ref02_Ceil (a b : Int) (w : World) (ha0 : 0 ≤ a) (ha1 : a < 18446744073709551616) (hb0 : 0 ≤ b) (hb1 : b < 18446744073709551616) :
    Calls Tryz.prog 80 #[.int .u64 a, .int .u64 b] w fun e w' => e = .returned (.int .u64 (ceilS a b)) ∧ w = w' := by
  by_cases h : b = 0
  · subst h
    have H := Lib.hid (show ceilS a 0 = 18446744073709551615 from rfl)
    go_enter Tryz.func80, Tryz.ntmps80
    go_wp2
    go_ret
    exact ⟨ret_int (by rw [H.out]), rfl⟩
  · have hc := ceilS_u a b ha0 ha1 hb0
    have hq0 := Int.ediv_nonneg ha0 hb0
    have hq1 := Int.ediv_le_self b ha0
    have hq2 : a / b < 18446744073709551616 := by omega
    have hm0 := Int.emod_nonneg a h
    have g2 : (b == 0) = false := by simp [h]
    by_cases h3 : a % b = 0
    · have H := Lib.hid (show ceilS a b = a / b by simp [ceilS, h3, h])
      have h2 : ¬ 0 < a % b := by omega
      clear hc h3
      go_enter Tryz.func80, Tryz.ntmps80
      go_wp2
      go_ret
      exact ⟨ret_int H.out.symm, rfl⟩
    · have e : ceilS a b = a / b + 1 := by simp [ceilS, h3, h]
      have hq3 : a / b + 1 < 18446744073709551616 := by omega
      have H := Lib.hid e
      have h2 : 0 < a % b := by omega
      clear hc h3 e
      go_enter Tryz.func80, Tryz.ntmps80
      go_wp2
      go_ret
      exact ⟨ret_int H.out.symm, rfl⟩
theorem ref02_Fits (a b c : Int) (w : World) (ha0 : 0 ≤ a) (ha1 : a < 18446744073709551616) (hb0 : 0 ≤ b) (hb1 : b < 18446744073709551616) (hc0 : 0 ≤ c) (hc1 : c < 18446744073709551616) :
    Calls Tryz.prog 118 #[.int .u64 a, .int .u64 b, .int .u64 c] w fun e w' => e = .returned (.bool (fitsB a b c)) ∧ w = w' := by
  by_cases h : a ≤ c
  · have H := Lib.hid (show fitsB a b c = decide (b ≤ c - a) from decide_eq_decide.2 (by omega))
    go_enter Tryz.func118, Tryz.ntmps118
    go_wp2
    all_goals
      go_ret
      exact ⟨ret_bool H.out.symm, rfl⟩
  · have H := Lib.hid (show fitsB a b c = false by simp [fitsB]; omega)
    have h2 : ¬ a ≤ c := h
    go_enter Tryz.func118, Tryz.ntmps118
    go_wp2
    go_ret
    exact ⟨ret_bool H.out.symm, rfl⟩

theorem ref06_Of (now fill : Int) (w : World) (hn0 : 0 ≤ now) (hn1 : now < 18446744073709551616) (hf0 : 0 ≤ fill) (hf1 : fill < 18446744073709551616) :
    Calls Tryz.prog 114 #[.int .u64 now, .int .u64 fill] w fun e w' => e = .returned (stV 1 (satAdd now fill) 0) ∧ Ext w w' := by
  go_enter Tryz.func114, Tryz.ntmps114
  go_wp2_with (go_at_call 134; refine (ref02_Add _ _ _ hn0 hn1 hf0 hf1).mono ?_; rintro e w' ⟨rfl, rfl⟩)
  exact bodyPost_ret (v := stV 1 (satAdd now fill) 0) (by simp [results, Tryz.results114, go_sem, stV]) rfl ⟨rfl, (by repeat (first | with_reducible exact Ext.refl _ | with_reducible assumption | with_reducible refine Ext.alloc ?_ _ | with_reducible refine Ext.drew ?_ | (with_reducible refine Ext.setCell ?_ (by first | exact Nat.le_refl _ | (dsimp only; omega) | (simp; done) | (simp; omega)) _) | with_reducible refine Ext.setCell ?_ (by simp; try omega) _ | with_reducible refine Ext.trans ?_ (by with_reducible assumption)))⟩
theorem ref05_Of (now cap fill : Int) (w : World) (hc0 : 0 ≤ cap) (hc1 : cap < 18446744073709551616) (hf0 : 0 ≤ fill) (hf1 : fill < 18446744073709551616) :
    Calls Tryz.prog 115 #[.int .u64 now, .int .u64 cap, .int .u64 fill] w fun e w' => e = .returned (stV 2 (satSub cap fill) now) ∧ Ext w w' := by
  go_enter Tryz.func115, Tryz.ntmps115
  go_wp2_with (go_at_call 158; refine (ref02_Sub _ _ _ hc0 hc1 hf0 hf1).mono ?_; rintro e w' ⟨rfl, rfl⟩)
  exact bodyPost_ret (v := stV 2 (satSub cap fill) now) (by simp [results, Tryz.results115, go_sem, stV]) rfl ⟨rfl, (by repeat (first | with_reducible exact Ext.refl _ | with_reducible assumption | with_reducible refine Ext.alloc ?_ _ | with_reducible refine Ext.drew ?_ | (with_reducible refine Ext.setCell ?_ (by first | exact Nat.le_refl _ | (dsimp only; omega) | (simp; done) | (simp; omega)) _) | with_reducible refine Ext.setCell ?_ (by simp; try omega) _ | with_reducible refine Ext.trans ?_ (by with_reducible assumption)))⟩
theorem ref04_Of (now fill : Int) (w : World) :
    Calls Tryz.prog 116 #[.int .u64 now, .int .u64 fill] w fun e w' => e = .returned (stV 3 fill now) ∧ Ext w w' := by
  go_enter Tryz.func116, Tryz.ntmps116
  go_wp2
  exact bodyPost_ret (v := stV 3 fill now) (by simp [results, Tryz.results116, go_sem, stV]) rfl ⟨rfl, (by repeat (first | with_reducible exact Ext.refl _ | with_reducible assumption | with_reducible refine Ext.alloc ?_ _ | with_reducible refine Ext.drew ?_ | (with_reducible refine Ext.setCell ?_ (by first | exact Nat.le_refl _ | (dsimp only; omega) | (simp; done) | (simp; omega)) _) | with_reducible refine Ext.setCell ?_ (by simp; try omega) _ | with_reducible refine Ext.trans ?_ (by with_reducible assumption)))⟩
theorem ref06_Fill (k a b now : Int) (w : World) (ha0 : 0 ≤ a) (ha1 : a < 18446744073709551616) (hn0 : 0 ≤ now) (hn1 : now < 18446744073709551616) :
    Calls Tryz.prog 155 #[.agg #[.int .u8 k, .int .u64 a, .int .u64 b], .int .u64 now] w fun e w' => e = .returned (.int .u64 (satSub a now)) ∧ Ext w w' := by
  go_enter Tryz.func155, Tryz.ntmps155
  go_wp2_with (go_at_call 158; refine (ref02_Sub _ _ _ ha0 ha1 hn0 hn1).mono ?_; rintro e w' ⟨rfl, rfl⟩)
  go_ret
  exact ⟨rfl, (by repeat (first | with_reducible exact Ext.refl _ | with_reducible assumption | with_reducible refine Ext.alloc ?_ _ | with_reducible refine Ext.drew ?_ | (with_reducible refine Ext.setCell ?_ (by first | exact Nat.le_refl _ | (dsimp only; omega) | (simp; done) | (simp; omega)) _) | with_reducible refine Ext.trans ?_ (by with_reducible assumption)))⟩
set_option maxHeartbeats 1000000 in
set_option maxRecDepth 100000 in
theorem ref04_Fill (k a b now : Int) (w : World) (ha0 : 0 ≤ a) (ha1 : a < 18446744073709551616) (hb0 : 0 ≤ b) (hb1 : b < 18446744073709551616) (hn0 : 0 ≤ now) (hn1 : now < 18446744073709551616) :
    Calls Tryz.prog 157 #[.agg #[.int .u8 k, .int .u64 a, .int .u64 b], .int .u64 now] w fun e w' => e = .returned (.int .u64 (meterT a b now)) ∧ Ext w w' := by
  have hs := satSub_u now b hn0 hn1 hb0
  have ht : meterT a b now = satSub a (satSub now b) := rfl
  generalize hS : satSub now b = s at *
  have HS := Lib.hid hS
  have HT := Lib.hid ht
  obtain ⟨hs0, hs1⟩ := hs
  clear hS ht
  go_enter Tryz.func157, Tryz.ntmps157
  go_upto_region 1 with fail
  have bq := Blk.new w #[.int .u8 k, .int .u64 a, .int .u64 b] 63
  have hx0 : Ext w (w.alloc (.cells #[.int .u8 k, .int .u64 a, .int .u64 b] 63)) := (Ext.refl w).alloc _
  generalize w.alloc (.cells #[.int .u8 k, .int .u64 a, .int .u64 b] 63) = w0 at *
  have q1 : w0.cell? ⟨w.heap.size, 1, none⟩ = some (.int .u64 a) := bq.cell 1
  have q2 : w0.cell? ⟨w.heap.size, 2, none⟩ = some (.int .u64 b) := bq.cell 2
  clear bq
  go_region_held3 (fun w' => w'.cell? ⟨w.heap.size, 1, none⟩ = some (.int .u64 a) ∧ w'.cell? ⟨w.heap.size, 2, none⟩ = some (.int .u64 b) ∧ Ext w0 w')
    (((try go_split_ands); refine ⟨?_, ?_, ?_⟩ <;> first | with_reducible assumption | exact (Ext.refl _).drew | ((repeat (first | with_reducible exact Ext.refl _ | with_reducible assumption | with_reducible refine Ext.alloc ?_ _ | with_reducible refine Ext.drew ?_ | (with_reducible refine Ext.setCell ?_ (by first | exact Nat.le_refl _ | (dsimp only; omega) | (simp; done) | (simp; omega)) _) | with_reducible refine Ext.trans ?_ (by with_reducible assumption))); done) | (refine Ext.keep (w := w0) (by repeat (first | with_reducible exact Ext.refl _ | with_reducible assumption | with_reducible refine Ext.alloc ?_ _ | with_reducible refine Ext.drew ?_ | (with_reducible refine Ext.setCell ?_ (by first | exact Nat.le_refl _ | (dsimp only; omega) | (simp; done) | (simp; omega)) _) | with_reducible refine Ext.trans ?_ (by with_reducible assumption))) ?_; with_reducible assumption)))
    (first
      | (go_at_call 158; (with_reducible refine (ref02_Sub now b _ hn0 hn1 hb0 hb1).mono ?_); rw [HS.out]; rintro e w' ⟨rfl, rfl⟩)
      | (go_at_call 158; (with_reducible refine (ref02_Sub a s _ ha0 ha1 hs0 (by omega)).mono ?_); rw [← HT.out]; rintro e w' ⟨rfl, rfl⟩))
  go_wp2
  go_ret
  exact ⟨rfl, (by repeat (first | with_reducible exact Ext.refl _ | with_reducible assumption | with_reducible refine Ext.alloc ?_ _ | with_reducible refine Ext.drew ?_ | (with_reducible refine Ext.setCell ?_ (by first | exact Nat.le_refl _ | (dsimp only; omega) | (simp; done) | (simp; omega)) _) | with_reducible refine Ext.trans ?_ (by with_reducible assumption)))⟩
set_option maxHeartbeats 1000000 in
set_option maxRecDepth 100000 in
theorem ref05_tokens (k a b now cap : Int) (w : World) (ha0 : 0 ≤ a) (ha1 : a < 18446744073709551616) (hb0 : 0 ≤ b) (hb1 : b < 18446744073709551616) (hn0 : 0 ≤ now) (hn1 : now < 18446744073709551616) (hc0 : 0 ≤ cap) (hc1 : cap < 18446744073709551616) :
    Calls Tryz.prog 159 #[.agg #[.int .u8 k, .int .u64 a, .int .u64 b], .int .u64 now, .int .u64 cap] w fun e w' => e = .returned (.int .u64 (tokens a b now cap)) ∧ Ext w w' := by
  have hs := satSub_u now b hn0 hn1 hb0
  have hp := satAdd_u a (satSub now b) ha0 hs.1
  have ht : tokens a b now cap = min (satAdd a (satSub now b)) cap := rfl
  generalize hS : satSub now b = s at *
  generalize hP : satAdd a s = p at *
  have HS := Lib.hid hS
  have HP := Lib.hid hP
  obtain ⟨hs0, hs1⟩ := hs
  obtain ⟨hp0, hp1⟩ := hp
  clear hS hP
  generalize htt : tokens a b now cap = t at *
  have HT := Lib.hid ht
  clear htt ht
  go_enter Tryz.func159, Tryz.ntmps159
  go_upto_region 1 with fail
  have bq := Blk.new w #[.int .u8 k, .int .u64 a, .int .u64 b] 63
  have hx0 : Ext w (w.alloc (.cells #[.int .u8 k, .int .u64 a, .int .u64 b] 63)) := (Ext.refl w).alloc _
  generalize w.alloc (.cells #[.int .u8 k, .int .u64 a, .int .u64 b] 63) = w0 at *
  have q1 : w0.cell? ⟨w.heap.size, 1, none⟩ = some (.int .u64 a) := bq.cell 1
  have q2 : w0.cell? ⟨w.heap.size, 2, none⟩ = some (.int .u64 b) := bq.cell 2
  clear bq
  go_region_held3 (fun w' => w'.cell? ⟨w.heap.size, 1, none⟩ = some (.int .u64 a) ∧ w'.cell? ⟨w.heap.size, 2, none⟩ = some (.int .u64 b) ∧ Ext w0 w')
    (((try go_split_ands); refine ⟨?_, ?_, ?_⟩ <;> first | with_reducible assumption | exact (Ext.refl _).drew | ((repeat (first | with_reducible exact Ext.refl _ | with_reducible assumption | with_reducible refine Ext.alloc ?_ _ | with_reducible refine Ext.drew ?_ | (with_reducible refine Ext.setCell ?_ (by first | exact Nat.le_refl _ | (dsimp only; omega) | (simp; done) | (simp; omega)) _) | with_reducible refine Ext.trans ?_ (by with_reducible assumption))); done) | (refine Ext.keep (w := w0) (by repeat (first | with_reducible exact Ext.refl _ | with_reducible assumption | with_reducible refine Ext.alloc ?_ _ | with_reducible refine Ext.drew ?_ | (with_reducible refine Ext.setCell ?_ (by first | exact Nat.le_refl _ | (dsimp only; omega) | (simp; done) | (simp; omega)) _) | with_reducible refine Ext.trans ?_ (by with_reducible assumption))) ?_; with_reducible assumption)))
    (first
      | (go_at_call 158; (with_reducible refine (ref02_Sub now b _ hn0 hn1 hb0 hb1).mono ?_); rw [HS.out]; rintro e w' ⟨rfl, rfl⟩)
      | (go_at_call 134; (with_reducible refine (ref02_Add a s _ ha0 ha1 hs0 (by omega)).mono ?_); rw [HP.out]; rintro e w' ⟨rfl, rfl⟩))
  go_wp2
  all_goals
    go_ret
    exact ⟨ret_int (by rw [HT.out]; omega), (by repeat (first | with_reducible exact Ext.refl _ | with_reducible assumption | with_reducible refine Ext.alloc ?_ _ | with_reducible refine Ext.drew ?_ | (with_reducible refine Ext.setCell ?_ (by first | exact Nat.le_refl _ | (dsimp only; omega) | (simp; done) | (simp; omega)) _) | with_reducible refine Ext.trans ?_ (by with_reducible assumption)))⟩
set_option maxHeartbeats 400000 in
theorem ref05_Fill (k a b now cap : Int) (w : World) (ha0 : 0 ≤ a) (ha1 : a < 18446744073709551616) (hb0 : 0 ≤ b) (hb1 : b < 18446744073709551616) (hn0 : 0 ≤ now) (hn1 : now < 18446744073709551616) (hc0 : 0 ≤ cap) (hc1 : cap < 18446744073709551616) :
    Calls Tryz.prog 156 #[.agg #[.int .u8 k, .int .u64 a, .int .u64 b], .int .u64 now, .int .u64 cap] w fun e w' => e = .returned (.int .u64 (cap - tokens a b now cap)) ∧ Ext w w' := by
  have ht := tokens_u a b now cap ha0 ha1 hb0 hb1 hn0 hn1 hc0 hc1
  generalize htt : tokens a b now cap = t at *
  have HT := Lib.hid htt
  obtain ⟨ht0, ht1⟩ := ht
  clear htt
  go_enter Tryz.func156, Tryz.ntmps156
  go_wp2_with (go_at_call 159; (with_reducible refine (ref05_tokens k a b now cap _ ha0 ha1 hb0 hb1 hn0 hn1 hc0 hc1).mono ?_); rw [HT.out]; rintro e w1 ⟨rfl, hx⟩)
  go_ret
  exact ⟨rfl, (by repeat (first | with_reducible exact Ext.refl _ | with_reducible assumption | with_reducible refine Ext.alloc ?_ _ | with_reducible refine Ext.drew ?_ | (with_reducible refine Ext.setCell ?_ (by first | exact Nat.le_refl _ | (dsimp only; omega) | (simp; done) | (simp; omega)) _) | with_reducible refine Ext.trans ?_ (by with_reducible assumption)))⟩

set_option maxHeartbeats 1000000 in
theorem ref05_Decide (a b now cap x : Int) (w : World) (ha0 : 0 ≤ a) (ha1 : a < 18446744073709551616) (hb0 : 0 ≤ b) (hb1 : b < 18446744073709551616) (hn0 : 0 ≤ now) (hn1 : now < 18446744073709551616) (hc0 : 0 ≤ cap) (hc1 : cap < 18446744073709551616) (hx0 : 0 ≤ x) (hx1 : x < 18446744073709551616) :
    Calls Tryz.prog 120 #[.agg #[.int .u8 2, .int .u64 a, .int .u64 b], .int .u64 now, .int .u64 cap, .int .u64 x] w fun e w' =>
      e = .returned (stB 2 (kNextA 2 a b now cap x) (kNextB 2 a b now cap x) (kOk 2 a b now cap x)) ∧ Ext w w' := by
  have ht := tokens_u a b now cap ha0 ha1 hb0 hb1 hn0 hn1 hc0 hc1
  have hkk : kOk 2 a b now cap x = decide (x ≤ tokens a b now cap) := rfl
  have hna : kNextA 2 a b now cap x = if kOk 2 a b now cap x then tokens a b now cap - x else a := rfl
  have hnb : kNextB 2 a b now cap x = if kOk 2 a b now cap x then now else b := rfl
  generalize htt : tokens a b now cap = t at *
  have HTT := Lib.hid htt
  clear htt
  obtain ⟨ht0, ht1⟩ := ht
  by_cases h : x ≤ t
  · rw [hkk] at hna hnb
    have HR := Lib.hid (show stB 2 (kNextA 2 a b now cap x) (kNextB 2 a b now cap x) (kOk 2 a b now cap x) = .tuple #[.agg #[.int .u8 2, .int .u64 (t - x), .int .u64 now], .bool true] by rw [hna, hnb, hkk]; simp [h, stB, stV])
    clear hkk hna hnb
    have h' : ¬ t < x := by omega
    go_enter Tryz.func120, Tryz.ntmps120
    go_wp2_with fail
    refine (ref05_tokens 2 a b now cap _ ha0 ha1 hb0 hb1 hn0 hn1 hc0 hc1).mono ?_
    rw [HTT.out]
    rintro e w1 ⟨rfl, hx⟩
    have hB := (Blk.new' (w.alloc (.cells #[.int .u8 2, .int .u64 a, .int .u64 b] 63)) #[.int .u8 0, .int .u64 0, .int .u64 0] 63 (b := w.heap.size + 1) (by simp)).ext hx
    have hQ := ((Blk.new w #[.int .u8 2, .int .u64 a, .int .u64 b] 63).alloc (.cells #[.int .u8 0, .int .u64 0, .int .u64 0] 63)).ext hx
    have hf := hB.free
    have hc := hB.cell
    have hq := hQ.cell
    have hl := hB.lt
    have hx' := (((Ext.refl w).alloc _).alloc _).trans hx
    go_wp2
    have hS := ((hB.set 0 (.int .u8 2)).set 1 (.int .u64 (t - x))).set 2 (.int .u64 now)
    refine ret_cell_tmp Tryz.results120 rfl rfl hS Tryz.underlying63 rfl (by kernel_rfl) ⟨?_, ?_⟩
    · rw [HR.out]; rfl
    · exact ((hx'.set (by omega) _ _).set (by omega) _ _).set (by omega) _ _
  · rw [hkk] at hna hnb
    have HR := Lib.hid (show stB 2 (kNextA 2 a b now cap x) (kNextB 2 a b now cap x) (kOk 2 a b now cap x) = .tuple #[.agg #[.int .u8 2, .int .u64 a, .int .u64 b], .bool false] by rw [hna, hnb, hkk]; simp [h, stB, stV])
    clear hkk hna hnb
    have h' : t < x := by omega
    go_enter Tryz.func120, Tryz.ntmps120
    go_wp2_with fail
    refine (ref05_tokens 2 a b now cap _ ha0 ha1 hb0 hb1 hn0 hn1 hc0 hc1).mono ?_
    rw [HTT.out]
    rintro e w1 ⟨rfl, hx⟩
    have hB := (Blk.new' (w.alloc (.cells #[.int .u8 2, .int .u64 a, .int .u64 b] 63)) #[.int .u8 0, .int .u64 0, .int .u64 0] 63 (b := w.heap.size + 1) (by simp)).ext hx
    have hQ := ((Blk.new w #[.int .u8 2, .int .u64 a, .int .u64 b] 63).alloc (.cells #[.int .u8 0, .int .u64 0, .int .u64 0] 63)).ext hx
    have hf := hB.free
    have hc := hB.cell
    have hq := hQ.cell
    have hl := hB.lt
    have hx' := (((Ext.refl w).alloc _).alloc _).trans hx
    go_wp2
    have hS := ((hB.set 0 (.int .u8 2)).set 1 (.int .u64 a)).set 2 (.int .u64 b)
    refine ret_cell_tmp Tryz.results120 rfl rfl hS Tryz.underlying63 rfl (by kernel_rfl) ⟨?_, ?_⟩
    · rw [HR.out]; rfl
    · exact ((hx'.set (by omega) _ _).set (by omega) _ _).set (by omega) _ _

set_option maxHeartbeats 1000000 in
theorem ref04_Decide (a b now cap x : Int) (w : World) (ha0 : 0 ≤ a) (ha1 : a < 18446744073709551616) (hb0 : 0 ≤ b) (hb1 : b < 18446744073709551616) (hn0 : 0 ≤ now) (hn1 : now < 18446744073709551616) (hc0 : 0 ≤ cap) (hc1 : cap < 18446744073709551616) (hx0 : 0 ≤ x) (hx1 : x < 18446744073709551616) :
    Calls Tryz.prog 121 #[.agg #[.int .u8 3, .int .u64 a, .int .u64 b], .int .u64 now, .int .u64 cap, .int .u64 x] w fun e w' =>
      e = .returned (stB 3 (kNextA 3 a b now cap x) (kNextB 3 a b now cap x) (kOk 3 a b now cap x)) ∧ Ext w w' := by
  have ht := meter_u a b now ha0 ha1 hb0 hn0 hn1
  have hkk : kOk 3 a b now cap x = fitsB (meterT a b now) x cap := rfl
  have hna : kNextA 3 a b now cap x = if kOk 3 a b now cap x then meterT a b now + x else a := rfl
  have hnb : kNextB 3 a b now cap x = if kOk 3 a b now cap x then now else b := rfl
  generalize htt : meterT a b now = t at *
  have HTT := Lib.hid htt
  clear htt
  obtain ⟨ht0, ht1⟩ := ht
  cases hk : fitsB t x cap
  · rw [hk] at hkk
    rw [hkk] at hna hnb
    have HR := Lib.hid (show stB 3 (kNextA 3 a b now cap x) (kNextB 3 a b now cap x) (kOk 3 a b now cap x) = .tuple #[.agg #[.int .u8 3, .int .u64 a, .int .u64 b], .bool false] by rw [hna, hnb, hkk]; simp [stB, stV])
    have HK := Lib.hid hk
    clear hkk hna hnb hk
    go_enter Tryz.func121, Tryz.ntmps121
    go_wp2_with fail
    refine (ref04_Fill 3 a b now _ ha0 ha1 hb0 hb1 hn0 hn1).mono ?_
    rw [HTT.out]
    rintro e w1 ⟨rfl, hx⟩
    have hB := (Blk.new' (w.alloc (.cells #[.int .u8 3, .int .u64 a, .int .u64 b] 63)) #[.int .u8 0, .int .u64 0, .int .u64 0] 63 (b := w.heap.size + 1) (by simp)).ext hx
    have hQ := ((Blk.new w #[.int .u8 3, .int .u64 a, .int .u64 b] 63).alloc (.cells #[.int .u8 0, .int .u64 0, .int .u64 0] 63)).ext hx
    have hf := hB.free
    have hc := hB.cell
    have hq := hQ.cell
    have hl := hB.lt
    have hx' := (((Ext.refl w).alloc _).alloc _).trans hx
    go_wp2_with (go_at_call 118; (with_reducible refine (ref02_Fits t x cap _ ht0 (by omega) hx0 hx1 hc0 hc1).mono ?_); rw [HK.out]; rintro e w' ⟨rfl, rfl⟩)
    have hS := ((hB.set 0 (.int .u8 3)).set 1 (.int .u64 a)).set 2 (.int .u64 b)
    refine ret_cell_tmp Tryz.results121 rfl rfl hS Tryz.underlying63 rfl (by kernel_rfl) ⟨?_, ?_⟩
    · rw [HR.out]; rfl
    · exact ((hx'.set (by omega) _ _).set (by omega) _ _).set (by omega) _ _
  · rw [hk] at hkk
    rw [hkk] at hna hnb
    have HR := Lib.hid (show stB 3 (kNextA 3 a b now cap x) (kNextB 3 a b now cap x) (kOk 3 a b now cap x) = .tuple #[.agg #[.int .u8 3, .int .u64 (t + x), .int .u64 now], .bool true] by rw [hna, hnb, hkk]; simp [stB, stV])
    have hle : t + x ≤ cap := by simpa [fitsB] using hk
    have HK := Lib.hid hk
    clear hkk hna hnb hk
    go_enter Tryz.func121, Tryz.ntmps121
    go_wp2_with fail
    refine (ref04_Fill 3 a b now _ ha0 ha1 hb0 hb1 hn0 hn1).mono ?_
    rw [HTT.out]
    rintro e w1 ⟨rfl, hx⟩
    have hB := (Blk.new' (w.alloc (.cells #[.int .u8 3, .int .u64 a, .int .u64 b] 63)) #[.int .u8 0, .int .u64 0, .int .u64 0] 63 (b := w.heap.size + 1) (by simp)).ext hx
    have hQ := ((Blk.new w #[.int .u8 3, .int .u64 a, .int .u64 b] 63).alloc (.cells #[.int .u8 0, .int .u64 0, .int .u64 0] 63)).ext hx
    have hf := hB.free
    have hc := hB.cell
    have hq := hQ.cell
    have hl := hB.lt
    have hx' := (((Ext.refl w).alloc _).alloc _).trans hx
    clear hQ hq hc hf hB
    have hB := (Blk.new' (w.alloc (.cells #[.int .u8 3, .int .u64 a, .int .u64 b] 63)) #[.int .u8 0, .int .u64 0, .int .u64 0] 63 (b := w.heap.size + 1) (by simp)).ext hx
    go_wp2_with (go_at_call 118; (with_reducible refine (ref02_Fits t x cap _ ht0 (by omega) hx0 hx1 hc0 hc1).mono ?_); rw [HK.out]; rintro e w' ⟨rfl, rfl⟩)
    refine (ref04_Of now (t + x) _).mono ?_
    rintro e w2 ⟨rfl, hx2⟩
    have hB2 := hB.ext hx2
    have hf2 := hB2.free
    have hc2 := hB2.cell
    have hl2 := hB2.lt
    simp only [stV]
    go_wp2
    have hx2' := hx'.trans hx2
    have hS := ((hB2.set 0 (.int .u8 3)).set 1 (.int .u64 (t + x))).set 2 (.int .u64 now)
    refine ret_cell_tmp Tryz.results121 rfl rfl hS Tryz.underlying63 rfl (by kernel_rfl) ⟨?_, ?_⟩
    · rw [HR.out]; rfl
    · exact ((hx2'.set (by omega) _ _).set (by omega) _ _).set (by omega) _ _

set_option maxHeartbeats 1000000 in
theorem ref06_Decide_le_no (a b now cap x : Int) (w : World) (ha0 : 0 ≤ a) (ha1 : a < 18446744073709551616) (hb0 : 0 ≤ b) (hb1 : b < 18446744073709551616) (hn0 : 0 ≤ now) (hn1 : now < 18446744073709551616) (hc0 : 0 ≤ cap) (hc1 : cap < 18446744073709551616) (hx0 : 0 ≤ x) (hx1 : x < 18446744073709551616) (h : now ≤ a) (HK : Hid (fitsB (a - now) x cap = false)) :
    Calls Tryz.prog 119 #[.agg #[.int .u8 1, .int .u64 a, .int .u64 b], .int .u64 now, .int .u64 cap, .int .u64 x] w fun e w' => e = .returned (stB 1 a b false) ∧ Ext w w' := by
  go_enter Tryz.func119, Tryz.ntmps119
  go_wp2_with (first
    | (go_at_call 118; (with_reducible refine (ref02_Fits (a - now) x cap _ (by omega) (by omega) hx0 hx1 hc0 hc1).mono ?_); rw [HK.out]; rintro e w' ⟨rfl, rfl⟩))
  have hS := Blk.new' (w.alloc (.cells #[.int .u8 1, .int .u64 a, .int .u64 b] 63)) #[.int .u8 1, .int .u64 a, .int .u64 b] 63 (b := w.heap.size + 1) (by simp)
  refine ret_cell_tmp Tryz.results119 rfl rfl hS Tryz.underlying63 rfl (by kernel_rfl) ⟨rfl, ((Ext.refl w).alloc _).alloc _⟩

set_option maxHeartbeats 1000000 in
theorem ref06_Decide_le_yes (a b now cap x : Int) (w : World) (ha0 : 0 ≤ a) (ha1 : a < 18446744073709551616) (hb0 : 0 ≤ b) (hb1 : b < 18446744073709551616) (hn0 : 0 ≤ now) (hn1 : now < 18446744073709551616) (hc0 : 0 ≤ cap) (hc1 : cap < 18446744073709551616) (hx0 : 0 ≤ x) (hx1 : x < 18446744073709551616) (h : now ≤ a) (HK : Hid (fitsB (a - now) x cap = true)) :
    Calls Tryz.prog 119 #[.agg #[.int .u8 1, .int .u64 a, .int .u64 b], .int .u64 now, .int .u64 cap, .int .u64 x] w fun e w' => e = .returned (stB 1 (satAdd a x) 0 true) ∧ Ext w w' := by
  go_enter Tryz.func119, Tryz.ntmps119
  go_wp2_with (first
    | (go_at_call 118; (with_reducible refine (ref02_Fits (a - now) x cap _ (by omega) (by omega) hx0 hx1 hc0 hc1).mono ?_); rw [HK.out]; rintro e w' ⟨rfl, rfl⟩)
    | (go_at_call 134; (with_reducible refine (ref02_Add a x _ (by omega) (by omega) hx0 hx1).mono ?_); rintro e w' ⟨rfl, rfl⟩))
  have hS := Blk.new' (w.alloc (.cells #[.int .u8 1, .int .u64 a, .int .u64 b] 63)) #[.int .u8 1, .int .u64 (satAdd a x), .int .u64 0] 63 (b := w.heap.size + 1) (by simp)
  refine ret_cell_tmp Tryz.results119 rfl rfl hS Tryz.underlying63 rfl (by kernel_rfl) ⟨rfl, ((Ext.refl w).alloc _).alloc _⟩

set_option maxHeartbeats 1000000 in
theorem ref06_Decide_lt_no (a b now cap x : Int) (w : World) (ha0 : 0 ≤ a) (ha1 : a < 18446744073709551616) (hb0 : 0 ≤ b) (hb1 : b < 18446744073709551616) (hn0 : 0 ≤ now) (hn1 : now < 18446744073709551616) (hc0 : 0 ≤ cap) (hc1 : cap < 18446744073709551616) (hx0 : 0 ≤ x) (hx1 : x < 18446744073709551616) (h : a < now) (HK : Hid (fitsB 0 x cap = false)) :
    Calls Tryz.prog 119 #[.agg #[.int .u8 1, .int .u64 a, .int .u64 b], .int .u64 now, .int .u64 cap, .int .u64 x] w fun e w' => e = .returned (stB 1 a b false) ∧ Ext w w' := by
  go_enter Tryz.func119, Tryz.ntmps119
  go_wp2_with (first
    | (go_at_call 118; (with_reducible refine (ref02_Fits 0 x cap _ (by omega) (by omega) hx0 hx1 hc0 hc1).mono ?_); rw [HK.out]; rintro e w' ⟨rfl, rfl⟩))
  have hS := Blk.new' (w.alloc (.cells #[.int .u8 1, .int .u64 a, .int .u64 b] 63)) #[.int .u8 1, .int .u64 a, .int .u64 b] 63 (b := w.heap.size + 1) (by simp)
  refine ret_cell_tmp Tryz.results119 rfl rfl hS Tryz.underlying63 rfl (by kernel_rfl) ⟨rfl, ((Ext.refl w).alloc _).alloc _⟩

set_option maxHeartbeats 1000000 in
theorem ref06_Decide_lt_yes (a b now cap x : Int) (w : World) (ha0 : 0 ≤ a) (ha1 : a < 18446744073709551616) (hb0 : 0 ≤ b) (hb1 : b < 18446744073709551616) (hn0 : 0 ≤ now) (hn1 : now < 18446744073709551616) (hc0 : 0 ≤ cap) (hc1 : cap < 18446744073709551616) (hx0 : 0 ≤ x) (hx1 : x < 18446744073709551616) (h : a < now) (HK : Hid (fitsB 0 x cap = true)) :
    Calls Tryz.prog 119 #[.agg #[.int .u8 1, .int .u64 a, .int .u64 b], .int .u64 now, .int .u64 cap, .int .u64 x] w fun e w' => e = .returned (stB 1 (satAdd now x) 0 true) ∧ Ext w w' := by
  go_enter Tryz.func119, Tryz.ntmps119
  go_wp2_with (first
    | (go_at_call 118; (with_reducible refine (ref02_Fits 0 x cap _ (by omega) (by omega) hx0 hx1 hc0 hc1).mono ?_); rw [HK.out]; rintro e w' ⟨rfl, rfl⟩)
    | (go_at_call 134; (with_reducible refine (ref02_Add now x _ (by omega) (by omega) hx0 hx1).mono ?_); rintro e w' ⟨rfl, rfl⟩))
  have hS := Blk.new' (w.alloc (.cells #[.int .u8 1, .int .u64 a, .int .u64 b] 63)) #[.int .u8 1, .int .u64 (satAdd now x), .int .u64 0] 63 (b := w.heap.size + 1) (by simp)
  refine ret_cell_tmp Tryz.results119 rfl rfl hS Tryz.underlying63 rfl (by kernel_rfl) ⟨rfl, ((Ext.refl w).alloc _).alloc _⟩

theorem ref06_Decide (a b now cap x : Int) (w : World) (ha0 : 0 ≤ a) (ha1 : a < 18446744073709551616) (hb0 : 0 ≤ b) (hb1 : b < 18446744073709551616) (hn0 : 0 ≤ now) (hn1 : now < 18446744073709551616) (hc0 : 0 ≤ cap) (hc1 : cap < 18446744073709551616) (hx0 : 0 ≤ x) (hx1 : x < 18446744073709551616) :
    Calls Tryz.prog 119 #[.agg #[.int .u8 1, .int .u64 a, .int .u64 b], .int .u64 now, .int .u64 cap, .int .u64 x] w fun e w' =>
      e = .returned (stB 1 (kNextA 1 a b now cap x) (kNextB 1 a b now cap x) (kOk 1 a b now cap x)) ∧ Ext w w' := by
  have hkk : kOk 1 a b now cap x = fitsB (max a now - now) x cap := rfl
  have hna : kNextA 1 a b now cap x = if kOk 1 a b now cap x then satAdd (max a now) x else a := rfl
  have hnb : kNextB 1 a b now cap x = if kOk 1 a b now cap x then 0 else b := rfl
  rw [hna, hnb]
  rcases max_cases a now with ⟨hm, hle⟩ | ⟨hm, hlt⟩
  · rw [hm] at hkk ⊢
    cases hk : fitsB (a - now) x cap
    · rw [hkk, hk]; exact ref06_Decide_le_no a b now cap x w ha0 ha1 hb0 hb1 hn0 hn1 hc0 hc1 hx0 hx1 hle (Lib.hid hk)
    · rw [hkk, hk]; exact ref06_Decide_le_yes a b now cap x w ha0 ha1 hb0 hb1 hn0 hn1 hc0 hc1 hx0 hx1 hle (Lib.hid hk)
  · rw [hm, Int.sub_self] at hkk
    rw [hm]
    cases hk : fitsB 0 x cap
    · rw [hkk, hk]; exact ref06_Decide_lt_no a b now cap x w ha0 ha1 hb0 hb1 hn0 hn1 hc0 hc1 hx0 hx1 hlt (Lib.hid hk)
    · rw [hkk, hk]; exact ref06_Decide_lt_yes a b now cap x w ha0 ha1 hb0 hb1 hn0 hn1 hc0 hc1 hx0 hx1 hlt (Lib.hid hk)
end Go.Proofs.YtfglpejbgfmojaaGreat
