/- Walks: kernel.Decide, kernel.Of. Walks: kernel.Wait, Left, Until, Migrate. -/
import Derived.Test.YtknlojlcahgnoaaGreatEb16

namespace Go.Proofs.YtknlojlcahgnoaaGreat
open Go.RowKit
set_option linter.unusedVariables false
set_option linter.unusedSimpArgs false

theorem gcra_Decide (a b now cap x : Int) (w : World) (ha0 : 0 ≤ a) (ha1 : a < 18446744073709551616) (hb0 : 0 ≤ b) (hb1 : b < 18446744073709551616) (hn0 : 0 ≤ now) (hn1 : now < 18446744073709551616) (hc0 : 0 ≤ cap) (hc1 : cap < 18446744073709551616) (hx0 : 0 ≤ x) (hx1 : x < 18446744073709551616) :
    Calls Tryz.prog 174 #[.agg #[.int .u8 1, .int .u64 a, .int .u64 b], .int .u64 now, .int .u64 cap, .int .u64 x] w fun e w' =>
      e = .returned (stB 1 (kNextA 1 a b now cap x) (kNextB 1 a b now cap x) (kOk 1 a b now cap x)) ∧ Ext w w' := by
  have hkk : kOk 1 a b now cap x = fitsB (max a now - now) x cap := rfl
  have hna : kNextA 1 a b now cap x = if kOk 1 a b now cap x then satAdd (max a now) x else a := rfl
  have hnb : kNextB 1 a b now cap x = if kOk 1 a b now cap x then 0 else b := rfl
  rw [hna, hnb]
  rcases max_cases a now with ⟨hm, hle⟩ | ⟨hm, hlt⟩
  · rw [hm] at hkk ⊢
    cases hk : fitsB (a - now) x cap
    · rw [hkk, hk]; exact gcra_Decide_le_no a b now cap x w ha0 ha1 hb0 hb1 hn0 hn1 hc0 hc1 hx0 hx1 hle (Lib.hid hk)
    · rw [hkk, hk]; exact gcra_Decide_le_yes a b now cap x w ha0 ha1 hb0 hb1 hn0 hn1 hc0 hc1 hx0 hx1 hle (Lib.hid hk)
  · rw [hm, Int.sub_self] at hkk
    rw [hm]
    cases hk : fitsB 0 x cap
    · rw [hkk, hk]; exact gcra_Decide_lt_no a b now cap x w ha0 ha1 hb0 hb1 hn0 hn1 hc0 hc1 hx0 hx1 hlt (Lib.hid hk)
    · rw [hkk, hk]; exact gcra_Decide_lt_yes a b now cap x w ha0 ha1 hb0 hb1 hn0 hn1 hc0 hc1 hx0 hx1 hlt (Lib.hid hk)

set_option maxHeartbeats 2000000 in
set_option maxRecDepth 100000 in
theorem kernel_Decide1 (a b now cap x : Int) (w : World) (ha0 : 0 ≤ a) (ha1 : a < 18446744073709551616) (hb0 : 0 ≤ b) (hb1 : b < 18446744073709551616) (hn0 : 0 ≤ now) (hn1 : now < 18446744073709551616) (hc0 : 0 ≤ cap) (hc1 : cap < 18446744073709551616) (hx0 : 0 ≤ x) (hx1 : x < 18446744073709551616) :
    Calls Tryz.prog 108 #[.agg #[.int .u8 1, .int .u64 a, .int .u64 b], .int .u64 now, .int .u64 cap, .int .u64 x] w fun e w' =>
      e = .returned (stB 1 (kNextA 1 a b now cap x) (kNextB 1 a b now cap x) (kOk 1 a b now cap x)) ∧ Ext w w' := by
  have L := kern_look1
  have La := kern_look1b
  have Lb := kern_look1c
  generalize hA : kNextA 1 a b now cap x = A
  generalize hB : kNextB 1 a b now cap x = B
  generalize hK : kOk 1 a b now cap x = K
  have HA := Lib.hid hA
  have HB := Lib.hid hB
  have HK := Lib.hid hK
  clear hA hB hK
  go_enter Tryz.func108, Tryz.ntmps108
  go_wp2_with fail
  have bq := (Blk.new w #[.int .u8 1, .int .u64 a, .int .u64 b] 140).alloc (.cells #[.int .u8 0, .int .u64 0, .int .u64 0] 140)
  have br := Blk.new' (w.alloc (.cells #[.int .u8 1, .int .u64 a, .int .u64 b] 140)) #[.int .u8 0, .int .u64 0, .int .u64 0] 140 (b := w.heap.size + 1) (by simp)
  have hxw : Ext w ((w.alloc (.cells #[.int .u8 1, .int .u64 a, .int .u64 b] 140)).alloc (.cells #[.int .u8 0, .int .u64 0, .int .u64 0] 140)) := ((Ext.refl w).alloc _).alloc _
  generalize (w.alloc (.cells #[.int .u8 1, .int .u64 a, .int .u64 b] 140)).alloc (.cells #[.int .u8 0, .int .u64 0, .int .u64 0] 140) = w0 at *
  have q0 : w0.cell? ⟨w.heap.size, 0, none⟩ = some (.int .u8 1) := bq.cell 0
  have q1 : w0.cell? ⟨w.heap.size, 1, none⟩ = some (.int .u64 a) := bq.cell 1
  have q2 : w0.cell? ⟨w.heap.size, 2, none⟩ = some (.int .u64 b) := bq.cell 2
  have hlt := bq.lt
  have hlt2 := br.lt
  go_region_held3 (fun w' => w'.cell? ⟨w.heap.size, 0, none⟩ = some (.int .u8 1) ∧ Ext w0 w')
    (((try go_split_ands); refine ⟨?_, ?_⟩ <;> first | with_reducible assumption | exact (Ext.refl _).drew | ((repeat (first | with_reducible exact Ext.refl _ | with_reducible assumption | with_reducible refine Ext.alloc ?_ _ | with_reducible refine Ext.drew ?_ | (with_reducible refine Ext.setCell ?_ (by first | exact Nat.le_refl _ | (dsimp only; omega) | (simp; done) | (simp; omega)) _) | with_reducible refine Ext.trans ?_ (by with_reducible assumption))); done) | (refine Ext.keep (w := w0) (by repeat (first | with_reducible exact Ext.refl _ | with_reducible assumption | with_reducible refine Ext.alloc ?_ _ | with_reducible refine Ext.drew ?_ | (with_reducible refine Ext.setCell ?_ (by first | exact Nat.le_refl _ | (dsimp only; omega) | (simp; done) | (simp; omega)) _) | with_reducible refine Ext.trans ?_ (by with_reducible assumption))) ?_; with_reducible assumption)))
    (first
      | (go_at_call 126; (with_reducible refine (kern_call _).mono ?_); rintro e w' ⟨rfl, rfl⟩))
  all_goals
  go_wp2_with fail
  refine (gcra_Decide a b now cap x _ ha0 ha1 hb0 hb1 hn0 hn1 hc0 hc1 hx0 hx1).mono ?_
  rw [HA.out, HB.out, HK.out]
  rintro e w1 ⟨rfl, hx⟩
  have hx1 : Ext w0 w1 := (by repeat (first | with_reducible exact Ext.refl _ | with_reducible assumption | with_reducible refine Ext.alloc ?_ _ | with_reducible refine Ext.drew ?_ | (with_reducible refine Ext.setCell ?_ (by first | exact Nat.le_refl _ | (dsimp only; omega) | (simp; done) | (simp; omega)) _) | with_reducible refine Ext.trans ?_ (by with_reducible assumption)))
  have hR := br.ext hx1
  have hf := hR.free
  have hc := hR.cell
  have hl := hR.lt
  simp only [stB, stV]
  go_wp2
  have hS := ((hR.set 0 (.int .u8 1)).set 1 (.int .u64 A)).set 2 (.int .u64 B)
  refine ret_cell_tmp Tryz.results108 rfl rfl hS Tryz.underlying140 rfl (by kernel_rfl) ⟨rfl, ?_⟩
  exact (((hxw.trans hx1).set (by omega) _ _).set (by omega) _ _).set (by omega) _ _

set_option maxHeartbeats 2000000 in
set_option maxRecDepth 100000 in
theorem kernel_Decide2 (a b now cap x : Int) (w : World) (ha0 : 0 ≤ a) (ha1 : a < 18446744073709551616) (hb0 : 0 ≤ b) (hb1 : b < 18446744073709551616) (hn0 : 0 ≤ now) (hn1 : now < 18446744073709551616) (hc0 : 0 ≤ cap) (hc1 : cap < 18446744073709551616) (hx0 : 0 ≤ x) (hx1 : x < 18446744073709551616) :
    Calls Tryz.prog 108 #[.agg #[.int .u8 2, .int .u64 a, .int .u64 b], .int .u64 now, .int .u64 cap, .int .u64 x] w fun e w' =>
      e = .returned (stB 2 (kNextA 2 a b now cap x) (kNextB 2 a b now cap x) (kOk 2 a b now cap x)) ∧ Ext w w' := by
  have L := kern_look2
  have La := kern_look2b
  have Lb := kern_look2c
  generalize hA : kNextA 2 a b now cap x = A
  generalize hB : kNextB 2 a b now cap x = B
  generalize hK : kOk 2 a b now cap x = K
  have HA := Lib.hid hA
  have HB := Lib.hid hB
  have HK := Lib.hid hK
  clear hA hB hK
  go_enter Tryz.func108, Tryz.ntmps108
  go_wp2_with fail
  have bq := (Blk.new w #[.int .u8 2, .int .u64 a, .int .u64 b] 140).alloc (.cells #[.int .u8 0, .int .u64 0, .int .u64 0] 140)
  have br := Blk.new' (w.alloc (.cells #[.int .u8 2, .int .u64 a, .int .u64 b] 140)) #[.int .u8 0, .int .u64 0, .int .u64 0] 140 (b := w.heap.size + 1) (by simp)
  have hxw : Ext w ((w.alloc (.cells #[.int .u8 2, .int .u64 a, .int .u64 b] 140)).alloc (.cells #[.int .u8 0, .int .u64 0, .int .u64 0] 140)) := ((Ext.refl w).alloc _).alloc _
  generalize (w.alloc (.cells #[.int .u8 2, .int .u64 a, .int .u64 b] 140)).alloc (.cells #[.int .u8 0, .int .u64 0, .int .u64 0] 140) = w0 at *
  have q0 : w0.cell? ⟨w.heap.size, 0, none⟩ = some (.int .u8 2) := bq.cell 0
  have q1 : w0.cell? ⟨w.heap.size, 1, none⟩ = some (.int .u64 a) := bq.cell 1
  have q2 : w0.cell? ⟨w.heap.size, 2, none⟩ = some (.int .u64 b) := bq.cell 2
  have hlt := bq.lt
  have hlt2 := br.lt
  go_region_held3 (fun w' => w'.cell? ⟨w.heap.size, 0, none⟩ = some (.int .u8 2) ∧ Ext w0 w')
    (((try go_split_ands); refine ⟨?_, ?_⟩ <;> first | with_reducible assumption | exact (Ext.refl _).drew | ((repeat (first | with_reducible exact Ext.refl _ | with_reducible assumption | with_reducible refine Ext.alloc ?_ _ | with_reducible refine Ext.drew ?_ | (with_reducible refine Ext.setCell ?_ (by first | exact Nat.le_refl _ | (dsimp only; omega) | (simp; done) | (simp; omega)) _) | with_reducible refine Ext.trans ?_ (by with_reducible assumption))); done) | (refine Ext.keep (w := w0) (by repeat (first | with_reducible exact Ext.refl _ | with_reducible assumption | with_reducible refine Ext.alloc ?_ _ | with_reducible refine Ext.drew ?_ | (with_reducible refine Ext.setCell ?_ (by first | exact Nat.le_refl _ | (dsimp only; omega) | (simp; done) | (simp; omega)) _) | with_reducible refine Ext.trans ?_ (by with_reducible assumption))) ?_; with_reducible assumption)))
    (first
      | (go_at_call 126; (with_reducible refine (kern_call _).mono ?_); rintro e w' ⟨rfl, rfl⟩))
  all_goals
  go_wp2_with fail
  refine (bucket_Decide a b now cap x _ ha0 ha1 hb0 hb1 hn0 hn1 hc0 hc1 hx0 hx1).mono ?_
  rw [HA.out, HB.out, HK.out]
  rintro e w1 ⟨rfl, hx⟩
  have hx1 : Ext w0 w1 := (by repeat (first | with_reducible exact Ext.refl _ | with_reducible assumption | with_reducible refine Ext.alloc ?_ _ | with_reducible refine Ext.drew ?_ | (with_reducible refine Ext.setCell ?_ (by first | exact Nat.le_refl _ | (dsimp only; omega) | (simp; done) | (simp; omega)) _) | with_reducible refine Ext.trans ?_ (by with_reducible assumption)))
  have hR := br.ext hx1
  have hf := hR.free
  have hc := hR.cell
  have hl := hR.lt
  simp only [stB, stV]
  go_wp2
  have hS := ((hR.set 0 (.int .u8 2)).set 1 (.int .u64 A)).set 2 (.int .u64 B)
  refine ret_cell_tmp Tryz.results108 rfl rfl hS Tryz.underlying140 rfl (by kernel_rfl) ⟨rfl, ?_⟩
  exact (((hxw.trans hx1).set (by omega) _ _).set (by omega) _ _).set (by omega) _ _

set_option maxHeartbeats 2000000 in
set_option maxRecDepth 100000 in
theorem kernel_Decide3 (a b now cap x : Int) (w : World) (ha0 : 0 ≤ a) (ha1 : a < 18446744073709551616) (hb0 : 0 ≤ b) (hb1 : b < 18446744073709551616) (hn0 : 0 ≤ now) (hn1 : now < 18446744073709551616) (hc0 : 0 ≤ cap) (hc1 : cap < 18446744073709551616) (hx0 : 0 ≤ x) (hx1 : x < 18446744073709551616) :
    Calls Tryz.prog 108 #[.agg #[.int .u8 3, .int .u64 a, .int .u64 b], .int .u64 now, .int .u64 cap, .int .u64 x] w fun e w' =>
      e = .returned (stB 3 (kNextA 3 a b now cap x) (kNextB 3 a b now cap x) (kOk 3 a b now cap x)) ∧ Ext w w' := by
  have L := kern_look3
  have La := kern_look3b
  have Lb := kern_look3c
  generalize hA : kNextA 3 a b now cap x = A
  generalize hB : kNextB 3 a b now cap x = B
  generalize hK : kOk 3 a b now cap x = K
  have HA := Lib.hid hA
  have HB := Lib.hid hB
  have HK := Lib.hid hK
  clear hA hB hK
  go_enter Tryz.func108, Tryz.ntmps108
  go_wp2_with fail
  have bq := (Blk.new w #[.int .u8 3, .int .u64 a, .int .u64 b] 140).alloc (.cells #[.int .u8 0, .int .u64 0, .int .u64 0] 140)
  have br := Blk.new' (w.alloc (.cells #[.int .u8 3, .int .u64 a, .int .u64 b] 140)) #[.int .u8 0, .int .u64 0, .int .u64 0] 140 (b := w.heap.size + 1) (by simp)
  have hxw : Ext w ((w.alloc (.cells #[.int .u8 3, .int .u64 a, .int .u64 b] 140)).alloc (.cells #[.int .u8 0, .int .u64 0, .int .u64 0] 140)) := ((Ext.refl w).alloc _).alloc _
  generalize (w.alloc (.cells #[.int .u8 3, .int .u64 a, .int .u64 b] 140)).alloc (.cells #[.int .u8 0, .int .u64 0, .int .u64 0] 140) = w0 at *
  have q0 : w0.cell? ⟨w.heap.size, 0, none⟩ = some (.int .u8 3) := bq.cell 0
  have q1 : w0.cell? ⟨w.heap.size, 1, none⟩ = some (.int .u64 a) := bq.cell 1
  have q2 : w0.cell? ⟨w.heap.size, 2, none⟩ = some (.int .u64 b) := bq.cell 2
  have hlt := bq.lt
  have hlt2 := br.lt
  go_region_held3 (fun w' => w'.cell? ⟨w.heap.size, 0, none⟩ = some (.int .u8 3) ∧ Ext w0 w')
    (((try go_split_ands); refine ⟨?_, ?_⟩ <;> first | with_reducible assumption | exact (Ext.refl _).drew | ((repeat (first | with_reducible exact Ext.refl _ | with_reducible assumption | with_reducible refine Ext.alloc ?_ _ | with_reducible refine Ext.drew ?_ | (with_reducible refine Ext.setCell ?_ (by first | exact Nat.le_refl _ | (dsimp only; omega) | (simp; done) | (simp; omega)) _) | with_reducible refine Ext.trans ?_ (by with_reducible assumption))); done) | (refine Ext.keep (w := w0) (by repeat (first | with_reducible exact Ext.refl _ | with_reducible assumption | with_reducible refine Ext.alloc ?_ _ | with_reducible refine Ext.drew ?_ | (with_reducible refine Ext.setCell ?_ (by first | exact Nat.le_refl _ | (dsimp only; omega) | (simp; done) | (simp; omega)) _) | with_reducible refine Ext.trans ?_ (by with_reducible assumption))) ?_; with_reducible assumption)))
    (first
      | (go_at_call 126; (with_reducible refine (kern_call _).mono ?_); rintro e w' ⟨rfl, rfl⟩))
  all_goals
  go_wp2_with fail
  refine (leaky_Decide a b now cap x _ ha0 ha1 hb0 hb1 hn0 hn1 hc0 hc1 hx0 hx1).mono ?_
  rw [HA.out, HB.out, HK.out]
  rintro e w1 ⟨rfl, hx⟩
  have hx1 : Ext w0 w1 := (by repeat (first | with_reducible exact Ext.refl _ | with_reducible assumption | with_reducible refine Ext.alloc ?_ _ | with_reducible refine Ext.drew ?_ | (with_reducible refine Ext.setCell ?_ (by first | exact Nat.le_refl _ | (dsimp only; omega) | (simp; done) | (simp; omega)) _) | with_reducible refine Ext.trans ?_ (by with_reducible assumption)))
  have hR := br.ext hx1
  have hf := hR.free
  have hc := hR.cell
  have hl := hR.lt
  simp only [stB, stV]
  go_wp2
  have hS := ((hR.set 0 (.int .u8 3)).set 1 (.int .u64 A)).set 2 (.int .u64 B)
  refine ret_cell_tmp Tryz.results108 rfl rfl hS Tryz.underlying140 rfl (by kernel_rfl) ⟨rfl, ?_⟩
  exact (((hxw.trans hx1).set (by omega) _ _).set (by omega) _ _).set (by omega) _ _

set_option maxHeartbeats 2000000 in
set_option maxRecDepth 100000 in
theorem kernel_Decide0 (k a b now cap x : Int) (w : World) (h : ¬ (1 ≤ k ∧ k ≤ 3)) :
    Calls Tryz.prog 108 #[.agg #[.int .u8 k, .int .u64 a, .int .u64 b], .int .u64 now, .int .u64 cap, .int .u64 x] w fun e w' =>
      e = .returned (stB k a b false) ∧ Ext w w' := by
  have L := kern_look0 k h
  have La := kern_look0b k h
  have Lb := kern_look0c k h
  clear h
  go_enter Tryz.func108, Tryz.ntmps108
  go_wp2_with fail
  have bq := (Blk.new w #[.int .u8 k, .int .u64 a, .int .u64 b] 140).alloc (.cells #[.int .u8 0, .int .u64 0, .int .u64 0] 140)
  have br := Blk.new' (w.alloc (.cells #[.int .u8 k, .int .u64 a, .int .u64 b] 140)) #[.int .u8 0, .int .u64 0, .int .u64 0] 140 (b := w.heap.size + 1) (by simp)
  have hxw : Ext w ((w.alloc (.cells #[.int .u8 k, .int .u64 a, .int .u64 b] 140)).alloc (.cells #[.int .u8 0, .int .u64 0, .int .u64 0] 140)) := ((Ext.refl w).alloc _).alloc _
  generalize (w.alloc (.cells #[.int .u8 k, .int .u64 a, .int .u64 b] 140)).alloc (.cells #[.int .u8 0, .int .u64 0, .int .u64 0] 140) = w0 at *
  have q0 : w0.cell? ⟨w.heap.size, 0, none⟩ = some (.int .u8 k) := bq.cell 0
  have q1 : w0.cell? ⟨w.heap.size, 1, none⟩ = some (.int .u64 a) := bq.cell 1
  have q2 : w0.cell? ⟨w.heap.size, 2, none⟩ = some (.int .u64 b) := bq.cell 2
  have hlt := bq.lt
  have hlt2 := br.lt
  go_region_held3 (fun w' => w'.cell? ⟨w.heap.size, 0, none⟩ = some (.int .u8 k) ∧ Ext w0 w')
    (((try go_split_ands); refine ⟨?_, ?_⟩ <;> first | with_reducible assumption | exact (Ext.refl _).drew | ((repeat (first | with_reducible exact Ext.refl _ | with_reducible assumption | with_reducible refine Ext.alloc ?_ _ | with_reducible refine Ext.drew ?_ | (with_reducible refine Ext.setCell ?_ (by first | exact Nat.le_refl _ | (dsimp only; omega) | (simp; done) | (simp; omega)) _) | with_reducible refine Ext.trans ?_ (by with_reducible assumption))); done) | (refine Ext.keep (w := w0) (by repeat (first | with_reducible exact Ext.refl _ | with_reducible assumption | with_reducible refine Ext.alloc ?_ _ | with_reducible refine Ext.drew ?_ | (with_reducible refine Ext.setCell ?_ (by first | exact Nat.le_refl _ | (dsimp only; omega) | (simp; done) | (simp; omega)) _) | with_reducible refine Ext.trans ?_ (by with_reducible assumption))) ?_; with_reducible assumption)))
    (first
      | (go_at_call 126; (with_reducible refine (kern_call _).mono ?_); rintro e w' ⟨rfl, rfl⟩))
  all_goals
  have hz := br.free
  have hz2 := br.cell
  go_wp2
  refine ret_cell_tmp Tryz.results108 rfl rfl (((((br.set 0 (.int .u8 k)).set 1 (.int .u64 a)).set 2 (.int .u64 b)).alloc _).alloc _).drew Tryz.underlying140 rfl (by kernel_rfl) ⟨rfl, ?_⟩
  exact ((((((hxw.set (by omega) _ _).set (by omega) _ _).set (by omega) _ _)).alloc _).alloc _).drew

theorem kernel_Decide (k a b now cap x : Int) (w : World) (ha0 : 0 ≤ a) (ha1 : a < 18446744073709551616) (hb0 : 0 ≤ b) (hb1 : b < 18446744073709551616) (hn0 : 0 ≤ now) (hn1 : now < 18446744073709551616) (hc0 : 0 ≤ cap) (hc1 : cap < 18446744073709551616) (hx0 : 0 ≤ x) (hx1 : x < 18446744073709551616) :
    Calls Tryz.prog 108 #[.agg #[.int .u8 k, .int .u64 a, .int .u64 b], .int .u64 now, .int .u64 cap, .int .u64 x] w fun e w' =>
      e = .returned (stB k (kNextA k a b now cap x) (kNextB k a b now cap x) (kOk k a b now cap x)) ∧ Ext w w' := by
  by_cases h1 : k = 1
  · subst h1; exact kernel_Decide1 a b now cap x w ha0 ha1 hb0 hb1 hn0 hn1 hc0 hc1 hx0 hx1
  by_cases h2 : k = 2
  · subst h2; exact kernel_Decide2 a b now cap x w ha0 ha1 hb0 hb1 hn0 hn1 hc0 hc1 hx0 hx1
  by_cases h3 : k = 3
  · subst h3; exact kernel_Decide3 a b now cap x w ha0 ha1 hb0 hb1 hn0 hn1 hc0 hc1 hx0 hx1
  have e : kOk k a b now cap x = false := by unfold kOk; rw [if_neg h1, if_neg h2, if_neg h3]
  have e1 : kNextA k a b now cap x = a := by unfold kNextA; rw [e]; rfl
  have e2 : kNextB k a b now cap x = b := by unfold kNextB; rw [e]; rfl
  rw [e, e1, e2]
  exact kernel_Decide0 k a b now cap x w (by omega)

set_option maxHeartbeats 1000000 in
set_option maxRecDepth 100000 in
theorem kernel_Of1 (now cap fill : Int) (w : World) (hn0 : 0 ≤ now) (hn1 : now < 18446744073709551616) (hc0 : 0 ≤ cap) (hc1 : cap < 18446744073709551616) (hf0 : 0 ≤ fill) (hf1 : fill < 18446744073709551616) :
    Calls Tryz.prog 68 #[.int .u8 1, .int .u64 now, .int .u64 cap, .int .u64 fill] w fun e w' => e = .returned (.tuple #[stV 1 (satAdd now fill) (0), .int .u16 0]) ∧ Ext w w' := by
  have L := kern_look1p
  have br := Blk.new w #[.int .u8 0, .int .u64 0, .int .u64 0] 140
  go_enter Tryz.func68, Tryz.ntmps68
  go_wp2_with fail
  have hxw : Ext w (w.alloc (.cells #[.int .u8 0, .int .u64 0, .int .u64 0] 140)) := (Ext.refl w).alloc _
  generalize w.alloc (.cells #[.int .u8 0, .int .u64 0, .int .u64 0] 140) = w0 at *
  refine (kern_call _).mono ?_
  rintro e w' ⟨rfl, rfl⟩
  go_wp2_with fail
  refine (gcra_Of now cap fill _ hn0 hn1 hf0 hf1).mono ?_
  rintro e w1 ⟨rfl, hx⟩
  have hx1 : Ext w0 w1 := (by repeat (first | with_reducible exact Ext.refl _ | with_reducible assumption | with_reducible refine Ext.alloc ?_ _ | with_reducible refine Ext.drew ?_ | (with_reducible refine Ext.setCell ?_ (by first | exact Nat.le_refl _ | (dsimp only; omega) | (simp; done) | (simp; omega)) _) | with_reducible refine Ext.trans ?_ (by with_reducible assumption)))
  have hR := br.ext hx1
  have hfr := hR.free
  have hc := hR.cell
  have hl := hR.lt
  simp only [stV]
  go_wp2
  have hS := ((hR.set 0 (.int .u8 1)).set 1 (.int .u64 (satAdd now fill))).set 2 (.int .u64 (0))
  refine ret_cell_tmp Tryz.results68 rfl rfl hS Tryz.underlying140 rfl (by kernel_rfl) ⟨rfl, ?_⟩
  exact (((hxw.trans hx1).set (by omega) _ _).set (by omega) _ _).set (by omega) _ _

set_option maxHeartbeats 1000000 in
set_option maxRecDepth 100000 in
theorem kernel_Of2 (now cap fill : Int) (w : World) (hn0 : 0 ≤ now) (hn1 : now < 18446744073709551616) (hc0 : 0 ≤ cap) (hc1 : cap < 18446744073709551616) (hf0 : 0 ≤ fill) (hf1 : fill < 18446744073709551616) :
    Calls Tryz.prog 68 #[.int .u8 2, .int .u64 now, .int .u64 cap, .int .u64 fill] w fun e w' => e = .returned (.tuple #[stV 2 (satSub cap fill) (now), .int .u16 0]) ∧ Ext w w' := by
  have L := kern_look2p
  have br := Blk.new w #[.int .u8 0, .int .u64 0, .int .u64 0] 140
  go_enter Tryz.func68, Tryz.ntmps68
  go_wp2_with fail
  have hxw : Ext w (w.alloc (.cells #[.int .u8 0, .int .u64 0, .int .u64 0] 140)) := (Ext.refl w).alloc _
  generalize w.alloc (.cells #[.int .u8 0, .int .u64 0, .int .u64 0] 140) = w0 at *
  refine (kern_call _).mono ?_
  rintro e w' ⟨rfl, rfl⟩
  go_wp2_with fail
  refine (bucket_Of now cap fill _ hc0 hc1 hf0 hf1).mono ?_
  rintro e w1 ⟨rfl, hx⟩
  have hx1 : Ext w0 w1 := (by repeat (first | with_reducible exact Ext.refl _ | with_reducible assumption | with_reducible refine Ext.alloc ?_ _ | with_reducible refine Ext.drew ?_ | (with_reducible refine Ext.setCell ?_ (by first | exact Nat.le_refl _ | (dsimp only; omega) | (simp; done) | (simp; omega)) _) | with_reducible refine Ext.trans ?_ (by with_reducible assumption)))
  have hR := br.ext hx1
  have hfr := hR.free
  have hc := hR.cell
  have hl := hR.lt
  simp only [stV]
  go_wp2
  have hS := ((hR.set 0 (.int .u8 2)).set 1 (.int .u64 (satSub cap fill))).set 2 (.int .u64 (now))
  refine ret_cell_tmp Tryz.results68 rfl rfl hS Tryz.underlying140 rfl (by kernel_rfl) ⟨rfl, ?_⟩
  exact (((hxw.trans hx1).set (by omega) _ _).set (by omega) _ _).set (by omega) _ _

set_option maxHeartbeats 1000000 in
set_option maxRecDepth 100000 in
theorem kernel_Of3 (now cap fill : Int) (w : World) (hn0 : 0 ≤ now) (hn1 : now < 18446744073709551616) (hc0 : 0 ≤ cap) (hc1 : cap < 18446744073709551616) (hf0 : 0 ≤ fill) (hf1 : fill < 18446744073709551616) :
    Calls Tryz.prog 68 #[.int .u8 3, .int .u64 now, .int .u64 cap, .int .u64 fill] w fun e w' => e = .returned (.tuple #[stV 3 (fill) (now), .int .u16 0]) ∧ Ext w w' := by
  have L := kern_look3p
  have br := Blk.new w #[.int .u8 0, .int .u64 0, .int .u64 0] 140
  go_enter Tryz.func68, Tryz.ntmps68
  go_wp2_with fail
  have hxw : Ext w (w.alloc (.cells #[.int .u8 0, .int .u64 0, .int .u64 0] 140)) := (Ext.refl w).alloc _
  generalize w.alloc (.cells #[.int .u8 0, .int .u64 0, .int .u64 0] 140) = w0 at *
  refine (kern_call _).mono ?_
  rintro e w' ⟨rfl, rfl⟩
  go_wp2_with fail
  refine (leaky_Of now cap fill _).mono ?_
  rintro e w1 ⟨rfl, hx⟩
  have hx1 : Ext w0 w1 := (by repeat (first | with_reducible exact Ext.refl _ | with_reducible assumption | with_reducible refine Ext.alloc ?_ _ | with_reducible refine Ext.drew ?_ | (with_reducible refine Ext.setCell ?_ (by first | exact Nat.le_refl _ | (dsimp only; omega) | (simp; done) | (simp; omega)) _) | with_reducible refine Ext.trans ?_ (by with_reducible assumption)))
  have hR := br.ext hx1
  have hfr := hR.free
  have hc := hR.cell
  have hl := hR.lt
  simp only [stV]
  go_wp2
  have hS := ((hR.set 0 (.int .u8 3)).set 1 (.int .u64 (fill))).set 2 (.int .u64 (now))
  refine ret_cell_tmp Tryz.results68 rfl rfl hS Tryz.underlying140 rfl (by kernel_rfl) ⟨rfl, ?_⟩
  exact (((hxw.trans hx1).set (by omega) _ _).set (by omega) _ _).set (by omega) _ _

set_option maxHeartbeats 1000000 in
set_option maxRecDepth 100000 in
theorem kernel_Of0 (k now cap fill : Int) (w : World) (h : ¬ (1 ≤ k ∧ k ≤ 3)) :
    Calls Tryz.prog 68 #[.int .u8 k, .int .u64 now, .int .u64 cap, .int .u64 fill] w fun e w' => e = .returned (.tuple #[stV 0 0 0, .int .u16 27]) ∧ Ext w w' := by
  have L := kern_look0p k h
  clear h
  have br := Blk.new w #[.int .u8 0, .int .u64 0, .int .u64 0] 140
  go_enter Tryz.func68, Tryz.ntmps68
  go_wp2_with fail
  have hxw : Ext w (w.alloc (.cells #[.int .u8 0, .int .u64 0, .int .u64 0] 140)) := (Ext.refl w).alloc _
  generalize w.alloc (.cells #[.int .u8 0, .int .u64 0, .int .u64 0] 140) = w0 at *
  have hz := br.free
  have hz2 := br.cell
  have hlt := br.lt
  refine (kern_call _).mono ?_
  rintro e w' ⟨rfl, rfl⟩
  go_wp2
  refine ret_cell_tmp Tryz.results68 rfl rfl (((((br.set 0 (.int .u8 0)).set 1 (.int .u64 0)).set 2 (.int .u64 0)).alloc _).alloc _) Tryz.underlying140 rfl (by kernel_rfl) ⟨rfl, ?_⟩
  exact ((((hxw.set (by omega) _ _).set (by omega) _ _).set (by omega) _ _).alloc _).alloc _

/-- a state that is so full, or none -/
def ofV (k now cap fill : Int) : Value := .tuple #[stV (if rightKind k then k else 0) (kOfA k now cap fill) (kOfB k now), .int .u16 (if rightKind k then 0 else 27)]
theorem kernel_Of (k now cap fill : Int) (w : World) (hn0 : 0 ≤ now) (hn1 : now < 18446744073709551616) (hc0 : 0 ≤ cap) (hc1 : cap < 18446744073709551616) (hf0 : 0 ≤ fill) (hf1 : fill < 18446744073709551616) :
    Calls Tryz.prog 68 #[.int .u8 k, .int .u64 now, .int .u64 cap, .int .u64 fill] w fun e w' => e = .returned (ofV k now cap fill) ∧ Ext w w' := by
  by_cases h1 : k = 1
  · subst h1; exact kernel_Of1 now cap fill w hn0 hn1 hc0 hc1 hf0 hf1
  by_cases h2 : k = 2
  · subst h2; exact kernel_Of2 now cap fill w hn0 hn1 hc0 hc1 hf0 hf1
  by_cases h3 : k = 3
  · subst h3; exact kernel_Of3 now cap fill w hn0 hn1 hc0 hc1 hf0 hf1
  have e : ofV k now cap fill = .tuple #[stV 0 0 0, .int .u16 27] := by
    have hr : rightKind k = false := by simp [rightKind]; omega
    unfold ofV kOfA kOfB
    rw [hr, if_neg h1, if_neg h2, if_neg h3, if_neg h1, if_neg h2, if_neg h3]
    rfl
  rw [e]
  exact kernel_Of0 k now cap fill w (by omega)
end Go.Proofs.YtknlojlcahgnoaaGreat

namespace Go.Proofs.YtknlojlcahgnoaaGreat
open Go.RowKit
set_option linter.unusedVariables false
set_option linter.unusedSimpArgs false

theorem kWait_no {f cap x : Int} (h : cap < x ∨ f + x ≤ cap) : kRetry f cap x = false ∧ kWait f cap x = 0 := by
  have e : kRetry f cap x = false := by unfold kRetry; simp; omega
  exact ⟨e, by unfold kWait; rw [e]; rfl⟩
theorem kWait_yes {f cap x : Int} (h : x ≤ cap) (h' : cap < f + x) : kRetry f cap x = true ∧ kWait f cap x = f - (cap - x) := by
  have e : kRetry f cap x = true := by unfold kRetry; simp; omega
  exact ⟨e, by unfold kWait; rw [e]; rfl⟩

set_option maxHeartbeats 1000000 in
set_option maxRecDepth 100000 in
theorem kernel_Wait (k a b now cap x : Int) (w : World) (ha0 : 0 ≤ a) (ha1 : a < 18446744073709551616) (hb0 : 0 ≤ b) (hb1 : b < 18446744073709551616) (hn0 : 0 ≤ now) (hn1 : now < 18446744073709551616) (hc0 : 0 ≤ cap) (hc1 : cap < 18446744073709551616) (hx0 : 0 ≤ x) (hx1 : x < 18446744073709551616) :
    Calls Tryz.prog 106 #[.agg #[.int .u8 k, .int .u64 a, .int .u64 b], .int .u64 now, .int .u64 cap, .int .u64 x] w fun e w' => e = .returned (.tuple #[.int .u64 (kWait (kFill k a b now cap) cap x), .bool (kRetry (kFill k a b now cap) cap x)]) ∧ Ext w w' := by
  have hF := kFill_u k a b now cap ha0 ha1 hb0 hn0 hn1 hc0 hc1
  generalize hf : kFill k a b now cap = F at *
  have HF := Lib.hid hf
  obtain ⟨hF0, hF1⟩ := hF
  clear hf
  by_cases h : cap < x
  · obtain ⟨e1, e2⟩ := kWait_no (f := F) (Or.inl h)
    have HR := Lib.hid (And.intro e1 e2)
    clear e1 e2
    go_enter Tryz.func106, Tryz.ntmps106
    go_wp2_with (go_at_call 110; (with_reducible refine (kernel_Fill k a b now cap _ ha0 ha1 hb0 hb1 hn0 hn1 hc0 hc1).mono ?_); rw [HF.out]; rintro e w1 ⟨rfl, hx⟩)
    go_ret2
    exact ⟨ret_2 (val_int HR.out.2.symm) (val_bool HR.out.1.symm), (by repeat (first | with_reducible exact Ext.refl _ | with_reducible assumption | with_reducible refine Ext.alloc ?_ _ | with_reducible refine Ext.drew ?_ | (with_reducible refine Ext.setCell ?_ (by first | exact Nat.le_refl _ | (dsimp only; omega) | (simp; done) | (simp; omega)) _) | with_reducible refine Ext.trans ?_ (by with_reducible assumption)))⟩
  · have h' : x ≤ cap := by omega
    cases hf : fitsB F x cap
    · have hlt : cap < F + x := by simpa [fitsB] using hf
      obtain ⟨e1, e2⟩ := kWait_yes (f := F) h' hlt
      have HR := Lib.hid (And.intro e1 e2)
      have HK := Lib.hid hf
      clear e1 e2 hf
      have hs1 : 0 ≤ cap - x := by omega
      have hs2 : cap - x < 18446744073709551616 := by omega
      have hs3 : 0 ≤ F - (cap - x) := by omega
      have hs4 : F - (cap - x) < 18446744073709551616 := by omega
      go_enter Tryz.func106, Tryz.ntmps106
      go_wp2_with (first
        | (go_at_call 110; (with_reducible refine (kernel_Fill k a b now cap _ ha0 ha1 hb0 hb1 hn0 hn1 hc0 hc1).mono ?_); rw [HF.out]; rintro e w1 ⟨rfl, hx⟩)
        | (go_at_call 155; (with_reducible refine (num_Fits F x cap _ hF0 hF1 hx0 hx1 hc0 hc1).mono ?_); rw [HK.out]; rintro e w' ⟨rfl, rfl⟩))
      go_ret2
      exact ⟨ret_2 (val_int HR.out.2.symm) (val_bool HR.out.1.symm), (by repeat (first | with_reducible exact Ext.refl _ | with_reducible assumption | with_reducible refine Ext.alloc ?_ _ | with_reducible refine Ext.drew ?_ | (with_reducible refine Ext.setCell ?_ (by first | exact Nat.le_refl _ | (dsimp only; omega) | (simp; done) | (simp; omega)) _) | with_reducible refine Ext.trans ?_ (by with_reducible assumption)))⟩
    · have hle : F + x ≤ cap := by simpa [fitsB] using hf
      obtain ⟨e1, e2⟩ := kWait_no (f := F) (Or.inr hle)
      have HR := Lib.hid (And.intro e1 e2)
      have HK := Lib.hid hf
      clear e1 e2 hf
      go_enter Tryz.func106, Tryz.ntmps106
      go_wp2_with (first
        | (go_at_call 110; (with_reducible refine (kernel_Fill k a b now cap _ ha0 ha1 hb0 hb1 hn0 hn1 hc0 hc1).mono ?_); rw [HF.out]; rintro e w1 ⟨rfl, hx⟩)
        | (go_at_call 155; (with_reducible refine (num_Fits F x cap _ hF0 hF1 hx0 hx1 hc0 hc1).mono ?_); rw [HK.out]; rintro e w' ⟨rfl, rfl⟩))
      go_ret2
      exact ⟨ret_2 (val_int HR.out.2.symm) (val_bool HR.out.1.symm), (by repeat (first | with_reducible exact Ext.refl _ | with_reducible assumption | with_reducible refine Ext.alloc ?_ _ | with_reducible refine Ext.drew ?_ | (with_reducible refine Ext.setCell ?_ (by first | exact Nat.le_refl _ | (dsimp only; omega) | (simp; done) | (simp; omega)) _) | with_reducible refine Ext.trans ?_ (by with_reducible assumption)))⟩

set_option maxHeartbeats 1000000 in
set_option maxRecDepth 100000 in
theorem kernel_Left (k a b now cap x : Int) (w : World) (ha0 : 0 ≤ a) (ha1 : a < 18446744073709551616) (hb0 : 0 ≤ b) (hb1 : b < 18446744073709551616) (hn0 : 0 ≤ now) (hn1 : now < 18446744073709551616) (hc0 : 0 ≤ cap) (hc1 : cap < 18446744073709551616) (hx0 : 0 ≤ x) (hx1 : x < 18446744073709551616) :
    Calls Tryz.prog 109 #[.agg #[.int .u8 k, .int .u64 a, .int .u64 b], .int .u64 now, .int .u64 cap, .int .u64 x] w fun e w' => e = .returned (.int .u64 (divS (satSub cap (kFill k a b now cap)) x)) ∧ Ext w w' := by
  have hF := kFill_u k a b now cap ha0 ha1 hb0 hn0 hn1 hc0 hc1
  generalize hf : kFill k a b now cap = F at *
  have HF := Lib.hid hf
  obtain ⟨hF0, hF1⟩ := hF
  clear hf
  have hs := satSub_u cap F hc0 hc1 hF0
  generalize hs' : satSub cap F = s at *
  have HS := Lib.hid hs'
  obtain ⟨hs0, hs1⟩ := hs
  clear hs'
  go_enter Tryz.func109, Tryz.ntmps109
  go_wp2_with (first
    | (go_at_call 110; (with_reducible refine (kernel_Fill k a b now cap _ ha0 ha1 hb0 hb1 hn0 hn1 hc0 hc1).mono ?_); rw [HF.out]; rintro e w1 ⟨rfl, hx⟩)
    | (go_at_call 75; (with_reducible refine (num_Sub cap F _ hc0 hc1 hF0 hF1).mono ?_); rw [HS.out]; rintro e w' ⟨rfl, rfl⟩)
    | (go_at_call 158; (with_reducible refine (num_Div s x _ hs0 (by omega) hx0 hx1).mono ?_); rintro e w' ⟨rfl, rfl⟩))
  go_ret
  exact ⟨rfl, (by repeat (first | with_reducible exact Ext.refl _ | with_reducible assumption | with_reducible refine Ext.alloc ?_ _ | with_reducible refine Ext.drew ?_ | (with_reducible refine Ext.setCell ?_ (by first | exact Nat.le_refl _ | (dsimp only; omega) | (simp; done) | (simp; omega)) _) | with_reducible refine Ext.trans ?_ (by with_reducible assumption)))⟩

def kUntil (f now : Int) : Int := if 0 < f then satAdd now f else 0
set_option maxHeartbeats 1000000 in
set_option maxRecDepth 100000 in
theorem kernel_Until (k a b now cap : Int) (w : World) (ha0 : 0 ≤ a) (ha1 : a < 18446744073709551616) (hb0 : 0 ≤ b) (hb1 : b < 18446744073709551616) (hn0 : 0 ≤ now) (hn1 : now < 18446744073709551616) (hc0 : 0 ≤ cap) (hc1 : cap < 18446744073709551616) :
    Calls Tryz.prog 80 #[.agg #[.int .u8 k, .int .u64 a, .int .u64 b], .int .u64 now, .int .u64 cap] w fun e w' => e = .returned (.int .u64 (kUntil (kFill k a b now cap) now)) ∧ Ext w w' := by
  have hF := kFill_u k a b now cap ha0 ha1 hb0 hn0 hn1 hc0 hc1
  generalize hf : kFill k a b now cap = F at *
  have HF := Lib.hid hf
  obtain ⟨hF0, hF1⟩ := hF
  clear hf
  by_cases h : 0 < F
  · have HR := Lib.hid (show kUntil F now = satAdd now F from if_pos h)
    go_enter Tryz.func80, Tryz.ntmps80
    go_wp2_with (first
      | (go_at_call 110; (with_reducible refine (kernel_Fill k a b now cap _ ha0 ha1 hb0 hb1 hn0 hn1 hc0 hc1).mono ?_); rw [HF.out]; rintro e w1 ⟨rfl, hx⟩)
      | (go_at_call 131; (with_reducible refine (num_Add _ now F _ hn0 hn1 hF0 hF1 ?_ ?_).mono ?_); exact Eq.trans (Blk.cell (Blk.new' _ _ _ rfl) 0) rfl; exact Eq.trans (Blk.cell (Blk.new' _ _ _ rfl) 1) rfl; rintro e w' ⟨rfl, rfl⟩))
    go_ret
    exact ⟨ret_int HR.out.symm, (by repeat (first | with_reducible exact Ext.refl _ | with_reducible assumption | with_reducible refine Ext.alloc ?_ _ | with_reducible refine Ext.drew ?_ | (with_reducible refine Ext.setCell ?_ (by first | exact Nat.le_refl _ | (dsimp only; omega) | (simp; done) | (simp; omega)) _) | with_reducible refine Ext.trans ?_ (by with_reducible assumption)))⟩
  · have HR := Lib.hid (show kUntil F now = 0 from if_neg h)
    go_enter Tryz.func80, Tryz.ntmps80
    go_wp2_with (go_at_call 110; (with_reducible refine (kernel_Fill k a b now cap _ ha0 ha1 hb0 hb1 hn0 hn1 hc0 hc1).mono ?_); rw [HF.out]; rintro e w1 ⟨rfl, hx⟩)
    go_ret
    exact ⟨ret_int HR.out.symm, (by repeat (first | with_reducible exact Ext.refl _ | with_reducible assumption | with_reducible refine Ext.alloc ?_ _ | with_reducible refine Ext.drew ?_ | (with_reducible refine Ext.setCell ?_ (by first | exact Nat.le_refl _ | (dsimp only; omega) | (simp; done) | (simp; omega)) _) | with_reducible refine Ext.trans ?_ (by with_reducible assumption)))⟩
end Go.Proofs.YtknlojlcahgnoaaGreat
