/- Walks: packages bucket and leaky. Walks: package leaky. Walks: package kernel. -/
import Derived.Deep.RegionHeld3
import Derived.Test.YtknlojlcahgnoaaGreatEb12

namespace Go.Proofs.YtknlojlcahgnoaaGreat
open Go.RowKit
set_option linter.unusedVariables false
set_option linter.unusedSimpArgs false

/-- how many tokens there are -/
def tokens (a b now cap : Int) : Int := min (satAdd a (satSub now b)) cap
theorem tokens_u (a b now cap : Int) (ha0 : 0 ≤ a) (ha1 : a < 18446744073709551616) (hb0 : 0 ≤ b) (hb1 : b < 18446744073709551616) (hn0 : 0 ≤ now) (hn1 : now < 18446744073709551616) (hc0 : 0 ≤ cap) (hc1 : cap < 18446744073709551616) : 0 ≤ tokens a b now cap ∧ tokens a b now cap ≤ cap := by
  have h2 := satSub_u now b hn0 hn1 hb0
  have h3 := satAdd_u a (satSub now b) ha0 h2.1
  unfold tokens
  omega

def FilledW (w : World) (cap : Int) (e : Ending) (w' : World) : Prop := e = .returned (.func (.func 228) #[] #[.pointer (some ⟨w.heap.size, 0, none⟩)]) ∧ w' = w.alloc (.cells #[.int .u64 cap] 35)
theorem bucket_filled (cap : Int) (w : World) : Calls Tryz.prog 210 #[.int .u64 cap] w fun e w' => FilledW w cap e w' := by
  go_enter Tryz.func210, Tryz.ntmps210
  go_wp2
  go_ret
  exact ⟨rfl, rfl⟩

set_option maxHeartbeats 400000 in
theorem bucket_filled1 (B : Nat) (k a b now cap : Int) (w : World) (ha0 : 0 ≤ a) (ha1 : a < 18446744073709551616) (hb0 : 0 ≤ b) (hb1 : b < 18446744073709551616) (hn0 : 0 ≤ now) (hn1 : now < 18446744073709551616) (hc0 : 0 ≤ cap) (hc1 : cap < 18446744073709551616)
    (hc : w.cell? ⟨B, 0, none⟩ = some (.int .u64 cap)) :
    Calls Tryz.prog 228 #[.agg #[.int .u8 k, .int .u64 a, .int .u64 b], .int .u64 now, .pointer (some ⟨B, 0, none⟩)] w fun e w' => e = .returned (.int .u64 (tokens a b now cap)) ∧ Ext w w' := by
  have h2 := satSub_u now b hn0 hn1 hb0
  have h3 := satAdd_u a (satSub now b) ha0 h2.1
  have HT := Lib.hid (show tokens a b now cap = min (satAdd a (satSub now b)) cap from rfl)
  generalize hs : satSub now b = s at *
  generalize hp : satAdd a s = p at *
  have HS := Lib.hid hs
  have HP := Lib.hid hp
  obtain ⟨h20, h21⟩ := h2
  obtain ⟨h30, h31⟩ := h3
  have hlt := cell_lt hc
  clear hs hp
  go_enter Tryz.func228, Tryz.ntmps228
  go_wp2_with fail
  have q1 : (w.alloc (.cells #[.int .u8 k, .int .u64 a, .int .u64 b] 140)).cell? ⟨w.heap.size, 1, none⟩ = some (.int .u64 a) := (Blk.new w _ _).cell 1
  have q2 : (w.alloc (.cells #[.int .u8 k, .int .u64 a, .int .u64 b] 140)).cell? ⟨w.heap.size, 2, none⟩ = some (.int .u64 b) := (Blk.new w _ _).cell 2
  have q3 : (w.alloc (.cells #[.int .u8 k, .int .u64 a, .int .u64 b] 140)).cell? ⟨B, 0, none⟩ = some (.int .u64 cap) := ((Ext.refl w).alloc _).keep hc
  have hx0 : Ext w (w.alloc (.cells #[.int .u8 k, .int .u64 a, .int .u64 b] 140)) := (Ext.refl w).alloc _
  clear hc hlt
  generalize w.alloc (.cells #[.int .u8 k, .int .u64 a, .int .u64 b] 140) = w0 at *
  go_region_held3 (fun w' => w'.cell? ⟨w.heap.size, 1, none⟩ = some (.int .u64 a) ∧ w'.cell? ⟨w.heap.size, 2, none⟩ = some (.int .u64 b) ∧ w'.cell? ⟨B, 0, none⟩ = some (.int .u64 cap) ∧ Ext w0 w')
    (((try go_split_ands); refine ⟨?_, ?_, ?_, ?_⟩ <;> first | with_reducible assumption | exact (Ext.refl _).drew | ((repeat (first | with_reducible exact Ext.refl _ | with_reducible assumption | with_reducible refine Ext.alloc ?_ _ | with_reducible refine Ext.drew ?_ | (with_reducible refine Ext.setCell ?_ (by first | exact Nat.le_refl _ | (dsimp only; omega) | (simp; done) | (simp; omega)) _) | with_reducible refine Ext.trans ?_ (by with_reducible assumption))); done) | (refine Ext.keep (w := w0) (by repeat (first | with_reducible exact Ext.refl _ | with_reducible assumption | with_reducible refine Ext.alloc ?_ _ | with_reducible refine Ext.drew ?_ | (with_reducible refine Ext.setCell ?_ (by first | exact Nat.le_refl _ | (dsimp only; omega) | (simp; done) | (simp; omega)) _) | with_reducible refine Ext.trans ?_ (by with_reducible assumption))) ?_; with_reducible assumption)))
    (first
      | (go_at_call 75; (with_reducible refine (num_Sub _ _ _ hn0 hn1 hb0 hb1).mono ?_); rw [HS.out]; rintro e w' ⟨rfl, rfl⟩)
      | (go_at_call 131; (with_reducible refine (num_Add _ a s _ ha0 ha1 h20 (by omega) ?_ ?_).mono ?_); exact Eq.trans (Blk.cell (Blk.drew (Blk.new' _ _ _ rfl)) 0) rfl; exact Eq.trans (Blk.cell (Blk.drew (Blk.new' _ _ _ rfl)) 1) rfl; rw [HP.out]; rintro e w' ⟨rfl, rfl⟩))
  go_wp2
  all_goals
    go_ret
    exact ⟨ret_int (by rw [HT.out]; omega), (by repeat (first | with_reducible exact Ext.refl _ | with_reducible assumption | with_reducible refine Ext.alloc ?_ _ | with_reducible refine Ext.drew ?_ | (with_reducible refine Ext.setCell ?_ (by first | exact Nat.le_refl _ | (dsimp only; omega) | (simp; done) | (simp; omega)) _) | with_reducible refine Ext.trans ?_ (by with_reducible assumption)))⟩

theorem bucket_Of (now cap fill : Int) (w : World) (hc0 : 0 ≤ cap) (hc1 : cap < 18446744073709551616) (hf0 : 0 ≤ fill) (hf1 : fill < 18446744073709551616) :
    Calls Tryz.prog 175 #[.int .u64 now, .int .u64 cap, .int .u64 fill] w fun e w' => e = .returned (stV 2 (satSub cap fill) now) ∧ Ext w w' := by
  go_enter Tryz.func175, Tryz.ntmps175
  go_wp2_with (go_at_call 75; refine (num_Sub _ _ _ hc0 hc1 hf0 hf1).mono ?_; rintro e w' ⟨rfl, rfl⟩)
  exact bodyPost_ret (v := stV 2 (satSub cap fill) now) (by simp [results, Tryz.results175, go_sem, stV]) rfl ⟨rfl, (by repeat (first | with_reducible exact Ext.refl _ | with_reducible assumption | with_reducible refine Ext.alloc ?_ _ | with_reducible refine Ext.drew ?_ | (with_reducible refine Ext.setCell ?_ (by first | exact Nat.le_refl _ | (dsimp only; omega) | (simp; done) | (simp; omega)) _) | with_reducible refine Ext.setCell ?_ (by simp; try omega) _ | with_reducible refine Ext.trans ?_ (by with_reducible assumption)))⟩

set_option maxHeartbeats 400000 in
theorem bucket_Fill (k a b now cap : Int) (w : World) (ha0 : 0 ≤ a) (ha1 : a < 18446744073709551616) (hb0 : 0 ≤ b) (hb1 : b < 18446744073709551616) (hn0 : 0 ≤ now) (hn1 : now < 18446744073709551616) (hc0 : 0 ≤ cap) (hc1 : cap < 18446744073709551616) :
    Calls Tryz.prog 176 #[.agg #[.int .u8 k, .int .u64 a, .int .u64 b], .int .u64 now, .int .u64 cap] w fun e w' => e = .returned (.int .u64 (cap - tokens a b now cap)) ∧ Ext w w' := by
  have ht := tokens_u a b now cap ha0 ha1 hb0 hb1 hn0 hn1 hc0 hc1
  obtain ⟨ht0, ht1⟩ := ht
  go_enter Tryz.func176, Tryz.ntmps176
  go_wp2_with fail
  have bq := Blk.new w #[.int .u8 k, .int .u64 a, .int .u64 b] 140
  have hx0 : Ext w (w.alloc (.cells #[.int .u8 k, .int .u64 a, .int .u64 b] 140)) := (Ext.refl w).alloc _
  generalize w.alloc (.cells #[.int .u8 k, .int .u64 a, .int .u64 b] 140) = w0 at *
  have q0 : w0.cell? ⟨w.heap.size, 0, none⟩ = some (.int .u8 k) := bq.cell 0
  have q1 : w0.cell? ⟨w.heap.size, 1, none⟩ = some (.int .u64 a) := bq.cell 1
  have q2 : w0.cell? ⟨w.heap.size, 2, none⟩ = some (.int .u64 b) := bq.cell 2
  go_region_held3 (fun w' => w'.cell? ⟨w.heap.size, 0, none⟩ = some (.int .u8 k) ∧ w'.cell? ⟨w.heap.size, 1, none⟩ = some (.int .u64 a) ∧ w'.cell? ⟨w.heap.size, 2, none⟩ = some (.int .u64 b) ∧ Ext w0 w')
    (((try go_split_ands); refine ⟨?_, ?_, ?_, ?_⟩ <;> first | with_reducible assumption | exact (Ext.refl _).drew | ((repeat (first | with_reducible exact Ext.refl _ | with_reducible assumption | with_reducible refine Ext.alloc ?_ _ | with_reducible refine Ext.drew ?_ | (with_reducible refine Ext.setCell ?_ (by first | exact Nat.le_refl _ | (dsimp only; omega) | (simp; done) | (simp; omega)) _) | with_reducible refine Ext.trans ?_ (by with_reducible assumption))); done) | (refine Ext.keep (w := w0) (by repeat (first | with_reducible exact Ext.refl _ | with_reducible assumption | with_reducible refine Ext.alloc ?_ _ | with_reducible refine Ext.drew ?_ | (with_reducible refine Ext.setCell ?_ (by first | exact Nat.le_refl _ | (dsimp only; omega) | (simp; done) | (simp; omega)) _) | with_reducible refine Ext.trans ?_ (by with_reducible assumption))) ?_; with_reducible assumption)))
    (first
      | (go_at_call 210; (with_reducible refine (bucket_filled _ _).mono ?_); rintro e w' ⟨rfl, rfl⟩)
      | (go_at_call 228; (with_reducible refine (bucket_filled1 _ k a b now cap _ ha0 ha1 hb0 hb1 hn0 hn1 hc0 hc1 ?_).mono ?_); exact Eq.trans (Blk.cell (Blk.drew (Blk.new' _ _ _ rfl)) 0) rfl; rintro e w1 ⟨rfl, hx⟩))
  go_wp2
  go_ret
  exact ⟨ret_int (wraps_u64 _ (by omega) (by omega)), (by repeat (first | with_reducible exact Ext.refl _ | with_reducible assumption | with_reducible refine Ext.alloc ?_ _ | with_reducible refine Ext.drew ?_ | (with_reducible refine Ext.setCell ?_ (by first | exact Nat.le_refl _ | (dsimp only; omega) | (simp; done) | (simp; omega)) _) | with_reducible refine Ext.trans ?_ (by with_reducible assumption)))⟩

set_option maxHeartbeats 1000000 in
theorem bucket_Decide (a b now cap x : Int) (w : World) (ha0 : 0 ≤ a) (ha1 : a < 18446744073709551616) (hb0 : 0 ≤ b) (hb1 : b < 18446744073709551616) (hn0 : 0 ≤ now) (hn1 : now < 18446744073709551616) (hc0 : 0 ≤ cap) (hc1 : cap < 18446744073709551616) (hx0 : 0 ≤ x) (hx1 : x < 18446744073709551616) :
    Calls Tryz.prog 177 #[.agg #[.int .u8 2, .int .u64 a, .int .u64 b], .int .u64 now, .int .u64 cap, .int .u64 x] w fun e w' =>
      e = .returned (stB 2 (kNextA 2 a b now cap x) (kNextB 2 a b now cap x) (kOk 2 a b now cap x)) ∧ Ext w w' := by
  have ht := tokens_u a b now cap ha0 ha1 hb0 hb1 hn0 hn1 hc0 hc1
  have hkk : kOk 2 a b now cap x = decide (x ≤ tokens a b now cap) := rfl
  have hna : kNextA 2 a b now cap x = if kOk 2 a b now cap x then tokens a b now cap - x else a := rfl
  have hnb : kNextB 2 a b now cap x = if kOk 2 a b now cap x then now else b := rfl
  generalize htt : tokens a b now cap = t at *
  have HTT := Lib.hid htt
  clear htt
  obtain ⟨ht0, ht1⟩ := ht
  by_cases h : x ≤ t
  · rw [hkk] at hna hnb
    have HR := Lib.hid (show stB 2 (kNextA 2 a b now cap x) (kNextB 2 a b now cap x) (kOk 2 a b now cap x) = .tuple #[.agg #[.int .u8 2, .int .u64 (t - x), .int .u64 now], .bool true] by rw [hna, hnb, hkk]; simp [h, stB, stV])
    clear hkk hna hnb
    have h' : ¬ t < x := by omega
    go_enter Tryz.func177, Tryz.ntmps177
    go_wp2_with fail
    have bq := Blk.new w #[.int .u8 2, .int .u64 a, .int .u64 b] 140
    have hx0 : Ext w (w.alloc (.cells #[.int .u8 2, .int .u64 a, .int .u64 b] 140)) := (Ext.refl w).alloc _
    have bs := Blk.new (w.alloc (.cells #[.int .u8 2, .int .u64 a, .int .u64 b] 140)) #[.int .u8 0, .int .u64 0, .int .u64 0] 140
    have bq' := bq.alloc (.cells #[.int .u8 0, .int .u64 0, .int .u64 0] 140)
    have hx00 := hx0.alloc (.cells #[.int .u8 0, .int .u64 0, .int .u64 0] 140)
    have hsz : (w.alloc (.cells #[.int .u8 2, .int .u64 a, .int .u64 b] 140)).heap.size = w.heap.size + 1 := by simp
    rw [hsz] at bs
    clear bq hx0 hsz
    generalize (w.alloc (.cells #[.int .u8 2, .int .u64 a, .int .u64 b] 140)).alloc (.cells #[.int .u8 0, .int .u64 0, .int .u64 0] 140) = w0 at *
    have q0 : w0.cell? ⟨w.heap.size, 0, none⟩ = some (.int .u8 2) := bq'.cell 0
    have q1 : w0.cell? ⟨w.heap.size, 1, none⟩ = some (.int .u64 a) := bq'.cell 1
    have q2 : w0.cell? ⟨w.heap.size, 2, none⟩ = some (.int .u64 b) := bq'.cell 2
    go_region_held3 (fun w' => w'.cell? ⟨w.heap.size, 0, none⟩ = some (.int .u8 2) ∧ w'.cell? ⟨w.heap.size, 1, none⟩ = some (.int .u64 a) ∧ w'.cell? ⟨w.heap.size, 2, none⟩ = some (.int .u64 b) ∧ Ext w0 w')
      (((try go_split_ands); refine ⟨?_, ?_, ?_, ?_⟩ <;> first | with_reducible assumption | exact (Ext.refl _).drew | ((repeat (first | with_reducible exact Ext.refl _ | with_reducible assumption | with_reducible refine Ext.alloc ?_ _ | with_reducible refine Ext.drew ?_ | (with_reducible refine Ext.setCell ?_ (by first | exact Nat.le_refl _ | (dsimp only; omega) | (simp; done) | (simp; omega)) _) | with_reducible refine Ext.trans ?_ (by with_reducible assumption))); done) | (refine Ext.keep (w := w0) (by repeat (first | with_reducible exact Ext.refl _ | with_reducible assumption | with_reducible refine Ext.alloc ?_ _ | with_reducible refine Ext.drew ?_ | (with_reducible refine Ext.setCell ?_ (by first | exact Nat.le_refl _ | (dsimp only; omega) | (simp; done) | (simp; omega)) _) | with_reducible refine Ext.trans ?_ (by with_reducible assumption))) ?_; with_reducible assumption)))
      (first
        | (go_at_call 210; (with_reducible refine (bucket_filled _ _).mono ?_); rintro e w' ⟨rfl, rfl⟩)
        | (go_at_call 228; (with_reducible refine (bucket_filled1 _ 2 a b now cap _ ha0 ha1 hb0 hb1 hn0 hn1 hc0 hc1 ?_).mono ?_); exact Eq.trans (Blk.cell (Blk.drew (Blk.new' _ _ _ rfl)) 0) rfl; rw [HTT.out]; rintro e w1 ⟨rfl, hx⟩))
    have hB := (bs.alloc (.cells #[.int .u64 cap] 35)).drew.ext hx
    have hQ := (bq'.alloc (.cells #[.int .u64 cap] 35)).drew.ext hx
    have hf := hB.free
    have hc := hB.cell
    have hq := hQ.cell
    have hl := hB.lt
    have hx' := ((hx00.alloc _).drew).trans hx
    go_wp2
    have hS := ((hB.set 0 (.int .u8 2)).set 1 (.int .u64 (t - x))).set 2 (.int .u64 now)
    refine ret_cell_tmp Tryz.results177 rfl rfl hS Tryz.underlying140 rfl (by kernel_rfl) ⟨?_, ?_⟩
    · rw [HR.out]; rfl
    · exact ((hx'.set (by omega) _ _).set (by omega) _ _).set (by omega) _ _
  · rw [hkk] at hna hnb
    have HR := Lib.hid (show stB 2 (kNextA 2 a b now cap x) (kNextB 2 a b now cap x) (kOk 2 a b now cap x) = .tuple #[.agg #[.int .u8 2, .int .u64 a, .int .u64 b], .bool false] by rw [hna, hnb, hkk]; simp [h, stB, stV])
    clear hkk hna hnb
    have h' : t < x := by omega
    go_enter Tryz.func177, Tryz.ntmps177
    go_wp2_with fail
    have bq := Blk.new w #[.int .u8 2, .int .u64 a, .int .u64 b] 140
    have hx0 : Ext w (w.alloc (.cells #[.int .u8 2, .int .u64 a, .int .u64 b] 140)) := (Ext.refl w).alloc _
    have bs := Blk.new (w.alloc (.cells #[.int .u8 2, .int .u64 a, .int .u64 b] 140)) #[.int .u8 0, .int .u64 0, .int .u64 0] 140
    have bq' := bq.alloc (.cells #[.int .u8 0, .int .u64 0, .int .u64 0] 140)
    have hx00 := hx0.alloc (.cells #[.int .u8 0, .int .u64 0, .int .u64 0] 140)
    have hsz : (w.alloc (.cells #[.int .u8 2, .int .u64 a, .int .u64 b] 140)).heap.size = w.heap.size + 1 := by simp
    rw [hsz] at bs
    clear bq hx0 hsz
    generalize (w.alloc (.cells #[.int .u8 2, .int .u64 a, .int .u64 b] 140)).alloc (.cells #[.int .u8 0, .int .u64 0, .int .u64 0] 140) = w0 at *
    have q0 : w0.cell? ⟨w.heap.size, 0, none⟩ = some (.int .u8 2) := bq'.cell 0
    have q1 : w0.cell? ⟨w.heap.size, 1, none⟩ = some (.int .u64 a) := bq'.cell 1
    have q2 : w0.cell? ⟨w.heap.size, 2, none⟩ = some (.int .u64 b) := bq'.cell 2
    go_region_held3 (fun w' => w'.cell? ⟨w.heap.size, 0, none⟩ = some (.int .u8 2) ∧ w'.cell? ⟨w.heap.size, 1, none⟩ = some (.int .u64 a) ∧ w'.cell? ⟨w.heap.size, 2, none⟩ = some (.int .u64 b) ∧ Ext w0 w')
      (((try go_split_ands); refine ⟨?_, ?_, ?_, ?_⟩ <;> first | with_reducible assumption | exact (Ext.refl _).drew | ((repeat (first | with_reducible exact Ext.refl _ | with_reducible assumption | with_reducible refine Ext.alloc ?_ _ | with_reducible refine Ext.drew ?_ | (with_reducible refine Ext.setCell ?_ (by first | exact Nat.le_refl _ | (dsimp only; omega) | (simp; done) | (simp; omega)) _) | with_reducible refine Ext.trans ?_ (by with_reducible assumption))); done) | (refine Ext.keep (w := w0) (by repeat (first | with_reducible exact Ext.refl _ | with_reducible assumption | with_reducible refine Ext.alloc ?_ _ | with_reducible refine Ext.drew ?_ | (with_reducible refine Ext.setCell ?_ (by first | exact Nat.le_refl _ | (dsimp only; omega) | (simp; done) | (simp; omega)) _) | with_reducible refine Ext.trans ?_ (by with_reducible assumption))) ?_; with_reducible assumption)))
      (first
        | (go_at_call 210; (with_reducible refine (bucket_filled _ _).mono ?_); rintro e w' ⟨rfl, rfl⟩)
        | (go_at_call 228; (with_reducible refine (bucket_filled1 _ 2 a b now cap _ ha0 ha1 hb0 hb1 hn0 hn1 hc0 hc1 ?_).mono ?_); exact Eq.trans (Blk.cell (Blk.drew (Blk.new' _ _ _ rfl)) 0) rfl; rw [HTT.out]; rintro e w1 ⟨rfl, hx⟩))
    have hB := (bs.alloc (.cells #[.int .u64 cap] 35)).drew.ext hx
    have hQ := (bq'.alloc (.cells #[.int .u64 cap] 35)).drew.ext hx
    have hf := hB.free
    have hc := hB.cell
    have hq := hQ.cell
    have hl := hB.lt
    have hx' := ((hx00.alloc _).drew).trans hx
    go_wp2
    have hS := ((hB.set 0 (.int .u8 2)).set 1 (.int .u64 (a))).set 2 (.int .u64 b)
    refine ret_cell_tmp Tryz.results177 rfl rfl hS Tryz.underlying140 rfl (by kernel_rfl) ⟨?_, ?_⟩
    · rw [HR.out]; rfl
    · exact ((hx'.set (by omega) _ _).set (by omega) _ _).set (by omega) _ _
end Go.Proofs.YtknlojlcahgnoaaGreat

namespace Go.Proofs.YtknlojlcahgnoaaGreat
open Go.RowKit
set_option linter.unusedVariables false
set_option linter.unusedSimpArgs false

def meterT (a b now : Int) : Int := satSub a (satSub now b)
theorem meter_u (a b now : Int) (ha0 : 0 ≤ a) (ha1 : a < 18446744073709551616) (hb0 : 0 ≤ b) (hn0 : 0 ≤ now) (hn1 : now < 18446744073709551616) : 0 ≤ meterT a b now ∧ meterT a b now ≤ a := by
  have h2 := satSub_u now b hn0 hn1 hb0
  exact satSub_u a (satSub now b) ha0 ha1 h2.1

set_option maxHeartbeats 400000 in
theorem leaky_left (k a b now : Int) (w : World) (ha0 : 0 ≤ a) (ha1 : a < 18446744073709551616) (hb0 : 0 ≤ b) (hb1 : b < 18446744073709551616) (hn0 : 0 ≤ now) (hn1 : now < 18446744073709551616) :
    Calls Tryz.prog 211 #[.agg #[.int .u8 k, .int .u64 a, .int .u64 b], .int .u64 now] w fun e w' => e = .returned (.int .u64 (meterT a b now)) ∧ Ext w w' := by
  have h2 := satSub_u now b hn0 hn1 hb0
  have HT := Lib.hid (show meterT a b now = satSub a (satSub now b) from rfl)
  generalize hs : satSub now b = s at *
  have HS := Lib.hid hs
  obtain ⟨h20, h21⟩ := h2
  clear hs
  go_enter Tryz.func211, Tryz.ntmps211
  go_wp2_with fail
  have bq := Blk.new w #[.int .u8 k, .int .u64 a, .int .u64 b] 283
  have hx0 : Ext w (w.alloc (.cells #[.int .u8 k, .int .u64 a, .int .u64 b] 283)) := (Ext.refl w).alloc _
  generalize w.alloc (.cells #[.int .u8 k, .int .u64 a, .int .u64 b] 283) = w0 at *
  have q1 : w0.cell? ⟨w.heap.size, 1, none⟩ = some (.int .u64 a) := bq.cell 1
  have q2 : w0.cell? ⟨w.heap.size, 2, none⟩ = some (.int .u64 b) := bq.cell 2
  go_region_held3 (fun w' => w'.cell? ⟨w.heap.size, 1, none⟩ = some (.int .u64 a) ∧ w'.cell? ⟨w.heap.size, 2, none⟩ = some (.int .u64 b) ∧ Ext w0 w')
    (((try go_split_ands); refine ⟨?_, ?_, ?_⟩ <;> first | with_reducible assumption | exact (Ext.refl _).drew | ((repeat (first | with_reducible exact Ext.refl _ | with_reducible assumption | with_reducible refine Ext.alloc ?_ _ | with_reducible refine Ext.drew ?_ | (with_reducible refine Ext.setCell ?_ (by first | exact Nat.le_refl _ | (dsimp only; omega) | (simp; done) | (simp; omega)) _) | with_reducible refine Ext.trans ?_ (by with_reducible assumption))); done) | (refine Ext.keep (w := w0) (by repeat (first | with_reducible exact Ext.refl _ | with_reducible assumption | with_reducible refine Ext.alloc ?_ _ | with_reducible refine Ext.drew ?_ | (with_reducible refine Ext.setCell ?_ (by first | exact Nat.le_refl _ | (dsimp only; omega) | (simp; done) | (simp; omega)) _) | with_reducible refine Ext.trans ?_ (by with_reducible assumption))) ?_; with_reducible assumption)))
    (first
      | (go_at_call 75; (with_reducible refine (num_Sub now b _ hn0 hn1 hb0 hb1).mono ?_); rw [HS.out]; rintro e w' ⟨rfl, rfl⟩)
      | (go_at_call 75; (with_reducible refine (num_Sub a s _ ha0 ha1 h20 (by omega)).mono ?_); rw [← HT.out]; rintro e w' ⟨rfl, rfl⟩))
  go_wp2
  go_ret
  exact ⟨rfl, (by repeat (first | with_reducible exact Ext.refl _ | with_reducible assumption | with_reducible refine Ext.alloc ?_ _ | with_reducible refine Ext.drew ?_ | (with_reducible refine Ext.setCell ?_ (by first | exact Nat.le_refl _ | (dsimp only; omega) | (simp; done) | (simp; omega)) _) | with_reducible refine Ext.trans ?_ (by with_reducible assumption)))⟩

theorem leaky_Of (now cap fill : Int) (w : World) :
    Calls Tryz.prog 178 #[.int .u64 now, .int .u64 cap, .int .u64 fill] w fun e w' => e = .returned (stV 3 fill now) ∧ Ext w w' := by
  go_enter Tryz.func178, Tryz.ntmps178
  go_wp2
  exact bodyPost_ret (v := stV 3 fill now) (by simp [results, Tryz.results178, go_sem, stV]) rfl ⟨rfl, (by repeat (first | with_reducible exact Ext.refl _ | with_reducible assumption | with_reducible refine Ext.alloc ?_ _ | with_reducible refine Ext.drew ?_ | (with_reducible refine Ext.setCell ?_ (by first | exact Nat.le_refl _ | (dsimp only; omega) | (simp; done) | (simp; omega)) _) | with_reducible refine Ext.setCell ?_ (by simp; try omega) _ | with_reducible refine Ext.trans ?_ (by with_reducible assumption)))⟩

set_option maxHeartbeats 400000 in
theorem leaky_Fill (k a b now cap : Int) (w : World) (ha0 : 0 ≤ a) (ha1 : a < 18446744073709551616) (hb0 : 0 ≤ b) (hb1 : b < 18446744073709551616) (hn0 : 0 ≤ now) (hn1 : now < 18446744073709551616) :
    Calls Tryz.prog 179 #[.agg #[.int .u8 k, .int .u64 a, .int .u64 b], .int .u64 now, .int .u64 cap] w fun e w' => e = .returned (.int .u64 (meterT a b now)) ∧ Ext w w' := by
  go_enter Tryz.func179, Tryz.ntmps179
  go_wp2_with (go_at_call 211; refine (leaky_left k a b now _ ha0 ha1 hb0 hb1 hn0 hn1).mono ?_; rintro e w1 ⟨rfl, hx⟩)
  go_ret
  exact ⟨rfl, (by repeat (first | with_reducible exact Ext.refl _ | with_reducible assumption | with_reducible refine Ext.alloc ?_ _ | with_reducible refine Ext.drew ?_ | (with_reducible refine Ext.setCell ?_ (by first | exact Nat.le_refl _ | (dsimp only; omega) | (simp; done) | (simp; omega)) _) | with_reducible refine Ext.trans ?_ (by with_reducible assumption)))⟩

set_option maxHeartbeats 1000000 in
theorem leaky_Decide (a b now cap x : Int) (w : World) (ha0 : 0 ≤ a) (ha1 : a < 18446744073709551616) (hb0 : 0 ≤ b) (hb1 : b < 18446744073709551616) (hn0 : 0 ≤ now) (hn1 : now < 18446744073709551616) (hc0 : 0 ≤ cap) (hc1 : cap < 18446744073709551616) (hx0 : 0 ≤ x) (hx1 : x < 18446744073709551616) :
    Calls Tryz.prog 180 #[.agg #[.int .u8 3, .int .u64 a, .int .u64 b], .int .u64 now, .int .u64 cap, .int .u64 x] w fun e w' =>
      e = .returned (stB 3 (kNextA 3 a b now cap x) (kNextB 3 a b now cap x) (kOk 3 a b now cap x)) ∧ Ext w w' := by
  have ht := meter_u a b now ha0 ha1 hb0 hn0 hn1
  have hkk : kOk 3 a b now cap x = fitsB (meterT a b now) x cap := rfl
  have hna : kNextA 3 a b now cap x = if kOk 3 a b now cap x then meterT a b now + x else a := rfl
  have hnb : kNextB 3 a b now cap x = if kOk 3 a b now cap x then now else b := rfl
  generalize htt : meterT a b now = t at *
  have HTT := Lib.hid htt
  clear htt
  obtain ⟨ht0, ht1⟩ := ht
  cases hk : fitsB t x cap
  · rw [hk] at hkk
    rw [hkk] at hna hnb
    have HR := Lib.hid (show stB 3 (kNextA 3 a b now cap x) (kNextB 3 a b now cap x) (kOk 3 a b now cap x) = .tuple #[.agg #[.int .u8 3, .int .u64 a, .int .u64 b], .bool false] by rw [hna, hnb, hkk]; simp [stB, stV])
    have HK := Lib.hid hk
    clear hkk hna hnb hk
    go_enter Tryz.func180, Tryz.ntmps180
    go_wp2_with fail
    refine (leaky_Fill 3 a b now cap _ ha0 ha1 hb0 hb1 hn0 hn1).mono ?_
    rw [HTT.out]
    rintro e w1 ⟨rfl, hx⟩
    have hB := (Blk.new' (w.alloc (.cells #[.int .u8 3, .int .u64 a, .int .u64 b] 140)) #[.int .u8 0, .int .u64 0, .int .u64 0] 140 (b := w.heap.size + 1) (by simp)).ext hx
    have hQ := ((Blk.new w #[.int .u8 3, .int .u64 a, .int .u64 b] 140).alloc (.cells #[.int .u8 0, .int .u64 0, .int .u64 0] 140)).ext hx
    have hf := hB.free
    have hc := hB.cell
    have hq := hQ.cell
    have hl := hB.lt
    have hx' := (((Ext.refl w).alloc _).alloc _).trans hx
    go_wp2_with (go_at_call 155; (with_reducible refine (num_Fits t x cap _ ht0 (by omega) hx0 hx1 hc0 hc1).mono ?_); rw [HK.out]; rintro e w' ⟨rfl, rfl⟩)
    have hS := ((hB.set 0 (.int .u8 3)).set 1 (.int .u64 a)).set 2 (.int .u64 b)
    refine ret_cell_tmp Tryz.results180 rfl rfl hS Tryz.underlying140 rfl (by kernel_rfl) ⟨?_, ?_⟩
    · rw [HR.out]; rfl
    · exact ((hx'.set (by omega) _ _).set (by omega) _ _).set (by omega) _ _
  · rw [hk] at hkk
    rw [hkk] at hna hnb
    have HR := Lib.hid (show stB 3 (kNextA 3 a b now cap x) (kNextB 3 a b now cap x) (kOk 3 a b now cap x) = .tuple #[.agg #[.int .u8 3, .int .u64 (t + x), .int .u64 now], .bool true] by rw [hna, hnb, hkk]; simp [stB, stV])
    have hle : t + x ≤ cap := by simpa [fitsB] using hk
    have HK := Lib.hid hk
    clear hkk hna hnb hk
    go_enter Tryz.func180, Tryz.ntmps180
    go_wp2_with fail
    refine (leaky_Fill 3 a b now cap _ ha0 ha1 hb0 hb1 hn0 hn1).mono ?_
    rw [HTT.out]
    rintro e w1 ⟨rfl, hx⟩
    have hB := (Blk.new' (w.alloc (.cells #[.int .u8 3, .int .u64 a, .int .u64 b] 140)) #[.int .u8 0, .int .u64 0, .int .u64 0] 140 (b := w.heap.size + 1) (by simp)).ext hx
    have hx' := (((Ext.refl w).alloc _).alloc _).trans hx
    go_wp2_with (go_at_call 155; (with_reducible refine (num_Fits t x cap _ ht0 (by omega) hx0 hx1 hc0 hc1).mono ?_); rw [HK.out]; rintro e w' ⟨rfl, rfl⟩)
    refine (leaky_Of _ _ _ _).mono ?_
    rintro e w2 ⟨rfl, hx2⟩
    have hB2 := hB.ext hx2
    have hf := hB2.free
    have hc := hB2.cell
    have hl := hB2.lt
    simp only [stV]
    go_wp2
    have hS := ((hB2.set 0 (.int .u8 3)).set 1 (.int .u64 (t + x))).set 2 (.int .u64 now)
    refine ret_cell_tmp Tryz.results180 rfl rfl hS Tryz.underlying140 rfl (by kernel_rfl) ⟨?_, ?_⟩
    · rw [HR.out]; rfl
    · exact (((hx'.trans hx2).set (by omega) _ _).set (by omega) _ _).set (by omega) _ _
end Go.Proofs.YtknlojlcahgnoaaGreat

namespace Go.Proofs.YtknlojlcahgnoaaGreat
open Go.RowKit
set_option linter.unusedVariables false
set_option linter.unusedSimpArgs false

theorem kl2 (W : World) (C : Array Value) (t : TypeId) : ((W.alloc (.map kernels 3)).alloc (.cells C t)).heap[W.heap.size]? = some (.map kernels 3) :=
  (heap_alloc_old (W.alloc (.map kernels 3)) (.cells C t) (by rw [World.size_alloc]; omega)).trans (map_new_at W _)
theorem kern_lk1 {w : World} {b : Nat} (hb : w.heap[b]? = some (.map kernels 3)) : (Instr.lookup 220 (.map (some b)) (.int .u8 1) true).run Tryz.prog w = .ok (.tuple #[.agg #[.func (.func 172) #[] #[], .func (.func 173) #[] #[], .func (.func 174) #[] #[]], .bool true]) w :=
  (run_lookup_yes (P := Tryz.prog) Tryz.underlying220 Tryz.underlying5 (key := .int .u8 1) rfl hb (i := 0) (v := kern 172 173 174) rfl).1
theorem kern_lk2 {w : World} {b : Nat} (hb : w.heap[b]? = some (.map kernels 3)) : (Instr.lookup 220 (.map (some b)) (.int .u8 2) true).run Tryz.prog w = .ok (.tuple #[.agg #[.func (.func 175) #[] #[], .func (.func 176) #[] #[], .func (.func 177) #[] #[]], .bool true]) w :=
  (run_lookup_yes (P := Tryz.prog) Tryz.underlying220 Tryz.underlying5 (key := .int .u8 2) rfl hb (i := 1) (v := kern 175 176 177) rfl).1
theorem kern_lk3 {w : World} {b : Nat} (hb : w.heap[b]? = some (.map kernels 3)) : (Instr.lookup 220 (.map (some b)) (.int .u8 3) true).run Tryz.prog w = .ok (.tuple #[.agg #[.func (.func 178) #[] #[], .func (.func 179) #[] #[], .func (.func 180) #[] #[]], .bool true]) w :=
  (run_lookup_yes (P := Tryz.prog) Tryz.underlying220 Tryz.underlying5 (key := .int .u8 3) rfl hb (i := 2) (v := kern 178 179 180) rfl).1
theorem kern_lk0 (k : Int) (h : ¬ (1 ≤ k ∧ k ≤ 3)) {w : World} {b : Nat} (hb : w.heap[b]? = some (.map kernels 3)) : (Instr.lookup 220 (.map (some b)) (.int .u8 k) true).run Tryz.prog w = .ok (.tuple #[.agg #[.nilFunc, .nilFunc, .nilFunc], .bool false]) w :=
  (run_lookup_no (P := Tryz.prog) Tryz.underlying220 Tryz.underlying5 (key := .int .u8 k) rfl hb (kern_zero _) (kern_miss k h)).1
theorem kern_look1 (W : World) : (Instr.lookup 220 (.map (some W.heap.size)) (.int .u8 1) true).run Tryz.prog (W.alloc (.map kernels 3)).drew = .ok (.tuple #[.agg #[.func (.func 172) #[] #[], .func (.func 173) #[] #[], .func (.func 174) #[] #[]], .bool true]) (W.alloc (.map kernels 3)).drew := kern_lk1 (map_new_at W _)
theorem kern_look2 (W : World) : (Instr.lookup 220 (.map (some W.heap.size)) (.int .u8 2) true).run Tryz.prog (W.alloc (.map kernels 3)).drew = .ok (.tuple #[.agg #[.func (.func 175) #[] #[], .func (.func 176) #[] #[], .func (.func 177) #[] #[]], .bool true]) (W.alloc (.map kernels 3)).drew := kern_lk2 (map_new_at W _)
theorem kern_look3 (W : World) : (Instr.lookup 220 (.map (some W.heap.size)) (.int .u8 3) true).run Tryz.prog (W.alloc (.map kernels 3)).drew = .ok (.tuple #[.agg #[.func (.func 178) #[] #[], .func (.func 179) #[] #[], .func (.func 180) #[] #[]], .bool true]) (W.alloc (.map kernels 3)).drew := kern_lk3 (map_new_at W _)
theorem kern_look0 (k : Int) (h : ¬ (1 ≤ k ∧ k ≤ 3)) (W : World) : (Instr.lookup 220 (.map (some W.heap.size)) (.int .u8 k) true).run Tryz.prog (W.alloc (.map kernels 3)).drew = .ok (.tuple #[.agg #[.nilFunc, .nilFunc, .nilFunc], .bool false]) (W.alloc (.map kernels 3)).drew := kern_lk0 k h (map_new_at W _)
theorem kern_look1b (W : World) (C : Array Value) (t : TypeId) : (Instr.lookup 220 (.map (some W.heap.size)) (.int .u8 1) true).run Tryz.prog ((W.alloc (.map kernels 3)).alloc (.cells C t)).drew = .ok (.tuple #[.agg #[.func (.func 172) #[] #[], .func (.func 173) #[] #[], .func (.func 174) #[] #[]], .bool true]) ((W.alloc (.map kernels 3)).alloc (.cells C t)).drew := kern_lk1 (kl2 W C t)
theorem kern_look2b (W : World) (C : Array Value) (t : TypeId) : (Instr.lookup 220 (.map (some W.heap.size)) (.int .u8 2) true).run Tryz.prog ((W.alloc (.map kernels 3)).alloc (.cells C t)).drew = .ok (.tuple #[.agg #[.func (.func 175) #[] #[], .func (.func 176) #[] #[], .func (.func 177) #[] #[]], .bool true]) ((W.alloc (.map kernels 3)).alloc (.cells C t)).drew := kern_lk2 (kl2 W C t)
theorem kern_look3b (W : World) (C : Array Value) (t : TypeId) : (Instr.lookup 220 (.map (some W.heap.size)) (.int .u8 3) true).run Tryz.prog ((W.alloc (.map kernels 3)).alloc (.cells C t)).drew = .ok (.tuple #[.agg #[.func (.func 178) #[] #[], .func (.func 179) #[] #[], .func (.func 180) #[] #[]], .bool true]) ((W.alloc (.map kernels 3)).alloc (.cells C t)).drew := kern_lk3 (kl2 W C t)
theorem kern_look0b (k : Int) (h : ¬ (1 ≤ k ∧ k ≤ 3)) (W : World) (C : Array Value) (t : TypeId) : (Instr.lookup 220 (.map (some W.heap.size)) (.int .u8 k) true).run Tryz.prog ((W.alloc (.map kernels 3)).alloc (.cells C t)).drew = .ok (.tuple #[.agg #[.nilFunc, .nilFunc, .nilFunc], .bool false]) ((W.alloc (.map kernels 3)).alloc (.cells C t)).drew := kern_lk0 k h (kl2 W C t)
theorem kern_look1c (W : World) (C : Array Value) (t : TypeId) : (Instr.lookup 220 (.map (some (W.heap.size + 1))) (.int .u8 1) true).run Tryz.prog ((W.alloc (.cells C t)).alloc (.map kernels 3)).drew = .ok (.tuple #[.agg #[.func (.func 172) #[] #[], .func (.func 173) #[] #[], .func (.func 174) #[] #[]], .bool true]) ((W.alloc (.cells C t)).alloc (.map kernels 3)).drew := kern_lk1 (heap_alloc2_new W _ _)
theorem kern_look2c (W : World) (C : Array Value) (t : TypeId) : (Instr.lookup 220 (.map (some (W.heap.size + 1))) (.int .u8 2) true).run Tryz.prog ((W.alloc (.cells C t)).alloc (.map kernels 3)).drew = .ok (.tuple #[.agg #[.func (.func 175) #[] #[], .func (.func 176) #[] #[], .func (.func 177) #[] #[]], .bool true]) ((W.alloc (.cells C t)).alloc (.map kernels 3)).drew := kern_lk2 (heap_alloc2_new W _ _)
theorem kern_look3c (W : World) (C : Array Value) (t : TypeId) : (Instr.lookup 220 (.map (some (W.heap.size + 1))) (.int .u8 3) true).run Tryz.prog ((W.alloc (.cells C t)).alloc (.map kernels 3)).drew = .ok (.tuple #[.agg #[.func (.func 178) #[] #[], .func (.func 179) #[] #[], .func (.func 180) #[] #[]], .bool true]) ((W.alloc (.cells C t)).alloc (.map kernels 3)).drew := kern_lk3 (heap_alloc2_new W _ _)
theorem kern_look0c (k : Int) (h : ¬ (1 ≤ k ∧ k ≤ 3)) (W : World) (C : Array Value) (t : TypeId) : (Instr.lookup 220 (.map (some (W.heap.size + 1))) (.int .u8 k) true).run Tryz.prog ((W.alloc (.cells C t)).alloc (.map kernels 3)).drew = .ok (.tuple #[.agg #[.nilFunc, .nilFunc, .nilFunc], .bool false]) ((W.alloc (.cells C t)).alloc (.map kernels 3)).drew := kern_lk0 k h (heap_alloc2_new W _ _)
theorem kern_look1p (W : World) : (Instr.lookup 220 (.map (some W.heap.size)) (.int .u8 1) true).run Tryz.prog (W.alloc (.map kernels 3)) = .ok (.tuple #[.agg #[.func (.func 172) #[] #[], .func (.func 173) #[] #[], .func (.func 174) #[] #[]], .bool true]) (W.alloc (.map kernels 3)) := kern_lk1 (map_new_at W _)
theorem kern_look2p (W : World) : (Instr.lookup 220 (.map (some W.heap.size)) (.int .u8 2) true).run Tryz.prog (W.alloc (.map kernels 3)) = .ok (.tuple #[.agg #[.func (.func 175) #[] #[], .func (.func 176) #[] #[], .func (.func 177) #[] #[]], .bool true]) (W.alloc (.map kernels 3)) := kern_lk2 (map_new_at W _)
theorem kern_look3p (W : World) : (Instr.lookup 220 (.map (some W.heap.size)) (.int .u8 3) true).run Tryz.prog (W.alloc (.map kernels 3)) = .ok (.tuple #[.agg #[.func (.func 178) #[] #[], .func (.func 179) #[] #[], .func (.func 180) #[] #[]], .bool true]) (W.alloc (.map kernels 3)) := kern_lk3 (map_new_at W _)
theorem kern_look0p (k : Int) (h : ¬ (1 ≤ k ∧ k ≤ 3)) (W : World) : (Instr.lookup 220 (.map (some W.heap.size)) (.int .u8 k) true).run Tryz.prog (W.alloc (.map kernels 3)) = .ok (.tuple #[.agg #[.nilFunc, .nilFunc, .nilFunc], .bool false]) (W.alloc (.map kernels 3)) := kern_lk0 k h (map_new_at W _)
theorem kern_call (w : World) : Calls Tryz.prog 126 #[] w fun e w' => e = .returned (.map (some w.heap.size)) ∧ w' = w.alloc (.map kernels 3) := (kernel_all w).mono fun e w' h => h

set_option maxHeartbeats 1000000 in
set_option maxRecDepth 100000 in
theorem kernel_Fill1 (a b now cap : Int) (w : World) (ha0 : 0 ≤ a) (ha1 : a < 18446744073709551616) (hb0 : 0 ≤ b) (hb1 : b < 18446744073709551616) (hn0 : 0 ≤ now) (hn1 : now < 18446744073709551616) (hc0 : 0 ≤ cap) (hc1 : cap < 18446744073709551616) :
    Calls Tryz.prog 110 #[.agg #[.int .u8 1, .int .u64 a, .int .u64 b], .int .u64 now, .int .u64 cap] w fun e w' => e = .returned (.int .u64 (kFill 1 a b now cap)) ∧ Ext w w' := by
  have L := kern_look1
  have La := kern_look1b
  have Lb := kern_look1c
  have bq := Blk.new w #[.int .u8 1, .int .u64 a, .int .u64 b] 140
  go_enter Tryz.func110, Tryz.ntmps110
  go_wp2_with fail
  have hx0' : Ext w (w.alloc (.cells #[.int .u8 1, .int .u64 a, .int .u64 b] 140)) := (Ext.refl w).alloc _
  generalize w.alloc (.cells #[.int .u8 1, .int .u64 a, .int .u64 b] 140) = w0 at *
  have q1 : w0.cell? ⟨w.heap.size, 1, none⟩ = some (.int .u64 a) := bq.cell 1
  have q2 : w0.cell? ⟨w.heap.size, 2, none⟩ = some (.int .u64 b) := bq.cell 2
  have hlt := bq.lt
  have q0 : w0.cell? ⟨w.heap.size, 0, none⟩ = some (.int .u8 1) := bq.cell 0
  go_region_held3 (fun w' => w'.cell? ⟨w.heap.size, 0, none⟩ = some (.int .u8 1) ∧ Ext w0 w')
    (((try go_split_ands); refine ⟨?_, ?_⟩ <;> first | with_reducible assumption | exact (Ext.refl _).drew | ((repeat (first | with_reducible exact Ext.refl _ | with_reducible assumption | with_reducible refine Ext.alloc ?_ _ | with_reducible refine Ext.drew ?_ | (with_reducible refine Ext.setCell ?_ (by first | exact Nat.le_refl _ | (dsimp only; omega) | (simp; done) | (simp; omega)) _) | with_reducible refine Ext.trans ?_ (by with_reducible assumption))); done) | (refine Ext.keep (w := w0) (by repeat (first | with_reducible exact Ext.refl _ | with_reducible assumption | with_reducible refine Ext.alloc ?_ _ | with_reducible refine Ext.drew ?_ | (with_reducible refine Ext.setCell ?_ (by first | exact Nat.le_refl _ | (dsimp only; omega) | (simp; done) | (simp; omega)) _) | with_reducible refine Ext.trans ?_ (by with_reducible assumption))) ?_; with_reducible assumption)))
    (first
      | (go_at_call 126; (with_reducible refine (kern_call _).mono ?_); rintro e w' ⟨rfl, rfl⟩))
  all_goals
  go_wp2_with (go_at_call 173; (with_reducible refine (gcra_Fill 1 a b now cap _ ha0 ha1 hn0 hn1).mono ?_); rintro e w1 ⟨rfl, hx⟩)
  go_ret
  exact ⟨rfl, (by repeat (first | with_reducible exact Ext.refl _ | with_reducible assumption | with_reducible refine Ext.alloc ?_ _ | with_reducible refine Ext.drew ?_ | (with_reducible refine Ext.setCell ?_ (by first | exact Nat.le_refl _ | (dsimp only; omega) | (simp; done) | (simp; omega)) _) | with_reducible refine Ext.trans ?_ (by with_reducible assumption)))⟩

set_option maxHeartbeats 1000000 in
set_option maxRecDepth 100000 in
theorem kernel_Fill2 (a b now cap : Int) (w : World) (ha0 : 0 ≤ a) (ha1 : a < 18446744073709551616) (hb0 : 0 ≤ b) (hb1 : b < 18446744073709551616) (hn0 : 0 ≤ now) (hn1 : now < 18446744073709551616) (hc0 : 0 ≤ cap) (hc1 : cap < 18446744073709551616) :
    Calls Tryz.prog 110 #[.agg #[.int .u8 2, .int .u64 a, .int .u64 b], .int .u64 now, .int .u64 cap] w fun e w' => e = .returned (.int .u64 (kFill 2 a b now cap)) ∧ Ext w w' := by
  have L := kern_look2
  have La := kern_look2b
  have Lb := kern_look2c
  have bq := Blk.new w #[.int .u8 2, .int .u64 a, .int .u64 b] 140
  go_enter Tryz.func110, Tryz.ntmps110
  go_wp2_with fail
  have hx0' : Ext w (w.alloc (.cells #[.int .u8 2, .int .u64 a, .int .u64 b] 140)) := (Ext.refl w).alloc _
  generalize w.alloc (.cells #[.int .u8 2, .int .u64 a, .int .u64 b] 140) = w0 at *
  have q1 : w0.cell? ⟨w.heap.size, 1, none⟩ = some (.int .u64 a) := bq.cell 1
  have q2 : w0.cell? ⟨w.heap.size, 2, none⟩ = some (.int .u64 b) := bq.cell 2
  have hlt := bq.lt
  have q0 : w0.cell? ⟨w.heap.size, 0, none⟩ = some (.int .u8 2) := bq.cell 0
  go_region_held3 (fun w' => w'.cell? ⟨w.heap.size, 0, none⟩ = some (.int .u8 2) ∧ Ext w0 w')
    (((try go_split_ands); refine ⟨?_, ?_⟩ <;> first | with_reducible assumption | exact (Ext.refl _).drew | ((repeat (first | with_reducible exact Ext.refl _ | with_reducible assumption | with_reducible refine Ext.alloc ?_ _ | with_reducible refine Ext.drew ?_ | (with_reducible refine Ext.setCell ?_ (by first | exact Nat.le_refl _ | (dsimp only; omega) | (simp; done) | (simp; omega)) _) | with_reducible refine Ext.trans ?_ (by with_reducible assumption))); done) | (refine Ext.keep (w := w0) (by repeat (first | with_reducible exact Ext.refl _ | with_reducible assumption | with_reducible refine Ext.alloc ?_ _ | with_reducible refine Ext.drew ?_ | (with_reducible refine Ext.setCell ?_ (by first | exact Nat.le_refl _ | (dsimp only; omega) | (simp; done) | (simp; omega)) _) | with_reducible refine Ext.trans ?_ (by with_reducible assumption))) ?_; with_reducible assumption)))
    (first
      | (go_at_call 126; (with_reducible refine (kern_call _).mono ?_); rintro e w' ⟨rfl, rfl⟩))
  all_goals
  go_wp2_with (go_at_call 176; (with_reducible refine (bucket_Fill 2 a b now cap _ ha0 ha1 hb0 hb1 hn0 hn1 hc0 hc1).mono ?_); rintro e w1 ⟨rfl, hx⟩)
  go_ret
  exact ⟨rfl, (by repeat (first | with_reducible exact Ext.refl _ | with_reducible assumption | with_reducible refine Ext.alloc ?_ _ | with_reducible refine Ext.drew ?_ | (with_reducible refine Ext.setCell ?_ (by first | exact Nat.le_refl _ | (dsimp only; omega) | (simp; done) | (simp; omega)) _) | with_reducible refine Ext.trans ?_ (by with_reducible assumption)))⟩

set_option maxHeartbeats 1000000 in
set_option maxRecDepth 100000 in
theorem kernel_Fill3 (a b now cap : Int) (w : World) (ha0 : 0 ≤ a) (ha1 : a < 18446744073709551616) (hb0 : 0 ≤ b) (hb1 : b < 18446744073709551616) (hn0 : 0 ≤ now) (hn1 : now < 18446744073709551616) (hc0 : 0 ≤ cap) (hc1 : cap < 18446744073709551616) :
    Calls Tryz.prog 110 #[.agg #[.int .u8 3, .int .u64 a, .int .u64 b], .int .u64 now, .int .u64 cap] w fun e w' => e = .returned (.int .u64 (kFill 3 a b now cap)) ∧ Ext w w' := by
  have L := kern_look3
  have La := kern_look3b
  have Lb := kern_look3c
  have bq := Blk.new w #[.int .u8 3, .int .u64 a, .int .u64 b] 140
  go_enter Tryz.func110, Tryz.ntmps110
  go_wp2_with fail
  have hx0' : Ext w (w.alloc (.cells #[.int .u8 3, .int .u64 a, .int .u64 b] 140)) := (Ext.refl w).alloc _
  generalize w.alloc (.cells #[.int .u8 3, .int .u64 a, .int .u64 b] 140) = w0 at *
  have q1 : w0.cell? ⟨w.heap.size, 1, none⟩ = some (.int .u64 a) := bq.cell 1
  have q2 : w0.cell? ⟨w.heap.size, 2, none⟩ = some (.int .u64 b) := bq.cell 2
  have hlt := bq.lt
  have q0 : w0.cell? ⟨w.heap.size, 0, none⟩ = some (.int .u8 3) := bq.cell 0
  go_region_held3 (fun w' => w'.cell? ⟨w.heap.size, 0, none⟩ = some (.int .u8 3) ∧ Ext w0 w')
    (((try go_split_ands); refine ⟨?_, ?_⟩ <;> first | with_reducible assumption | exact (Ext.refl _).drew | ((repeat (first | with_reducible exact Ext.refl _ | with_reducible assumption | with_reducible refine Ext.alloc ?_ _ | with_reducible refine Ext.drew ?_ | (with_reducible refine Ext.setCell ?_ (by first | exact Nat.le_refl _ | (dsimp only; omega) | (simp; done) | (simp; omega)) _) | with_reducible refine Ext.trans ?_ (by with_reducible assumption))); done) | (refine Ext.keep (w := w0) (by repeat (first | with_reducible exact Ext.refl _ | with_reducible assumption | with_reducible refine Ext.alloc ?_ _ | with_reducible refine Ext.drew ?_ | (with_reducible refine Ext.setCell ?_ (by first | exact Nat.le_refl _ | (dsimp only; omega) | (simp; done) | (simp; omega)) _) | with_reducible refine Ext.trans ?_ (by with_reducible assumption))) ?_; with_reducible assumption)))
    (first
      | (go_at_call 126; (with_reducible refine (kern_call _).mono ?_); rintro e w' ⟨rfl, rfl⟩))
  all_goals
  go_wp2_with (go_at_call 179; (with_reducible refine (leaky_Fill 3 a b now cap _ ha0 ha1 hb0 hb1 hn0 hn1).mono ?_); rintro e w1 ⟨rfl, hx⟩)
  go_ret
  exact ⟨rfl, (by repeat (first | with_reducible exact Ext.refl _ | with_reducible assumption | with_reducible refine Ext.alloc ?_ _ | with_reducible refine Ext.drew ?_ | (with_reducible refine Ext.setCell ?_ (by first | exact Nat.le_refl _ | (dsimp only; omega) | (simp; done) | (simp; omega)) _) | with_reducible refine Ext.trans ?_ (by with_reducible assumption)))⟩

set_option maxHeartbeats 1000000 in
set_option maxRecDepth 100000 in
theorem kernel_Fill0 (k a b now cap : Int) (w : World) (h : ¬ (1 ≤ k ∧ k ≤ 3)) :
    Calls Tryz.prog 110 #[.agg #[.int .u8 k, .int .u64 a, .int .u64 b], .int .u64 now, .int .u64 cap] w fun e w' => e = .returned (.int .u64 0) ∧ Ext w w' := by
  have L := kern_look0 k h
  have La := kern_look0b k h
  have Lb := kern_look0c k h
  have bq := Blk.new w #[.int .u8 k, .int .u64 a, .int .u64 b] 140
  clear h
  go_enter Tryz.func110, Tryz.ntmps110
  go_wp2_with fail
  have hx0' : Ext w (w.alloc (.cells #[.int .u8 k, .int .u64 a, .int .u64 b] 140)) := (Ext.refl w).alloc _
  generalize w.alloc (.cells #[.int .u8 k, .int .u64 a, .int .u64 b] 140) = w0 at *
  have hlt := bq.lt
  have q0 : w0.cell? ⟨w.heap.size, 0, none⟩ = some (.int .u8 k) := bq.cell 0
  go_region_held3 (fun w' => w'.cell? ⟨w.heap.size, 0, none⟩ = some (.int .u8 k) ∧ Ext w0 w')
    (((try go_split_ands); refine ⟨?_, ?_⟩ <;> first | with_reducible assumption | exact (Ext.refl _).drew | ((repeat (first | with_reducible exact Ext.refl _ | with_reducible assumption | with_reducible refine Ext.alloc ?_ _ | with_reducible refine Ext.drew ?_ | (with_reducible refine Ext.setCell ?_ (by first | exact Nat.le_refl _ | (dsimp only; omega) | (simp; done) | (simp; omega)) _) | with_reducible refine Ext.trans ?_ (by with_reducible assumption))); done) | (refine Ext.keep (w := w0) (by repeat (first | with_reducible exact Ext.refl _ | with_reducible assumption | with_reducible refine Ext.alloc ?_ _ | with_reducible refine Ext.drew ?_ | (with_reducible refine Ext.setCell ?_ (by first | exact Nat.le_refl _ | (dsimp only; omega) | (simp; done) | (simp; omega)) _) | with_reducible refine Ext.trans ?_ (by with_reducible assumption))) ?_; with_reducible assumption)))
    (first
      | (go_at_call 126; (with_reducible refine (kern_call _).mono ?_); rintro e w' ⟨rfl, rfl⟩))
  all_goals
  go_wp2
  go_ret
  exact ⟨rfl, (by repeat (first | with_reducible exact Ext.refl _ | with_reducible assumption | with_reducible refine Ext.alloc ?_ _ | with_reducible refine Ext.drew ?_ | (with_reducible refine Ext.setCell ?_ (by first | exact Nat.le_refl _ | (dsimp only; omega) | (simp; done) | (simp; omega)) _) | with_reducible refine Ext.trans ?_ (by with_reducible assumption)))⟩

theorem kernel_Fill (k a b now cap : Int) (w : World) (ha0 : 0 ≤ a) (ha1 : a < 18446744073709551616) (hb0 : 0 ≤ b) (hb1 : b < 18446744073709551616) (hn0 : 0 ≤ now) (hn1 : now < 18446744073709551616) (hc0 : 0 ≤ cap) (hc1 : cap < 18446744073709551616) :
    Calls Tryz.prog 110 #[.agg #[.int .u8 k, .int .u64 a, .int .u64 b], .int .u64 now, .int .u64 cap] w fun e w' => e = .returned (.int .u64 (kFill k a b now cap)) ∧ Ext w w' := by
  by_cases h1 : k = 1
  · subst h1; exact kernel_Fill1 a b now cap w ha0 ha1 hb0 hb1 hn0 hn1 hc0 hc1
  by_cases h2 : k = 2
  · subst h2; exact kernel_Fill2 a b now cap w ha0 ha1 hb0 hb1 hn0 hn1 hc0 hc1
  by_cases h3 : k = 3
  · subst h3; exact kernel_Fill3 a b now cap w ha0 ha1 hb0 hb1 hn0 hn1 hc0 hc1
  have e : kFill k a b now cap = 0 := by unfold kFill; rw [if_neg h1, if_neg h2, if_neg h3]
  rw [e]
  exact kernel_Fill0 k a b now cap w (by omega)
end Go.Proofs.YtknlojlcahgnoaaGreat
