/- Walks: package leaky. -/
import Derived.Test.YtfglpejbgfmojaaGreatG12

/- Walks: package leaky. -/
namespace Go.Proofs.YtfglpejbgfmojaaGreat
open Go.RowKit
set_option linter.unusedVariables false
set_option linter.unusedSimpArgs false

def meterT (a b now : Int) : Int := satSub a (satSub now b)
theorem meter_u (a b now : Int) (ha0 : 0 ≤ a) (ha1 : a < 18446744073709551616) (hb0 : 0 ≤ b) (hn0 : 0 ≤ now) (hn1 : now < 18446744073709551616) : 0 ≤ meterT a b now ∧ meterT a b now ≤ a := by
  have h2 := satSub_u now b hn0 hn1 hb0
  exact satSub_u a (satSub now b) ha0 ha1 h2.1

set_option maxHeartbeats 400000 in
theorem leaky_left (k a b now : Int) (w : World) (ha0 : 0 ≤ a) (ha1 : a < 18446744073709551616) (hb0 : 0 ≤ b) (hb1 : b < 18446744073709551616) (hn0 : 0 ≤ now) (hn1 : now < 18446744073709551616) :
    Calls Tryz.prog 181 #[.agg #[.int .u8 k, .int .u64 a, .int .u64 b], .int .u64 now] w fun e w' => e = .returned (.int .u64 (meterT a b now)) ∧ Ext w w' := by
  have h2 := satSub_u now b hn0 hn1 hb0
  have HT := Lib.hid (show meterT a b now = satSub a (satSub now b) from rfl)
  generalize hs : satSub now b = s at *
  have HS := Lib.hid hs
  obtain ⟨h20, h21⟩ := h2
  clear hs
  go_enter Tryz.func181, Tryz.ntmps181
  go_wp2_with fail
  have bq := Blk.new w #[.int .u8 k, .int .u64 a, .int .u64 b] 222
  have hx0 : Ext w (w.alloc (.cells #[.int .u8 k, .int .u64 a, .int .u64 b] 222)) := (Ext.refl w).alloc _
  generalize w.alloc (.cells #[.int .u8 k, .int .u64 a, .int .u64 b] 222) = w0 at *
  have q1 : w0.cell? ⟨w.heap.size, 1, none⟩ = some (.int .u64 a) := bq.cell 1
  have q2 : w0.cell? ⟨w.heap.size, 2, none⟩ = some (.int .u64 b) := bq.cell 2
  go_region_held3 (fun w' => w'.cell? ⟨w.heap.size, 1, none⟩ = some (.int .u64 a) ∧ w'.cell? ⟨w.heap.size, 2, none⟩ = some (.int .u64 b) ∧ Ext w0 w')
    (((try go_split_ands); refine ⟨?_, ?_, ?_⟩ <;> first | with_reducible assumption | exact (Ext.refl _).drew | ((repeat (first | with_reducible exact Ext.refl _ | with_reducible assumption | with_reducible refine Ext.alloc ?_ _ | with_reducible refine Ext.drew ?_ | (with_reducible refine Ext.setCell ?_ (by first | exact Nat.le_refl _ | (dsimp only; omega) | (simp; done) | (simp; omega)) _) | with_reducible refine Ext.trans ?_ (by with_reducible assumption))); done) | (refine Ext.keep (w := w0) (by repeat (first | with_reducible exact Ext.refl _ | with_reducible assumption | with_reducible refine Ext.alloc ?_ _ | with_reducible refine Ext.drew ?_ | (with_reducible refine Ext.setCell ?_ (by first | exact Nat.le_refl _ | (dsimp only; omega) | (simp; done) | (simp; omega)) _) | with_reducible refine Ext.trans ?_ (by with_reducible assumption))) ?_; with_reducible assumption)))
    (first
      | (go_at_call 96; (with_reducible refine (num_Sub now b _ hn0 hn1 hb0 hb1).mono ?_); rw [HS.out]; rintro e w' ⟨rfl, rfl⟩)
      | (go_at_call 96; (with_reducible refine (num_Sub a s _ ha0 ha1 h20 (by omega)).mono ?_); rw [← HT.out]; rintro e w' ⟨rfl, rfl⟩))
  go_wp2
  go_ret
  exact ⟨rfl, (by repeat (first | with_reducible exact Ext.refl _ | with_reducible assumption | with_reducible refine Ext.alloc ?_ _ | with_reducible refine Ext.drew ?_ | (with_reducible refine Ext.setCell ?_ (by first | exact Nat.le_refl _ | (dsimp only; omega) | (simp; done) | (simp; omega)) _) | with_reducible refine Ext.trans ?_ (by with_reducible assumption)))⟩

theorem leaky_Of (now cap fill : Int) (w : World) :
    Calls Tryz.prog 147 #[.int .u64 now, .int .u64 cap, .int .u64 fill] w fun e w' => e = .returned (stV 3 fill now) ∧ Ext w w' := by
  go_enter Tryz.func147, Tryz.ntmps147
  go_wp2
  exact bodyPost_ret (v := stV 3 fill now) (by simp [results, Tryz.results147, go_sem, stV]) rfl ⟨rfl, (by repeat (first | with_reducible exact Ext.refl _ | with_reducible assumption | with_reducible refine Ext.alloc ?_ _ | with_reducible refine Ext.drew ?_ | (with_reducible refine Ext.setCell ?_ (by first | exact Nat.le_refl _ | (dsimp only; omega) | (simp; done) | (simp; omega)) _) | with_reducible refine Ext.setCell ?_ (by simp; try omega) _ | with_reducible refine Ext.trans ?_ (by with_reducible assumption)))⟩

set_option maxHeartbeats 400000 in
theorem leaky_Fill (k a b now cap : Int) (w : World) (ha0 : 0 ≤ a) (ha1 : a < 18446744073709551616) (hb0 : 0 ≤ b) (hb1 : b < 18446744073709551616) (hn0 : 0 ≤ now) (hn1 : now < 18446744073709551616) :
    Calls Tryz.prog 148 #[.agg #[.int .u8 k, .int .u64 a, .int .u64 b], .int .u64 now, .int .u64 cap] w fun e w' => e = .returned (.int .u64 (meterT a b now)) ∧ Ext w w' := by
  go_enter Tryz.func148, Tryz.ntmps148
  go_wp2_with (go_at_call 181; refine (leaky_left k a b now _ ha0 ha1 hb0 hb1 hn0 hn1).mono ?_; rintro e w1 ⟨rfl, hx⟩)
  go_ret
  exact ⟨rfl, (by repeat (first | with_reducible exact Ext.refl _ | with_reducible assumption | with_reducible refine Ext.alloc ?_ _ | with_reducible refine Ext.drew ?_ | (with_reducible refine Ext.setCell ?_ (by first | exact Nat.le_refl _ | (dsimp only; omega) | (simp; done) | (simp; omega)) _) | with_reducible refine Ext.trans ?_ (by with_reducible assumption)))⟩

set_option maxHeartbeats 1000000 in
theorem leaky_Decide (a b now cap x : Int) (w : World) (ha0 : 0 ≤ a) (ha1 : a < 18446744073709551616) (hb0 : 0 ≤ b) (hb1 : b < 18446744073709551616) (hn0 : 0 ≤ now) (hn1 : now < 18446744073709551616) (hc0 : 0 ≤ cap) (hc1 : cap < 18446744073709551616) (hx0 : 0 ≤ x) (hx1 : x < 18446744073709551616) :
    Calls Tryz.prog 149 #[.agg #[.int .u8 3, .int .u64 a, .int .u64 b], .int .u64 now, .int .u64 cap, .int .u64 x] w fun e w' =>
      e = .returned (stB 3 (kNextA 3 a b now cap x) (kNextB 3 a b now cap x) (kOk 3 a b now cap x)) ∧ Ext w w' := by
  have ht := meter_u a b now ha0 ha1 hb0 hn0 hn1
  have hkk : kOk 3 a b now cap x = fitsB (meterT a b now) x cap := rfl
  have hna : kNextA 3 a b now cap x = if kOk 3 a b now cap x then meterT a b now + x else a := rfl
  have hnb : kNextB 3 a b now cap x = if kOk 3 a b now cap x then now else b := rfl
  generalize htt : meterT a b now = t at *
  have HTT := Lib.hid htt
  clear htt
  obtain ⟨ht0, ht1⟩ := ht
  cases hk : fitsB t x cap
  · rw [hk] at hkk
    rw [hkk] at hna hnb
    have HR := Lib.hid (show stB 3 (kNextA 3 a b now cap x) (kNextB 3 a b now cap x) (kOk 3 a b now cap x) = .tuple #[.agg #[.int .u8 3, .int .u64 a, .int .u64 b], .bool false] by rw [hna, hnb, hkk]; simp [stB, stV])
    have HK := Lib.hid hk
    clear hkk hna hnb hk
    go_enter Tryz.func149, Tryz.ntmps149
    go_wp2_with fail
    refine (leaky_Fill 3 a b now cap _ ha0 ha1 hb0 hb1 hn0 hn1).mono ?_
    rw [HTT.out]
    rintro e w1 ⟨rfl, hx⟩
    have hB := (Blk.new' (w.alloc (.cells #[.int .u8 3, .int .u64 a, .int .u64 b] 63)) #[.int .u8 0, .int .u64 0, .int .u64 0] 63 (b := w.heap.size + 1) (by simp)).ext hx
    have hQ := ((Blk.new w #[.int .u8 3, .int .u64 a, .int .u64 b] 63).alloc (.cells #[.int .u8 0, .int .u64 0, .int .u64 0] 63)).ext hx
    have hf := hB.free
    have hc := hB.cell
    have hq := hQ.cell
    have hl := hB.lt
    have hx' := (((Ext.refl w).alloc _).alloc _).trans hx
    go_wp2_with (go_at_call 107; (with_reducible refine (num_Fits t x cap _ ht0 (by omega) hx0 hx1 hc0 hc1).mono ?_); rw [HK.out]; rintro e w' ⟨rfl, rfl⟩)
    have hS := ((hB.set 0 (.int .u8 3)).set 1 (.int .u64 a)).set 2 (.int .u64 b)
    refine ret_cell_tmp Tryz.results149 rfl rfl hS Tryz.underlying63 rfl (by kernel_rfl) ⟨?_, ?_⟩
    · rw [HR.out]; rfl
    · exact ((hx'.set (by omega) _ _).set (by omega) _ _).set (by omega) _ _
  · rw [hk] at hkk
    rw [hkk] at hna hnb
    have HR := Lib.hid (show stB 3 (kNextA 3 a b now cap x) (kNextB 3 a b now cap x) (kOk 3 a b now cap x) = .tuple #[.agg #[.int .u8 3, .int .u64 (t + x), .int .u64 now], .bool true] by rw [hna, hnb, hkk]; simp [stB, stV])
    have hle : t + x ≤ cap := by simpa [fitsB] using hk
    have HK := Lib.hid hk
    clear hkk hna hnb hk
    go_enter Tryz.func149, Tryz.ntmps149
    go_wp2_with fail
    refine (leaky_Fill 3 a b now cap _ ha0 ha1 hb0 hb1 hn0 hn1).mono ?_
    rw [HTT.out]
    rintro e w1 ⟨rfl, hx⟩
    have hB := (Blk.new' (w.alloc (.cells #[.int .u8 3, .int .u64 a, .int .u64 b] 63)) #[.int .u8 0, .int .u64 0, .int .u64 0] 63 (b := w.heap.size + 1) (by simp)).ext hx
    have hx' := (((Ext.refl w).alloc _).alloc _).trans hx
    go_wp2_with (go_at_call 107; (with_reducible refine (num_Fits t x cap _ ht0 (by omega) hx0 hx1 hc0 hc1).mono ?_); rw [HK.out]; rintro e w' ⟨rfl, rfl⟩)
    refine (leaky_Of _ _ _ _).mono ?_
    rintro e w2 ⟨rfl, hx2⟩
    have hB2 := hB.ext hx2
    have hf := hB2.free
    have hc := hB2.cell
    have hl := hB2.lt
    simp only [stV]
    go_wp2
    have hS := ((hB2.set 0 (.int .u8 3)).set 1 (.int .u64 (t + x))).set 2 (.int .u64 now)
    refine ret_cell_tmp Tryz.results149 rfl rfl hS Tryz.underlying63 rfl (by kernel_rfl) ⟨?_, ?_⟩
    · rw [HR.out]; rfl
    · exact (((hx'.trans hx2).set (by omega) _ _).set (by omega) _ _).set (by omega) _ _
end Go.Proofs.YtfglpejbgfmojaaGreat
