/- Walks: packages bucket and leaky. Walks: package leaky. Walks: package kernel. Walks: kernel.Decide, kernel.Of. Walks: kernel.Wait, Left, Until, Migrate. -/
import Derived.Deep.RegionHeld3
import Derived.Test.YtknlojlcahgnoaaG12

/- Walks: packages bucket and leaky. -/
namespace Go.Proofs.Ytknlojlcahgnoaa
open Go.RowKit
set_option linter.unusedVariables false
set_option linter.unusedSimpArgs false

/-- how many tokens there are -/
def tokens (a b now cap : Int) : Int := min (satAdd a (satSub now b)) cap
theorem tokens_u (a b now cap : Int) (ha0 : 0 ≤ a) (ha1 : a < 18446744073709551616) (hb0 : 0 ≤ b) (hb1 : b < 18446744073709551616) (hn0 : 0 ≤ now) (hn1 : now < 18446744073709551616) (hc0 : 0 ≤ cap) (hc1 : cap < 18446744073709551616) : 0 ≤ tokens a b now cap ∧ tokens a b now cap ≤ cap := by
  have h2 := satSub_u now b hn0 hn1 hb0
  have h3 := satAdd_u a (satSub now b) ha0 h2.1
  unfold tokens
  omega

def FilledW (w : World) (cap : Int) (e : Ending) (w' : World) : Prop := e = .returned (.func (.func 104) #[] #[.pointer (some ⟨w.heap.size, 0, none⟩)]) ∧ w' = w.alloc (.cells #[.int .u64 cap] 30)
theorem bucket_filled (cap : Int) (w : World) : Calls Try.prog 100 #[.int .u64 cap] w fun e w' => FilledW w cap e w' := by
  go_enter Try.func100, Try.ntmps100
  go_wp2
  go_ret
  exact ⟨rfl, rfl⟩

set_option maxHeartbeats 400000 in
theorem bucket_filled1 (B : Nat) (k a b now cap : Int) (w : World) (ha0 : 0 ≤ a) (ha1 : a < 18446744073709551616) (hb0 : 0 ≤ b) (hb1 : b < 18446744073709551616) (hn0 : 0 ≤ now) (hn1 : now < 18446744073709551616) (hc0 : 0 ≤ cap) (hc1 : cap < 18446744073709551616)
    (hc : w.cell? ⟨B, 0, none⟩ = some (.int .u64 cap)) :
    Calls Try.prog 104 #[.agg #[.int .u8 k, .int .u64 a, .int .u64 b], .int .u64 now, .pointer (some ⟨B, 0, none⟩)] w fun e w' => e = .returned (.int .u64 (tokens a b now cap)) ∧ Ext w w' := by
  have h2 := satSub_u now b hn0 hn1 hb0
  have h3 := satAdd_u a (satSub now b) ha0 h2.1
  have HT := Lib.hid (show tokens a b now cap = min (satAdd a (satSub now b)) cap from rfl)
  generalize hs : satSub now b = s at *
  generalize hp : satAdd a s = p at *
  have HS := Lib.hid hs
  have HP := Lib.hid hp
  obtain ⟨h20, h21⟩ := h2
  obtain ⟨h30, h31⟩ := h3
  have hlt := cell_lt hc
  clear hs hp
  go_enter Try.func104, Try.ntmps104
  go_wp2_with fail
  have q1 : (w.alloc (.cells #[.int .u8 k, .int .u64 a, .int .u64 b] 151)).cell? ⟨w.heap.size, 1, none⟩ = some (.int .u64 a) := (Blk.new w _ _).cell 1
  have q2 : (w.alloc (.cells #[.int .u8 k, .int .u64 a, .int .u64 b] 151)).cell? ⟨w.heap.size, 2, none⟩ = some (.int .u64 b) := (Blk.new w _ _).cell 2
  have q3 : (w.alloc (.cells #[.int .u8 k, .int .u64 a, .int .u64 b] 151)).cell? ⟨B, 0, none⟩ = some (.int .u64 cap) := ((Ext.refl w).alloc _).keep hc
  have hx0 : Ext w (w.alloc (.cells #[.int .u8 k, .int .u64 a, .int .u64 b] 151)) := (Ext.refl w).alloc _
  clear hc hlt
  generalize w.alloc (.cells #[.int .u8 k, .int .u64 a, .int .u64 b] 151) = w0 at *
  go_region_held3 (fun w' => w'.cell? ⟨w.heap.size, 1, none⟩ = some (.int .u64 a) ∧ w'.cell? ⟨w.heap.size, 2, none⟩ = some (.int .u64 b) ∧ w'.cell? ⟨B, 0, none⟩ = some (.int .u64 cap) ∧ Ext w0 w')
    (((try go_split_ands); refine ⟨?_, ?_, ?_, ?_⟩ <;> first | with_reducible assumption | exact (Ext.refl _).drew | ((repeat (first | with_reducible exact Ext.refl _ | with_reducible assumption | with_reducible refine Ext.alloc ?_ _ | with_reducible refine Ext.drew ?_ | (with_reducible refine Ext.setCell ?_ (by first | exact Nat.le_refl _ | (dsimp only; omega) | (simp; done) | (simp; omega)) _) | with_reducible refine Ext.trans ?_ (by with_reducible assumption))); done) | (refine Ext.keep (w := w0) (by repeat (first | with_reducible exact Ext.refl _ | with_reducible assumption | with_reducible refine Ext.alloc ?_ _ | with_reducible refine Ext.drew ?_ | (with_reducible refine Ext.setCell ?_ (by first | exact Nat.le_refl _ | (dsimp only; omega) | (simp; done) | (simp; omega)) _) | with_reducible refine Ext.trans ?_ (by with_reducible assumption))) ?_; with_reducible assumption)))
    (first
      | (go_at_call 98; (with_reducible refine (num_Sub _ _ _ hn0 hn1 hb0 hb1).mono ?_); rw [HS.out]; rintro e w' ⟨rfl, rfl⟩)
      | (go_at_call 97; (with_reducible refine (num_Add _ a s _ ha0 ha1 h20 (by omega) ?_ ?_).mono ?_); exact Eq.trans (Blk.cell (Blk.drew (Blk.new' _ _ _ rfl)) 0) rfl; exact Eq.trans (Blk.cell (Blk.drew (Blk.new' _ _ _ rfl)) 1) rfl; rw [HP.out]; rintro e w' ⟨rfl, rfl⟩))
  go_wp2
  all_goals
    go_ret
    exact ⟨ret_int (by rw [HT.out]; omega), (by repeat (first | with_reducible exact Ext.refl _ | with_reducible assumption | with_reducible refine Ext.alloc ?_ _ | with_reducible refine Ext.drew ?_ | (with_reducible refine Ext.setCell ?_ (by first | exact Nat.le_refl _ | (dsimp only; omega) | (simp; done) | (simp; omega)) _) | with_reducible refine Ext.trans ?_ (by with_reducible assumption)))⟩

theorem bucket_Of (now cap fill : Int) (w : World) (hc0 : 0 ≤ cap) (hc1 : cap < 18446744073709551616) (hf0 : 0 ≤ fill) (hf1 : fill < 18446744073709551616) :
    Calls Try.prog 88 #[.int .u64 now, .int .u64 cap, .int .u64 fill] w fun e w' => e = .returned (stV 2 (satSub cap fill) now) ∧ Ext w w' := by
  go_enter Try.func88, Try.ntmps88
  go_wp2_with (go_at_call 98; refine (num_Sub _ _ _ hc0 hc1 hf0 hf1).mono ?_; rintro e w' ⟨rfl, rfl⟩)
  exact bodyPost_ret (v := stV 2 (satSub cap fill) now) (by simp [results, Try.results88, go_sem, stV]) rfl ⟨rfl, (by repeat (first | with_reducible exact Ext.refl _ | with_reducible assumption | with_reducible refine Ext.alloc ?_ _ | with_reducible refine Ext.drew ?_ | (with_reducible refine Ext.setCell ?_ (by first | exact Nat.le_refl _ | (dsimp only; omega) | (simp; done) | (simp; omega)) _) | with_reducible refine Ext.setCell ?_ (by simp; try omega) _ | with_reducible refine Ext.trans ?_ (by with_reducible assumption)))⟩

set_option maxHeartbeats 400000 in
theorem bucket_Fill (k a b now cap : Int) (w : World) (ha0 : 0 ≤ a) (ha1 : a < 18446744073709551616) (hb0 : 0 ≤ b) (hb1 : b < 18446744073709551616) (hn0 : 0 ≤ now) (hn1 : now < 18446744073709551616) (hc0 : 0 ≤ cap) (hc1 : cap < 18446744073709551616) :
    Calls Try.prog 89 #[.agg #[.int .u8 k, .int .u64 a, .int .u64 b], .int .u64 now, .int .u64 cap] w fun e w' => e = .returned (.int .u64 (cap - tokens a b now cap)) ∧ Ext w w' := by
  have ht := tokens_u a b now cap ha0 ha1 hb0 hb1 hn0 hn1 hc0 hc1
  obtain ⟨ht0, ht1⟩ := ht
  go_enter Try.func89, Try.ntmps89
  go_wp2_with fail
  have bq := Blk.new w #[.int .u8 k, .int .u64 a, .int .u64 b] 151
  have hx0 : Ext w (w.alloc (.cells #[.int .u8 k, .int .u64 a, .int .u64 b] 151)) := (Ext.refl w).alloc _
  generalize w.alloc (.cells #[.int .u8 k, .int .u64 a, .int .u64 b] 151) = w0 at *
  have q0 : w0.cell? ⟨w.heap.size, 0, none⟩ = some (.int .u8 k) := bq.cell 0
  have q1 : w0.cell? ⟨w.heap.size, 1, none⟩ = some (.int .u64 a) := bq.cell 1
  have q2 : w0.cell? ⟨w.heap.size, 2, none⟩ = some (.int .u64 b) := bq.cell 2
  go_region_held3 (fun w' => w'.cell? ⟨w.heap.size, 0, none⟩ = some (.int .u8 k) ∧ w'.cell? ⟨w.heap.size, 1, none⟩ = some (.int .u64 a) ∧ w'.cell? ⟨w.heap.size, 2, none⟩ = some (.int .u64 b) ∧ Ext w0 w')
    (((try go_split_ands); refine ⟨?_, ?_, ?_, ?_⟩ <;> first | with_reducible assumption | exact (Ext.refl _).drew | ((repeat (first | with_reducible exact Ext.refl _ | with_reducible assumption | with_reducible refine Ext.alloc ?_ _ | with_reducible refine Ext.drew ?_ | (with_reducible refine Ext.setCell ?_ (by first | exact Nat.le_refl _ | (dsimp only; omega) | (simp; done) | (simp; omega)) _) | with_reducible refine Ext.trans ?_ (by with_reducible assumption))); done) | (refine Ext.keep (w := w0) (by repeat (first | with_reducible exact Ext.refl _ | with_reducible assumption | with_reducible refine Ext.alloc ?_ _ | with_reducible refine Ext.drew ?_ | (with_reducible refine Ext.setCell ?_ (by first | exact Nat.le_refl _ | (dsimp only; omega) | (simp; done) | (simp; omega)) _) | with_reducible refine Ext.trans ?_ (by with_reducible assumption))) ?_; with_reducible assumption)))
    (first
      | (go_at_call 100; (with_reducible refine (bucket_filled _ _).mono ?_); rintro e w' ⟨rfl, rfl⟩)
      | (go_at_call 104; (with_reducible refine (bucket_filled1 _ k a b now cap _ ha0 ha1 hb0 hb1 hn0 hn1 hc0 hc1 ?_).mono ?_); exact Eq.trans (Blk.cell (Blk.drew (Blk.new' _ _ _ rfl)) 0) rfl; rintro e w1 ⟨rfl, hx⟩))
  go_wp2
  go_ret
  exact ⟨ret_int (wraps_u64 _ (by omega) (by omega)), (by repeat (first | with_reducible exact Ext.refl _ | with_reducible assumption | with_reducible refine Ext.alloc ?_ _ | with_reducible refine Ext.drew ?_ | (with_reducible refine Ext.setCell ?_ (by first | exact Nat.le_refl _ | (dsimp only; omega) | (simp; done) | (simp; omega)) _) | with_reducible refine Ext.trans ?_ (by with_reducible assumption)))⟩

set_option maxHeartbeats 1000000 in
theorem bucket_Decide (a b now cap x : Int) (w : World) (ha0 : 0 ≤ a) (ha1 : a < 18446744073709551616) (hb0 : 0 ≤ b) (hb1 : b < 18446744073709551616) (hn0 : 0 ≤ now) (hn1 : now < 18446744073709551616) (hc0 : 0 ≤ cap) (hc1 : cap < 18446744073709551616) (hx0 : 0 ≤ x) (hx1 : x < 18446744073709551616) :
    Calls Try.prog 90 #[.agg #[.int .u8 2, .int .u64 a, .int .u64 b], .int .u64 now, .int .u64 cap, .int .u64 x] w fun e w' =>
      e = .returned (stB 2 (kNextA 2 a b now cap x) (kNextB 2 a b now cap x) (kOk 2 a b now cap x)) ∧ Ext w w' := by
  have ht := tokens_u a b now cap ha0 ha1 hb0 hb1 hn0 hn1 hc0 hc1
  have hkk : kOk 2 a b now cap x = decide (x ≤ tokens a b now cap) := rfl
  have hna : kNextA 2 a b now cap x = if kOk 2 a b now cap x then tokens a b now cap - x else a := rfl
  have hnb : kNextB 2 a b now cap x = if kOk 2 a b now cap x then now else b := rfl
  generalize htt : tokens a b now cap = t at *
  have HTT := Lib.hid htt
  clear htt
  obtain ⟨ht0, ht1⟩ := ht
  by_cases h : x ≤ t
  · rw [hkk] at hna hnb
    have HR := Lib.hid (show stB 2 (kNextA 2 a b now cap x) (kNextB 2 a b now cap x) (kOk 2 a b now cap x) = .tuple #[.agg #[.int .u8 2, .int .u64 (t - x), .int .u64 now], .bool true] by rw [hna, hnb, hkk]; simp [h, stB, stV])
    clear hkk hna hnb
    have h' : ¬ t < x := by omega
    go_enter Try.func90, Try.ntmps90
    go_wp2_with fail
    have bq := Blk.new w #[.int .u8 2, .int .u64 a, .int .u64 b] 151
    have hx0 : Ext w (w.alloc (.cells #[.int .u8 2, .int .u64 a, .int .u64 b] 151)) := (Ext.refl w).alloc _
    have bs := Blk.new (w.alloc (.cells #[.int .u8 2, .int .u64 a, .int .u64 b] 151)) #[.int .u8 0, .int .u64 0, .int .u64 0] 151
    have bq' := bq.alloc (.cells #[.int .u8 0, .int .u64 0, .int .u64 0] 151)
    have hx00 := hx0.alloc (.cells #[.int .u8 0, .int .u64 0, .int .u64 0] 151)
    have hsz : (w.alloc (.cells #[.int .u8 2, .int .u64 a, .int .u64 b] 151)).heap.size = w.heap.size + 1 := by simp
    rw [hsz] at bs
    clear bq hx0 hsz
    generalize (w.alloc (.cells #[.int .u8 2, .int .u64 a, .int .u64 b] 151)).alloc (.cells #[.int .u8 0, .int .u64 0, .int .u64 0] 151) = w0 at *
    have q0 : w0.cell? ⟨w.heap.size, 0, none⟩ = some (.int .u8 2) := bq'.cell 0
    have q1 : w0.cell? ⟨w.heap.size, 1, none⟩ = some (.int .u64 a) := bq'.cell 1
    have q2 : w0.cell? ⟨w.heap.size, 2, none⟩ = some (.int .u64 b) := bq'.cell 2
    go_region_held3 (fun w' => w'.cell? ⟨w.heap.size, 0, none⟩ = some (.int .u8 2) ∧ w'.cell? ⟨w.heap.size, 1, none⟩ = some (.int .u64 a) ∧ w'.cell? ⟨w.heap.size, 2, none⟩ = some (.int .u64 b) ∧ Ext w0 w')
      (((try go_split_ands); refine ⟨?_, ?_, ?_, ?_⟩ <;> first | with_reducible assumption | exact (Ext.refl _).drew | ((repeat (first | with_reducible exact Ext.refl _ | with_reducible assumption | with_reducible refine Ext.alloc ?_ _ | with_reducible refine Ext.drew ?_ | (with_reducible refine Ext.setCell ?_ (by first | exact Nat.le_refl _ | (dsimp only; omega) | (simp; done) | (simp; omega)) _) | with_reducible refine Ext.trans ?_ (by with_reducible assumption))); done) | (refine Ext.keep (w := w0) (by repeat (first | with_reducible exact Ext.refl _ | with_reducible assumption | with_reducible refine Ext.alloc ?_ _ | with_reducible refine Ext.drew ?_ | (with_reducible refine Ext.setCell ?_ (by first | exact Nat.le_refl _ | (dsimp only; omega) | (simp; done) | (simp; omega)) _) | with_reducible refine Ext.trans ?_ (by with_reducible assumption))) ?_; with_reducible assumption)))
      (first
        | (go_at_call 100; (with_reducible refine (bucket_filled _ _).mono ?_); rintro e w' ⟨rfl, rfl⟩)
        | (go_at_call 104; (with_reducible refine (bucket_filled1 _ 2 a b now cap _ ha0 ha1 hb0 hb1 hn0 hn1 hc0 hc1 ?_).mono ?_); exact Eq.trans (Blk.cell (Blk.drew (Blk.new' _ _ _ rfl)) 0) rfl; rw [HTT.out]; rintro e w1 ⟨rfl, hx⟩))
    have hB := (bs.alloc (.cells #[.int .u64 cap] 30)).drew.ext hx
    have hQ := (bq'.alloc (.cells #[.int .u64 cap] 30)).drew.ext hx
    have hf := hB.free
    have hc := hB.cell
    have hq := hQ.cell
    have hl := hB.lt
    have hx' := ((hx00.alloc _).drew).trans hx
    go_wp2
    have hS := ((hB.set 0 (.int .u8 2)).set 1 (.int .u64 (t - x))).set 2 (.int .u64 now)
    refine ret_cell_tmp Try.results90 rfl rfl hS Try.underlying151 rfl (by kernel_rfl) ⟨?_, ?_⟩
    · rw [HR.out]; rfl
    · exact ((hx'.set (by omega) _ _).set (by omega) _ _).set (by omega) _ _
  · rw [hkk] at hna hnb
    have HR := Lib.hid (show stB 2 (kNextA 2 a b now cap x) (kNextB 2 a b now cap x) (kOk 2 a b now cap x) = .tuple #[.agg #[.int .u8 2, .int .u64 a, .int .u64 b], .bool false] by rw [hna, hnb, hkk]; simp [h, stB, stV])
    clear hkk hna hnb
    have h' : t < x := by omega
    go_enter Try.func90, Try.ntmps90
    go_wp2_with fail
    have bq := Blk.new w #[.int .u8 2, .int .u64 a, .int .u64 b] 151
    have hx0 : Ext w (w.alloc (.cells #[.int .u8 2, .int .u64 a, .int .u64 b] 151)) := (Ext.refl w).alloc _
    have bs := Blk.new (w.alloc (.cells #[.int .u8 2, .int .u64 a, .int .u64 b] 151)) #[.int .u8 0, .int .u64 0, .int .u64 0] 151
    have bq' := bq.alloc (.cells #[.int .u8 0, .int .u64 0, .int .u64 0] 151)
    have hx00 := hx0.alloc (.cells #[.int .u8 0, .int .u64 0, .int .u64 0] 151)
    have hsz : (w.alloc (.cells #[.int .u8 2, .int .u64 a, .int .u64 b] 151)).heap.size = w.heap.size + 1 := by simp
    rw [hsz] at bs
    clear bq hx0 hsz
    generalize (w.alloc (.cells #[.int .u8 2, .int .u64 a, .int .u64 b] 151)).alloc (.cells #[.int .u8 0, .int .u64 0, .int .u64 0] 151) = w0 at *
    have q0 : w0.cell? ⟨w.heap.size, 0, none⟩ = some (.int .u8 2) := bq'.cell 0
    have q1 : w0.cell? ⟨w.heap.size, 1, none⟩ = some (.int .u64 a) := bq'.cell 1
    have q2 : w0.cell? ⟨w.heap.size, 2, none⟩ = some (.int .u64 b) := bq'.cell 2
    go_region_held3 (fun w' => w'.cell? ⟨w.heap.size, 0, none⟩ = some (.int .u8 2) ∧ w'.cell? ⟨w.heap.size, 1, none⟩ = some (.int .u64 a) ∧ w'.cell? ⟨w.heap.size, 2, none⟩ = some (.int .u64 b) ∧ Ext w0 w')
      (((try go_split_ands); refine ⟨?_, ?_, ?_, ?_⟩ <;> first | with_reducible assumption | exact (Ext.refl _).drew | ((repeat (first | with_reducible exact Ext.refl _ | with_reducible assumption | with_reducible refine Ext.alloc ?_ _ | with_reducible refine Ext.drew ?_ | (with_reducible refine Ext.setCell ?_ (by first | exact Nat.le_refl _ | (dsimp only; omega) | (simp; done) | (simp; omega)) _) | with_reducible refine Ext.trans ?_ (by with_reducible assumption))); done) | (refine Ext.keep (w := w0) (by repeat (first | with_reducible exact Ext.refl _ | with_reducible assumption | with_reducible refine Ext.alloc ?_ _ | with_reducible refine Ext.drew ?_ | (with_reducible refine Ext.setCell ?_ (by first | exact Nat.le_refl _ | (dsimp only; omega) | (simp; done) | (simp; omega)) _) | with_reducible refine Ext.trans ?_ (by with_reducible assumption))) ?_; with_reducible assumption)))
      (first
        | (go_at_call 100; (with_reducible refine (bucket_filled _ _).mono ?_); rintro e w' ⟨rfl, rfl⟩)
        | (go_at_call 104; (with_reducible refine (bucket_filled1 _ 2 a b now cap _ ha0 ha1 hb0 hb1 hn0 hn1 hc0 hc1 ?_).mono ?_); exact Eq.trans (Blk.cell (Blk.drew (Blk.new' _ _ _ rfl)) 0) rfl; rw [HTT.out]; rintro e w1 ⟨rfl, hx⟩))
    have hB := (bs.alloc (.cells #[.int .u64 cap] 30)).drew.ext hx
    have hQ := (bq'.alloc (.cells #[.int .u64 cap] 30)).drew.ext hx
    have hf := hB.free
    have hc := hB.cell
    have hq := hQ.cell
    have hl := hB.lt
    have hx' := ((hx00.alloc _).drew).trans hx
    go_wp2
    have hS := ((hB.set 0 (.int .u8 2)).set 1 (.int .u64 (a))).set 2 (.int .u64 b)
    refine ret_cell_tmp Try.results90 rfl rfl hS Try.underlying151 rfl (by kernel_rfl) ⟨?_, ?_⟩
    · rw [HR.out]; rfl
    · exact ((hx'.set (by omega) _ _).set (by omega) _ _).set (by omega) _ _
end Go.Proofs.Ytknlojlcahgnoaa

/- Walks: package leaky. -/
namespace Go.Proofs.Ytknlojlcahgnoaa
open Go.RowKit
set_option linter.unusedVariables false
set_option linter.unusedSimpArgs false

def meterT (a b now : Int) : Int := satSub a (satSub now b)
theorem meter_u (a b now : Int) (ha0 : 0 ≤ a) (ha1 : a < 18446744073709551616) (hb0 : 0 ≤ b) (hn0 : 0 ≤ now) (hn1 : now < 18446744073709551616) : 0 ≤ meterT a b now ∧ meterT a b now ≤ a := by
  have h2 := satSub_u now b hn0 hn1 hb0
  exact satSub_u a (satSub now b) ha0 ha1 h2.1

set_option maxHeartbeats 400000 in
theorem leaky_left (k a b now : Int) (w : World) (ha0 : 0 ≤ a) (ha1 : a < 18446744073709551616) (hb0 : 0 ≤ b) (hb1 : b < 18446744073709551616) (hn0 : 0 ≤ now) (hn1 : now < 18446744073709551616) :
    Calls Try.prog 101 #[.agg #[.int .u8 k, .int .u64 a, .int .u64 b], .int .u64 now] w fun e w' => e = .returned (.int .u64 (meterT a b now)) ∧ Ext w w' := by
  have h2 := satSub_u now b hn0 hn1 hb0
  have HT := Lib.hid (show meterT a b now = satSub a (satSub now b) from rfl)
  generalize hs : satSub now b = s at *
  have HS := Lib.hid hs
  obtain ⟨h20, h21⟩ := h2
  clear hs
  go_enter Try.func101, Try.ntmps101
  go_wp2_with fail
  have bq := Blk.new w #[.int .u8 k, .int .u64 a, .int .u64 b] 158
  have hx0 : Ext w (w.alloc (.cells #[.int .u8 k, .int .u64 a, .int .u64 b] 158)) := (Ext.refl w).alloc _
  generalize w.alloc (.cells #[.int .u8 k, .int .u64 a, .int .u64 b] 158) = w0 at *
  have q1 : w0.cell? ⟨w.heap.size, 1, none⟩ = some (.int .u64 a) := bq.cell 1
  have q2 : w0.cell? ⟨w.heap.size, 2, none⟩ = some (.int .u64 b) := bq.cell 2
  go_region_held3 (fun w' => w'.cell? ⟨w.heap.size, 1, none⟩ = some (.int .u64 a) ∧ w'.cell? ⟨w.heap.size, 2, none⟩ = some (.int .u64 b) ∧ Ext w0 w')
    (((try go_split_ands); refine ⟨?_, ?_, ?_⟩ <;> first | with_reducible assumption | exact (Ext.refl _).drew | ((repeat (first | with_reducible exact Ext.refl _ | with_reducible assumption | with_reducible refine Ext.alloc ?_ _ | with_reducible refine Ext.drew ?_ | (with_reducible refine Ext.setCell ?_ (by first | exact Nat.le_refl _ | (dsimp only; omega) | (simp; done) | (simp; omega)) _) | with_reducible refine Ext.trans ?_ (by with_reducible assumption))); done) | (refine Ext.keep (w := w0) (by repeat (first | with_reducible exact Ext.refl _ | with_reducible assumption | with_reducible refine Ext.alloc ?_ _ | with_reducible refine Ext.drew ?_ | (with_reducible refine Ext.setCell ?_ (by first | exact Nat.le_refl _ | (dsimp only; omega) | (simp; done) | (simp; omega)) _) | with_reducible refine Ext.trans ?_ (by with_reducible assumption))) ?_; with_reducible assumption)))
    (first
      | (go_at_call 98; (with_reducible refine (num_Sub now b _ hn0 hn1 hb0 hb1).mono ?_); rw [HS.out]; rintro e w' ⟨rfl, rfl⟩)
      | (go_at_call 98; (with_reducible refine (num_Sub a s _ ha0 ha1 h20 (by omega)).mono ?_); rw [← HT.out]; rintro e w' ⟨rfl, rfl⟩))
  go_wp2
  go_ret
  exact ⟨rfl, (by repeat (first | with_reducible exact Ext.refl _ | with_reducible assumption | with_reducible refine Ext.alloc ?_ _ | with_reducible refine Ext.drew ?_ | (with_reducible refine Ext.setCell ?_ (by first | exact Nat.le_refl _ | (dsimp only; omega) | (simp; done) | (simp; omega)) _) | with_reducible refine Ext.trans ?_ (by with_reducible assumption)))⟩

theorem leaky_Of (now cap fill : Int) (w : World) :
    Calls Try.prog 91 #[.int .u64 now, .int .u64 cap, .int .u64 fill] w fun e w' => e = .returned (stV 3 fill now) ∧ Ext w w' := by
  go_enter Try.func91, Try.ntmps91
  go_wp2
  exact bodyPost_ret (v := stV 3 fill now) (by simp [results, Try.results91, go_sem, stV]) rfl ⟨rfl, (by repeat (first | with_reducible exact Ext.refl _ | with_reducible assumption | with_reducible refine Ext.alloc ?_ _ | with_reducible refine Ext.drew ?_ | (with_reducible refine Ext.setCell ?_ (by first | exact Nat.le_refl _ | (dsimp only; omega) | (simp; done) | (simp; omega)) _) | with_reducible refine Ext.setCell ?_ (by simp; try omega) _ | with_reducible refine Ext.trans ?_ (by with_reducible assumption)))⟩

set_option maxHeartbeats 400000 in
theorem leaky_Fill (k a b now cap : Int) (w : World) (ha0 : 0 ≤ a) (ha1 : a < 18446744073709551616) (hb0 : 0 ≤ b) (hb1 : b < 18446744073709551616) (hn0 : 0 ≤ now) (hn1 : now < 18446744073709551616) :
    Calls Try.prog 92 #[.agg #[.int .u8 k, .int .u64 a, .int .u64 b], .int .u64 now, .int .u64 cap] w fun e w' => e = .returned (.int .u64 (meterT a b now)) ∧ Ext w w' := by
  go_enter Try.func92, Try.ntmps92
  go_wp2_with (go_at_call 101; refine (leaky_left k a b now _ ha0 ha1 hb0 hb1 hn0 hn1).mono ?_; rintro e w1 ⟨rfl, hx⟩)
  go_ret
  exact ⟨rfl, (by repeat (first | with_reducible exact Ext.refl _ | with_reducible assumption | with_reducible refine Ext.alloc ?_ _ | with_reducible refine Ext.drew ?_ | (with_reducible refine Ext.setCell ?_ (by first | exact Nat.le_refl _ | (dsimp only; omega) | (simp; done) | (simp; omega)) _) | with_reducible refine Ext.trans ?_ (by with_reducible assumption)))⟩

set_option maxHeartbeats 1000000 in
theorem leaky_Decide (a b now cap x : Int) (w : World) (ha0 : 0 ≤ a) (ha1 : a < 18446744073709551616) (hb0 : 0 ≤ b) (hb1 : b < 18446744073709551616) (hn0 : 0 ≤ now) (hn1 : now < 18446744073709551616) (hc0 : 0 ≤ cap) (hc1 : cap < 18446744073709551616) (hx0 : 0 ≤ x) (hx1 : x < 18446744073709551616) :
    Calls Try.prog 93 #[.agg #[.int .u8 3, .int .u64 a, .int .u64 b], .int .u64 now, .int .u64 cap, .int .u64 x] w fun e w' =>
      e = .returned (stB 3 (kNextA 3 a b now cap x) (kNextB 3 a b now cap x) (kOk 3 a b now cap x)) ∧ Ext w w' := by
  have ht := meter_u a b now ha0 ha1 hb0 hn0 hn1
  have hkk : kOk 3 a b now cap x = fitsB (meterT a b now) x cap := rfl
  have hna : kNextA 3 a b now cap x = if kOk 3 a b now cap x then meterT a b now + x else a := rfl
  have hnb : kNextB 3 a b now cap x = if kOk 3 a b now cap x then now else b := rfl
  generalize htt : meterT a b now = t at *
  have HTT := Lib.hid htt
  clear htt
  obtain ⟨ht0, ht1⟩ := ht
  cases hk : fitsB t x cap
  · rw [hk] at hkk
    rw [hkk] at hna hnb
    have HR := Lib.hid (show stB 3 (kNextA 3 a b now cap x) (kNextB 3 a b now cap x) (kOk 3 a b now cap x) = .tuple #[.agg #[.int .u8 3, .int .u64 a, .int .u64 b], .bool false] by rw [hna, hnb, hkk]; simp [stB, stV])
    have HK := Lib.hid hk
    clear hkk hna hnb hk
    go_enter Try.func93, Try.ntmps93
    go_wp2_with fail
    refine (leaky_Fill 3 a b now cap _ ha0 ha1 hb0 hb1 hn0 hn1).mono ?_
    rw [HTT.out]
    rintro e w1 ⟨rfl, hx⟩
    have hB := (Blk.new' (w.alloc (.cells #[.int .u8 3, .int .u64 a, .int .u64 b] 151)) #[.int .u8 0, .int .u64 0, .int .u64 0] 151 (b := w.heap.size + 1) (by simp)).ext hx
    have hQ := ((Blk.new w #[.int .u8 3, .int .u64 a, .int .u64 b] 151).alloc (.cells #[.int .u8 0, .int .u64 0, .int .u64 0] 151)).ext hx
    have hf := hB.free
    have hc := hB.cell
    have hq := hQ.cell
    have hl := hB.lt
    have hx' := (((Ext.refl w).alloc _).alloc _).trans hx
    go_wp2_with (go_at_call 99; (with_reducible refine (num_Fits t x cap _ ht0 (by omega) hx0 hx1 hc0 hc1).mono ?_); rw [HK.out]; rintro e w' ⟨rfl, rfl⟩)
    have hS := ((hB.set 0 (.int .u8 3)).set 1 (.int .u64 a)).set 2 (.int .u64 b)
    refine ret_cell_tmp Try.results93 rfl rfl hS Try.underlying151 rfl (by kernel_rfl) ⟨?_, ?_⟩
    · rw [HR.out]; rfl
    · exact ((hx'.set (by omega) _ _).set (by omega) _ _).set (by omega) _ _
  · rw [hk] at hkk
    rw [hkk] at hna hnb
    have HR := Lib.hid (show stB 3 (kNextA 3 a b now cap x) (kNextB 3 a b now cap x) (kOk 3 a b now cap x) = .tuple #[.agg #[.int .u8 3, .int .u64 (t + x), .int .u64 now], .bool true] by rw [hna, hnb, hkk]; simp [stB, stV])
    have hle : t + x ≤ cap := by simpa [fitsB] using hk
    have HK := Lib.hid hk
    clear hkk hna hnb hk
    go_enter Try.func93, Try.ntmps93
    go_wp2_with fail
    refine (leaky_Fill 3 a b now cap _ ha0 ha1 hb0 hb1 hn0 hn1).mono ?_
    rw [HTT.out]
    rintro e w1 ⟨rfl, hx⟩
    have hB := (Blk.new' (w.alloc (.cells #[.int .u8 3, .int .u64 a, .int .u64 b] 151)) #[.int .u8 0, .int .u64 0, .int .u64 0] 151 (b := w.heap.size + 1) (by simp)).ext hx
    have hx' := (((Ext.refl w).alloc _).alloc _).trans hx
    go_wp2_with (go_at_call 99; (with_reducible refine (num_Fits t x cap _ ht0 (by omega) hx0 hx1 hc0 hc1).mono ?_); rw [HK.out]; rintro e w' ⟨rfl, rfl⟩)
    refine (leaky_Of _ _ _ _).mono ?_
    rintro e w2 ⟨rfl, hx2⟩
    have hB2 := hB.ext hx2
    have hf := hB2.free
    have hc := hB2.cell
    have hl := hB2.lt
    simp only [stV]
    go_wp2
    have hS := ((hB2.set 0 (.int .u8 3)).set 1 (.int .u64 (t + x))).set 2 (.int .u64 now)
    refine ret_cell_tmp Try.results93 rfl rfl hS Try.underlying151 rfl (by kernel_rfl) ⟨?_, ?_⟩
    · rw [HR.out]; rfl
    · exact (((hx'.trans hx2).set (by omega) _ _).set (by omega) _ _).set (by omega) _ _
end Go.Proofs.Ytknlojlcahgnoaa

/- Walks: package kernel. -/
namespace Go.Proofs.Ytknlojlcahgnoaa
open Go.RowKit
set_option linter.unusedVariables false
set_option linter.unusedSimpArgs false

theorem kl2 (W : World) (C : Array Value) (t : TypeId) : ((W.alloc (.map kernels 3)).alloc (.cells C t)).heap[W.heap.size]? = some (.map kernels 3) :=
  (heap_alloc_old (W.alloc (.map kernels 3)) (.cells C t) (by rw [World.size_alloc]; omega)).trans (map_new_at W _)
theorem kern_lk1 {w : World} {b : Nat} (hb : w.heap[b]? = some (.map kernels 3)) : (Instr.lookup 139 (.map (some b)) (.int .u8 1) true).run Try.prog w = .ok (.tuple #[.agg #[.func (.func 85) #[] #[], .func (.func 86) #[] #[], .func (.func 87) #[] #[]], .bool true]) w :=
  (run_lookup_yes (P := Try.prog) Try.underlying139 Try.underlying5 (key := .int .u8 1) rfl hb (i := 0) (v := kern 85 86 87) rfl).1
theorem kern_lk2 {w : World} {b : Nat} (hb : w.heap[b]? = some (.map kernels 3)) : (Instr.lookup 139 (.map (some b)) (.int .u8 2) true).run Try.prog w = .ok (.tuple #[.agg #[.func (.func 88) #[] #[], .func (.func 89) #[] #[], .func (.func 90) #[] #[]], .bool true]) w :=
  (run_lookup_yes (P := Try.prog) Try.underlying139 Try.underlying5 (key := .int .u8 2) rfl hb (i := 1) (v := kern 88 89 90) rfl).1
theorem kern_lk3 {w : World} {b : Nat} (hb : w.heap[b]? = some (.map kernels 3)) : (Instr.lookup 139 (.map (some b)) (.int .u8 3) true).run Try.prog w = .ok (.tuple #[.agg #[.func (.func 91) #[] #[], .func (.func 92) #[] #[], .func (.func 93) #[] #[]], .bool true]) w :=
  (run_lookup_yes (P := Try.prog) Try.underlying139 Try.underlying5 (key := .int .u8 3) rfl hb (i := 2) (v := kern 91 92 93) rfl).1
theorem kern_lk0 (k : Int) (h : ¬ (1 ≤ k ∧ k ≤ 3)) {w : World} {b : Nat} (hb : w.heap[b]? = some (.map kernels 3)) : (Instr.lookup 139 (.map (some b)) (.int .u8 k) true).run Try.prog w = .ok (.tuple #[.agg #[.nilFunc, .nilFunc, .nilFunc], .bool false]) w :=
  (run_lookup_no (P := Try.prog) Try.underlying139 Try.underlying5 (key := .int .u8 k) rfl hb (kern_zero _) (kern_miss k h)).1
theorem kern_look1 (W : World) : (Instr.lookup 139 (.map (some W.heap.size)) (.int .u8 1) true).run Try.prog (W.alloc (.map kernels 3)).drew = .ok (.tuple #[.agg #[.func (.func 85) #[] #[], .func (.func 86) #[] #[], .func (.func 87) #[] #[]], .bool true]) (W.alloc (.map kernels 3)).drew := kern_lk1 (map_new_at W _)
theorem kern_look2 (W : World) : (Instr.lookup 139 (.map (some W.heap.size)) (.int .u8 2) true).run Try.prog (W.alloc (.map kernels 3)).drew = .ok (.tuple #[.agg #[.func (.func 88) #[] #[], .func (.func 89) #[] #[], .func (.func 90) #[] #[]], .bool true]) (W.alloc (.map kernels 3)).drew := kern_lk2 (map_new_at W _)
theorem kern_look3 (W : World) : (Instr.lookup 139 (.map (some W.heap.size)) (.int .u8 3) true).run Try.prog (W.alloc (.map kernels 3)).drew = .ok (.tuple #[.agg #[.func (.func 91) #[] #[], .func (.func 92) #[] #[], .func (.func 93) #[] #[]], .bool true]) (W.alloc (.map kernels 3)).drew := kern_lk3 (map_new_at W _)
theorem kern_look0 (k : Int) (h : ¬ (1 ≤ k ∧ k ≤ 3)) (W : World) : (Instr.lookup 139 (.map (some W.heap.size)) (.int .u8 k) true).run Try.prog (W.alloc (.map kernels 3)).drew = .ok (.tuple #[.agg #[.nilFunc, .nilFunc, .nilFunc], .bool false]) (W.alloc (.map kernels 3)).drew := kern_lk0 k h (map_new_at W _)
theorem kern_look1b (W : World) (C : Array Value) (t : TypeId) : (Instr.lookup 139 (.map (some W.heap.size)) (.int .u8 1) true).run Try.prog ((W.alloc (.map kernels 3)).alloc (.cells C t)).drew = .ok (.tuple #[.agg #[.func (.func 85) #[] #[], .func (.func 86) #[] #[], .func (.func 87) #[] #[]], .bool true]) ((W.alloc (.map kernels 3)).alloc (.cells C t)).drew := kern_lk1 (kl2 W C t)
theorem kern_look2b (W : World) (C : Array Value) (t : TypeId) : (Instr.lookup 139 (.map (some W.heap.size)) (.int .u8 2) true).run Try.prog ((W.alloc (.map kernels 3)).alloc (.cells C t)).drew = .ok (.tuple #[.agg #[.func (.func 88) #[] #[], .func (.func 89) #[] #[], .func (.func 90) #[] #[]], .bool true]) ((W.alloc (.map kernels 3)).alloc (.cells C t)).drew := kern_lk2 (kl2 W C t)
theorem kern_look3b (W : World) (C : Array Value) (t : TypeId) : (Instr.lookup 139 (.map (some W.heap.size)) (.int .u8 3) true).run Try.prog ((W.alloc (.map kernels 3)).alloc (.cells C t)).drew = .ok (.tuple #[.agg #[.func (.func 91) #[] #[], .func (.func 92) #[] #[], .func (.func 93) #[] #[]], .bool true]) ((W.alloc (.map kernels 3)).alloc (.cells C t)).drew := kern_lk3 (kl2 W C t)
theorem kern_look0b (k : Int) (h : ¬ (1 ≤ k ∧ k ≤ 3)) (W : World) (C : Array Value) (t : TypeId) : (Instr.lookup 139 (.map (some W.heap.size)) (.int .u8 k) true).run Try.prog ((W.alloc (.map kernels 3)).alloc (.cells C t)).drew = .ok (.tuple #[.agg #[.nilFunc, .nilFunc, .nilFunc], .bool false]) ((W.alloc (.map kernels 3)).alloc (.cells C t)).drew := kern_lk0 k h (kl2 W C t)
theorem kern_look1c (W : World) (C : Array Value) (t : TypeId) : (Instr.lookup 139 (.map (some (W.heap.size + 1))) (.int .u8 1) true).run Try.prog ((W.alloc (.cells C t)).alloc (.map kernels 3)).drew = .ok (.tuple #[.agg #[.func (.func 85) #[] #[], .func (.func 86) #[] #[], .func (.func 87) #[] #[]], .bool true]) ((W.alloc (.cells C t)).alloc (.map kernels 3)).drew := kern_lk1 (heap_alloc2_new W _ _)
theorem kern_look2c (W : World) (C : Array Value) (t : TypeId) : (Instr.lookup 139 (.map (some (W.heap.size + 1))) (.int .u8 2) true).run Try.prog ((W.alloc (.cells C t)).alloc (.map kernels 3)).drew = .ok (.tuple #[.agg #[.func (.func 88) #[] #[], .func (.func 89) #[] #[], .func (.func 90) #[] #[]], .bool true]) ((W.alloc (.cells C t)).alloc (.map kernels 3)).drew := kern_lk2 (heap_alloc2_new W _ _)
theorem kern_look3c (W : World) (C : Array Value) (t : TypeId) : (Instr.lookup 139 (.map (some (W.heap.size + 1))) (.int .u8 3) true).run Try.prog ((W.alloc (.cells C t)).alloc (.map kernels 3)).drew = .ok (.tuple #[.agg #[.func (.func 91) #[] #[], .func (.func 92) #[] #[], .func (.func 93) #[] #[]], .bool true]) ((W.alloc (.cells C t)).alloc (.map kernels 3)).drew := kern_lk3 (heap_alloc2_new W _ _)
theorem kern_look0c (k : Int) (h : ¬ (1 ≤ k ∧ k ≤ 3)) (W : World) (C : Array Value) (t : TypeId) : (Instr.lookup 139 (.map (some (W.heap.size + 1))) (.int .u8 k) true).run Try.prog ((W.alloc (.cells C t)).alloc (.map kernels 3)).drew = .ok (.tuple #[.agg #[.nilFunc, .nilFunc, .nilFunc], .bool false]) ((W.alloc (.cells C t)).alloc (.map kernels 3)).drew := kern_lk0 k h (heap_alloc2_new W _ _)
theorem kern_look1p (W : World) : (Instr.lookup 139 (.map (some W.heap.size)) (.int .u8 1) true).run Try.prog (W.alloc (.map kernels 3)) = .ok (.tuple #[.agg #[.func (.func 85) #[] #[], .func (.func 86) #[] #[], .func (.func 87) #[] #[]], .bool true]) (W.alloc (.map kernels 3)) := kern_lk1 (map_new_at W _)
theorem kern_look2p (W : World) : (Instr.lookup 139 (.map (some W.heap.size)) (.int .u8 2) true).run Try.prog (W.alloc (.map kernels 3)) = .ok (.tuple #[.agg #[.func (.func 88) #[] #[], .func (.func 89) #[] #[], .func (.func 90) #[] #[]], .bool true]) (W.alloc (.map kernels 3)) := kern_lk2 (map_new_at W _)
theorem kern_look3p (W : World) : (Instr.lookup 139 (.map (some W.heap.size)) (.int .u8 3) true).run Try.prog (W.alloc (.map kernels 3)) = .ok (.tuple #[.agg #[.func (.func 91) #[] #[], .func (.func 92) #[] #[], .func (.func 93) #[] #[]], .bool true]) (W.alloc (.map kernels 3)) := kern_lk3 (map_new_at W _)
theorem kern_look0p (k : Int) (h : ¬ (1 ≤ k ∧ k ≤ 3)) (W : World) : (Instr.lookup 139 (.map (some W.heap.size)) (.int .u8 k) true).run Try.prog (W.alloc (.map kernels 3)) = .ok (.tuple #[.agg #[.nilFunc, .nilFunc, .nilFunc], .bool false]) (W.alloc (.map kernels 3)) := kern_lk0 k h (map_new_at W _)
theorem kern_call (w : World) : Calls Try.prog 76 #[] w fun e w' => e = .returned (.map (some w.heap.size)) ∧ w' = w.alloc (.map kernels 3) := (kernel_all w).mono fun e w' h => h

end Go.Proofs.Ytknlojlcahgnoaa

/- Walks: kernel.Decide, kernel.Of. -/
namespace Go.Proofs.Ytknlojlcahgnoaa
open Go.RowKit
set_option linter.unusedVariables false
set_option linter.unusedSimpArgs false

theorem gcra_Decide (a b now cap x : Int) (w : World) (ha0 : 0 ≤ a) (ha1 : a < 18446744073709551616) (hb0 : 0 ≤ b) (hb1 : b < 18446744073709551616) (hn0 : 0 ≤ now) (hn1 : now < 18446744073709551616) (hc0 : 0 ≤ cap) (hc1 : cap < 18446744073709551616) (hx0 : 0 ≤ x) (hx1 : x < 18446744073709551616) :
    Calls Try.prog 87 #[.agg #[.int .u8 1, .int .u64 a, .int .u64 b], .int .u64 now, .int .u64 cap, .int .u64 x] w fun e w' =>
      e = .returned (stB 1 (kNextA 1 a b now cap x) (kNextB 1 a b now cap x) (kOk 1 a b now cap x)) ∧ Ext w w' := by
  have hkk : kOk 1 a b now cap x = fitsB (max a now - now) x cap := rfl
  have hna : kNextA 1 a b now cap x = if kOk 1 a b now cap x then satAdd (max a now) x else a := rfl
  have hnb : kNextB 1 a b now cap x = if kOk 1 a b now cap x then 0 else b := rfl
  rw [hna, hnb]
  rcases max_cases a now with ⟨hm, hle⟩ | ⟨hm, hlt⟩
  · rw [hm] at hkk ⊢
    cases hk : fitsB (a - now) x cap
    · rw [hkk, hk]; exact gcra_Decide_le_no a b now cap x w ha0 ha1 hb0 hb1 hn0 hn1 hc0 hc1 hx0 hx1 hle (Lib.hid hk)
    · rw [hkk, hk]; exact gcra_Decide_le_yes a b now cap x w ha0 ha1 hb0 hb1 hn0 hn1 hc0 hc1 hx0 hx1 hle (Lib.hid hk)
  · rw [hm, Int.sub_self] at hkk
    rw [hm]
    cases hk : fitsB 0 x cap
    · rw [hkk, hk]; exact gcra_Decide_lt_no a b now cap x w ha0 ha1 hb0 hb1 hn0 hn1 hc0 hc1 hx0 hx1 hlt (Lib.hid hk)
    · rw [hkk, hk]; exact gcra_Decide_lt_yes a b now cap x w ha0 ha1 hb0 hb1 hn0 hn1 hc0 hc1 hx0 hx1 hlt (Lib.hid hk)

/-- a state that is so full, or none -/
def ofV (k now cap fill : Int) : Value := .tuple #[stV (if rightKind k then k else 0) (kOfA k now cap fill) (kOfB k now), .int .u16 (if rightKind k then 0 else 27)]
end Go.Proofs.Ytknlojlcahgnoaa

/- Walks: kernel.Wait, Left, Until, Migrate. -/
namespace Go.Proofs.Ytknlojlcahgnoaa
open Go.RowKit
set_option linter.unusedVariables false
set_option linter.unusedSimpArgs false

theorem kWait_no {f cap x : Int} (h : cap < x ∨ f + x ≤ cap) : kRetry f cap x = false ∧ kWait f cap x = 0 := by
  have e : kRetry f cap x = false := by unfold kRetry; simp; omega
  exact ⟨e, by unfold kWait; rw [e]; rfl⟩
theorem kWait_yes {f cap x : Int} (h : x ≤ cap) (h' : cap < f + x) : kRetry f cap x = true ∧ kWait f cap x = f - (cap - x) := by
  have e : kRetry f cap x = true := by unfold kRetry; simp; omega
  exact ⟨e, by unfold kWait; rw [e]; rfl⟩

def kUntil (f now : Int) : Int := if 0 < f then satAdd now f else 0
end Go.Proofs.Ytknlojlcahgnoaa
