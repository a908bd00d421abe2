/- Walks: the reference 07. -/
import Derived.Test.YtfglpejbgfmojaaGreatG18
import Derived.Test.YtfglpejbgfmojaaGreatG13
import Derived.Test.YtfglpejbgfmojaaGreatG20
import Derived.Test.YtfglpejbgfmojaaGreatG22

/- Walks: the reference 07. -/
namespace Go.Proofs.YtfglpejbgfmojaaGreat
open Go.RowKit
set_option linter.unusedVariables false
set_option linter.unusedSimpArgs false

def ofR (k now cap fill : Int) : Value := .tuple #[stV (if rightKind k then k else 0) (kOfA k now cap fill) (kOfB k now), .int .i64 (if rightKind k then 0 else 27)]
theorem Blk.oth3 {w : World} {g b : Nat} {C : Array Value} {t : TypeId} (h : Blk w g C t) (ne : g ≠ b) (v0 v1 v2 : Value) : Blk (((w.setCell ⟨b, 0, none⟩ v0).setCell ⟨b, 1, none⟩ v1).setCell ⟨b, 2, none⟩ v2) g C t := ((h.other ne _).other ne _).other ne _
theorem Ext.set3 {x y : World} (h : Ext x y) {b : Nat} (hb : x.heap.size ≤ b) (v0 v1 v2 : Value) : Ext x (((y.setCell ⟨b, 0, none⟩ v0).setCell ⟨b, 1, none⟩ v1).setCell ⟨b, 2, none⟩ v2) := ((h.set hb _ _).set hb _ _).set hb _ _
theorem not_kind {k : Int} (h : ¬ (1 ≤ k ∧ k ≤ 3)) : k ≠ 1 ∧ k ≠ 2 ∧ k ≠ 3 ∧ (k == 1) = false ∧ (k == 2) = false ∧ (k == 3) = false ∧ rightKind k = false :=
  ⟨by omega, by omega, by omega, by simp; omega, by simp; omega, by simp; omega, by simp [rightKind]; omega⟩

set_option maxHeartbeats 1000000 in
theorem ref07_Of1 (now cap fill : Int) (w : World) (hn0 : 0 ≤ now) (hn1 : now < 18446744073709551616) (hc0 : 0 ≤ cap) (hc1 : cap < 18446744073709551616) (hf0 : 0 ≤ fill) (hf1 : fill < 18446744073709551616) :
    Calls Tryz.prog 74 #[.int .u8 1, .int .u64 now, .int .u64 cap, .int .u64 fill] w fun e w' => e = .returned (.tuple #[.agg #[.int .u8 1, .int .u64 (satAdd now fill), .int .u64 0], .int .i64 0]) ∧ Ext w w' := by
  go_enter Tryz.func74, Tryz.ntmps74
  go_wp2_with fail
  refine (ref06_Of now fill _ hn0 hn1 hf0 hf1).mono ?_
  rintro e w1 ⟨rfl, hx⟩
  have hB := (Blk.new w #[.int .u8 0, .int .u64 0, .int .u64 0] 63).ext hx
  have hx' := ((Ext.refl w).alloc _).trans hx
  have hf := hB.free
  have hc := hB.cell
  have hl := hB.lt
  simp only [stV]
  go_wp2
  have hS := ((hB.set 0 (.int .u8 1)).set 1 (.int .u64 (satAdd now fill))).set 2 (.int .u64 0)
  refine ret_cell_tmp Tryz.results74 rfl rfl hS Tryz.underlying63 rfl (by kernel_rfl) ⟨rfl, ?_⟩
  exact ((hx'.set (by omega) _ _).set (by omega) _ _).set (by omega) _ _

set_option maxHeartbeats 1000000 in
theorem ref07_Of2 (now cap fill : Int) (w : World) (hn0 : 0 ≤ now) (hn1 : now < 18446744073709551616) (hc0 : 0 ≤ cap) (hc1 : cap < 18446744073709551616) (hf0 : 0 ≤ fill) (hf1 : fill < 18446744073709551616) :
    Calls Tryz.prog 74 #[.int .u8 2, .int .u64 now, .int .u64 cap, .int .u64 fill] w fun e w' => e = .returned (.tuple #[.agg #[.int .u8 2, .int .u64 (satSub cap fill), .int .u64 now], .int .i64 0]) ∧ Ext w w' := by
  go_enter Tryz.func74, Tryz.ntmps74
  go_wp2_with fail
  refine (ref05_Of now cap fill _ hc0 hc1 hf0 hf1).mono ?_
  rintro e w1 ⟨rfl, hx⟩
  have hB := (Blk.new w #[.int .u8 0, .int .u64 0, .int .u64 0] 63).ext hx
  have hx' := ((Ext.refl w).alloc _).trans hx
  have hf := hB.free
  have hc := hB.cell
  have hl := hB.lt
  simp only [stV]
  go_wp2
  have hS := ((hB.set 0 (.int .u8 2)).set 1 (.int .u64 (satSub cap fill))).set 2 (.int .u64 now)
  refine ret_cell_tmp Tryz.results74 rfl rfl hS Tryz.underlying63 rfl (by kernel_rfl) ⟨rfl, ?_⟩
  exact ((hx'.set (by omega) _ _).set (by omega) _ _).set (by omega) _ _

set_option maxHeartbeats 1000000 in
theorem ref07_Of3 (now cap fill : Int) (w : World) (hn0 : 0 ≤ now) (hn1 : now < 18446744073709551616) (hc0 : 0 ≤ cap) (hc1 : cap < 18446744073709551616) (hf0 : 0 ≤ fill) (hf1 : fill < 18446744073709551616) :
    Calls Tryz.prog 74 #[.int .u8 3, .int .u64 now, .int .u64 cap, .int .u64 fill] w fun e w' => e = .returned (.tuple #[.agg #[.int .u8 3, .int .u64 (fill), .int .u64 now], .int .i64 0]) ∧ Ext w w' := by
  go_enter Tryz.func74, Tryz.ntmps74
  go_wp2_with fail
  refine (ref04_Of now fill _).mono ?_
  rintro e w1 ⟨rfl, hx⟩
  have hB := (Blk.new w #[.int .u8 0, .int .u64 0, .int .u64 0] 63).ext hx
  have hx' := ((Ext.refl w).alloc _).trans hx
  have hf := hB.free
  have hc := hB.cell
  have hl := hB.lt
  simp only [stV]
  go_wp2
  have hS := ((hB.set 0 (.int .u8 3)).set 1 (.int .u64 (fill))).set 2 (.int .u64 now)
  refine ret_cell_tmp Tryz.results74 rfl rfl hS Tryz.underlying63 rfl (by kernel_rfl) ⟨rfl, ?_⟩
  exact ((hx'.set (by omega) _ _).set (by omega) _ _).set (by omega) _ _

set_option maxHeartbeats 1000000 in
theorem ref07_Of0 (k now cap fill : Int) (w : World) (h : ¬ (1 ≤ k ∧ k ≤ 3)) :
    Calls Tryz.prog 74 #[.int .u8 k, .int .u64 now, .int .u64 cap, .int .u64 fill] w fun e w' => e = .returned (.tuple #[.agg #[.int .u8 0, .int .u64 0, .int .u64 0], .int .i64 27]) ∧ Ext w w' := by
  obtain ⟨-, -, -, e1, e2, e3, -⟩ := not_kind h
  clear h
  have hS := Blk.new w #[.int .u8 0, .int .u64 0, .int .u64 0] 63
  go_enter Tryz.func74, Tryz.ntmps74
  go_wp2
  exact ret_cell_tmp Tryz.results74 rfl rfl hS Tryz.underlying63 rfl (by kernel_rfl) ⟨rfl, (Ext.refl w).alloc _⟩
theorem ref07_Of (k now cap fill : Int) (w : World) (hn0 : 0 ≤ now) (hn1 : now < 18446744073709551616) (hc0 : 0 ≤ cap) (hc1 : cap < 18446744073709551616) (hf0 : 0 ≤ fill) (hf1 : fill < 18446744073709551616) :
    Calls Tryz.prog 74 #[.int .u8 k, .int .u64 now, .int .u64 cap, .int .u64 fill] w fun e w' => e = .returned (ofR k now cap fill) ∧ Ext w w' := by
  by_cases h1 : k = 1
  · subst h1; exact ref07_Of1 now cap fill w hn0 hn1 hc0 hc1 hf0 hf1
  by_cases h2 : k = 2
  · subst h2; exact ref07_Of2 now cap fill w hn0 hn1 hc0 hc1 hf0 hf1
  by_cases h3 : k = 3
  · subst h3; exact ref07_Of3 now cap fill w hn0 hn1 hc0 hc1 hf0 hf1
  have h : ¬ (1 ≤ k ∧ k ≤ 3) := by omega
  obtain ⟨n1, n2, n3, -, -, -, hr⟩ := not_kind h
  have e : ofR k now cap fill = .tuple #[.agg #[.int .u8 0, .int .u64 0, .int .u64 0], .int .i64 27] := by
    simp [ofR, hr, stV, kOfA, kOfB, n1, n2, n3]
  rw [e]
  exact ref07_Of0 k now cap fill w h

set_option maxHeartbeats 1000000 in
theorem ref07_Fill1 (a b now cap : Int) (w : World) (ha0 : 0 ≤ a) (ha1 : a < 18446744073709551616) (hb0 : 0 ≤ b) (hb1 : b < 18446744073709551616) (hn0 : 0 ≤ now) (hn1 : now < 18446744073709551616) (hc0 : 0 ≤ cap) (hc1 : cap < 18446744073709551616) :
    Calls Tryz.prog 113 #[.agg #[.int .u8 1, .int .u64 a, .int .u64 b], .int .u64 now, .int .u64 cap] w fun e w' => e = .returned (.int .u64 (satSub a now)) ∧ Ext w w' := by
  have bq := Blk.new w #[.int .u8 1, .int .u64 a, .int .u64 b] 63
  have hq := bq.cell
  have H := Lib.hid (fun W : World => ref06_Fill 1 a b now W ha0 ha1 hn0 hn1)
  go_enter Tryz.func113, Tryz.ntmps113
  go_wp2_with fail
  refine (H.out _).mono ?_
  rintro e w1 ⟨rfl, hx⟩
  go_wp2
  go_ret
  exact ⟨rfl, (by repeat (first | with_reducible exact Ext.refl _ | with_reducible assumption | with_reducible refine Ext.alloc ?_ _ | with_reducible refine Ext.drew ?_ | (with_reducible refine Ext.setCell ?_ (by first | exact Nat.le_refl _ | (dsimp only; omega) | (simp; done) | (simp; omega)) _) | with_reducible refine Ext.trans ?_ (by with_reducible assumption)))⟩

set_option maxHeartbeats 1000000 in
theorem ref07_Fill2 (a b now cap : Int) (w : World) (ha0 : 0 ≤ a) (ha1 : a < 18446744073709551616) (hb0 : 0 ≤ b) (hb1 : b < 18446744073709551616) (hn0 : 0 ≤ now) (hn1 : now < 18446744073709551616) (hc0 : 0 ≤ cap) (hc1 : cap < 18446744073709551616) :
    Calls Tryz.prog 113 #[.agg #[.int .u8 2, .int .u64 a, .int .u64 b], .int .u64 now, .int .u64 cap] w fun e w' => e = .returned (.int .u64 (cap - tokens a b now cap)) ∧ Ext w w' := by
  have bq := Blk.new w #[.int .u8 2, .int .u64 a, .int .u64 b] 63
  have hq := bq.cell
  have H := Lib.hid (fun W : World => ref05_Fill 2 a b now cap W ha0 ha1 hb0 hb1 hn0 hn1 hc0 hc1)
  go_enter Tryz.func113, Tryz.ntmps113
  go_wp2_with fail
  refine (H.out _).mono ?_
  rintro e w1 ⟨rfl, hx⟩
  go_wp2
  go_ret
  exact ⟨rfl, (by repeat (first | with_reducible exact Ext.refl _ | with_reducible assumption | with_reducible refine Ext.alloc ?_ _ | with_reducible refine Ext.drew ?_ | (with_reducible refine Ext.setCell ?_ (by first | exact Nat.le_refl _ | (dsimp only; omega) | (simp; done) | (simp; omega)) _) | with_reducible refine Ext.trans ?_ (by with_reducible assumption)))⟩

set_option maxHeartbeats 1000000 in
theorem ref07_Fill3 (a b now cap : Int) (w : World) (ha0 : 0 ≤ a) (ha1 : a < 18446744073709551616) (hb0 : 0 ≤ b) (hb1 : b < 18446744073709551616) (hn0 : 0 ≤ now) (hn1 : now < 18446744073709551616) (hc0 : 0 ≤ cap) (hc1 : cap < 18446744073709551616) :
    Calls Tryz.prog 113 #[.agg #[.int .u8 3, .int .u64 a, .int .u64 b], .int .u64 now, .int .u64 cap] w fun e w' => e = .returned (.int .u64 (meterT a b now)) ∧ Ext w w' := by
  have bq := Blk.new w #[.int .u8 3, .int .u64 a, .int .u64 b] 63
  have hq := bq.cell
  have H := Lib.hid (fun W : World => ref04_Fill 3 a b now W ha0 ha1 hb0 hb1 hn0 hn1)
  go_enter Tryz.func113, Tryz.ntmps113
  go_wp2_with fail
  refine (H.out _).mono ?_
  rintro e w1 ⟨rfl, hx⟩
  go_wp2
  go_ret
  exact ⟨rfl, (by repeat (first | with_reducible exact Ext.refl _ | with_reducible assumption | with_reducible refine Ext.alloc ?_ _ | with_reducible refine Ext.drew ?_ | (with_reducible refine Ext.setCell ?_ (by first | exact Nat.le_refl _ | (dsimp only; omega) | (simp; done) | (simp; omega)) _) | with_reducible refine Ext.trans ?_ (by with_reducible assumption)))⟩

set_option maxHeartbeats 1000000 in
theorem ref07_Fill0 (k a b now cap : Int) (w : World) (h : ¬ (1 ≤ k ∧ k ≤ 3)) :
    Calls Tryz.prog 113 #[.agg #[.int .u8 k, .int .u64 a, .int .u64 b], .int .u64 now, .int .u64 cap] w fun e w' => e = .returned (.int .u64 0) ∧ Ext w w' := by
  obtain ⟨-, -, -, e1, e2, e3, -⟩ := not_kind h
  clear h
  go_enter Tryz.func113, Tryz.ntmps113
  go_wp2
  go_ret
  exact ⟨rfl, (by repeat (first | with_reducible exact Ext.refl _ | with_reducible assumption | with_reducible refine Ext.alloc ?_ _ | with_reducible refine Ext.drew ?_ | (with_reducible refine Ext.setCell ?_ (by first | exact Nat.le_refl _ | (dsimp only; omega) | (simp; done) | (simp; omega)) _) | with_reducible refine Ext.trans ?_ (by with_reducible assumption)))⟩
theorem ref07_Fill (k a b now cap : Int) (w : World) (ha0 : 0 ≤ a) (ha1 : a < 18446744073709551616) (hb0 : 0 ≤ b) (hb1 : b < 18446744073709551616) (hn0 : 0 ≤ now) (hn1 : now < 18446744073709551616) (hc0 : 0 ≤ cap) (hc1 : cap < 18446744073709551616) :
    Calls Tryz.prog 113 #[.agg #[.int .u8 k, .int .u64 a, .int .u64 b], .int .u64 now, .int .u64 cap] w fun e w' => e = .returned (.int .u64 (kFill k a b now cap)) ∧ Ext w w' := by
  by_cases h1 : k = 1
  · subst h1; exact ref07_Fill1 a b now cap w ha0 ha1 hb0 hb1 hn0 hn1 hc0 hc1
  by_cases h2 : k = 2
  · subst h2; exact ref07_Fill2 a b now cap w ha0 ha1 hb0 hb1 hn0 hn1 hc0 hc1
  by_cases h3 : k = 3
  · subst h3; exact ref07_Fill3 a b now cap w ha0 ha1 hb0 hb1 hn0 hn1 hc0 hc1
  have e : kFill k a b now cap = 0 := by unfold kFill; rw [if_neg h1, if_neg h2, if_neg h3]
  rw [e]
  exact ref07_Fill0 k a b now cap w (by omega)

set_option maxHeartbeats 2000000 in
set_option maxRecDepth 100000 in
theorem ref07_Decide1 (a b now cap x : Int) (w : World) (ha0 : 0 ≤ a) (ha1 : a < 18446744073709551616) (hb0 : 0 ≤ b) (hb1 : b < 18446744073709551616) (hn0 : 0 ≤ now) (hn1 : now < 18446744073709551616) (hc0 : 0 ≤ cap) (hc1 : cap < 18446744073709551616) (hx0 : 0 ≤ x) (hx1 : x < 18446744073709551616) :
    Calls Tryz.prog 77 #[.agg #[.int .u8 1, .int .u64 a, .int .u64 b], .int .u64 now, .int .u64 cap, .int .u64 x] w fun e w' =>
      e = .returned (stB 1 (kNextA 1 a b now cap x) (kNextB 1 a b now cap x) (kOk 1 a b now cap x)) ∧ Ext w w' := by
  have H := Lib.hid (fun W : World => ref06_Decide a b now cap x W ha0 ha1 hb0 hb1 hn0 hn1 hc0 hc1 hx0 hx1)
  generalize kNextA 1 a b now cap x = na at *
  generalize kNextB 1 a b now cap x = nb at *
  generalize kOk 1 a b now cap x = ok at *
  have bq := ((Blk.new w #[.int .u8 1, .int .u64 a, .int .u64 b] 63).alloc (.cells #[.int .u8 0, .int .u64 0, .int .u64 0] 63)).alloc (.cells #[.int .u8 1, .int .u64 a, .int .u64 b] 63)
  have br := (Blk.new' (w.alloc (.cells #[.int .u8 1, .int .u64 a, .int .u64 b] 63)) #[.int .u8 0, .int .u64 0, .int .u64 0] 63 (b := w.heap.size + 1) (by simp)).alloc (.cells #[.int .u8 1, .int .u64 a, .int .u64 b] 63)
  have bt := Blk.new' ((w.alloc (.cells #[.int .u8 1, .int .u64 a, .int .u64 b] 63)).alloc (.cells #[.int .u8 0, .int .u64 0, .int .u64 0] 63)) #[.int .u8 1, .int .u64 a, .int .u64 b] 63 (b := w.heap.size + 1 + 1) (by simp)
  have hx0 : Ext w (((w.alloc (.cells #[.int .u8 1, .int .u64 a, .int .u64 b] 63)).alloc (.cells #[.int .u8 0, .int .u64 0, .int .u64 0] 63)).alloc (.cells #[.int .u8 1, .int .u64 a, .int .u64 b] 63)) := (((Ext.refl w).alloc _).alloc _).alloc _
  go_enter Tryz.func77, Tryz.ntmps77
  go_upto_region 3 with fail
  generalize ((w.alloc (.cells #[.int .u8 1, .int .u64 a, .int .u64 b] 63)).alloc (.cells #[.int .u8 0, .int .u64 0, .int .u64 0] 63)).alloc (.cells #[.int .u8 1, .int .u64 a, .int .u64 b] 63) = w0 at *
  have hq := bq.cell
  go_wp2_with fail
  refine (H.out _).mono ?_
  rintro e w1 ⟨rfl, hx⟩
  have hR := br.ext hx
  have hT := bt.ext hx
  have hf := hR.free
  have hr := hR.cell
  have hg := hT.free
  have hc := hT.cell
  have hl := hR.lt
  have hx' := hx0.trans hx
  clear bq br bt hq
  simp only [stB, stV]
  go_wp2
  have hS := (((hR.oth3 (b := w.heap.size + 1 + 1) (by omega) (.int .u8 1) (.int .u64 na) (.int .u64 nb)).set 0 (.int .u8 1)).set 1 (.int .u64 na)).set 2 (.int .u64 nb)
  refine ret_cell_tmp Tryz.results77 rfl rfl hS Tryz.underlying63 rfl (by kernel_rfl) ⟨rfl, ?_⟩
  exact (hx'.set3 (b := w.heap.size + 1 + 1) (by omega) _ _ _).set3 (b := w.heap.size + 1) (by omega) _ _ _

set_option maxHeartbeats 2000000 in
set_option maxRecDepth 100000 in
theorem ref07_Decide2 (a b now cap x : Int) (w : World) (ha0 : 0 ≤ a) (ha1 : a < 18446744073709551616) (hb0 : 0 ≤ b) (hb1 : b < 18446744073709551616) (hn0 : 0 ≤ now) (hn1 : now < 18446744073709551616) (hc0 : 0 ≤ cap) (hc1 : cap < 18446744073709551616) (hx0 : 0 ≤ x) (hx1 : x < 18446744073709551616) :
    Calls Tryz.prog 77 #[.agg #[.int .u8 2, .int .u64 a, .int .u64 b], .int .u64 now, .int .u64 cap, .int .u64 x] w fun e w' =>
      e = .returned (stB 2 (kNextA 2 a b now cap x) (kNextB 2 a b now cap x) (kOk 2 a b now cap x)) ∧ Ext w w' := by
  have H := Lib.hid (fun W : World => ref05_Decide a b now cap x W ha0 ha1 hb0 hb1 hn0 hn1 hc0 hc1 hx0 hx1)
  generalize kNextA 2 a b now cap x = na at *
  generalize kNextB 2 a b now cap x = nb at *
  generalize kOk 2 a b now cap x = ok at *
  have bq := ((Blk.new w #[.int .u8 2, .int .u64 a, .int .u64 b] 63).alloc (.cells #[.int .u8 0, .int .u64 0, .int .u64 0] 63)).alloc (.cells #[.int .u8 2, .int .u64 a, .int .u64 b] 63)
  have br := (Blk.new' (w.alloc (.cells #[.int .u8 2, .int .u64 a, .int .u64 b] 63)) #[.int .u8 0, .int .u64 0, .int .u64 0] 63 (b := w.heap.size + 1) (by simp)).alloc (.cells #[.int .u8 2, .int .u64 a, .int .u64 b] 63)
  have bt := Blk.new' ((w.alloc (.cells #[.int .u8 2, .int .u64 a, .int .u64 b] 63)).alloc (.cells #[.int .u8 0, .int .u64 0, .int .u64 0] 63)) #[.int .u8 2, .int .u64 a, .int .u64 b] 63 (b := w.heap.size + 1 + 1) (by simp)
  have hx0 : Ext w (((w.alloc (.cells #[.int .u8 2, .int .u64 a, .int .u64 b] 63)).alloc (.cells #[.int .u8 0, .int .u64 0, .int .u64 0] 63)).alloc (.cells #[.int .u8 2, .int .u64 a, .int .u64 b] 63)) := (((Ext.refl w).alloc _).alloc _).alloc _
  go_enter Tryz.func77, Tryz.ntmps77
  go_upto_region 3 with fail
  generalize ((w.alloc (.cells #[.int .u8 2, .int .u64 a, .int .u64 b] 63)).alloc (.cells #[.int .u8 0, .int .u64 0, .int .u64 0] 63)).alloc (.cells #[.int .u8 2, .int .u64 a, .int .u64 b] 63) = w0 at *
  have hq := bq.cell
  go_wp2_with fail
  refine (H.out _).mono ?_
  rintro e w1 ⟨rfl, hx⟩
  have hR := br.ext hx
  have hT := bt.ext hx
  have hf := hR.free
  have hr := hR.cell
  have hg := hT.free
  have hc := hT.cell
  have hl := hR.lt
  have hx' := hx0.trans hx
  clear bq br bt hq
  simp only [stB, stV]
  go_wp2
  have hS := (((hR.oth3 (b := w.heap.size + 1 + 1) (by omega) (.int .u8 2) (.int .u64 na) (.int .u64 nb)).set 0 (.int .u8 2)).set 1 (.int .u64 na)).set 2 (.int .u64 nb)
  refine ret_cell_tmp Tryz.results77 rfl rfl hS Tryz.underlying63 rfl (by kernel_rfl) ⟨rfl, ?_⟩
  exact (hx'.set3 (b := w.heap.size + 1 + 1) (by omega) _ _ _).set3 (b := w.heap.size + 1) (by omega) _ _ _

set_option maxHeartbeats 2000000 in
set_option maxRecDepth 100000 in
theorem ref07_Decide3 (a b now cap x : Int) (w : World) (ha0 : 0 ≤ a) (ha1 : a < 18446744073709551616) (hb0 : 0 ≤ b) (hb1 : b < 18446744073709551616) (hn0 : 0 ≤ now) (hn1 : now < 18446744073709551616) (hc0 : 0 ≤ cap) (hc1 : cap < 18446744073709551616) (hx0 : 0 ≤ x) (hx1 : x < 18446744073709551616) :
    Calls Tryz.prog 77 #[.agg #[.int .u8 3, .int .u64 a, .int .u64 b], .int .u64 now, .int .u64 cap, .int .u64 x] w fun e w' =>
      e = .returned (stB 3 (kNextA 3 a b now cap x) (kNextB 3 a b now cap x) (kOk 3 a b now cap x)) ∧ Ext w w' := by
  have H := Lib.hid (fun W : World => ref04_Decide a b now cap x W ha0 ha1 hb0 hb1 hn0 hn1 hc0 hc1 hx0 hx1)
  generalize kNextA 3 a b now cap x = na at *
  generalize kNextB 3 a b now cap x = nb at *
  generalize kOk 3 a b now cap x = ok at *
  have bq := ((Blk.new w #[.int .u8 3, .int .u64 a, .int .u64 b] 63).alloc (.cells #[.int .u8 0, .int .u64 0, .int .u64 0] 63)).alloc (.cells #[.int .u8 3, .int .u64 a, .int .u64 b] 63)
  have br := (Blk.new' (w.alloc (.cells #[.int .u8 3, .int .u64 a, .int .u64 b] 63)) #[.int .u8 0, .int .u64 0, .int .u64 0] 63 (b := w.heap.size + 1) (by simp)).alloc (.cells #[.int .u8 3, .int .u64 a, .int .u64 b] 63)
  have bt := Blk.new' ((w.alloc (.cells #[.int .u8 3, .int .u64 a, .int .u64 b] 63)).alloc (.cells #[.int .u8 0, .int .u64 0, .int .u64 0] 63)) #[.int .u8 3, .int .u64 a, .int .u64 b] 63 (b := w.heap.size + 1 + 1) (by simp)
  have hx0 : Ext w (((w.alloc (.cells #[.int .u8 3, .int .u64 a, .int .u64 b] 63)).alloc (.cells #[.int .u8 0, .int .u64 0, .int .u64 0] 63)).alloc (.cells #[.int .u8 3, .int .u64 a, .int .u64 b] 63)) := (((Ext.refl w).alloc _).alloc _).alloc _
  go_enter Tryz.func77, Tryz.ntmps77
  go_upto_region 3 with fail
  generalize ((w.alloc (.cells #[.int .u8 3, .int .u64 a, .int .u64 b] 63)).alloc (.cells #[.int .u8 0, .int .u64 0, .int .u64 0] 63)).alloc (.cells #[.int .u8 3, .int .u64 a, .int .u64 b] 63) = w0 at *
  have hq := bq.cell
  go_wp2_with fail
  refine (H.out _).mono ?_
  rintro e w1 ⟨rfl, hx⟩
  have hR := br.ext hx
  have hT := bt.ext hx
  have hf := hR.free
  have hr := hR.cell
  have hg := hT.free
  have hc := hT.cell
  have hl := hR.lt
  have hx' := hx0.trans hx
  clear bq br bt hq
  simp only [stB, stV]
  go_wp2
  have hS := (((hR.oth3 (b := w.heap.size + 1 + 1) (by omega) (.int .u8 3) (.int .u64 na) (.int .u64 nb)).set 0 (.int .u8 3)).set 1 (.int .u64 na)).set 2 (.int .u64 nb)
  refine ret_cell_tmp Tryz.results77 rfl rfl hS Tryz.underlying63 rfl (by kernel_rfl) ⟨rfl, ?_⟩
  exact (hx'.set3 (b := w.heap.size + 1 + 1) (by omega) _ _ _).set3 (b := w.heap.size + 1) (by omega) _ _ _

set_option maxHeartbeats 1000000 in
theorem ref07_Decide (k a b now cap x : Int) (w : World) (ha0 : 0 ≤ a) (ha1 : a < 18446744073709551616) (hb0 : 0 ≤ b) (hb1 : b < 18446744073709551616) (hn0 : 0 ≤ now) (hn1 : now < 18446744073709551616) (hc0 : 0 ≤ cap) (hc1 : cap < 18446744073709551616) (hx0 : 0 ≤ x) (hx1 : x < 18446744073709551616) (h : rightKind k = true) :
    Calls Tryz.prog 77 #[.agg #[.int .u8 k, .int .u64 a, .int .u64 b], .int .u64 now, .int .u64 cap, .int .u64 x] w fun e w' =>
      e = .returned (stB k (kNextA k a b now cap x) (kNextB k a b now cap x) (kOk k a b now cap x)) ∧ Ext w w' := by
  by_cases h1 : k = 1
  · subst h1; exact ref07_Decide1 a b now cap x w ha0 ha1 hb0 hb1 hn0 hn1 hc0 hc1 hx0 hx1
  by_cases h2 : k = 2
  · subst h2; exact ref07_Decide2 a b now cap x w ha0 ha1 hb0 hb1 hn0 hn1 hc0 hc1 hx0 hx1
  by_cases h3 : k = 3
  · subst h3; exact ref07_Decide3 a b now cap x w ha0 ha1 hb0 hb1 hn0 hn1 hc0 hc1 hx0 hx1
  exact absurd (show 1 ≤ k ∧ k ≤ 3 by simpa [rightKind] using h) (by omega)
set_option maxHeartbeats 1000000 in
set_option maxRecDepth 100000 in
theorem ref07_Wait (k a b now cap x : Int) (w : World) (ha0 : 0 ≤ a) (ha1 : a < 18446744073709551616) (hb0 : 0 ≤ b) (hb1 : b < 18446744073709551616) (hn0 : 0 ≤ now) (hn1 : now < 18446744073709551616) (hc0 : 0 ≤ cap) (hc1 : cap < 18446744073709551616) (hx0 : 0 ≤ x) (hx1 : x < 18446744073709551616) :
    Calls Tryz.prog 76 #[.agg #[.int .u8 k, .int .u64 a, .int .u64 b], .int .u64 now, .int .u64 cap, .int .u64 x] w fun e w' => e = .returned (.tuple #[.int .u64 (kWait (kFill k a b now cap) cap x), .bool (kRetry (kFill k a b now cap) cap x)]) ∧ Ext w w' := by
  have hF := kFill_u k a b now cap ha0 ha1 hb0 hn0 hn1 hc0 hc1
  generalize hf : kFill k a b now cap = F at *
  have HF := Lib.hid hf
  obtain ⟨hF0, hF1⟩ := hF
  clear hf
  by_cases h : cap < x
  · obtain ⟨e1, e2⟩ := kWait_no (f := F) (Or.inl h)
    have HR := Lib.hid (And.intro e1 e2)
    clear e1 e2
    go_enter Tryz.func76, Tryz.ntmps76
    go_wp2_with (go_at_call 113; (with_reducible refine (ref07_Fill k a b now cap _ ha0 ha1 hb0 hb1 hn0 hn1 hc0 hc1).mono ?_); rw [HF.out]; rintro e w1 ⟨rfl, hx⟩)
    go_ret2
    exact ⟨ret_2 (val_int HR.out.2.symm) (val_bool HR.out.1.symm), (by repeat (first | with_reducible exact Ext.refl _ | with_reducible assumption | with_reducible refine Ext.alloc ?_ _ | with_reducible refine Ext.drew ?_ | (with_reducible refine Ext.setCell ?_ (by first | exact Nat.le_refl _ | (dsimp only; omega) | (simp; done) | (simp; omega)) _) | with_reducible refine Ext.trans ?_ (by with_reducible assumption)))⟩
  · have h' : x ≤ cap := by omega
    cases hf : fitsB F x cap
    · have hlt : cap < F + x := by simpa [fitsB] using hf
      obtain ⟨e1, e2⟩ := kWait_yes (f := F) h' hlt
      have HR := Lib.hid (And.intro e1 e2)
      have HK := Lib.hid hf
      clear e1 e2 hf
      have hs1 : 0 ≤ cap - x := by omega
      have hs2 : cap - x < 18446744073709551616 := by omega
      have hs3 : 0 ≤ F - (cap - x) := by omega
      have hs4 : F - (cap - x) < 18446744073709551616 := by omega
      go_enter Tryz.func76, Tryz.ntmps76
      go_wp2_with (first
        | (go_at_call 113; (with_reducible refine (ref07_Fill k a b now cap _ ha0 ha1 hb0 hb1 hn0 hn1 hc0 hc1).mono ?_); rw [HF.out]; rintro e w1 ⟨rfl, hx⟩)
        | (go_at_call 118; (with_reducible refine (ref02_Fits F x cap _ hF0 hF1 hx0 hx1 hc0 hc1).mono ?_); rw [HK.out]; rintro e w' ⟨rfl, rfl⟩))
      go_ret2
      exact ⟨ret_2 (val_int HR.out.2.symm) (val_bool HR.out.1.symm), (by repeat (first | with_reducible exact Ext.refl _ | with_reducible assumption | with_reducible refine Ext.alloc ?_ _ | with_reducible refine Ext.drew ?_ | (with_reducible refine Ext.setCell ?_ (by first | exact Nat.le_refl _ | (dsimp only; omega) | (simp; done) | (simp; omega)) _) | with_reducible refine Ext.trans ?_ (by with_reducible assumption)))⟩
    · have hle : F + x ≤ cap := by simpa [fitsB] using hf
      obtain ⟨e1, e2⟩ := kWait_no (f := F) (Or.inr hle)
      have HR := Lib.hid (And.intro e1 e2)
      have HK := Lib.hid hf
      clear e1 e2 hf
      go_enter Tryz.func76, Tryz.ntmps76
      go_wp2_with (first
        | (go_at_call 113; (with_reducible refine (ref07_Fill k a b now cap _ ha0 ha1 hb0 hb1 hn0 hn1 hc0 hc1).mono ?_); rw [HF.out]; rintro e w1 ⟨rfl, hx⟩)
        | (go_at_call 118; (with_reducible refine (ref02_Fits F x cap _ hF0 hF1 hx0 hx1 hc0 hc1).mono ?_); rw [HK.out]; rintro e w' ⟨rfl, rfl⟩))
      go_ret2
      exact ⟨ret_2 (val_int HR.out.2.symm) (val_bool HR.out.1.symm), (by repeat (first | with_reducible exact Ext.refl _ | with_reducible assumption | with_reducible refine Ext.alloc ?_ _ | with_reducible refine Ext.drew ?_ | (with_reducible refine Ext.setCell ?_ (by first | exact Nat.le_refl _ | (dsimp only; omega) | (simp; done) | (simp; omega)) _) | with_reducible refine Ext.trans ?_ (by with_reducible assumption)))⟩

set_option maxHeartbeats 1000000 in
set_option maxRecDepth 100000 in
theorem ref07_Left (k a b now cap x : Int) (w : World) (ha0 : 0 ≤ a) (ha1 : a < 18446744073709551616) (hb0 : 0 ≤ b) (hb1 : b < 18446744073709551616) (hn0 : 0 ≤ now) (hn1 : now < 18446744073709551616) (hc0 : 0 ≤ cap) (hc1 : cap < 18446744073709551616) (hx0 : 0 ≤ x) (hx1 : x < 18446744073709551616) :
    Calls Tryz.prog 123 #[.agg #[.int .u8 k, .int .u64 a, .int .u64 b], .int .u64 now, .int .u64 cap, .int .u64 x] w fun e w' => e = .returned (.int .u64 (divS (satSub cap (kFill k a b now cap)) x)) ∧ Ext w w' := by
  have hF := kFill_u k a b now cap ha0 ha1 hb0 hn0 hn1 hc0 hc1
  generalize hf : kFill k a b now cap = F at *
  have HF := Lib.hid hf
  obtain ⟨hF0, hF1⟩ := hF
  clear hf
  have hs := satSub_u cap F hc0 hc1 hF0
  generalize hs' : satSub cap F = s at *
  have HS := Lib.hid hs'
  obtain ⟨hs0, hs1⟩ := hs
  clear hs'
  go_enter Tryz.func123, Tryz.ntmps123
  go_wp2_with (first
    | (go_at_call 113; (with_reducible refine (ref07_Fill k a b now cap _ ha0 ha1 hb0 hb1 hn0 hn1 hc0 hc1).mono ?_); rw [HF.out]; rintro e w1 ⟨rfl, hx⟩)
    | (go_at_call 158; (with_reducible refine (ref02_Sub cap F _ hc0 hc1 hF0 hF1).mono ?_); rw [HS.out]; rintro e w' ⟨rfl, rfl⟩)
    | (go_at_call 161; (with_reducible refine (ref02_Div s x _ hs0 (by omega) hx0 hx1).mono ?_); rintro e w' ⟨rfl, rfl⟩))
  go_ret
  exact ⟨rfl, (by repeat (first | with_reducible exact Ext.refl _ | with_reducible assumption | with_reducible refine Ext.alloc ?_ _ | with_reducible refine Ext.drew ?_ | (with_reducible refine Ext.setCell ?_ (by first | exact Nat.le_refl _ | (dsimp only; omega) | (simp; done) | (simp; omega)) _) | with_reducible refine Ext.trans ?_ (by with_reducible assumption)))⟩

set_option maxHeartbeats 1000000 in
set_option maxRecDepth 100000 in
theorem ref07_Until (k a b now cap : Int) (w : World) (ha0 : 0 ≤ a) (ha1 : a < 18446744073709551616) (hb0 : 0 ≤ b) (hb1 : b < 18446744073709551616) (hn0 : 0 ≤ now) (hn1 : now < 18446744073709551616) (hc0 : 0 ≤ cap) (hc1 : cap < 18446744073709551616) :
    Calls Tryz.prog 99 #[.agg #[.int .u8 k, .int .u64 a, .int .u64 b], .int .u64 now, .int .u64 cap] w fun e w' => e = .returned (.int .u64 (kUntil (kFill k a b now cap) now)) ∧ Ext w w' := by
  have hF := kFill_u k a b now cap ha0 ha1 hb0 hn0 hn1 hc0 hc1
  generalize hf : kFill k a b now cap = F at *
  have HF := Lib.hid hf
  obtain ⟨hF0, hF1⟩ := hF
  clear hf
  by_cases h : 0 < F
  · have HR := Lib.hid (show kUntil F now = satAdd now F from if_pos h)
    go_enter Tryz.func99, Tryz.ntmps99
    go_wp2_with (first
      | (go_at_call 113; (with_reducible refine (ref07_Fill k a b now cap _ ha0 ha1 hb0 hb1 hn0 hn1 hc0 hc1).mono ?_); rw [HF.out]; rintro e w1 ⟨rfl, hx⟩)
      | (go_at_call 134; (with_reducible refine (ref02_Add now F _ hn0 hn1 hF0 hF1).mono ?_); rintro e w' ⟨rfl, rfl⟩))
    go_ret
    exact ⟨ret_int HR.out.symm, (by repeat (first | with_reducible exact Ext.refl _ | with_reducible assumption | with_reducible refine Ext.alloc ?_ _ | with_reducible refine Ext.drew ?_ | (with_reducible refine Ext.setCell ?_ (by first | exact Nat.le_refl _ | (dsimp only; omega) | (simp; done) | (simp; omega)) _) | with_reducible refine Ext.trans ?_ (by with_reducible assumption)))⟩
  · have HR := Lib.hid (show kUntil F now = 0 from if_neg h)
    go_enter Tryz.func99, Tryz.ntmps99
    go_wp2_with (go_at_call 113; (with_reducible refine (ref07_Fill k a b now cap _ ha0 ha1 hb0 hb1 hn0 hn1 hc0 hc1).mono ?_); rw [HF.out]; rintro e w1 ⟨rfl, hx⟩)
    go_ret
    exact ⟨ret_int HR.out.symm, (by repeat (first | with_reducible exact Ext.refl _ | with_reducible assumption | with_reducible refine Ext.alloc ?_ _ | with_reducible refine Ext.drew ?_ | (with_reducible refine Ext.setCell ?_ (by first | exact Nat.le_refl _ | (dsimp only; omega) | (simp; done) | (simp; omega)) _) | with_reducible refine Ext.trans ?_ (by with_reducible assumption)))⟩
set_option maxHeartbeats 1000000 in
set_option maxRecDepth 100000 in
theorem ref07_Migrate (k a b kind now cap : Int) (w : World) (ha0 : 0 ≤ a) (ha1 : a < 18446744073709551616) (hb0 : 0 ≤ b) (hb1 : b < 18446744073709551616) (hn0 : 0 ≤ now) (hn1 : now < 18446744073709551616) (hc0 : 0 ≤ cap) (hc1 : cap < 18446744073709551616)
    (hk : rightKind k = true) (hq : rightKind kind = true) :
    Calls Tryz.prog 67 #[.agg #[.int .u8 k, .int .u64 a, .int .u64 b], .int .u8 kind, .int .u64 now, .int .u64 cap] w fun e w' =>
      e = .returned (.tuple #[.agg #[.int .u8 kind, .int .u64 (kOfA kind now cap (kFill k a b now cap)), .int .u64 (kOfB kind now)], .int .i64 0]) ∧ Ext w w' := by
  have hF := kFill_u k a b now cap ha0 ha1 hb0 hn0 hn1 hc0 hc1
  generalize hf : kFill k a b now cap = F at *
  have HF := Lib.hid hf
  obtain ⟨hF0, hF1⟩ := hF
  have HK := Lib.hid hk
  have HQ := Lib.hid hq
  have HO := Lib.hid (show ofR kind now cap F = .tuple #[.agg #[.int .u8 kind, .int .u64 (kOfA kind now cap F), .int .u64 (kOfB kind now)], .int .i64 0] by unfold ofR stV; rw [hq]; rfl)
  generalize kOfA kind now cap F = oa at *
  generalize kOfB kind now = ob at *
  clear hf hk hq
  have br := Blk.new' (w.alloc (.cells #[.int .u8 k, .int .u64 a, .int .u64 b] 63)) #[.int .u8 0, .int .u64 0, .int .u64 0] 63 (b := w.heap.size + 1) (by simp)
  have bs := (Blk.new w #[.int .u8 k, .int .u64 a, .int .u64 b] 63).alloc (.cells #[.int .u8 0, .int .u64 0, .int .u64 0] 63)
  have hx0 : Ext w ((w.alloc (.cells #[.int .u8 k, .int .u64 a, .int .u64 b] 63)).alloc (.cells #[.int .u8 0, .int .u64 0, .int .u64 0] 63)) := ((Ext.refl w).alloc _).alloc _
  go_enter Tryz.func67, Tryz.ntmps67
  go_upto_region 1 with fail
  generalize (w.alloc (.cells #[.int .u8 k, .int .u64 a, .int .u64 b] 63)).alloc (.cells #[.int .u8 0, .int .u64 0, .int .u64 0] 63) = w0 at *
  have hs := bs.cell
  go_wp2_with (first
    | (go_at_call 112; (with_reducible refine (ref07_Right kind _).mono ?_); rw [HQ.out]; rintro x w' ⟨rfl, rfl⟩)
    | (go_at_call 112; (with_reducible refine (ref07_Right k _).mono ?_); rw [HK.out]; rintro x w' ⟨rfl, rfl⟩))
  refine (ref07_Fill k a b now cap _ ha0 ha1 hb0 hb1 hn0 hn1 hc0 hc1).mono ?_
  rw [HF.out]
  rintro x w2 ⟨rfl, hx2⟩
  go_wp2_with fail
  refine (ref07_Of kind now cap F _ hn0 hn1 hc0 hc1 hF0 hF1).mono ?_
  rw [HO.out]
  rintro x w3 ⟨rfl, hx3⟩
  have hR := ((br.ext hx2).ext hx3).alloc (.cells #[.int .u8 kind, .int .u64 oa, .int .u64 ob] 63)
  have hT := Blk.new w3 #[.int .u8 kind, .int .u64 oa, .int .u64 ob] 63
  have hXX : Ext w (w3.alloc (.cells #[.int .u8 kind, .int .u64 oa, .int .u64 ob] 63)) := ((hx0.trans hx2).trans hx3).alloc _
  go_upto_region 4 with fail
  generalize w3.alloc (.cells #[.int .u8 kind, .int .u64 oa, .int .u64 ob] 63) = w4 at *
  have hfr := hR.free
  have hr := hR.cell
  have hc := hT.cell
  have hl := hR.lt
  have hw := hXX.sz
  clear br bs hs
  go_wp2
  have hS := ((hR.set 0 (.int .u8 kind)).set 1 (.int .u64 oa)).set 2 (.int .u64 ob)
  refine ret_cell_tmp Tryz.results67 rfl rfl hS Tryz.underlying63 rfl (by kernel_rfl) ⟨rfl, ?_⟩
  exact hXX.set3 (b := w.heap.size + 1) (by omega) _ _ _

end Go.Proofs.YtfglpejbgfmojaaGreat
