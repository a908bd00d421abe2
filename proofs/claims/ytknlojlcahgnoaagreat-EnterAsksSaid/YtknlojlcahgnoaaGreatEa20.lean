/- Walks: the reference 07. -/
import Derived.Test.YtknlojlcahgnoaaGreatEa17
import Derived.Test.YtknlojlcahgnoaaGreatEa12
import Derived.Test.YtknlojlcahgnoaaGreatEa15

namespace Go.Proofs.YtknlojlcahgnoaaGreat
open Go.RowKit
set_option linter.unusedVariables false
set_option linter.unusedSimpArgs false

def ofR (k now cap fill : Int) : Value := .tuple #[stV (if rightKind k then k else 0) (kOfA k now cap fill) (kOfB k now), .int .i64 (if rightKind k then 0 else 27)]
theorem Blk.oth3 {w : World} {g b : Nat} {C : Array Value} {t : TypeId} (h : Blk w g C t) (ne : g ≠ b) (v0 v1 v2 : Value) : Blk (((w.setCell ⟨b, 0, none⟩ v0).setCell ⟨b, 1, none⟩ v1).setCell ⟨b, 2, none⟩ v2) g C t := ((h.other ne _).other ne _).other ne _
theorem Ext.set3 {x y : World} (h : Ext x y) {b : Nat} (hb : x.heap.size ≤ b) (v0 v1 v2 : Value) : Ext x (((y.setCell ⟨b, 0, none⟩ v0).setCell ⟨b, 1, none⟩ v1).setCell ⟨b, 2, none⟩ v2) := ((h.set hb _ _).set hb _ _).set hb _ _
theorem not_kind {k : Int} (h : ¬ (1 ≤ k ∧ k ≤ 3)) : k ≠ 1 ∧ k ≠ 2 ∧ k ≠ 3 ∧ (k == 1) = false ∧ (k == 2) = false ∧ (k == 3) = false ∧ rightKind k = false :=
  ⟨by omega, by omega, by omega, by simp; omega, by simp; omega, by simp; omega, by simp [rightKind]; omega⟩

set_option maxHeartbeats 1000000 in
theorem ref07_Of1 (now cap fill : Int) (w : World) (hn0 : 0 ≤ now) (hn1 : now < 18446744073709551616) (hc0 : 0 ≤ cap) (hc1 : cap < 18446744073709551616) (hf0 : 0 ≤ fill) (hf1 : fill < 18446744073709551616) :
    Calls Tryz.prog 114 #[.int .u8 1, .int .u64 now, .int .u64 cap, .int .u64 fill] w fun e w' => e = .returned (.tuple #[.agg #[.int .u8 1, .int .u64 (satAdd now fill), .int .u64 0], .int .i64 0]) ∧ Ext w w' := by
  go_enter Tryz.func114, Tryz.ntmps114
  go_wp2_with fail
  refine (ref06_Of now fill _ hn0 hn1 hf0 hf1).mono ?_
  rintro e w1 ⟨rfl, hx⟩
  have hB := (Blk.new w #[.int .u8 0, .int .u64 0, .int .u64 0] 140).ext hx
  have hx' := ((Ext.refl w).alloc _).trans hx
  have hf := hB.free
  have hc := hB.cell
  have hl := hB.lt
  simp only [stV]
  go_wp2
  have hS := ((hB.set 0 (.int .u8 1)).set 1 (.int .u64 (satAdd now fill))).set 2 (.int .u64 0)
  refine ret_cell_tmp Tryz.results114 rfl rfl hS Tryz.underlying140 rfl (by kernel_rfl) ⟨rfl, ?_⟩
  exact ((hx'.set (by omega) _ _).set (by omega) _ _).set (by omega) _ _

set_option maxHeartbeats 1000000 in
theorem ref07_Of2 (now cap fill : Int) (w : World) (hn0 : 0 ≤ now) (hn1 : now < 18446744073709551616) (hc0 : 0 ≤ cap) (hc1 : cap < 18446744073709551616) (hf0 : 0 ≤ fill) (hf1 : fill < 18446744073709551616) :
    Calls Tryz.prog 114 #[.int .u8 2, .int .u64 now, .int .u64 cap, .int .u64 fill] w fun e w' => e = .returned (.tuple #[.agg #[.int .u8 2, .int .u64 (satSub cap fill), .int .u64 now], .int .i64 0]) ∧ Ext w w' := by
  go_enter Tryz.func114, Tryz.ntmps114
  go_wp2_with fail
  refine (ref05_Of now cap fill _ hc0 hc1 hf0 hf1).mono ?_
  rintro e w1 ⟨rfl, hx⟩
  have hB := (Blk.new w #[.int .u8 0, .int .u64 0, .int .u64 0] 140).ext hx
  have hx' := ((Ext.refl w).alloc _).trans hx
  have hf := hB.free
  have hc := hB.cell
  have hl := hB.lt
  simp only [stV]
  go_wp2
  have hS := ((hB.set 0 (.int .u8 2)).set 1 (.int .u64 (satSub cap fill))).set 2 (.int .u64 now)
  refine ret_cell_tmp Tryz.results114 rfl rfl hS Tryz.underlying140 rfl (by kernel_rfl) ⟨rfl, ?_⟩
  exact ((hx'.set (by omega) _ _).set (by omega) _ _).set (by omega) _ _

set_option maxHeartbeats 1000000 in
theorem ref07_Of3 (now cap fill : Int) (w : World) (hn0 : 0 ≤ now) (hn1 : now < 18446744073709551616) (hc0 : 0 ≤ cap) (hc1 : cap < 18446744073709551616) (hf0 : 0 ≤ fill) (hf1 : fill < 18446744073709551616) :
    Calls Tryz.prog 114 #[.int .u8 3, .int .u64 now, .int .u64 cap, .int .u64 fill] w fun e w' => e = .returned (.tuple #[.agg #[.int .u8 3, .int .u64 (fill), .int .u64 now], .int .i64 0]) ∧ Ext w w' := by
  go_enter Tryz.func114, Tryz.ntmps114
  go_wp2_with fail
  refine (ref04_Of now fill _).mono ?_
  rintro e w1 ⟨rfl, hx⟩
  have hB := (Blk.new w #[.int .u8 0, .int .u64 0, .int .u64 0] 140).ext hx
  have hx' := ((Ext.refl w).alloc _).trans hx
  have hf := hB.free
  have hc := hB.cell
  have hl := hB.lt
  simp only [stV]
  go_wp2
  have hS := ((hB.set 0 (.int .u8 3)).set 1 (.int .u64 (fill))).set 2 (.int .u64 now)
  refine ret_cell_tmp Tryz.results114 rfl rfl hS Tryz.underlying140 rfl (by kernel_rfl) ⟨rfl, ?_⟩
  exact ((hx'.set (by omega) _ _).set (by omega) _ _).set (by omega) _ _

set_option maxHeartbeats 1000000 in
theorem ref07_Of0 (k now cap fill : Int) (w : World) (h : ¬ (1 ≤ k ∧ k ≤ 3)) :
    Calls Tryz.prog 114 #[.int .u8 k, .int .u64 now, .int .u64 cap, .int .u64 fill] w fun e w' => e = .returned (.tuple #[.agg #[.int .u8 0, .int .u64 0, .int .u64 0], .int .i64 27]) ∧ Ext w w' := by
  obtain ⟨-, -, -, e1, e2, e3, -⟩ := not_kind h
  clear h
  have hS := Blk.new w #[.int .u8 0, .int .u64 0, .int .u64 0] 140
  go_enter Tryz.func114, Tryz.ntmps114
  go_wp2
  exact ret_cell_tmp Tryz.results114 rfl rfl hS Tryz.underlying140 rfl (by kernel_rfl) ⟨rfl, (Ext.refl w).alloc _⟩
theorem ref07_Of (k now cap fill : Int) (w : World) (hn0 : 0 ≤ now) (hn1 : now < 18446744073709551616) (hc0 : 0 ≤ cap) (hc1 : cap < 18446744073709551616) (hf0 : 0 ≤ fill) (hf1 : fill < 18446744073709551616) :
    Calls Tryz.prog 114 #[.int .u8 k, .int .u64 now, .int .u64 cap, .int .u64 fill] w fun e w' => e = .returned (ofR k now cap fill) ∧ Ext w w' := by
  by_cases h1 : k = 1
  · subst h1; exact ref07_Of1 now cap fill w hn0 hn1 hc0 hc1 hf0 hf1
  by_cases h2 : k = 2
  · subst h2; exact ref07_Of2 now cap fill w hn0 hn1 hc0 hc1 hf0 hf1
  by_cases h3 : k = 3
  · subst h3; exact ref07_Of3 now cap fill w hn0 hn1 hc0 hc1 hf0 hf1
  have h : ¬ (1 ≤ k ∧ k ≤ 3) := by omega
  obtain ⟨n1, n2, n3, -, -, -, hr⟩ := not_kind h
  have e : ofR k now cap fill = .tuple #[.agg #[.int .u8 0, .int .u64 0, .int .u64 0], .int .i64 27] := by
    simp [ofR, hr, stV, kOfA, kOfB, n1, n2, n3]
  rw [e]
  exact ref07_Of0 k now cap fill w h

set_option maxHeartbeats 1000000 in
theorem ref07_Fill1 (a b now cap : Int) (w : World) (ha0 : 0 ≤ a) (ha1 : a < 18446744073709551616) (hb0 : 0 ≤ b) (hb1 : b < 18446744073709551616) (hn0 : 0 ≤ now) (hn1 : now < 18446744073709551616) (hc0 : 0 ≤ cap) (hc1 : cap < 18446744073709551616) :
    Calls Tryz.prog 166 #[.agg #[.int .u8 1, .int .u64 a, .int .u64 b], .int .u64 now, .int .u64 cap] w fun e w' => e = .returned (.int .u64 (satSub a now)) ∧ Ext w w' := by
  have bq := Blk.new w #[.int .u8 1, .int .u64 a, .int .u64 b] 140
  have hq := bq.cell
  have H := Lib.hid (fun W : World => ref06_Fill 1 a b now W ha0 ha1 hn0 hn1)
  go_enter Tryz.func166, Tryz.ntmps166
  go_wp2_with fail
  refine (H.out _).mono ?_
  rintro e w1 ⟨rfl, hx⟩
  go_wp2
  go_ret
  exact ⟨rfl, (by repeat (first | with_reducible exact Ext.refl _ | with_reducible assumption | with_reducible refine Ext.alloc ?_ _ | with_reducible refine Ext.drew ?_ | (with_reducible refine Ext.setCell ?_ (by first | exact Nat.le_refl _ | (dsimp only; omega) | (simp; done) | (simp; omega)) _) | with_reducible refine Ext.trans ?_ (by with_reducible assumption)))⟩

set_option maxHeartbeats 1000000 in
theorem ref07_Fill2 (a b now cap : Int) (w : World) (ha0 : 0 ≤ a) (ha1 : a < 18446744073709551616) (hb0 : 0 ≤ b) (hb1 : b < 18446744073709551616) (hn0 : 0 ≤ now) (hn1 : now < 18446744073709551616) (hc0 : 0 ≤ cap) (hc1 : cap < 18446744073709551616) :
    Calls Tryz.prog 166 #[.agg #[.int .u8 2, .int .u64 a, .int .u64 b], .int .u64 now, .int .u64 cap] w fun e w' => e = .returned (.int .u64 (cap - tokens a b now cap)) ∧ Ext w w' := by
  have bq := Blk.new w #[.int .u8 2, .int .u64 a, .int .u64 b] 140
  have hq := bq.cell
  have H := Lib.hid (fun W : World => ref05_Fill 2 a b now cap W ha0 ha1 hb0 hb1 hn0 hn1 hc0 hc1)
  go_enter Tryz.func166, Tryz.ntmps166
  go_wp2_with fail
  refine (H.out _).mono ?_
  rintro e w1 ⟨rfl, hx⟩
  go_wp2
  go_ret
  exact ⟨rfl, (by repeat (first | with_reducible exact Ext.refl _ | with_reducible assumption | with_reducible refine Ext.alloc ?_ _ | with_reducible refine Ext.drew ?_ | (with_reducible refine Ext.setCell ?_ (by first | exact Nat.le_refl _ | (dsimp only; omega) | (simp; done) | (simp; omega)) _) | with_reducible refine Ext.trans ?_ (by with_reducible assumption)))⟩

set_option maxHeartbeats 1000000 in
theorem ref07_Fill3 (a b now cap : Int) (w : World) (ha0 : 0 ≤ a) (ha1 : a < 18446744073709551616) (hb0 : 0 ≤ b) (hb1 : b < 18446744073709551616) (hn0 : 0 ≤ now) (hn1 : now < 18446744073709551616) (hc0 : 0 ≤ cap) (hc1 : cap < 18446744073709551616) :
    Calls Tryz.prog 166 #[.agg #[.int .u8 3, .int .u64 a, .int .u64 b], .int .u64 now, .int .u64 cap] w fun e w' => e = .returned (.int .u64 (meterT a b now)) ∧ Ext w w' := by
  have bq := Blk.new w #[.int .u8 3, .int .u64 a, .int .u64 b] 140
  have hq := bq.cell
  have H := Lib.hid (fun W : World => ref04_Fill 3 a b now W ha0 ha1 hb0 hb1 hn0 hn1)
  go_enter Tryz.func166, Tryz.ntmps166
  go_wp2_with fail
  refine (H.out _).mono ?_
  rintro e w1 ⟨rfl, hx⟩
  go_wp2
  go_ret
  exact ⟨rfl, (by repeat (first | with_reducible exact Ext.refl _ | with_reducible assumption | with_reducible refine Ext.alloc ?_ _ | with_reducible refine Ext.drew ?_ | (with_reducible refine Ext.setCell ?_ (by first | exact Nat.le_refl _ | (dsimp only; omega) | (simp; done) | (simp; omega)) _) | with_reducible refine Ext.trans ?_ (by with_reducible assumption)))⟩

set_option maxHeartbeats 1000000 in
theorem ref07_Fill0 (k a b now cap : Int) (w : World) (h : ¬ (1 ≤ k ∧ k ≤ 3)) :
    Calls Tryz.prog 166 #[.agg #[.int .u8 k, .int .u64 a, .int .u64 b], .int .u64 now, .int .u64 cap] w fun e w' => e = .returned (.int .u64 0) ∧ Ext w w' := by
  obtain ⟨-, -, -, e1, e2, e3, -⟩ := not_kind h
  clear h
  go_enter Tryz.func166, Tryz.ntmps166
  go_wp2
  go_ret
  exact ⟨rfl, (by repeat (first | with_reducible exact Ext.refl _ | with_reducible assumption | with_reducible refine Ext.alloc ?_ _ | with_reducible refine Ext.drew ?_ | (with_reducible refine Ext.setCell ?_ (by first | exact Nat.le_refl _ | (dsimp only; omega) | (simp; done) | (simp; omega)) _) | with_reducible refine Ext.trans ?_ (by with_reducible assumption)))⟩
theorem ref07_Fill (k a b now cap : Int) (w : World) (ha0 : 0 ≤ a) (ha1 : a < 18446744073709551616) (hb0 : 0 ≤ b) (hb1 : b < 18446744073709551616) (hn0 : 0 ≤ now) (hn1 : now < 18446744073709551616) (hc0 : 0 ≤ cap) (hc1 : cap < 18446744073709551616) :
    Calls Tryz.prog 166 #[.agg #[.int .u8 k, .int .u64 a, .int .u64 b], .int .u64 now, .int .u64 cap] w fun e w' => e = .returned (.int .u64 (kFill k a b now cap)) ∧ Ext w w' := by
  by_cases h1 : k = 1
  · subst h1; exact ref07_Fill1 a b now cap w ha0 ha1 hb0 hb1 hn0 hn1 hc0 hc1
  by_cases h2 : k = 2
  · subst h2; exact ref07_Fill2 a b now cap w ha0 ha1 hb0 hb1 hn0 hn1 hc0 hc1
  by_cases h3 : k = 3
  · subst h3; exact ref07_Fill3 a b now cap w ha0 ha1 hb0 hb1 hn0 hn1 hc0 hc1
  have e : kFill k a b now cap = 0 := by unfold kFill; rw [if_neg h1, if_neg h2, if_neg h3]
  rw [e]
  exact ref07_Fill0 k a b now cap w (by omega)

set_option maxHeartbeats 1000000 in
set_option maxRecDepth 100000 in
theorem ref07_Until (k a b now cap : Int) (w : World) (ha0 : 0 ≤ a) (ha1 : a < 18446744073709551616) (hb0 : 0 ≤ b) (hb1 : b < 18446744073709551616) (hn0 : 0 ≤ now) (hn1 : now < 18446744073709551616) (hc0 : 0 ≤ cap) (hc1 : cap < 18446744073709551616) :
    Calls Tryz.prog 167 #[.agg #[.int .u8 k, .int .u64 a, .int .u64 b], .int .u64 now, .int .u64 cap] w fun e w' => e = .returned (.int .u64 (kUntil (kFill k a b now cap) now)) ∧ Ext w w' := by
  have hF := kFill_u k a b now cap ha0 ha1 hb0 hn0 hn1 hc0 hc1
  generalize hf : kFill k a b now cap = F at *
  have HF := Lib.hid hf
  obtain ⟨hF0, hF1⟩ := hF
  clear hf
  by_cases h : 0 < F
  · have HR := Lib.hid (show kUntil F now = satAdd now F from if_pos h)
    go_enter Tryz.func167, Tryz.ntmps167
    go_wp2_with (first
      | (go_at_call 166; (with_reducible refine (ref07_Fill k a b now cap _ ha0 ha1 hb0 hb1 hn0 hn1 hc0 hc1).mono ?_); rw [HF.out]; rintro e w1 ⟨rfl, hx⟩)
      | (go_at_call 202; (with_reducible refine (ref02_Add now F _ hn0 hn1 hF0 hF1).mono ?_); rintro e w' ⟨rfl, rfl⟩))
    go_ret
    exact ⟨ret_int HR.out.symm, (by repeat (first | with_reducible exact Ext.refl _ | with_reducible assumption | with_reducible refine Ext.alloc ?_ _ | with_reducible refine Ext.drew ?_ | (with_reducible refine Ext.setCell ?_ (by first | exact Nat.le_refl _ | (dsimp only; omega) | (simp; done) | (simp; omega)) _) | with_reducible refine Ext.trans ?_ (by with_reducible assumption)))⟩
  · have HR := Lib.hid (show kUntil F now = 0 from if_neg h)
    go_enter Tryz.func167, Tryz.ntmps167
    go_wp2_with (go_at_call 166; (with_reducible refine (ref07_Fill k a b now cap _ ha0 ha1 hb0 hb1 hn0 hn1 hc0 hc1).mono ?_); rw [HF.out]; rintro e w1 ⟨rfl, hx⟩)
    go_ret
    exact ⟨ret_int HR.out.symm, (by repeat (first | with_reducible exact Ext.refl _ | with_reducible assumption | with_reducible refine Ext.alloc ?_ _ | with_reducible refine Ext.drew ?_ | (with_reducible refine Ext.setCell ?_ (by first | exact Nat.le_refl _ | (dsimp only; omega) | (simp; done) | (simp; omega)) _) | with_reducible refine Ext.trans ?_ (by with_reducible assumption)))⟩
end Go.Proofs.YtknlojlcahgnoaaGreat
