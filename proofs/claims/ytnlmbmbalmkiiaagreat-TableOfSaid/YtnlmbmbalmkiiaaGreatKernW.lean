/- Walks: the three kernels. -/
import Derived.Test.YtnlmbmbalmkiiaaGreatNumW
import Derived.Test.YtnlmbmbalmkiiaaGreatRets
import Derived.Test.YtnlmbmbalmkiiaaGreatKern
namespace Go.Proofs.YtnlmbmbalmkiiaaGreat
open Go.RowKit
set_option linter.unusedVariables false
set_option linter.unusedSimpArgs false

def stV (k a b : Int) : Value := .agg #[.int .u8 k, .int .u64 a, .int .u64 b]
def stB (k a b : Int) (ok : Bool) : Value := .tuple #[stV k a b, .bool ok]

theorem gcra_Of (now cap fill : Int) (w : World) (hn0 : 0 ≤ now) (hn1 : now < 18446744073709551616) (hf0 : 0 ≤ fill) (hf1 : fill < 18446744073709551616) :
    Calls Tryz.prog 108 #[.int .u64 now, .int .u64 cap, .int .u64 fill] w fun e w' => e = .returned (stV 1 (satAdd now fill) 0) ∧ Ext w w' := by
  go_enter Tryz.func108, Tryz.ntmps108
  go_wp2_with fail
  refine (num_Add _ now fill _ hn0 hn1 hf0 hf1 ?_ ?_).mono ?_
  · exact (Blk.new' _ _ _ (by simp)).cell 0
  · exact (Blk.new' _ _ _ (by simp)).cell 1
  rintro e w' ⟨rfl, rfl⟩
  go_wp2
  exact bodyPost_ret (v := stV 1 (satAdd now fill) 0) (by simp [results, Tryz.results108, go_sem, stV]) rfl ⟨rfl, (by repeat (first | with_reducible exact Ext.refl _ | with_reducible assumption | with_reducible refine Ext.alloc ?_ _ | with_reducible refine Ext.drew ?_ | (with_reducible refine Ext.setCell ?_ (by first | exact Nat.le_refl _ | (dsimp only; omega) | (simp; done) | (simp; omega)) _) | with_reducible refine Ext.setCell ?_ (by simp; try omega) _ | with_reducible refine Ext.trans ?_ (by with_reducible assumption)))⟩

theorem gcra_Fill (k a b now cap : Int) (w : World) (ha0 : 0 ≤ a) (ha1 : a < 18446744073709551616) (hn0 : 0 ≤ now) (hn1 : now < 18446744073709551616) :
    Calls Tryz.prog 109 #[.agg #[.int .u8 k, .int .u64 a, .int .u64 b], .int .u64 now, .int .u64 cap] w fun e w' => e = .returned (.int .u64 (satSub a now)) ∧ Ext w w' := by
  go_enter Tryz.func109, Tryz.ntmps109
  go_wp2_with (go_at_call 80; refine (num_Sub _ _ _ ha0 ha1 hn0 hn1).mono ?_; rintro e w' ⟨rfl, rfl⟩)
  go_ret
  exact ⟨rfl, (by repeat (first | with_reducible exact Ext.refl _ | with_reducible assumption | with_reducible refine Ext.alloc ?_ _ | with_reducible refine Ext.drew ?_ | (with_reducible refine Ext.setCell ?_ (by first | exact Nat.le_refl _ | (dsimp only; omega) | (simp; done) | (simp; omega)) _) | with_reducible refine Ext.trans ?_ (by with_reducible assumption)))⟩

theorem max_cases (a b : Int) : (max a b = a ∧ b ≤ a) ∨ (max a b = b ∧ a < b) := by omega

/-- at the label behind 'goto told' -/
def ToldJ (B : Nat) (w1 : World) (a' : Act) (w' : World) : Prop :=
  w' = w1 ∧ ∃ u0 u1 u2 u3 u5 u6 u7 u10 u11 u12 u13 u14 u15 u16 u17 u18 u19 u20 u21 u22 u23 u24 u25 u26 u27 u28 : Value, a' = { tmps := #[u0, u1, u2, u3, .pointer (some ⟨B, 0, none⟩), u5, u6, u7, .pointer (some ⟨B + 1, 0, none⟩), .bool false, u10, u11, u12, u13, u14, u15, u16, u17, u18, u19, u20, u21, u22, u23, u24, u25, u26, u27, u28], defers := [] }

set_option maxHeartbeats 1000000 in
set_option maxRecDepth 100000 in
theorem gcra_Decide_le_no (a b now cap x : Int) (w : World) (ha0 : 0 ≤ a) (ha1 : a < 18446744073709551616) (hb0 : 0 ≤ b) (hb1 : b < 18446744073709551616) (hn0 : 0 ≤ now) (hn1 : now < 18446744073709551616) (hc0 : 0 ≤ cap) (hc1 : cap < 18446744073709551616) (hx0 : 0 ≤ x) (hx1 : x < 18446744073709551616) (h : now ≤ a) (HK : Hid (fitsB (a - now) x cap = false)) :
    Calls Tryz.prog 110 #[.agg #[.int .u8 1, .int .u64 a, .int .u64 b], .int .u64 now, .int .u64 cap, .int .u64 x] w fun e w' => e = .returned (stB 1 a b false) ∧ Ext w w' := by
  go_enter Tryz.func110, Tryz.ntmps110
  go_wp2
  have hB := Blk.new' (w.alloc (.cells #[.int .u8 1, .int .u64 a, .int .u64 b] 65)) #[.int .u8 1, .int .u64 a, .int .u64 b] 65 (b := w.heap.size + 1) (by simp)
  refine wp_scope_jumps 0 (ToldJ w.heap.size ((w.alloc (.cells #[.int .u8 1, .int .u64 a, .int .u64 b] 65)).alloc (.cells #[.int .u8 1, .int .u64 a, .int .u64 b] 65))) (fun _ _ => 0) rfl ?_ ?_
  · go_wp2_with (go_at_call 76; refine (num_Fits _ _ _ _ (by omega) (by omega) hx0 hx1 hc0 hc1).mono ?_; rw [HK.out]; rintro e w' ⟨rfl, rfl⟩)
    go_step3
    exact ⟨rfl, rfl, _, _, _, _, _, _, _, _, _, _, _, _, _, _, _, _, _, _, _, _, _, _, _, _, _, _, rfl⟩
  · rintro a' w' ⟨rfl, u0, u1, u2, u3, u5, u6, u7, u10, u11, u12, u13, u14, u15, u16, u17, u18, u19, u20, u21, u22, u23, u24, u25, u26, u27, u28, rfl⟩
    have hc := hB.cell
    have hf := hB.free
    go_wp2
    simp only [Exit.jump]
    exact bodyPost_ret (v := stB 1 a b false) (by simp [results, Tryz.results110, go_sem, stB, stV]) rfl ⟨rfl, (by repeat (first | with_reducible exact Ext.refl _ | with_reducible assumption | with_reducible refine Ext.alloc ?_ _ | with_reducible refine Ext.drew ?_ | (with_reducible refine Ext.setCell ?_ (by first | exact Nat.le_refl _ | (dsimp only; omega) | (simp; done) | (simp; omega)) _) | with_reducible refine Ext.trans ?_ (by with_reducible assumption)))⟩

set_option maxHeartbeats 1000000 in
set_option maxRecDepth 100000 in
theorem gcra_Decide_le_yes (a b now cap x : Int) (w : World) (ha0 : 0 ≤ a) (ha1 : a < 18446744073709551616) (hb0 : 0 ≤ b) (hb1 : b < 18446744073709551616) (hn0 : 0 ≤ now) (hn1 : now < 18446744073709551616) (hc0 : 0 ≤ cap) (hc1 : cap < 18446744073709551616) (hx0 : 0 ≤ x) (hx1 : x < 18446744073709551616) (h : now ≤ a) (HK : Hid (fitsB (a - now) x cap = true)) :
    Calls Tryz.prog 110 #[.agg #[.int .u8 1, .int .u64 a, .int .u64 b], .int .u64 now, .int .u64 cap, .int .u64 x] w fun e w' => e = .returned (stB 1 (satAdd a x) 0 true) ∧ Ext w w' := by
  go_enter Tryz.func110, Tryz.ntmps110
  go_wp2
  refine wp_scope_jumps 0 (fun _ _ => False) (fun _ _ => 0) rfl ?_ ?_
  · go_wp2_with (go_at_call 76; refine (num_Fits _ _ _ _ (by omega) (by omega) hx0 hx1 hc0 hc1).mono ?_; rw [HK.out]; rintro e w' ⟨rfl, rfl⟩)
    refine (gcra_Of _ _ _ _ (by omega) (by omega) hx0 hx1).mono ?_
    rintro e w1 ⟨rfl, hx⟩
    have hB := (Blk.new' (w.alloc (.cells #[.int .u8 1, .int .u64 a, .int .u64 b] 65)) #[.int .u8 1, .int .u64 a, .int .u64 b] 65 (b := w.heap.size + 1) (by simp)).ext hx
    have hc := hB.cell
    have hf := hB.free
    have hl := hB.lt
    simp only [stV]
    go_wp2
    go_step3
    go_wp2
    simp only [Exit.jump]
    have hS := (((((hB.set 0 (.int .u8 1)).set 1 (.int .u64 (satAdd a x))).set 2 (.int .u64 0)).set 0 (.int .u8 1)).set 1 (.int .u64 (satAdd a x))).set 2 (.int .u64 0)
    refine ret_cell_tmp Tryz.results110 rfl rfl hS Tryz.underlying65 rfl (by kernel_rfl) ⟨rfl, ?_⟩
    have hx' := ((Ext.refl w).alloc _).alloc _ |>.trans hx
    exact (((((hx'.set (by omega) _ _).set (by omega) _ _).set (by omega) _ _).set (by omega) _ _).set (by omega) _ _).set (by omega) _ _
  · rintro a' w' h
    exact h.elim

set_option maxHeartbeats 1000000 in
set_option maxRecDepth 100000 in
theorem gcra_Decide_lt_no (a b now cap x : Int) (w : World) (ha0 : 0 ≤ a) (ha1 : a < 18446744073709551616) (hb0 : 0 ≤ b) (hb1 : b < 18446744073709551616) (hn0 : 0 ≤ now) (hn1 : now < 18446744073709551616) (hc0 : 0 ≤ cap) (hc1 : cap < 18446744073709551616) (hx0 : 0 ≤ x) (hx1 : x < 18446744073709551616) (h : a < now) (HK : Hid (fitsB 0 x cap = false)) :
    Calls Tryz.prog 110 #[.agg #[.int .u8 1, .int .u64 a, .int .u64 b], .int .u64 now, .int .u64 cap, .int .u64 x] w fun e w' => e = .returned (stB 1 a b false) ∧ Ext w w' := by
  go_enter Tryz.func110, Tryz.ntmps110
  go_wp2
  have hB := Blk.new' (w.alloc (.cells #[.int .u8 1, .int .u64 a, .int .u64 b] 65)) #[.int .u8 1, .int .u64 a, .int .u64 b] 65 (b := w.heap.size + 1) (by simp)
  refine wp_scope_jumps 0 (ToldJ w.heap.size ((w.alloc (.cells #[.int .u8 1, .int .u64 a, .int .u64 b] 65)).alloc (.cells #[.int .u8 1, .int .u64 a, .int .u64 b] 65))) (fun _ _ => 0) rfl ?_ ?_
  · go_wp2_with (go_at_call 76; refine (num_Fits _ _ _ _ (by omega) (by omega) hx0 hx1 hc0 hc1).mono ?_; rw [HK.out]; rintro e w' ⟨rfl, rfl⟩)
    go_step3
    exact ⟨rfl, rfl, _, _, _, _, _, _, _, _, _, _, _, _, _, _, _, _, _, _, _, _, _, _, _, _, _, _, rfl⟩
  · rintro a' w' ⟨rfl, u0, u1, u2, u3, u5, u6, u7, u10, u11, u12, u13, u14, u15, u16, u17, u18, u19, u20, u21, u22, u23, u24, u25, u26, u27, u28, rfl⟩
    have hc := hB.cell
    have hf := hB.free
    go_wp2
    simp only [Exit.jump]
    exact bodyPost_ret (v := stB 1 a b false) (by simp [results, Tryz.results110, go_sem, stB, stV]) rfl ⟨rfl, (by repeat (first | with_reducible exact Ext.refl _ | with_reducible assumption | with_reducible refine Ext.alloc ?_ _ | with_reducible refine Ext.drew ?_ | (with_reducible refine Ext.setCell ?_ (by first | exact Nat.le_refl _ | (dsimp only; omega) | (simp; done) | (simp; omega)) _) | with_reducible refine Ext.trans ?_ (by with_reducible assumption)))⟩

set_option maxHeartbeats 1000000 in
set_option maxRecDepth 100000 in
theorem gcra_Decide_lt_yes (a b now cap x : Int) (w : World) (ha0 : 0 ≤ a) (ha1 : a < 18446744073709551616) (hb0 : 0 ≤ b) (hb1 : b < 18446744073709551616) (hn0 : 0 ≤ now) (hn1 : now < 18446744073709551616) (hc0 : 0 ≤ cap) (hc1 : cap < 18446744073709551616) (hx0 : 0 ≤ x) (hx1 : x < 18446744073709551616) (h : a < now) (HK : Hid (fitsB 0 x cap = true)) :
    Calls Tryz.prog 110 #[.agg #[.int .u8 1, .int .u64 a, .int .u64 b], .int .u64 now, .int .u64 cap, .int .u64 x] w fun e w' => e = .returned (stB 1 (satAdd now x) 0 true) ∧ Ext w w' := by
  go_enter Tryz.func110, Tryz.ntmps110
  go_wp2
  refine wp_scope_jumps 0 (fun _ _ => False) (fun _ _ => 0) rfl ?_ ?_
  · go_wp2_with (go_at_call 76; refine (num_Fits _ _ _ _ (by omega) (by omega) hx0 hx1 hc0 hc1).mono ?_; rw [HK.out]; rintro e w' ⟨rfl, rfl⟩)
    refine (gcra_Of _ _ _ _ (by omega) (by omega) hx0 hx1).mono ?_
    rintro e w1 ⟨rfl, hx⟩
    have hB := (Blk.new' (w.alloc (.cells #[.int .u8 1, .int .u64 a, .int .u64 b] 65)) #[.int .u8 1, .int .u64 a, .int .u64 b] 65 (b := w.heap.size + 1) (by simp)).ext hx
    have hc := hB.cell
    have hf := hB.free
    have hl := hB.lt
    simp only [stV]
    go_wp2
    go_step3
    go_wp2
    simp only [Exit.jump]
    have hS := (((((hB.set 0 (.int .u8 1)).set 1 (.int .u64 (satAdd now x))).set 2 (.int .u64 0)).set 0 (.int .u8 1)).set 1 (.int .u64 (satAdd now x))).set 2 (.int .u64 0)
    refine ret_cell_tmp Tryz.results110 rfl rfl hS Tryz.underlying65 rfl (by kernel_rfl) ⟨rfl, ?_⟩
    have hx' := ((Ext.refl w).alloc _).alloc _ |>.trans hx
    exact (((((hx'.set (by omega) _ _).set (by omega) _ _).set (by omega) _ _).set (by omega) _ _).set (by omega) _ _).set (by omega) _ _
  · rintro a' w' h
    exact h.elim
end Go.Proofs.YtnlmbmbalmkiiaaGreat
