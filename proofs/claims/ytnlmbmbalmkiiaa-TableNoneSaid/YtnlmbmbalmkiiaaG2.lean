/- Walks: the three kernels. Walks: packages bucket and leaky. Walks: package leaky. -/
import Derived.Deep.RegionHeld3
import Derived.Test.YtnlmbmbalmkiiaaG1

/- Walks: the three kernels. -/
namespace Go.Proofs.Ytnlmbmbalmkiiaa
open Go.RowKit
set_option linter.unusedVariables false
set_option linter.unusedSimpArgs false

def stV (k a b : Int) : Value := .agg #[.int .u8 k, .int .u64 a, .int .u64 b]
def stB (k a b : Int) (ok : Bool) : Value := .tuple #[stV k a b, .bool ok]

theorem gcra_Of (now cap fill : Int) (w : World) (hn0 : 0 ≤ now) (hn1 : now < 18446744073709551616) (hf0 : 0 ≤ fill) (hf1 : fill < 18446744073709551616) :
    Calls Try.prog 72 #[.int .u64 now, .int .u64 cap, .int .u64 fill] w fun e w' => e = .returned (stV 1 (satAdd now fill) 0) ∧ Ext w w' := by
  go_enter Try.func72, Try.ntmps72
  go_wp2_with fail
  refine (num_Add _ now fill _ hn0 hn1 hf0 hf1 ?_ ?_).mono ?_
  · exact (Blk.new' _ _ _ (by simp)).cell 0
  · exact (Blk.new' _ _ _ (by simp)).cell 1
  rintro e w' ⟨rfl, rfl⟩
  go_wp2
  exact bodyPost_ret (v := stV 1 (satAdd now fill) 0) (by simp [results, Try.results72, go_sem, stV]) rfl ⟨rfl, (by repeat (first | with_reducible exact Ext.refl _ | with_reducible assumption | with_reducible refine Ext.alloc ?_ _ | with_reducible refine Ext.drew ?_ | (with_reducible refine Ext.setCell ?_ (by first | exact Nat.le_refl _ | (dsimp only; omega) | (simp; done) | (simp; omega)) _) | with_reducible refine Ext.setCell ?_ (by simp; try omega) _ | with_reducible refine Ext.trans ?_ (by with_reducible assumption)))⟩

theorem gcra_Fill (k a b now cap : Int) (w : World) (ha0 : 0 ≤ a) (ha1 : a < 18446744073709551616) (hn0 : 0 ≤ now) (hn1 : now < 18446744073709551616) :
    Calls Try.prog 73 #[.agg #[.int .u8 k, .int .u64 a, .int .u64 b], .int .u64 now, .int .u64 cap] w fun e w' => e = .returned (.int .u64 (satSub a now)) ∧ Ext w w' := by
  go_enter Try.func73, Try.ntmps73
  go_wp2_with (go_at_call 59; refine (num_Sub _ _ _ ha0 ha1 hn0 hn1).mono ?_; rintro e w' ⟨rfl, rfl⟩)
  go_ret
  exact ⟨rfl, (by repeat (first | with_reducible exact Ext.refl _ | with_reducible assumption | with_reducible refine Ext.alloc ?_ _ | with_reducible refine Ext.drew ?_ | (with_reducible refine Ext.setCell ?_ (by first | exact Nat.le_refl _ | (dsimp only; omega) | (simp; done) | (simp; omega)) _) | with_reducible refine Ext.trans ?_ (by with_reducible assumption)))⟩

theorem max_cases (a b : Int) : (max a b = a ∧ b ≤ a) ∨ (max a b = b ∧ a < b) := by omega

/-- at the label behind 'goto told' -/
def ToldJ (B : Nat) (w1 : World) (a' : Act) (w' : World) : Prop :=
  w' = w1 ∧ ∃ u0 u1 u2 u3 u5 u6 u7 u10 u11 u12 u13 u14 u15 u16 u17 u18 u19 u20 u21 u22 u23 u24 u25 u26 u27 u28 : Value, a' = { tmps := #[u0, u1, u2, u3, .pointer (some ⟨B, 0, none⟩), u5, u6, u7, .pointer (some ⟨B + 1, 0, none⟩), .bool false, u10, u11, u12, u13, u14, u15, u16, u17, u18, u19, u20, u21, u22, u23, u24, u25, u26, u27, u28], defers := [] }

set_option maxHeartbeats 1000000 in
set_option maxRecDepth 100000 in
theorem gcra_Decide_le_no (a b now cap x : Int) (w : World) (ha0 : 0 ≤ a) (ha1 : a < 18446744073709551616) (hb0 : 0 ≤ b) (hb1 : b < 18446744073709551616) (hn0 : 0 ≤ now) (hn1 : now < 18446744073709551616) (hc0 : 0 ≤ cap) (hc1 : cap < 18446744073709551616) (hx0 : 0 ≤ x) (hx1 : x < 18446744073709551616) (h : now ≤ a) (HK : Hid (fitsB (a - now) x cap = false)) :
    Calls Try.prog 74 #[.agg #[.int .u8 1, .int .u64 a, .int .u64 b], .int .u64 now, .int .u64 cap, .int .u64 x] w fun e w' => e = .returned (stB 1 a b false) ∧ Ext w w' := by
  go_enter Try.func74, Try.ntmps74
  go_wp2
  have hB := Blk.new' (w.alloc (.cells #[.int .u8 1, .int .u64 a, .int .u64 b] 50)) #[.int .u8 1, .int .u64 a, .int .u64 b] 50 (b := w.heap.size + 1) (by simp)
  refine wp_scope_jumps 0 (ToldJ w.heap.size ((w.alloc (.cells #[.int .u8 1, .int .u64 a, .int .u64 b] 50)).alloc (.cells #[.int .u8 1, .int .u64 a, .int .u64 b] 50))) (fun _ _ => 0) rfl ?_ ?_
  · go_wp2_with (go_at_call 55; refine (num_Fits _ _ _ _ (by omega) (by omega) hx0 hx1 hc0 hc1).mono ?_; rw [HK.out]; rintro e w' ⟨rfl, rfl⟩)
    go_step3
    exact ⟨rfl, rfl, _, _, _, _, _, _, _, _, _, _, _, _, _, _, _, _, _, _, _, _, _, _, _, _, _, _, rfl⟩
  · rintro a' w' ⟨rfl, u0, u1, u2, u3, u5, u6, u7, u10, u11, u12, u13, u14, u15, u16, u17, u18, u19, u20, u21, u22, u23, u24, u25, u26, u27, u28, rfl⟩
    have hc := hB.cell
    have hf := hB.free
    go_wp2
    simp only [Exit.jump]
    exact bodyPost_ret (v := stB 1 a b false) (by simp [results, Try.results74, go_sem, stB, stV]) rfl ⟨rfl, (by repeat (first | with_reducible exact Ext.refl _ | with_reducible assumption | with_reducible refine Ext.alloc ?_ _ | with_reducible refine Ext.drew ?_ | (with_reducible refine Ext.setCell ?_ (by first | exact Nat.le_refl _ | (dsimp only; omega) | (simp; done) | (simp; omega)) _) | with_reducible refine Ext.trans ?_ (by with_reducible assumption)))⟩

set_option maxHeartbeats 1000000 in
set_option maxRecDepth 100000 in
theorem gcra_Decide_le_yes (a b now cap x : Int) (w : World) (ha0 : 0 ≤ a) (ha1 : a < 18446744073709551616) (hb0 : 0 ≤ b) (hb1 : b < 18446744073709551616) (hn0 : 0 ≤ now) (hn1 : now < 18446744073709551616) (hc0 : 0 ≤ cap) (hc1 : cap < 18446744073709551616) (hx0 : 0 ≤ x) (hx1 : x < 18446744073709551616) (h : now ≤ a) (HK : Hid (fitsB (a - now) x cap = true)) :
    Calls Try.prog 74 #[.agg #[.int .u8 1, .int .u64 a, .int .u64 b], .int .u64 now, .int .u64 cap, .int .u64 x] w fun e w' => e = .returned (stB 1 (satAdd a x) 0 true) ∧ Ext w w' := by
  go_enter Try.func74, Try.ntmps74
  go_wp2
  refine wp_scope_jumps 0 (fun _ _ => False) (fun _ _ => 0) rfl ?_ ?_
  · go_wp2_with (go_at_call 55; refine (num_Fits _ _ _ _ (by omega) (by omega) hx0 hx1 hc0 hc1).mono ?_; rw [HK.out]; rintro e w' ⟨rfl, rfl⟩)
    refine (gcra_Of _ _ _ _ (by omega) (by omega) hx0 hx1).mono ?_
    rintro e w1 ⟨rfl, hx⟩
    have hB := (Blk.new' (w.alloc (.cells #[.int .u8 1, .int .u64 a, .int .u64 b] 50)) #[.int .u8 1, .int .u64 a, .int .u64 b] 50 (b := w.heap.size + 1) (by simp)).ext hx
    have hc := hB.cell
    have hf := hB.free
    have hl := hB.lt
    simp only [stV]
    go_wp2
    go_step3
    go_wp2
    simp only [Exit.jump]
    have hS := (((((hB.set 0 (.int .u8 1)).set 1 (.int .u64 (satAdd a x))).set 2 (.int .u64 0)).set 0 (.int .u8 1)).set 1 (.int .u64 (satAdd a x))).set 2 (.int .u64 0)
    refine ret_cell_tmp Try.results74 rfl rfl hS Try.underlying50 rfl (by kernel_rfl) ⟨rfl, ?_⟩
    have hx' := ((Ext.refl w).alloc _).alloc _ |>.trans hx
    exact (((((hx'.set (by omega) _ _).set (by omega) _ _).set (by omega) _ _).set (by omega) _ _).set (by omega) _ _).set (by omega) _ _
  · rintro a' w' h
    exact h.elim

set_option maxHeartbeats 1000000 in
set_option maxRecDepth 100000 in
theorem gcra_Decide_lt_no (a b now cap x : Int) (w : World) (ha0 : 0 ≤ a) (ha1 : a < 18446744073709551616) (hb0 : 0 ≤ b) (hb1 : b < 18446744073709551616) (hn0 : 0 ≤ now) (hn1 : now < 18446744073709551616) (hc0 : 0 ≤ cap) (hc1 : cap < 18446744073709551616) (hx0 : 0 ≤ x) (hx1 : x < 18446744073709551616) (h : a < now) (HK : Hid (fitsB 0 x cap = false)) :
    Calls Try.prog 74 #[.agg #[.int .u8 1, .int .u64 a, .int .u64 b], .int .u64 now, .int .u64 cap, .int .u64 x] w fun e w' => e = .returned (stB 1 a b false) ∧ Ext w w' := by
  go_enter Try.func74, Try.ntmps74
  go_wp2
  have hB := Blk.new' (w.alloc (.cells #[.int .u8 1, .int .u64 a, .int .u64 b] 50)) #[.int .u8 1, .int .u64 a, .int .u64 b] 50 (b := w.heap.size + 1) (by simp)
  refine wp_scope_jumps 0 (ToldJ w.heap.size ((w.alloc (.cells #[.int .u8 1, .int .u64 a, .int .u64 b] 50)).alloc (.cells #[.int .u8 1, .int .u64 a, .int .u64 b] 50))) (fun _ _ => 0) rfl ?_ ?_
  · go_wp2_with (go_at_call 55; refine (num_Fits _ _ _ _ (by omega) (by omega) hx0 hx1 hc0 hc1).mono ?_; rw [HK.out]; rintro e w' ⟨rfl, rfl⟩)
    go_step3
    exact ⟨rfl, rfl, _, _, _, _, _, _, _, _, _, _, _, _, _, _, _, _, _, _, _, _, _, _, _, _, _, _, rfl⟩
  · rintro a' w' ⟨rfl, u0, u1, u2, u3, u5, u6, u7, u10, u11, u12, u13, u14, u15, u16, u17, u18, u19, u20, u21, u22, u23, u24, u25, u26, u27, u28, rfl⟩
    have hc := hB.cell
    have hf := hB.free
    go_wp2
    simp only [Exit.jump]
    exact bodyPost_ret (v := stB 1 a b false) (by simp [results, Try.results74, go_sem, stB, stV]) rfl ⟨rfl, (by repeat (first | with_reducible exact Ext.refl _ | with_reducible assumption | with_reducible refine Ext.alloc ?_ _ | with_reducible refine Ext.drew ?_ | (with_reducible refine Ext.setCell ?_ (by first | exact Nat.le_refl _ | (dsimp only; omega) | (simp; done) | (simp; omega)) _) | with_reducible refine Ext.trans ?_ (by with_reducible assumption)))⟩

set_option maxHeartbeats 1000000 in
set_option maxRecDepth 100000 in
theorem gcra_Decide_lt_yes (a b now cap x : Int) (w : World) (ha0 : 0 ≤ a) (ha1 : a < 18446744073709551616) (hb0 : 0 ≤ b) (hb1 : b < 18446744073709551616) (hn0 : 0 ≤ now) (hn1 : now < 18446744073709551616) (hc0 : 0 ≤ cap) (hc1 : cap < 18446744073709551616) (hx0 : 0 ≤ x) (hx1 : x < 18446744073709551616) (h : a < now) (HK : Hid (fitsB 0 x cap = true)) :
    Calls Try.prog 74 #[.agg #[.int .u8 1, .int .u64 a, .int .u64 b], .int .u64 now, .int .u64 cap, .int .u64 x] w fun e w' => e = .returned (stB 1 (satAdd now x) 0 true) ∧ Ext w w' := by
  go_enter Try.func74, Try.ntmps74
  go_wp2
  refine wp_scope_jumps 0 (fun _ _ => False) (fun _ _ => 0) rfl ?_ ?_
  · go_wp2_with (go_at_call 55; refine (num_Fits _ _ _ _ (by omega) (by omega) hx0 hx1 hc0 hc1).mono ?_; rw [HK.out]; rintro e w' ⟨rfl, rfl⟩)
    refine (gcra_Of _ _ _ _ (by omega) (by omega) hx0 hx1).mono ?_
    rintro e w1 ⟨rfl, hx⟩
    have hB := (Blk.new' (w.alloc (.cells #[.int .u8 1, .int .u64 a, .int .u64 b] 50)) #[.int .u8 1, .int .u64 a, .int .u64 b] 50 (b := w.heap.size + 1) (by simp)).ext hx
    have hc := hB.cell
    have hf := hB.free
    have hl := hB.lt
    simp only [stV]
    go_wp2
    go_step3
    go_wp2
    simp only [Exit.jump]
    have hS := (((((hB.set 0 (.int .u8 1)).set 1 (.int .u64 (satAdd now x))).set 2 (.int .u64 0)).set 0 (.int .u8 1)).set 1 (.int .u64 (satAdd now x))).set 2 (.int .u64 0)
    refine ret_cell_tmp Try.results74 rfl rfl hS Try.underlying50 rfl (by kernel_rfl) ⟨rfl, ?_⟩
    have hx' := ((Ext.refl w).alloc _).alloc _ |>.trans hx
    exact (((((hx'.set (by omega) _ _).set (by omega) _ _).set (by omega) _ _).set (by omega) _ _).set (by omega) _ _).set (by omega) _ _
  · rintro a' w' h
    exact h.elim
end Go.Proofs.Ytnlmbmbalmkiiaa

/- Walks: packages bucket and leaky. -/
namespace Go.Proofs.Ytnlmbmbalmkiiaa
open Go.RowKit
set_option linter.unusedVariables false
set_option linter.unusedSimpArgs false

/-- how many tokens there are -/
def tokens (a b now cap : Int) : Int := min (satAdd a (satSub now b)) cap
theorem tokens_u (a b now cap : Int) (ha0 : 0 ≤ a) (ha1 : a < 18446744073709551616) (hb0 : 0 ≤ b) (hb1 : b < 18446744073709551616) (hn0 : 0 ≤ now) (hn1 : now < 18446744073709551616) (hc0 : 0 ≤ cap) (hc1 : cap < 18446744073709551616) : 0 ≤ tokens a b now cap ∧ tokens a b now cap ≤ cap := by
  have h2 := satSub_u now b hn0 hn1 hb0
  have h3 := satAdd_u a (satSub now b) ha0 h2.1
  unfold tokens
  omega

def FilledW (w : World) (cap : Int) (e : Ending) (w' : World) : Prop := e = .returned (.func (.func 100) #[] #[.pointer (some ⟨w.heap.size, 0, none⟩)]) ∧ w' = w.alloc (.cells #[.int .u64 cap] 28)
theorem bucket_filled (cap : Int) (w : World) : Calls Try.prog 88 #[.int .u64 cap] w fun e w' => FilledW w cap e w' := by
  go_enter Try.func88, Try.ntmps88
  go_wp2
  go_ret
  exact ⟨rfl, rfl⟩

set_option maxHeartbeats 400000 in
theorem bucket_filled1 (B : Nat) (k a b now cap : Int) (w : World) (ha0 : 0 ≤ a) (ha1 : a < 18446744073709551616) (hb0 : 0 ≤ b) (hb1 : b < 18446744073709551616) (hn0 : 0 ≤ now) (hn1 : now < 18446744073709551616) (hc0 : 0 ≤ cap) (hc1 : cap < 18446744073709551616)
    (hc : w.cell? ⟨B, 0, none⟩ = some (.int .u64 cap)) :
    Calls Try.prog 100 #[.agg #[.int .u8 k, .int .u64 a, .int .u64 b], .int .u64 now, .pointer (some ⟨B, 0, none⟩)] w fun e w' => e = .returned (.int .u64 (tokens a b now cap)) ∧ Ext w w' := by
  have h2 := satSub_u now b hn0 hn1 hb0
  have h3 := satAdd_u a (satSub now b) ha0 h2.1
  have HT := Lib.hid (show tokens a b now cap = min (satAdd a (satSub now b)) cap from rfl)
  generalize hs : satSub now b = s at *
  generalize hp : satAdd a s = p at *
  have HS := Lib.hid hs
  have HP := Lib.hid hp
  obtain ⟨h20, h21⟩ := h2
  obtain ⟨h30, h31⟩ := h3
  have hlt := cell_lt hc
  clear hs hp
  go_enter Try.func100, Try.ntmps100
  go_wp2_with fail
  have q1 : (w.alloc (.cells #[.int .u8 k, .int .u64 a, .int .u64 b] 50)).cell? ⟨w.heap.size, 1, none⟩ = some (.int .u64 a) := (Blk.new w _ _).cell 1
  have q2 : (w.alloc (.cells #[.int .u8 k, .int .u64 a, .int .u64 b] 50)).cell? ⟨w.heap.size, 2, none⟩ = some (.int .u64 b) := (Blk.new w _ _).cell 2
  have q3 : (w.alloc (.cells #[.int .u8 k, .int .u64 a, .int .u64 b] 50)).cell? ⟨B, 0, none⟩ = some (.int .u64 cap) := ((Ext.refl w).alloc _).keep hc
  have hx0 : Ext w (w.alloc (.cells #[.int .u8 k, .int .u64 a, .int .u64 b] 50)) := (Ext.refl w).alloc _
  clear hc hlt
  generalize w.alloc (.cells #[.int .u8 k, .int .u64 a, .int .u64 b] 50) = w0 at *
  go_region_held3 (fun w' => w'.cell? ⟨w.heap.size, 1, none⟩ = some (.int .u64 a) ∧ w'.cell? ⟨w.heap.size, 2, none⟩ = some (.int .u64 b) ∧ w'.cell? ⟨B, 0, none⟩ = some (.int .u64 cap) ∧ Ext w0 w')
    (((try go_split_ands); refine ⟨?_, ?_, ?_, ?_⟩ <;> first | with_reducible assumption | exact (Ext.refl _).drew | ((repeat (first | with_reducible exact Ext.refl _ | with_reducible assumption | with_reducible refine Ext.alloc ?_ _ | with_reducible refine Ext.drew ?_ | (with_reducible refine Ext.setCell ?_ (by first | exact Nat.le_refl _ | (dsimp only; omega) | (simp; done) | (simp; omega)) _) | with_reducible refine Ext.trans ?_ (by with_reducible assumption))); done) | (refine Ext.keep (w := w0) (by repeat (first | with_reducible exact Ext.refl _ | with_reducible assumption | with_reducible refine Ext.alloc ?_ _ | with_reducible refine Ext.drew ?_ | (with_reducible refine Ext.setCell ?_ (by first | exact Nat.le_refl _ | (dsimp only; omega) | (simp; done) | (simp; omega)) _) | with_reducible refine Ext.trans ?_ (by with_reducible assumption))) ?_; with_reducible assumption)))
    (first
      | (go_at_call 59; (with_reducible refine (num_Sub _ _ _ hn0 hn1 hb0 hb1).mono ?_); rw [HS.out]; rintro e w' ⟨rfl, rfl⟩)
      | (go_at_call 65; (with_reducible refine (num_Add _ a s _ ha0 ha1 h20 (by omega) ?_ ?_).mono ?_); exact Eq.trans (Blk.cell (Blk.drew (Blk.new' _ _ _ rfl)) 0) rfl; exact Eq.trans (Blk.cell (Blk.drew (Blk.new' _ _ _ rfl)) 1) rfl; rw [HP.out]; rintro e w' ⟨rfl, rfl⟩))
  go_wp2
  all_goals
    go_ret
    exact ⟨ret_int (by rw [HT.out]; omega), (by repeat (first | with_reducible exact Ext.refl _ | with_reducible assumption | with_reducible refine Ext.alloc ?_ _ | with_reducible refine Ext.drew ?_ | (with_reducible refine Ext.setCell ?_ (by first | exact Nat.le_refl _ | (dsimp only; omega) | (simp; done) | (simp; omega)) _) | with_reducible refine Ext.trans ?_ (by with_reducible assumption)))⟩

theorem bucket_Of (now cap fill : Int) (w : World) (hc0 : 0 ≤ cap) (hc1 : cap < 18446744073709551616) (hf0 : 0 ≤ fill) (hf1 : fill < 18446744073709551616) :
    Calls Try.prog 75 #[.int .u64 now, .int .u64 cap, .int .u64 fill] w fun e w' => e = .returned (stV 2 (satSub cap fill) now) ∧ Ext w w' := by
  go_enter Try.func75, Try.ntmps75
  go_wp2_with (go_at_call 59; refine (num_Sub _ _ _ hc0 hc1 hf0 hf1).mono ?_; rintro e w' ⟨rfl, rfl⟩)
  exact bodyPost_ret (v := stV 2 (satSub cap fill) now) (by simp [results, Try.results75, go_sem, stV]) rfl ⟨rfl, (by repeat (first | with_reducible exact Ext.refl _ | with_reducible assumption | with_reducible refine Ext.alloc ?_ _ | with_reducible refine Ext.drew ?_ | (with_reducible refine Ext.setCell ?_ (by first | exact Nat.le_refl _ | (dsimp only; omega) | (simp; done) | (simp; omega)) _) | with_reducible refine Ext.setCell ?_ (by simp; try omega) _ | with_reducible refine Ext.trans ?_ (by with_reducible assumption)))⟩

set_option maxHeartbeats 400000 in
theorem bucket_Fill (k a b now cap : Int) (w : World) (ha0 : 0 ≤ a) (ha1 : a < 18446744073709551616) (hb0 : 0 ≤ b) (hb1 : b < 18446744073709551616) (hn0 : 0 ≤ now) (hn1 : now < 18446744073709551616) (hc0 : 0 ≤ cap) (hc1 : cap < 18446744073709551616) :
    Calls Try.prog 76 #[.agg #[.int .u8 k, .int .u64 a, .int .u64 b], .int .u64 now, .int .u64 cap] w fun e w' => e = .returned (.int .u64 (cap - tokens a b now cap)) ∧ Ext w w' := by
  have ht := tokens_u a b now cap ha0 ha1 hb0 hb1 hn0 hn1 hc0 hc1
  obtain ⟨ht0, ht1⟩ := ht
  go_enter Try.func76, Try.ntmps76
  go_wp2_with fail
  have bq := Blk.new w #[.int .u8 k, .int .u64 a, .int .u64 b] 50
  have hx0 : Ext w (w.alloc (.cells #[.int .u8 k, .int .u64 a, .int .u64 b] 50)) := (Ext.refl w).alloc _
  generalize w.alloc (.cells #[.int .u8 k, .int .u64 a, .int .u64 b] 50) = w0 at *
  have q0 : w0.cell? ⟨w.heap.size, 0, none⟩ = some (.int .u8 k) := bq.cell 0
  have q1 : w0.cell? ⟨w.heap.size, 1, none⟩ = some (.int .u64 a) := bq.cell 1
  have q2 : w0.cell? ⟨w.heap.size, 2, none⟩ = some (.int .u64 b) := bq.cell 2
  go_region_held3 (fun w' => w'.cell? ⟨w.heap.size, 0, none⟩ = some (.int .u8 k) ∧ w'.cell? ⟨w.heap.size, 1, none⟩ = some (.int .u64 a) ∧ w'.cell? ⟨w.heap.size, 2, none⟩ = some (.int .u64 b) ∧ Ext w0 w')
    (((try go_split_ands); refine ⟨?_, ?_, ?_, ?_⟩ <;> first | with_reducible assumption | exact (Ext.refl _).drew | ((repeat (first | with_reducible exact Ext.refl _ | with_reducible assumption | with_reducible refine Ext.alloc ?_ _ | with_reducible refine Ext.drew ?_ | (with_reducible refine Ext.setCell ?_ (by first | exact Nat.le_refl _ | (dsimp only; omega) | (simp; done) | (simp; omega)) _) | with_reducible refine Ext.trans ?_ (by with_reducible assumption))); done) | (refine Ext.keep (w := w0) (by repeat (first | with_reducible exact Ext.refl _ | with_reducible assumption | with_reducible refine Ext.alloc ?_ _ | with_reducible refine Ext.drew ?_ | (with_reducible refine Ext.setCell ?_ (by first | exact Nat.le_refl _ | (dsimp only; omega) | (simp; done) | (simp; omega)) _) | with_reducible refine Ext.trans ?_ (by with_reducible assumption))) ?_; with_reducible assumption)))
    (first
      | (go_at_call 88; (with_reducible refine (bucket_filled _ _).mono ?_); rintro e w' ⟨rfl, rfl⟩)
      | (go_at_call 100; (with_reducible refine (bucket_filled1 _ k a b now cap _ ha0 ha1 hb0 hb1 hn0 hn1 hc0 hc1 ?_).mono ?_); exact Eq.trans (Blk.cell (Blk.drew (Blk.new' _ _ _ rfl)) 0) rfl; rintro e w1 ⟨rfl, hx⟩))
  go_wp2
  go_ret
  exact ⟨ret_int (wraps_u64 _ (by omega) (by omega)), (by repeat (first | with_reducible exact Ext.refl _ | with_reducible assumption | with_reducible refine Ext.alloc ?_ _ | with_reducible refine Ext.drew ?_ | (with_reducible refine Ext.setCell ?_ (by first | exact Nat.le_refl _ | (dsimp only; omega) | (simp; done) | (simp; omega)) _) | with_reducible refine Ext.trans ?_ (by with_reducible assumption)))⟩

set_option maxHeartbeats 1000000 in
theorem bucket_Decide (a b now cap x : Int) (w : World) (ha0 : 0 ≤ a) (ha1 : a < 18446744073709551616) (hb0 : 0 ≤ b) (hb1 : b < 18446744073709551616) (hn0 : 0 ≤ now) (hn1 : now < 18446744073709551616) (hc0 : 0 ≤ cap) (hc1 : cap < 18446744073709551616) (hx0 : 0 ≤ x) (hx1 : x < 18446744073709551616) :
    Calls Try.prog 77 #[.agg #[.int .u8 2, .int .u64 a, .int .u64 b], .int .u64 now, .int .u64 cap, .int .u64 x] w fun e w' =>
      e = .returned (stB 2 (kNextA 2 a b now cap x) (kNextB 2 a b now cap x) (kOk 2 a b now cap x)) ∧ Ext w w' := by
  have ht := tokens_u a b now cap ha0 ha1 hb0 hb1 hn0 hn1 hc0 hc1
  have hkk : kOk 2 a b now cap x = decide (x ≤ tokens a b now cap) := rfl
  have hna : kNextA 2 a b now cap x = if kOk 2 a b now cap x then tokens a b now cap - x else a := rfl
  have hnb : kNextB 2 a b now cap x = if kOk 2 a b now cap x then now else b := rfl
  generalize htt : tokens a b now cap = t at *
  have HTT := Lib.hid htt
  clear htt
  obtain ⟨ht0, ht1⟩ := ht
  by_cases h : x ≤ t
  · rw [hkk] at hna hnb
    have HR := Lib.hid (show stB 2 (kNextA 2 a b now cap x) (kNextB 2 a b now cap x) (kOk 2 a b now cap x) = .tuple #[.agg #[.int .u8 2, .int .u64 (t - x), .int .u64 now], .bool true] by rw [hna, hnb, hkk]; simp [h, stB, stV])
    clear hkk hna hnb
    have h' : ¬ t < x := by omega
    go_enter Try.func77, Try.ntmps77
    go_wp2_with fail
    have bq := Blk.new w #[.int .u8 2, .int .u64 a, .int .u64 b] 50
    have hx0 : Ext w (w.alloc (.cells #[.int .u8 2, .int .u64 a, .int .u64 b] 50)) := (Ext.refl w).alloc _
    have bs := Blk.new (w.alloc (.cells #[.int .u8 2, .int .u64 a, .int .u64 b] 50)) #[.int .u8 0, .int .u64 0, .int .u64 0] 50
    have bq' := bq.alloc (.cells #[.int .u8 0, .int .u64 0, .int .u64 0] 50)
    have hx00 := hx0.alloc (.cells #[.int .u8 0, .int .u64 0, .int .u64 0] 50)
    have hsz : (w.alloc (.cells #[.int .u8 2, .int .u64 a, .int .u64 b] 50)).heap.size = w.heap.size + 1 := by simp
    rw [hsz] at bs
    clear bq hx0 hsz
    generalize (w.alloc (.cells #[.int .u8 2, .int .u64 a, .int .u64 b] 50)).alloc (.cells #[.int .u8 0, .int .u64 0, .int .u64 0] 50) = w0 at *
    have q0 : w0.cell? ⟨w.heap.size, 0, none⟩ = some (.int .u8 2) := bq'.cell 0
    have q1 : w0.cell? ⟨w.heap.size, 1, none⟩ = some (.int .u64 a) := bq'.cell 1
    have q2 : w0.cell? ⟨w.heap.size, 2, none⟩ = some (.int .u64 b) := bq'.cell 2
    go_region_held3 (fun w' => w'.cell? ⟨w.heap.size, 0, none⟩ = some (.int .u8 2) ∧ w'.cell? ⟨w.heap.size, 1, none⟩ = some (.int .u64 a) ∧ w'.cell? ⟨w.heap.size, 2, none⟩ = some (.int .u64 b) ∧ Ext w0 w')
      (((try go_split_ands); refine ⟨?_, ?_, ?_, ?_⟩ <;> first | with_reducible assumption | exact (Ext.refl _).drew | ((repeat (first | with_reducible exact Ext.refl _ | with_reducible assumption | with_reducible refine Ext.alloc ?_ _ | with_reducible refine Ext.drew ?_ | (with_reducible refine Ext.setCell ?_ (by first | exact Nat.le_refl _ | (dsimp only; omega) | (simp; done) | (simp; omega)) _) | with_reducible refine Ext.trans ?_ (by with_reducible assumption))); done) | (refine Ext.keep (w := w0) (by repeat (first | with_reducible exact Ext.refl _ | with_reducible assumption | with_reducible refine Ext.alloc ?_ _ | with_reducible refine Ext.drew ?_ | (with_reducible refine Ext.setCell ?_ (by first | exact Nat.le_refl _ | (dsimp only; omega) | (simp; done) | (simp; omega)) _) | with_reducible refine Ext.trans ?_ (by with_reducible assumption))) ?_; with_reducible assumption)))
      (first
        | (go_at_call 88; (with_reducible refine (bucket_filled _ _).mono ?_); rintro e w' ⟨rfl, rfl⟩)
        | (go_at_call 100; (with_reducible refine (bucket_filled1 _ 2 a b now cap _ ha0 ha1 hb0 hb1 hn0 hn1 hc0 hc1 ?_).mono ?_); exact Eq.trans (Blk.cell (Blk.drew (Blk.new' _ _ _ rfl)) 0) rfl; rw [HTT.out]; rintro e w1 ⟨rfl, hx⟩))
    have hB := (bs.alloc (.cells #[.int .u64 cap] 28)).drew.ext hx
    have hQ := (bq'.alloc (.cells #[.int .u64 cap] 28)).drew.ext hx
    have hf := hB.free
    have hc := hB.cell
    have hq := hQ.cell
    have hl := hB.lt
    have hx' := ((hx00.alloc _).drew).trans hx
    go_wp2
    have hS := ((hB.set 0 (.int .u8 2)).set 1 (.int .u64 (t - x))).set 2 (.int .u64 now)
    refine ret_cell_tmp Try.results77 rfl rfl hS Try.underlying50 rfl (by kernel_rfl) ⟨?_, ?_⟩
    · rw [HR.out]; rfl
    · exact ((hx'.set (by omega) _ _).set (by omega) _ _).set (by omega) _ _
  · rw [hkk] at hna hnb
    have HR := Lib.hid (show stB 2 (kNextA 2 a b now cap x) (kNextB 2 a b now cap x) (kOk 2 a b now cap x) = .tuple #[.agg #[.int .u8 2, .int .u64 a, .int .u64 b], .bool false] by rw [hna, hnb, hkk]; simp [h, stB, stV])
    clear hkk hna hnb
    have h' : t < x := by omega
    go_enter Try.func77, Try.ntmps77
    go_wp2_with fail
    have bq := Blk.new w #[.int .u8 2, .int .u64 a, .int .u64 b] 50
    have hx0 : Ext w (w.alloc (.cells #[.int .u8 2, .int .u64 a, .int .u64 b] 50)) := (Ext.refl w).alloc _
    have bs := Blk.new (w.alloc (.cells #[.int .u8 2, .int .u64 a, .int .u64 b] 50)) #[.int .u8 0, .int .u64 0, .int .u64 0] 50
    have bq' := bq.alloc (.cells #[.int .u8 0, .int .u64 0, .int .u64 0] 50)
    have hx00 := hx0.alloc (.cells #[.int .u8 0, .int .u64 0, .int .u64 0] 50)
    have hsz : (w.alloc (.cells #[.int .u8 2, .int .u64 a, .int .u64 b] 50)).heap.size = w.heap.size + 1 := by simp
    rw [hsz] at bs
    clear bq hx0 hsz
    generalize (w.alloc (.cells #[.int .u8 2, .int .u64 a, .int .u64 b] 50)).alloc (.cells #[.int .u8 0, .int .u64 0, .int .u64 0] 50) = w0 at *
    have q0 : w0.cell? ⟨w.heap.size, 0, none⟩ = some (.int .u8 2) := bq'.cell 0
    have q1 : w0.cell? ⟨w.heap.size, 1, none⟩ = some (.int .u64 a) := bq'.cell 1
    have q2 : w0.cell? ⟨w.heap.size, 2, none⟩ = some (.int .u64 b) := bq'.cell 2
    go_region_held3 (fun w' => w'.cell? ⟨w.heap.size, 0, none⟩ = some (.int .u8 2) ∧ w'.cell? ⟨w.heap.size, 1, none⟩ = some (.int .u64 a) ∧ w'.cell? ⟨w.heap.size, 2, none⟩ = some (.int .u64 b) ∧ Ext w0 w')
      (((try go_split_ands); refine ⟨?_, ?_, ?_, ?_⟩ <;> first | with_reducible assumption | exact (Ext.refl _).drew | ((repeat (first | with_reducible exact Ext.refl _ | with_reducible assumption | with_reducible refine Ext.alloc ?_ _ | with_reducible refine Ext.drew ?_ | (with_reducible refine Ext.setCell ?_ (by first | exact Nat.le_refl _ | (dsimp only; omega) | (simp; done) | (simp; omega)) _) | with_reducible refine Ext.trans ?_ (by with_reducible assumption))); done) | (refine Ext.keep (w := w0) (by repeat (first | with_reducible exact Ext.refl _ | with_reducible assumption | with_reducible refine Ext.alloc ?_ _ | with_reducible refine Ext.drew ?_ | (with_reducible refine Ext.setCell ?_ (by first | exact Nat.le_refl _ | (dsimp only; omega) | (simp; done) | (simp; omega)) _) | with_reducible refine Ext.trans ?_ (by with_reducible assumption))) ?_; with_reducible assumption)))
      (first
        | (go_at_call 88; (with_reducible refine (bucket_filled _ _).mono ?_); rintro e w' ⟨rfl, rfl⟩)
        | (go_at_call 100; (with_reducible refine (bucket_filled1 _ 2 a b now cap _ ha0 ha1 hb0 hb1 hn0 hn1 hc0 hc1 ?_).mono ?_); exact Eq.trans (Blk.cell (Blk.drew (Blk.new' _ _ _ rfl)) 0) rfl; rw [HTT.out]; rintro e w1 ⟨rfl, hx⟩))
    have hB := (bs.alloc (.cells #[.int .u64 cap] 28)).drew.ext hx
    have hQ := (bq'.alloc (.cells #[.int .u64 cap] 28)).drew.ext hx
    have hf := hB.free
    have hc := hB.cell
    have hq := hQ.cell
    have hl := hB.lt
    have hx' := ((hx00.alloc _).drew).trans hx
    go_wp2
    have hS := ((hB.set 0 (.int .u8 2)).set 1 (.int .u64 (a))).set 2 (.int .u64 b)
    refine ret_cell_tmp Try.results77 rfl rfl hS Try.underlying50 rfl (by kernel_rfl) ⟨?_, ?_⟩
    · rw [HR.out]; rfl
    · exact ((hx'.set (by omega) _ _).set (by omega) _ _).set (by omega) _ _
end Go.Proofs.Ytnlmbmbalmkiiaa

/- Walks: package leaky. -/
namespace Go.Proofs.Ytnlmbmbalmkiiaa
open Go.RowKit
set_option linter.unusedVariables false
set_option linter.unusedSimpArgs false

def meterT (a b now : Int) : Int := satSub a (satSub now b)
theorem meter_u (a b now : Int) (ha0 : 0 ≤ a) (ha1 : a < 18446744073709551616) (hb0 : 0 ≤ b) (hn0 : 0 ≤ now) (hn1 : now < 18446744073709551616) : 0 ≤ meterT a b now ∧ meterT a b now ≤ a := by
  have h2 := satSub_u now b hn0 hn1 hb0
  exact satSub_u a (satSub now b) ha0 ha1 h2.1

set_option maxHeartbeats 400000 in
theorem leaky_left (k a b now : Int) (w : World) (ha0 : 0 ≤ a) (ha1 : a < 18446744073709551616) (hb0 : 0 ≤ b) (hb1 : b < 18446744073709551616) (hn0 : 0 ≤ now) (hn1 : now < 18446744073709551616) :
    Calls Try.prog 89 #[.agg #[.int .u8 k, .int .u64 a, .int .u64 b], .int .u64 now] w fun e w' => e = .returned (.int .u64 (meterT a b now)) ∧ Ext w w' := by
  have h2 := satSub_u now b hn0 hn1 hb0
  have HT := Lib.hid (show meterT a b now = satSub a (satSub now b) from rfl)
  generalize hs : satSub now b = s at *
  have HS := Lib.hid hs
  obtain ⟨h20, h21⟩ := h2
  clear hs
  go_enter Try.func89, Try.ntmps89
  go_wp2_with fail
  have bq := Blk.new w #[.int .u8 k, .int .u64 a, .int .u64 b] 133
  have hx0 : Ext w (w.alloc (.cells #[.int .u8 k, .int .u64 a, .int .u64 b] 133)) := (Ext.refl w).alloc _
  generalize w.alloc (.cells #[.int .u8 k, .int .u64 a, .int .u64 b] 133) = w0 at *
  have q1 : w0.cell? ⟨w.heap.size, 1, none⟩ = some (.int .u64 a) := bq.cell 1
  have q2 : w0.cell? ⟨w.heap.size, 2, none⟩ = some (.int .u64 b) := bq.cell 2
  go_region_held3 (fun w' => w'.cell? ⟨w.heap.size, 1, none⟩ = some (.int .u64 a) ∧ w'.cell? ⟨w.heap.size, 2, none⟩ = some (.int .u64 b) ∧ Ext w0 w')
    (((try go_split_ands); refine ⟨?_, ?_, ?_⟩ <;> first | with_reducible assumption | exact (Ext.refl _).drew | ((repeat (first | with_reducible exact Ext.refl _ | with_reducible assumption | with_reducible refine Ext.alloc ?_ _ | with_reducible refine Ext.drew ?_ | (with_reducible refine Ext.setCell ?_ (by first | exact Nat.le_refl _ | (dsimp only; omega) | (simp; done) | (simp; omega)) _) | with_reducible refine Ext.trans ?_ (by with_reducible assumption))); done) | (refine Ext.keep (w := w0) (by repeat (first | with_reducible exact Ext.refl _ | with_reducible assumption | with_reducible refine Ext.alloc ?_ _ | with_reducible refine Ext.drew ?_ | (with_reducible refine Ext.setCell ?_ (by first | exact Nat.le_refl _ | (dsimp only; omega) | (simp; done) | (simp; omega)) _) | with_reducible refine Ext.trans ?_ (by with_reducible assumption))) ?_; with_reducible assumption)))
    (first
      | (go_at_call 59; (with_reducible refine (num_Sub now b _ hn0 hn1 hb0 hb1).mono ?_); rw [HS.out]; rintro e w' ⟨rfl, rfl⟩)
      | (go_at_call 59; (with_reducible refine (num_Sub a s _ ha0 ha1 h20 (by omega)).mono ?_); rw [← HT.out]; rintro e w' ⟨rfl, rfl⟩))
  go_wp2
  go_ret
  exact ⟨rfl, (by repeat (first | with_reducible exact Ext.refl _ | with_reducible assumption | with_reducible refine Ext.alloc ?_ _ | with_reducible refine Ext.drew ?_ | (with_reducible refine Ext.setCell ?_ (by first | exact Nat.le_refl _ | (dsimp only; omega) | (simp; done) | (simp; omega)) _) | with_reducible refine Ext.trans ?_ (by with_reducible assumption)))⟩

theorem leaky_Of (now cap fill : Int) (w : World) :
    Calls Try.prog 78 #[.int .u64 now, .int .u64 cap, .int .u64 fill] w fun e w' => e = .returned (stV 3 fill now) ∧ Ext w w' := by
  go_enter Try.func78, Try.ntmps78
  go_wp2
  exact bodyPost_ret (v := stV 3 fill now) (by simp [results, Try.results78, go_sem, stV]) rfl ⟨rfl, (by repeat (first | with_reducible exact Ext.refl _ | with_reducible assumption | with_reducible refine Ext.alloc ?_ _ | with_reducible refine Ext.drew ?_ | (with_reducible refine Ext.setCell ?_ (by first | exact Nat.le_refl _ | (dsimp only; omega) | (simp; done) | (simp; omega)) _) | with_reducible refine Ext.setCell ?_ (by simp; try omega) _ | with_reducible refine Ext.trans ?_ (by with_reducible assumption)))⟩

set_option maxHeartbeats 400000 in
theorem leaky_Fill (k a b now cap : Int) (w : World) (ha0 : 0 ≤ a) (ha1 : a < 18446744073709551616) (hb0 : 0 ≤ b) (hb1 : b < 18446744073709551616) (hn0 : 0 ≤ now) (hn1 : now < 18446744073709551616) :
    Calls Try.prog 79 #[.agg #[.int .u8 k, .int .u64 a, .int .u64 b], .int .u64 now, .int .u64 cap] w fun e w' => e = .returned (.int .u64 (meterT a b now)) ∧ Ext w w' := by
  go_enter Try.func79, Try.ntmps79
  go_wp2_with (go_at_call 89; refine (leaky_left k a b now _ ha0 ha1 hb0 hb1 hn0 hn1).mono ?_; rintro e w1 ⟨rfl, hx⟩)
  go_ret
  exact ⟨rfl, (by repeat (first | with_reducible exact Ext.refl _ | with_reducible assumption | with_reducible refine Ext.alloc ?_ _ | with_reducible refine Ext.drew ?_ | (with_reducible refine Ext.setCell ?_ (by first | exact Nat.le_refl _ | (dsimp only; omega) | (simp; done) | (simp; omega)) _) | with_reducible refine Ext.trans ?_ (by with_reducible assumption)))⟩

set_option maxHeartbeats 1000000 in
theorem leaky_Decide (a b now cap x : Int) (w : World) (ha0 : 0 ≤ a) (ha1 : a < 18446744073709551616) (hb0 : 0 ≤ b) (hb1 : b < 18446744073709551616) (hn0 : 0 ≤ now) (hn1 : now < 18446744073709551616) (hc0 : 0 ≤ cap) (hc1 : cap < 18446744073709551616) (hx0 : 0 ≤ x) (hx1 : x < 18446744073709551616) :
    Calls Try.prog 80 #[.agg #[.int .u8 3, .int .u64 a, .int .u64 b], .int .u64 now, .int .u64 cap, .int .u64 x] w fun e w' =>
      e = .returned (stB 3 (kNextA 3 a b now cap x) (kNextB 3 a b now cap x) (kOk 3 a b now cap x)) ∧ Ext w w' := by
  have ht := meter_u a b now ha0 ha1 hb0 hn0 hn1
  have hkk : kOk 3 a b now cap x = fitsB (meterT a b now) x cap := rfl
  have hna : kNextA 3 a b now cap x = if kOk 3 a b now cap x then meterT a b now + x else a := rfl
  have hnb : kNextB 3 a b now cap x = if kOk 3 a b now cap x then now else b := rfl
  generalize htt : meterT a b now = t at *
  have HTT := Lib.hid htt
  clear htt
  obtain ⟨ht0, ht1⟩ := ht
  cases hk : fitsB t x cap
  · rw [hk] at hkk
    rw [hkk] at hna hnb
    have HR := Lib.hid (show stB 3 (kNextA 3 a b now cap x) (kNextB 3 a b now cap x) (kOk 3 a b now cap x) = .tuple #[.agg #[.int .u8 3, .int .u64 a, .int .u64 b], .bool false] by rw [hna, hnb, hkk]; simp [stB, stV])
    have HK := Lib.hid hk
    clear hkk hna hnb hk
    go_enter Try.func80, Try.ntmps80
    go_wp2_with fail
    refine (leaky_Fill 3 a b now cap _ ha0 ha1 hb0 hb1 hn0 hn1).mono ?_
    rw [HTT.out]
    rintro e w1 ⟨rfl, hx⟩
    have hB := (Blk.new' (w.alloc (.cells #[.int .u8 3, .int .u64 a, .int .u64 b] 50)) #[.int .u8 0, .int .u64 0, .int .u64 0] 50 (b := w.heap.size + 1) (by simp)).ext hx
    have hQ := ((Blk.new w #[.int .u8 3, .int .u64 a, .int .u64 b] 50).alloc (.cells #[.int .u8 0, .int .u64 0, .int .u64 0] 50)).ext hx
    have hf := hB.free
    have hc := hB.cell
    have hq := hQ.cell
    have hl := hB.lt
    have hx' := (((Ext.refl w).alloc _).alloc _).trans hx
    go_wp2_with (go_at_call 55; (with_reducible refine (num_Fits t x cap _ ht0 (by omega) hx0 hx1 hc0 hc1).mono ?_); rw [HK.out]; rintro e w' ⟨rfl, rfl⟩)
    have hS := ((hB.set 0 (.int .u8 3)).set 1 (.int .u64 a)).set 2 (.int .u64 b)
    refine ret_cell_tmp Try.results80 rfl rfl hS Try.underlying50 rfl (by kernel_rfl) ⟨?_, ?_⟩
    · rw [HR.out]; rfl
    · exact ((hx'.set (by omega) _ _).set (by omega) _ _).set (by omega) _ _
  · rw [hk] at hkk
    rw [hkk] at hna hnb
    have HR := Lib.hid (show stB 3 (kNextA 3 a b now cap x) (kNextB 3 a b now cap x) (kOk 3 a b now cap x) = .tuple #[.agg #[.int .u8 3, .int .u64 (t + x), .int .u64 now], .bool true] by rw [hna, hnb, hkk]; simp [stB, stV])
    have hle : t + x ≤ cap := by simpa [fitsB] using hk
    have HK := Lib.hid hk
    clear hkk hna hnb hk
    go_enter Try.func80, Try.ntmps80
    go_wp2_with fail
    refine (leaky_Fill 3 a b now cap _ ha0 ha1 hb0 hb1 hn0 hn1).mono ?_
    rw [HTT.out]
    rintro e w1 ⟨rfl, hx⟩
    have hB := (Blk.new' (w.alloc (.cells #[.int .u8 3, .int .u64 a, .int .u64 b] 50)) #[.int .u8 0, .int .u64 0, .int .u64 0] 50 (b := w.heap.size + 1) (by simp)).ext hx
    have hx' := (((Ext.refl w).alloc _).alloc _).trans hx
    go_wp2_with (go_at_call 55; (with_reducible refine (num_Fits t x cap _ ht0 (by omega) hx0 hx1 hc0 hc1).mono ?_); rw [HK.out]; rintro e w' ⟨rfl, rfl⟩)
    refine (leaky_Of _ _ _ _).mono ?_
    rintro e w2 ⟨rfl, hx2⟩
    have hB2 := hB.ext hx2
    have hf := hB2.free
    have hc := hB2.cell
    have hl := hB2.lt
    simp only [stV]
    go_wp2
    have hS := ((hB2.set 0 (.int .u8 3)).set 1 (.int .u64 (t + x))).set 2 (.int .u64 now)
    refine ret_cell_tmp Try.results80 rfl rfl hS Try.underlying50 rfl (by kernel_rfl) ⟨?_, ?_⟩
    · rw [HR.out]; rfl
    · exact (((hx'.trans hx2).set (by omega) _ _).set (by omega) _ _).set (by omega) _ _
end Go.Proofs.Ytnlmbmbalmkiiaa
