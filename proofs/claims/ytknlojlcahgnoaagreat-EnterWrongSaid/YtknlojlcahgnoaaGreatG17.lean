/- Walks: package kernel. -/
import Derived.Test.YtknlojlcahgnoaaGreatG14

/- Walks: package kernel. -/
namespace Go.Proofs.YtknlojlcahgnoaaGreat
open Go.RowKit
set_option linter.unusedVariables false
set_option linter.unusedSimpArgs false

theorem kl2 (W : World) (C : Array Value) (t : TypeId) : ((W.alloc (.map kernels 3)).alloc (.cells C t)).heap[W.heap.size]? = some (.map kernels 3) :=
  (heap_alloc_old (W.alloc (.map kernels 3)) (.cells C t) (by rw [World.size_alloc]; omega)).trans (map_new_at W _)
theorem kern_lk1 {w : World} {b : Nat} (hb : w.heap[b]? = some (.map kernels 3)) : (Instr.lookup 220 (.map (some b)) (.int .u8 1) true).run Tryz.prog w = .ok (.tuple #[.agg #[.func (.func 172) #[] #[], .func (.func 173) #[] #[], .func (.func 174) #[] #[]], .bool true]) w :=
  (run_lookup_yes (P := Tryz.prog) Tryz.underlying220 Tryz.underlying5 (key := .int .u8 1) rfl hb (i := 0) (v := kern 172 173 174) rfl).1
theorem kern_lk2 {w : World} {b : Nat} (hb : w.heap[b]? = some (.map kernels 3)) : (Instr.lookup 220 (.map (some b)) (.int .u8 2) true).run Tryz.prog w = .ok (.tuple #[.agg #[.func (.func 175) #[] #[], .func (.func 176) #[] #[], .func (.func 177) #[] #[]], .bool true]) w :=
  (run_lookup_yes (P := Tryz.prog) Tryz.underlying220 Tryz.underlying5 (key := .int .u8 2) rfl hb (i := 1) (v := kern 175 176 177) rfl).1
theorem kern_lk3 {w : World} {b : Nat} (hb : w.heap[b]? = some (.map kernels 3)) : (Instr.lookup 220 (.map (some b)) (.int .u8 3) true).run Tryz.prog w = .ok (.tuple #[.agg #[.func (.func 178) #[] #[], .func (.func 179) #[] #[], .func (.func 180) #[] #[]], .bool true]) w :=
  (run_lookup_yes (P := Tryz.prog) Tryz.underlying220 Tryz.underlying5 (key := .int .u8 3) rfl hb (i := 2) (v := kern 178 179 180) rfl).1
theorem kern_lk0 (k : Int) (h : ¬ (1 ≤ k ∧ k ≤ 3)) {w : World} {b : Nat} (hb : w.heap[b]? = some (.map kernels 3)) : (Instr.lookup 220 (.map (some b)) (.int .u8 k) true).run Tryz.prog w = .ok (.tuple #[.agg #[.nilFunc, .nilFunc, .nilFunc], .bool false]) w :=
  (run_lookup_no (P := Tryz.prog) Tryz.underlying220 Tryz.underlying5 (key := .int .u8 k) rfl hb (kern_zero _) (kern_miss k h)).1
theorem kern_look1 (W : World) : (Instr.lookup 220 (.map (some W.heap.size)) (.int .u8 1) true).run Tryz.prog (W.alloc (.map kernels 3)).drew = .ok (.tuple #[.agg #[.func (.func 172) #[] #[], .func (.func 173) #[] #[], .func (.func 174) #[] #[]], .bool true]) (W.alloc (.map kernels 3)).drew := kern_lk1 (map_new_at W _)
theorem kern_look2 (W : World) : (Instr.lookup 220 (.map (some W.heap.size)) (.int .u8 2) true).run Tryz.prog (W.alloc (.map kernels 3)).drew = .ok (.tuple #[.agg #[.func (.func 175) #[] #[], .func (.func 176) #[] #[], .func (.func 177) #[] #[]], .bool true]) (W.alloc (.map kernels 3)).drew := kern_lk2 (map_new_at W _)
theorem kern_look3 (W : World) : (Instr.lookup 220 (.map (some W.heap.size)) (.int .u8 3) true).run Tryz.prog (W.alloc (.map kernels 3)).drew = .ok (.tuple #[.agg #[.func (.func 178) #[] #[], .func (.func 179) #[] #[], .func (.func 180) #[] #[]], .bool true]) (W.alloc (.map kernels 3)).drew := kern_lk3 (map_new_at W _)
theorem kern_look0 (k : Int) (h : ¬ (1 ≤ k ∧ k ≤ 3)) (W : World) : (Instr.lookup 220 (.map (some W.heap.size)) (.int .u8 k) true).run Tryz.prog (W.alloc (.map kernels 3)).drew = .ok (.tuple #[.agg #[.nilFunc, .nilFunc, .nilFunc], .bool false]) (W.alloc (.map kernels 3)).drew := kern_lk0 k h (map_new_at W _)
theorem kern_look1b (W : World) (C : Array Value) (t : TypeId) : (Instr.lookup 220 (.map (some W.heap.size)) (.int .u8 1) true).run Tryz.prog ((W.alloc (.map kernels 3)).alloc (.cells C t)).drew = .ok (.tuple #[.agg #[.func (.func 172) #[] #[], .func (.func 173) #[] #[], .func (.func 174) #[] #[]], .bool true]) ((W.alloc (.map kernels 3)).alloc (.cells C t)).drew := kern_lk1 (kl2 W C t)
theorem kern_look2b (W : World) (C : Array Value) (t : TypeId) : (Instr.lookup 220 (.map (some W.heap.size)) (.int .u8 2) true).run Tryz.prog ((W.alloc (.map kernels 3)).alloc (.cells C t)).drew = .ok (.tuple #[.agg #[.func (.func 175) #[] #[], .func (.func 176) #[] #[], .func (.func 177) #[] #[]], .bool true]) ((W.alloc (.map kernels 3)).alloc (.cells C t)).drew := kern_lk2 (kl2 W C t)
theorem kern_look3b (W : World) (C : Array Value) (t : TypeId) : (Instr.lookup 220 (.map (some W.heap.size)) (.int .u8 3) true).run Tryz.prog ((W.alloc (.map kernels 3)).alloc (.cells C t)).drew = .ok (.tuple #[.agg #[.func (.func 178) #[] #[], .func (.func 179) #[] #[], .func (.func 180) #[] #[]], .bool true]) ((W.alloc (.map kernels 3)).alloc (.cells C t)).drew := kern_lk3 (kl2 W C t)
theorem kern_look0b (k : Int) (h : ¬ (1 ≤ k ∧ k ≤ 3)) (W : World) (C : Array Value) (t : TypeId) : (Instr.lookup 220 (.map (some W.heap.size)) (.int .u8 k) true).run Tryz.prog ((W.alloc (.map kernels 3)).alloc (.cells C t)).drew = .ok (.tuple #[.agg #[.nilFunc, .nilFunc, .nilFunc], .bool false]) ((W.alloc (.map kernels 3)).alloc (.cells C t)).drew := kern_lk0 k h (kl2 W C t)
theorem kern_look1c (W : World) (C : Array Value) (t : TypeId) : (Instr.lookup 220 (.map (some (W.heap.size + 1))) (.int .u8 1) true).run Tryz.prog ((W.alloc (.cells C t)).alloc (.map kernels 3)).drew = .ok (.tuple #[.agg #[.func (.func 172) #[] #[], .func (.func 173) #[] #[], .func (.func 174) #[] #[]], .bool true]) ((W.alloc (.cells C t)).alloc (.map kernels 3)).drew := kern_lk1 (heap_alloc2_new W _ _)
theorem kern_look2c (W : World) (C : Array Value) (t : TypeId) : (Instr.lookup 220 (.map (some (W.heap.size + 1))) (.int .u8 2) true).run Tryz.prog ((W.alloc (.cells C t)).alloc (.map kernels 3)).drew = .ok (.tuple #[.agg #[.func (.func 175) #[] #[], .func (.func 176) #[] #[], .func (.func 177) #[] #[]], .bool true]) ((W.alloc (.cells C t)).alloc (.map kernels 3)).drew := kern_lk2 (heap_alloc2_new W _ _)
theorem kern_look3c (W : World) (C : Array Value) (t : TypeId) : (Instr.lookup 220 (.map (some (W.heap.size + 1))) (.int .u8 3) true).run Tryz.prog ((W.alloc (.cells C t)).alloc (.map kernels 3)).drew = .ok (.tuple #[.agg #[.func (.func 178) #[] #[], .func (.func 179) #[] #[], .func (.func 180) #[] #[]], .bool true]) ((W.alloc (.cells C t)).alloc (.map kernels 3)).drew := kern_lk3 (heap_alloc2_new W _ _)
theorem kern_look0c (k : Int) (h : ¬ (1 ≤ k ∧ k ≤ 3)) (W : World) (C : Array Value) (t : TypeId) : (Instr.lookup 220 (.map (some (W.heap.size + 1))) (.int .u8 k) true).run Tryz.prog ((W.alloc (.cells C t)).alloc (.map kernels 3)).drew = .ok (.tuple #[.agg #[.nilFunc, .nilFunc, .nilFunc], .bool false]) ((W.alloc (.cells C t)).alloc (.map kernels 3)).drew := kern_lk0 k h (heap_alloc2_new W _ _)
theorem kern_look1p (W : World) : (Instr.lookup 220 (.map (some W.heap.size)) (.int .u8 1) true).run Tryz.prog (W.alloc (.map kernels 3)) = .ok (.tuple #[.agg #[.func (.func 172) #[] #[], .func (.func 173) #[] #[], .func (.func 174) #[] #[]], .bool true]) (W.alloc (.map kernels 3)) := kern_lk1 (map_new_at W _)
theorem kern_look2p (W : World) : (Instr.lookup 220 (.map (some W.heap.size)) (.int .u8 2) true).run Tryz.prog (W.alloc (.map kernels 3)) = .ok (.tuple #[.agg #[.func (.func 175) #[] #[], .func (.func 176) #[] #[], .func (.func 177) #[] #[]], .bool true]) (W.alloc (.map kernels 3)) := kern_lk2 (map_new_at W _)
theorem kern_look3p (W : World) : (Instr.lookup 220 (.map (some W.heap.size)) (.int .u8 3) true).run Tryz.prog (W.alloc (.map kernels 3)) = .ok (.tuple #[.agg #[.func (.func 178) #[] #[], .func (.func 179) #[] #[], .func (.func 180) #[] #[]], .bool true]) (W.alloc (.map kernels 3)) := kern_lk3 (map_new_at W _)
theorem kern_look0p (k : Int) (h : ¬ (1 ≤ k ∧ k ≤ 3)) (W : World) : (Instr.lookup 220 (.map (some W.heap.size)) (.int .u8 k) true).run Tryz.prog (W.alloc (.map kernels 3)) = .ok (.tuple #[.agg #[.nilFunc, .nilFunc, .nilFunc], .bool false]) (W.alloc (.map kernels 3)) := kern_lk0 k h (map_new_at W _)
theorem kern_call (w : World) : Calls Tryz.prog 126 #[] w fun e w' => e = .returned (.map (some w.heap.size)) ∧ w' = w.alloc (.map kernels 3) := (kernel_all w).mono fun e w' h => h

set_option maxHeartbeats 1000000 in
set_option maxRecDepth 100000 in
theorem kernel_Fill1 (a b now cap : Int) (w : World) (ha0 : 0 ≤ a) (ha1 : a < 18446744073709551616) (hb0 : 0 ≤ b) (hb1 : b < 18446744073709551616) (hn0 : 0 ≤ now) (hn1 : now < 18446744073709551616) (hc0 : 0 ≤ cap) (hc1 : cap < 18446744073709551616) :
    Calls Tryz.prog 110 #[.agg #[.int .u8 1, .int .u64 a, .int .u64 b], .int .u64 now, .int .u64 cap] w fun e w' => e = .returned (.int .u64 (kFill 1 a b now cap)) ∧ Ext w w' := by
  have L := kern_look1
  have La := kern_look1b
  have Lb := kern_look1c
  have bq := Blk.new w #[.int .u8 1, .int .u64 a, .int .u64 b] 140
  go_enter Tryz.func110, Tryz.ntmps110
  go_wp2_with fail
  have hx0' : Ext w (w.alloc (.cells #[.int .u8 1, .int .u64 a, .int .u64 b] 140)) := (Ext.refl w).alloc _
  generalize w.alloc (.cells #[.int .u8 1, .int .u64 a, .int .u64 b] 140) = w0 at *
  have q1 : w0.cell? ⟨w.heap.size, 1, none⟩ = some (.int .u64 a) := bq.cell 1
  have q2 : w0.cell? ⟨w.heap.size, 2, none⟩ = some (.int .u64 b) := bq.cell 2
  have hlt := bq.lt
  have q0 : w0.cell? ⟨w.heap.size, 0, none⟩ = some (.int .u8 1) := bq.cell 0
  go_region_held3 (fun w' => w'.cell? ⟨w.heap.size, 0, none⟩ = some (.int .u8 1) ∧ Ext w0 w')
    (((try go_split_ands); refine ⟨?_, ?_⟩ <;> first | with_reducible assumption | exact (Ext.refl _).drew | ((repeat (first | with_reducible exact Ext.refl _ | with_reducible assumption | with_reducible refine Ext.alloc ?_ _ | with_reducible refine Ext.drew ?_ | (with_reducible refine Ext.setCell ?_ (by first | exact Nat.le_refl _ | (dsimp only; omega) | (simp; done) | (simp; omega)) _) | with_reducible refine Ext.trans ?_ (by with_reducible assumption))); done) | (refine Ext.keep (w := w0) (by repeat (first | with_reducible exact Ext.refl _ | with_reducible assumption | with_reducible refine Ext.alloc ?_ _ | with_reducible refine Ext.drew ?_ | (with_reducible refine Ext.setCell ?_ (by first | exact Nat.le_refl _ | (dsimp only; omega) | (simp; done) | (simp; omega)) _) | with_reducible refine Ext.trans ?_ (by with_reducible assumption))) ?_; with_reducible assumption)))
    (first
      | (go_at_call 126; (with_reducible refine (kern_call _).mono ?_); rintro e w' ⟨rfl, rfl⟩))
  all_goals
  go_wp2_with (go_at_call 173; (with_reducible refine (gcra_Fill 1 a b now cap _ ha0 ha1 hn0 hn1).mono ?_); rintro e w1 ⟨rfl, hx⟩)
  go_ret
  exact ⟨rfl, (by repeat (first | with_reducible exact Ext.refl _ | with_reducible assumption | with_reducible refine Ext.alloc ?_ _ | with_reducible refine Ext.drew ?_ | (with_reducible refine Ext.setCell ?_ (by first | exact Nat.le_refl _ | (dsimp only; omega) | (simp; done) | (simp; omega)) _) | with_reducible refine Ext.trans ?_ (by with_reducible assumption)))⟩

set_option maxHeartbeats 1000000 in
set_option maxRecDepth 100000 in
theorem kernel_Fill2 (a b now cap : Int) (w : World) (ha0 : 0 ≤ a) (ha1 : a < 18446744073709551616) (hb0 : 0 ≤ b) (hb1 : b < 18446744073709551616) (hn0 : 0 ≤ now) (hn1 : now < 18446744073709551616) (hc0 : 0 ≤ cap) (hc1 : cap < 18446744073709551616) :
    Calls Tryz.prog 110 #[.agg #[.int .u8 2, .int .u64 a, .int .u64 b], .int .u64 now, .int .u64 cap] w fun e w' => e = .returned (.int .u64 (kFill 2 a b now cap)) ∧ Ext w w' := by
  have L := kern_look2
  have La := kern_look2b
  have Lb := kern_look2c
  have bq := Blk.new w #[.int .u8 2, .int .u64 a, .int .u64 b] 140
  go_enter Tryz.func110, Tryz.ntmps110
  go_wp2_with fail
  have hx0' : Ext w (w.alloc (.cells #[.int .u8 2, .int .u64 a, .int .u64 b] 140)) := (Ext.refl w).alloc _
  generalize w.alloc (.cells #[.int .u8 2, .int .u64 a, .int .u64 b] 140) = w0 at *
  have q1 : w0.cell? ⟨w.heap.size, 1, none⟩ = some (.int .u64 a) := bq.cell 1
  have q2 : w0.cell? ⟨w.heap.size, 2, none⟩ = some (.int .u64 b) := bq.cell 2
  have hlt := bq.lt
  have q0 : w0.cell? ⟨w.heap.size, 0, none⟩ = some (.int .u8 2) := bq.cell 0
  go_region_held3 (fun w' => w'.cell? ⟨w.heap.size, 0, none⟩ = some (.int .u8 2) ∧ Ext w0 w')
    (((try go_split_ands); refine ⟨?_, ?_⟩ <;> first | with_reducible assumption | exact (Ext.refl _).drew | ((repeat (first | with_reducible exact Ext.refl _ | with_reducible assumption | with_reducible refine Ext.alloc ?_ _ | with_reducible refine Ext.drew ?_ | (with_reducible refine Ext.setCell ?_ (by first | exact Nat.le_refl _ | (dsimp only; omega) | (simp; done) | (simp; omega)) _) | with_reducible refine Ext.trans ?_ (by with_reducible assumption))); done) | (refine Ext.keep (w := w0) (by repeat (first | with_reducible exact Ext.refl _ | with_reducible assumption | with_reducible refine Ext.alloc ?_ _ | with_reducible refine Ext.drew ?_ | (with_reducible refine Ext.setCell ?_ (by first | exact Nat.le_refl _ | (dsimp only; omega) | (simp; done) | (simp; omega)) _) | with_reducible refine Ext.trans ?_ (by with_reducible assumption))) ?_; with_reducible assumption)))
    (first
      | (go_at_call 126; (with_reducible refine (kern_call _).mono ?_); rintro e w' ⟨rfl, rfl⟩))
  all_goals
  go_wp2_with (go_at_call 176; (with_reducible refine (bucket_Fill 2 a b now cap _ ha0 ha1 hb0 hb1 hn0 hn1 hc0 hc1).mono ?_); rintro e w1 ⟨rfl, hx⟩)
  go_ret
  exact ⟨rfl, (by repeat (first | with_reducible exact Ext.refl _ | with_reducible assumption | with_reducible refine Ext.alloc ?_ _ | with_reducible refine Ext.drew ?_ | (with_reducible refine Ext.setCell ?_ (by first | exact Nat.le_refl _ | (dsimp only; omega) | (simp; done) | (simp; omega)) _) | with_reducible refine Ext.trans ?_ (by with_reducible assumption)))⟩

set_option maxHeartbeats 1000000 in
set_option maxRecDepth 100000 in
theorem kernel_Fill3 (a b now cap : Int) (w : World) (ha0 : 0 ≤ a) (ha1 : a < 18446744073709551616) (hb0 : 0 ≤ b) (hb1 : b < 18446744073709551616) (hn0 : 0 ≤ now) (hn1 : now < 18446744073709551616) (hc0 : 0 ≤ cap) (hc1 : cap < 18446744073709551616) :
    Calls Tryz.prog 110 #[.agg #[.int .u8 3, .int .u64 a, .int .u64 b], .int .u64 now, .int .u64 cap] w fun e w' => e = .returned (.int .u64 (kFill 3 a b now cap)) ∧ Ext w w' := by
  have L := kern_look3
  have La := kern_look3b
  have Lb := kern_look3c
  have bq := Blk.new w #[.int .u8 3, .int .u64 a, .int .u64 b] 140
  go_enter Tryz.func110, Tryz.ntmps110
  go_wp2_with fail
  have hx0' : Ext w (w.alloc (.cells #[.int .u8 3, .int .u64 a, .int .u64 b] 140)) := (Ext.refl w).alloc _
  generalize w.alloc (.cells #[.int .u8 3, .int .u64 a, .int .u64 b] 140) = w0 at *
  have q1 : w0.cell? ⟨w.heap.size, 1, none⟩ = some (.int .u64 a) := bq.cell 1
  have q2 : w0.cell? ⟨w.heap.size, 2, none⟩ = some (.int .u64 b) := bq.cell 2
  have hlt := bq.lt
  have q0 : w0.cell? ⟨w.heap.size, 0, none⟩ = some (.int .u8 3) := bq.cell 0
  go_region_held3 (fun w' => w'.cell? ⟨w.heap.size, 0, none⟩ = some (.int .u8 3) ∧ Ext w0 w')
    (((try go_split_ands); refine ⟨?_, ?_⟩ <;> first | with_reducible assumption | exact (Ext.refl _).drew | ((repeat (first | with_reducible exact Ext.refl _ | with_reducible assumption | with_reducible refine Ext.alloc ?_ _ | with_reducible refine Ext.drew ?_ | (with_reducible refine Ext.setCell ?_ (by first | exact Nat.le_refl _ | (dsimp only; omega) | (simp; done) | (simp; omega)) _) | with_reducible refine Ext.trans ?_ (by with_reducible assumption))); done) | (refine Ext.keep (w := w0) (by repeat (first | with_reducible exact Ext.refl _ | with_reducible assumption | with_reducible refine Ext.alloc ?_ _ | with_reducible refine Ext.drew ?_ | (with_reducible refine Ext.setCell ?_ (by first | exact Nat.le_refl _ | (dsimp only; omega) | (simp; done) | (simp; omega)) _) | with_reducible refine Ext.trans ?_ (by with_reducible assumption))) ?_; with_reducible assumption)))
    (first
      | (go_at_call 126; (with_reducible refine (kern_call _).mono ?_); rintro e w' ⟨rfl, rfl⟩))
  all_goals
  go_wp2_with (go_at_call 179; (with_reducible refine (leaky_Fill 3 a b now cap _ ha0 ha1 hb0 hb1 hn0 hn1).mono ?_); rintro e w1 ⟨rfl, hx⟩)
  go_ret
  exact ⟨rfl, (by repeat (first | with_reducible exact Ext.refl _ | with_reducible assumption | with_reducible refine Ext.alloc ?_ _ | with_reducible refine Ext.drew ?_ | (with_reducible refine Ext.setCell ?_ (by first | exact Nat.le_refl _ | (dsimp only; omega) | (simp; done) | (simp; omega)) _) | with_reducible refine Ext.trans ?_ (by with_reducible assumption)))⟩

set_option maxHeartbeats 1000000 in
set_option maxRecDepth 100000 in
theorem kernel_Fill0 (k a b now cap : Int) (w : World) (h : ¬ (1 ≤ k ∧ k ≤ 3)) :
    Calls Tryz.prog 110 #[.agg #[.int .u8 k, .int .u64 a, .int .u64 b], .int .u64 now, .int .u64 cap] w fun e w' => e = .returned (.int .u64 0) ∧ Ext w w' := by
  have L := kern_look0 k h
  have La := kern_look0b k h
  have Lb := kern_look0c k h
  have bq := Blk.new w #[.int .u8 k, .int .u64 a, .int .u64 b] 140
  clear h
  go_enter Tryz.func110, Tryz.ntmps110
  go_wp2_with fail
  have hx0' : Ext w (w.alloc (.cells #[.int .u8 k, .int .u64 a, .int .u64 b] 140)) := (Ext.refl w).alloc _
  generalize w.alloc (.cells #[.int .u8 k, .int .u64 a, .int .u64 b] 140) = w0 at *
  have hlt := bq.lt
  have q0 : w0.cell? ⟨w.heap.size, 0, none⟩ = some (.int .u8 k) := bq.cell 0
  go_region_held3 (fun w' => w'.cell? ⟨w.heap.size, 0, none⟩ = some (.int .u8 k) ∧ Ext w0 w')
    (((try go_split_ands); refine ⟨?_, ?_⟩ <;> first | with_reducible assumption | exact (Ext.refl _).drew | ((repeat (first | with_reducible exact Ext.refl _ | with_reducible assumption | with_reducible refine Ext.alloc ?_ _ | with_reducible refine Ext.drew ?_ | (with_reducible refine Ext.setCell ?_ (by first | exact Nat.le_refl _ | (dsimp only; omega) | (simp; done) | (simp; omega)) _) | with_reducible refine Ext.trans ?_ (by with_reducible assumption))); done) | (refine Ext.keep (w := w0) (by repeat (first | with_reducible exact Ext.refl _ | with_reducible assumption | with_reducible refine Ext.alloc ?_ _ | with_reducible refine Ext.drew ?_ | (with_reducible refine Ext.setCell ?_ (by first | exact Nat.le_refl _ | (dsimp only; omega) | (simp; done) | (simp; omega)) _) | with_reducible refine Ext.trans ?_ (by with_reducible assumption))) ?_; with_reducible assumption)))
    (first
      | (go_at_call 126; (with_reducible refine (kern_call _).mono ?_); rintro e w' ⟨rfl, rfl⟩))
  all_goals
  go_wp2
  go_ret
  exact ⟨rfl, (by repeat (first | with_reducible exact Ext.refl _ | with_reducible assumption | with_reducible refine Ext.alloc ?_ _ | with_reducible refine Ext.drew ?_ | (with_reducible refine Ext.setCell ?_ (by first | exact Nat.le_refl _ | (dsimp only; omega) | (simp; done) | (simp; omega)) _) | with_reducible refine Ext.trans ?_ (by with_reducible assumption)))⟩

theorem kernel_Fill (k a b now cap : Int) (w : World) (ha0 : 0 ≤ a) (ha1 : a < 18446744073709551616) (hb0 : 0 ≤ b) (hb1 : b < 18446744073709551616) (hn0 : 0 ≤ now) (hn1 : now < 18446744073709551616) (hc0 : 0 ≤ cap) (hc1 : cap < 18446744073709551616) :
    Calls Tryz.prog 110 #[.agg #[.int .u8 k, .int .u64 a, .int .u64 b], .int .u64 now, .int .u64 cap] w fun e w' => e = .returned (.int .u64 (kFill k a b now cap)) ∧ Ext w w' := by
  by_cases h1 : k = 1
  · subst h1; exact kernel_Fill1 a b now cap w ha0 ha1 hb0 hb1 hn0 hn1 hc0 hc1
  by_cases h2 : k = 2
  · subst h2; exact kernel_Fill2 a b now cap w ha0 ha1 hb0 hb1 hn0 hn1 hc0 hc1
  by_cases h3 : k = 3
  · subst h3; exact kernel_Fill3 a b now cap w ha0 ha1 hb0 hb1 hn0 hn1 hc0 hc1
  have e : kFill k a b now cap = 0 := by unfold kFill; rw [if_neg h1, if_neg h2, if_neg h3]
  rw [e]
  exact kernel_Fill0 k a b now cap w (by omega)
end Go.Proofs.YtknlojlcahgnoaaGreat
