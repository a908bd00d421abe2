/- Walks: package kernel. Walks: kernel.Decide, kernel.Of. Walks: kernel.Wait, Left, Until, Migrate. Slots, and maps of slots: what the operations do to a block that is such a map. No program in sight. -/
import Derived.Test.YtnlmbmbalmkiiaaG2
import Derived.Test.YtnlmbmbalmkiiaaG0
import Derived.Test.YtnlmbmbalmkiiaaG1

/- Walks: package kernel. -/
namespace Go.Proofs.Ytnlmbmbalmkiiaa
open Go.RowKit
set_option linter.unusedVariables false
set_option linter.unusedSimpArgs false

theorem kl2 (W : World) (C : Array Value) (t : TypeId) : ((W.alloc (.map kernels 3)).alloc (.cells C t)).heap[W.heap.size]? = some (.map kernels 3) :=
  (heap_alloc_old (W.alloc (.map kernels 3)) (.cells C t) (by rw [World.size_alloc]; omega)).trans (map_new_at W _)
theorem kern_lk1 {w : World} {b : Nat} (hb : w.heap[b]? = some (.map kernels 3)) : (Instr.lookup 109 (.map (some b)) (.int .u8 1) true).run Try.prog w = .ok (.tuple #[.agg #[.func (.func 72) #[] #[], .func (.func 73) #[] #[], .func (.func 74) #[] #[]], .bool true]) w :=
  (run_lookup_yes (P := Try.prog) Try.underlying109 Try.underlying5 (key := .int .u8 1) rfl hb (i := 0) (v := kern 72 73 74) rfl).1
theorem kern_lk2 {w : World} {b : Nat} (hb : w.heap[b]? = some (.map kernels 3)) : (Instr.lookup 109 (.map (some b)) (.int .u8 2) true).run Try.prog w = .ok (.tuple #[.agg #[.func (.func 75) #[] #[], .func (.func 76) #[] #[], .func (.func 77) #[] #[]], .bool true]) w :=
  (run_lookup_yes (P := Try.prog) Try.underlying109 Try.underlying5 (key := .int .u8 2) rfl hb (i := 1) (v := kern 75 76 77) rfl).1
theorem kern_lk3 {w : World} {b : Nat} (hb : w.heap[b]? = some (.map kernels 3)) : (Instr.lookup 109 (.map (some b)) (.int .u8 3) true).run Try.prog w = .ok (.tuple #[.agg #[.func (.func 78) #[] #[], .func (.func 79) #[] #[], .func (.func 80) #[] #[]], .bool true]) w :=
  (run_lookup_yes (P := Try.prog) Try.underlying109 Try.underlying5 (key := .int .u8 3) rfl hb (i := 2) (v := kern 78 79 80) rfl).1
theorem kern_lk0 (k : Int) (h : ¬ (1 ≤ k ∧ k ≤ 3)) {w : World} {b : Nat} (hb : w.heap[b]? = some (.map kernels 3)) : (Instr.lookup 109 (.map (some b)) (.int .u8 k) true).run Try.prog w = .ok (.tuple #[.agg #[.nilFunc, .nilFunc, .nilFunc], .bool false]) w :=
  (run_lookup_no (P := Try.prog) Try.underlying109 Try.underlying5 (key := .int .u8 k) rfl hb (kern_zero _) (kern_miss k h)).1
theorem kern_look1 (W : World) : (Instr.lookup 109 (.map (some W.heap.size)) (.int .u8 1) true).run Try.prog (W.alloc (.map kernels 3)).drew = .ok (.tuple #[.agg #[.func (.func 72) #[] #[], .func (.func 73) #[] #[], .func (.func 74) #[] #[]], .bool true]) (W.alloc (.map kernels 3)).drew := kern_lk1 (map_new_at W _)
theorem kern_look2 (W : World) : (Instr.lookup 109 (.map (some W.heap.size)) (.int .u8 2) true).run Try.prog (W.alloc (.map kernels 3)).drew = .ok (.tuple #[.agg #[.func (.func 75) #[] #[], .func (.func 76) #[] #[], .func (.func 77) #[] #[]], .bool true]) (W.alloc (.map kernels 3)).drew := kern_lk2 (map_new_at W _)
theorem kern_look3 (W : World) : (Instr.lookup 109 (.map (some W.heap.size)) (.int .u8 3) true).run Try.prog (W.alloc (.map kernels 3)).drew = .ok (.tuple #[.agg #[.func (.func 78) #[] #[], .func (.func 79) #[] #[], .func (.func 80) #[] #[]], .bool true]) (W.alloc (.map kernels 3)).drew := kern_lk3 (map_new_at W _)
theorem kern_look0 (k : Int) (h : ¬ (1 ≤ k ∧ k ≤ 3)) (W : World) : (Instr.lookup 109 (.map (some W.heap.size)) (.int .u8 k) true).run Try.prog (W.alloc (.map kernels 3)).drew = .ok (.tuple #[.agg #[.nilFunc, .nilFunc, .nilFunc], .bool false]) (W.alloc (.map kernels 3)).drew := kern_lk0 k h (map_new_at W _)
theorem kern_look1b (W : World) (C : Array Value) (t : TypeId) : (Instr.lookup 109 (.map (some W.heap.size)) (.int .u8 1) true).run Try.prog ((W.alloc (.map kernels 3)).alloc (.cells C t)).drew = .ok (.tuple #[.agg #[.func (.func 72) #[] #[], .func (.func 73) #[] #[], .func (.func 74) #[] #[]], .bool true]) ((W.alloc (.map kernels 3)).alloc (.cells C t)).drew := kern_lk1 (kl2 W C t)
theorem kern_look2b (W : World) (C : Array Value) (t : TypeId) : (Instr.lookup 109 (.map (some W.heap.size)) (.int .u8 2) true).run Try.prog ((W.alloc (.map kernels 3)).alloc (.cells C t)).drew = .ok (.tuple #[.agg #[.func (.func 75) #[] #[], .func (.func 76) #[] #[], .func (.func 77) #[] #[]], .bool true]) ((W.alloc (.map kernels 3)).alloc (.cells C t)).drew := kern_lk2 (kl2 W C t)
theorem kern_look3b (W : World) (C : Array Value) (t : TypeId) : (Instr.lookup 109 (.map (some W.heap.size)) (.int .u8 3) true).run Try.prog ((W.alloc (.map kernels 3)).alloc (.cells C t)).drew = .ok (.tuple #[.agg #[.func (.func 78) #[] #[], .func (.func 79) #[] #[], .func (.func 80) #[] #[]], .bool true]) ((W.alloc (.map kernels 3)).alloc (.cells C t)).drew := kern_lk3 (kl2 W C t)
theorem kern_look0b (k : Int) (h : ¬ (1 ≤ k ∧ k ≤ 3)) (W : World) (C : Array Value) (t : TypeId) : (Instr.lookup 109 (.map (some W.heap.size)) (.int .u8 k) true).run Try.prog ((W.alloc (.map kernels 3)).alloc (.cells C t)).drew = .ok (.tuple #[.agg #[.nilFunc, .nilFunc, .nilFunc], .bool false]) ((W.alloc (.map kernels 3)).alloc (.cells C t)).drew := kern_lk0 k h (kl2 W C t)
theorem kern_look1c (W : World) (C : Array Value) (t : TypeId) : (Instr.lookup 109 (.map (some (W.heap.size + 1))) (.int .u8 1) true).run Try.prog ((W.alloc (.cells C t)).alloc (.map kernels 3)).drew = .ok (.tuple #[.agg #[.func (.func 72) #[] #[], .func (.func 73) #[] #[], .func (.func 74) #[] #[]], .bool true]) ((W.alloc (.cells C t)).alloc (.map kernels 3)).drew := kern_lk1 (heap_alloc2_new W _ _)
theorem kern_look2c (W : World) (C : Array Value) (t : TypeId) : (Instr.lookup 109 (.map (some (W.heap.size + 1))) (.int .u8 2) true).run Try.prog ((W.alloc (.cells C t)).alloc (.map kernels 3)).drew = .ok (.tuple #[.agg #[.func (.func 75) #[] #[], .func (.func 76) #[] #[], .func (.func 77) #[] #[]], .bool true]) ((W.alloc (.cells C t)).alloc (.map kernels 3)).drew := kern_lk2 (heap_alloc2_new W _ _)
theorem kern_look3c (W : World) (C : Array Value) (t : TypeId) : (Instr.lookup 109 (.map (some (W.heap.size + 1))) (.int .u8 3) true).run Try.prog ((W.alloc (.cells C t)).alloc (.map kernels 3)).drew = .ok (.tuple #[.agg #[.func (.func 78) #[] #[], .func (.func 79) #[] #[], .func (.func 80) #[] #[]], .bool true]) ((W.alloc (.cells C t)).alloc (.map kernels 3)).drew := kern_lk3 (heap_alloc2_new W _ _)
theorem kern_look0c (k : Int) (h : ¬ (1 ≤ k ∧ k ≤ 3)) (W : World) (C : Array Value) (t : TypeId) : (Instr.lookup 109 (.map (some (W.heap.size + 1))) (.int .u8 k) true).run Try.prog ((W.alloc (.cells C t)).alloc (.map kernels 3)).drew = .ok (.tuple #[.agg #[.nilFunc, .nilFunc, .nilFunc], .bool false]) ((W.alloc (.cells C t)).alloc (.map kernels 3)).drew := kern_lk0 k h (heap_alloc2_new W _ _)
theorem kern_look1p (W : World) : (Instr.lookup 109 (.map (some W.heap.size)) (.int .u8 1) true).run Try.prog (W.alloc (.map kernels 3)) = .ok (.tuple #[.agg #[.func (.func 72) #[] #[], .func (.func 73) #[] #[], .func (.func 74) #[] #[]], .bool true]) (W.alloc (.map kernels 3)) := kern_lk1 (map_new_at W _)
theorem kern_look2p (W : World) : (Instr.lookup 109 (.map (some W.heap.size)) (.int .u8 2) true).run Try.prog (W.alloc (.map kernels 3)) = .ok (.tuple #[.agg #[.func (.func 75) #[] #[], .func (.func 76) #[] #[], .func (.func 77) #[] #[]], .bool true]) (W.alloc (.map kernels 3)) := kern_lk2 (map_new_at W _)
theorem kern_look3p (W : World) : (Instr.lookup 109 (.map (some W.heap.size)) (.int .u8 3) true).run Try.prog (W.alloc (.map kernels 3)) = .ok (.tuple #[.agg #[.func (.func 78) #[] #[], .func (.func 79) #[] #[], .func (.func 80) #[] #[]], .bool true]) (W.alloc (.map kernels 3)) := kern_lk3 (map_new_at W _)
theorem kern_look0p (k : Int) (h : ¬ (1 ≤ k ∧ k ≤ 3)) (W : World) : (Instr.lookup 109 (.map (some W.heap.size)) (.int .u8 k) true).run Try.prog (W.alloc (.map kernels 3)) = .ok (.tuple #[.agg #[.nilFunc, .nilFunc, .nilFunc], .bool false]) (W.alloc (.map kernels 3)) := kern_lk0 k h (map_new_at W _)
theorem kern_call (w : World) : Calls Try.prog 53 #[] w fun e w' => e = .returned (.map (some w.heap.size)) ∧ w' = w.alloc (.map kernels 3) := (kernel_all w).mono fun e w' h => h

set_option maxHeartbeats 1000000 in
set_option maxRecDepth 100000 in
theorem kernel_Fill1 (a b now cap : Int) (w : World) (ha0 : 0 ≤ a) (ha1 : a < 18446744073709551616) (hb0 : 0 ≤ b) (hb1 : b < 18446744073709551616) (hn0 : 0 ≤ now) (hn1 : now < 18446744073709551616) (hc0 : 0 ≤ cap) (hc1 : cap < 18446744073709551616) :
    Calls Try.prog 37 #[.agg #[.int .u8 1, .int .u64 a, .int .u64 b], .int .u64 now, .int .u64 cap] w fun e w' => e = .returned (.int .u64 (kFill 1 a b now cap)) ∧ Ext w w' := by
  have L := kern_look1
  have La := kern_look1b
  have Lb := kern_look1c
  have bq := Blk.new w #[.int .u8 1, .int .u64 a, .int .u64 b] 50
  go_enter Try.func37, Try.ntmps37
  go_wp2_with fail
  have hx0' : Ext w (w.alloc (.cells #[.int .u8 1, .int .u64 a, .int .u64 b] 50)) := (Ext.refl w).alloc _
  generalize w.alloc (.cells #[.int .u8 1, .int .u64 a, .int .u64 b] 50) = w0 at *
  have q1 : w0.cell? ⟨w.heap.size, 1, none⟩ = some (.int .u64 a) := bq.cell 1
  have q2 : w0.cell? ⟨w.heap.size, 2, none⟩ = some (.int .u64 b) := bq.cell 2
  have hlt := bq.lt
  have q0 : w0.cell? ⟨w.heap.size, 0, none⟩ = some (.int .u8 1) := bq.cell 0
  go_region_held3 (fun w' => w'.cell? ⟨w.heap.size, 0, none⟩ = some (.int .u8 1) ∧ Ext w0 w')
    (((try go_split_ands); refine ⟨?_, ?_⟩ <;> first | with_reducible assumption | exact (Ext.refl _).drew | ((repeat (first | with_reducible exact Ext.refl _ | with_reducible assumption | with_reducible refine Ext.alloc ?_ _ | with_reducible refine Ext.drew ?_ | (with_reducible refine Ext.setCell ?_ (by first | exact Nat.le_refl _ | (dsimp only; omega) | (simp; done) | (simp; omega)) _) | with_reducible refine Ext.trans ?_ (by with_reducible assumption))); done) | (refine Ext.keep (w := w0) (by repeat (first | with_reducible exact Ext.refl _ | with_reducible assumption | with_reducible refine Ext.alloc ?_ _ | with_reducible refine Ext.drew ?_ | (with_reducible refine Ext.setCell ?_ (by first | exact Nat.le_refl _ | (dsimp only; omega) | (simp; done) | (simp; omega)) _) | with_reducible refine Ext.trans ?_ (by with_reducible assumption))) ?_; with_reducible assumption)))
    (first
      | (go_at_call 53; (with_reducible refine (kern_call _).mono ?_); rintro e w' ⟨rfl, rfl⟩))
  all_goals
  go_wp2_with (go_at_call 73; (with_reducible refine (gcra_Fill 1 a b now cap _ ha0 ha1 hn0 hn1).mono ?_); rintro e w1 ⟨rfl, hx⟩)
  go_ret
  exact ⟨rfl, (by repeat (first | with_reducible exact Ext.refl _ | with_reducible assumption | with_reducible refine Ext.alloc ?_ _ | with_reducible refine Ext.drew ?_ | (with_reducible refine Ext.setCell ?_ (by first | exact Nat.le_refl _ | (dsimp only; omega) | (simp; done) | (simp; omega)) _) | with_reducible refine Ext.trans ?_ (by with_reducible assumption)))⟩

set_option maxHeartbeats 1000000 in
set_option maxRecDepth 100000 in
theorem kernel_Fill2 (a b now cap : Int) (w : World) (ha0 : 0 ≤ a) (ha1 : a < 18446744073709551616) (hb0 : 0 ≤ b) (hb1 : b < 18446744073709551616) (hn0 : 0 ≤ now) (hn1 : now < 18446744073709551616) (hc0 : 0 ≤ cap) (hc1 : cap < 18446744073709551616) :
    Calls Try.prog 37 #[.agg #[.int .u8 2, .int .u64 a, .int .u64 b], .int .u64 now, .int .u64 cap] w fun e w' => e = .returned (.int .u64 (kFill 2 a b now cap)) ∧ Ext w w' := by
  have L := kern_look2
  have La := kern_look2b
  have Lb := kern_look2c
  have bq := Blk.new w #[.int .u8 2, .int .u64 a, .int .u64 b] 50
  go_enter Try.func37, Try.ntmps37
  go_wp2_with fail
  have hx0' : Ext w (w.alloc (.cells #[.int .u8 2, .int .u64 a, .int .u64 b] 50)) := (Ext.refl w).alloc _
  generalize w.alloc (.cells #[.int .u8 2, .int .u64 a, .int .u64 b] 50) = w0 at *
  have q1 : w0.cell? ⟨w.heap.size, 1, none⟩ = some (.int .u64 a) := bq.cell 1
  have q2 : w0.cell? ⟨w.heap.size, 2, none⟩ = some (.int .u64 b) := bq.cell 2
  have hlt := bq.lt
  have q0 : w0.cell? ⟨w.heap.size, 0, none⟩ = some (.int .u8 2) := bq.cell 0
  go_region_held3 (fun w' => w'.cell? ⟨w.heap.size, 0, none⟩ = some (.int .u8 2) ∧ Ext w0 w')
    (((try go_split_ands); refine ⟨?_, ?_⟩ <;> first | with_reducible assumption | exact (Ext.refl _).drew | ((repeat (first | with_reducible exact Ext.refl _ | with_reducible assumption | with_reducible refine Ext.alloc ?_ _ | with_reducible refine Ext.drew ?_ | (with_reducible refine Ext.setCell ?_ (by first | exact Nat.le_refl _ | (dsimp only; omega) | (simp; done) | (simp; omega)) _) | with_reducible refine Ext.trans ?_ (by with_reducible assumption))); done) | (refine Ext.keep (w := w0) (by repeat (first | with_reducible exact Ext.refl _ | with_reducible assumption | with_reducible refine Ext.alloc ?_ _ | with_reducible refine Ext.drew ?_ | (with_reducible refine Ext.setCell ?_ (by first | exact Nat.le_refl _ | (dsimp only; omega) | (simp; done) | (simp; omega)) _) | with_reducible refine Ext.trans ?_ (by with_reducible assumption))) ?_; with_reducible assumption)))
    (first
      | (go_at_call 53; (with_reducible refine (kern_call _).mono ?_); rintro e w' ⟨rfl, rfl⟩))
  all_goals
  go_wp2_with (go_at_call 76; (with_reducible refine (bucket_Fill 2 a b now cap _ ha0 ha1 hb0 hb1 hn0 hn1 hc0 hc1).mono ?_); rintro e w1 ⟨rfl, hx⟩)
  go_ret
  exact ⟨rfl, (by repeat (first | with_reducible exact Ext.refl _ | with_reducible assumption | with_reducible refine Ext.alloc ?_ _ | with_reducible refine Ext.drew ?_ | (with_reducible refine Ext.setCell ?_ (by first | exact Nat.le_refl _ | (dsimp only; omega) | (simp; done) | (simp; omega)) _) | with_reducible refine Ext.trans ?_ (by with_reducible assumption)))⟩

set_option maxHeartbeats 1000000 in
set_option maxRecDepth 100000 in
theorem kernel_Fill3 (a b now cap : Int) (w : World) (ha0 : 0 ≤ a) (ha1 : a < 18446744073709551616) (hb0 : 0 ≤ b) (hb1 : b < 18446744073709551616) (hn0 : 0 ≤ now) (hn1 : now < 18446744073709551616) (hc0 : 0 ≤ cap) (hc1 : cap < 18446744073709551616) :
    Calls Try.prog 37 #[.agg #[.int .u8 3, .int .u64 a, .int .u64 b], .int .u64 now, .int .u64 cap] w fun e w' => e = .returned (.int .u64 (kFill 3 a b now cap)) ∧ Ext w w' := by
  have L := kern_look3
  have La := kern_look3b
  have Lb := kern_look3c
  have bq := Blk.new w #[.int .u8 3, .int .u64 a, .int .u64 b] 50
  go_enter Try.func37, Try.ntmps37
  go_wp2_with fail
  have hx0' : Ext w (w.alloc (.cells #[.int .u8 3, .int .u64 a, .int .u64 b] 50)) := (Ext.refl w).alloc _
  generalize w.alloc (.cells #[.int .u8 3, .int .u64 a, .int .u64 b] 50) = w0 at *
  have q1 : w0.cell? ⟨w.heap.size, 1, none⟩ = some (.int .u64 a) := bq.cell 1
  have q2 : w0.cell? ⟨w.heap.size, 2, none⟩ = some (.int .u64 b) := bq.cell 2
  have hlt := bq.lt
  have q0 : w0.cell? ⟨w.heap.size, 0, none⟩ = some (.int .u8 3) := bq.cell 0
  go_region_held3 (fun w' => w'.cell? ⟨w.heap.size, 0, none⟩ = some (.int .u8 3) ∧ Ext w0 w')
    (((try go_split_ands); refine ⟨?_, ?_⟩ <;> first | with_reducible assumption | exact (Ext.refl _).drew | ((repeat (first | with_reducible exact Ext.refl _ | with_reducible assumption | with_reducible refine Ext.alloc ?_ _ | with_reducible refine Ext.drew ?_ | (with_reducible refine Ext.setCell ?_ (by first | exact Nat.le_refl _ | (dsimp only; omega) | (simp; done) | (simp; omega)) _) | with_reducible refine Ext.trans ?_ (by with_reducible assumption))); done) | (refine Ext.keep (w := w0) (by repeat (first | with_reducible exact Ext.refl _ | with_reducible assumption | with_reducible refine Ext.alloc ?_ _ | with_reducible refine Ext.drew ?_ | (with_reducible refine Ext.setCell ?_ (by first | exact Nat.le_refl _ | (dsimp only; omega) | (simp; done) | (simp; omega)) _) | with_reducible refine Ext.trans ?_ (by with_reducible assumption))) ?_; with_reducible assumption)))
    (first
      | (go_at_call 53; (with_reducible refine (kern_call _).mono ?_); rintro e w' ⟨rfl, rfl⟩))
  all_goals
  go_wp2_with (go_at_call 79; (with_reducible refine (leaky_Fill 3 a b now cap _ ha0 ha1 hb0 hb1 hn0 hn1).mono ?_); rintro e w1 ⟨rfl, hx⟩)
  go_ret
  exact ⟨rfl, (by repeat (first | with_reducible exact Ext.refl _ | with_reducible assumption | with_reducible refine Ext.alloc ?_ _ | with_reducible refine Ext.drew ?_ | (with_reducible refine Ext.setCell ?_ (by first | exact Nat.le_refl _ | (dsimp only; omega) | (simp; done) | (simp; omega)) _) | with_reducible refine Ext.trans ?_ (by with_reducible assumption)))⟩

set_option maxHeartbeats 1000000 in
set_option maxRecDepth 100000 in
theorem kernel_Fill0 (k a b now cap : Int) (w : World) (h : ¬ (1 ≤ k ∧ k ≤ 3)) :
    Calls Try.prog 37 #[.agg #[.int .u8 k, .int .u64 a, .int .u64 b], .int .u64 now, .int .u64 cap] w fun e w' => e = .returned (.int .u64 0) ∧ Ext w w' := by
  have L := kern_look0 k h
  have La := kern_look0b k h
  have Lb := kern_look0c k h
  have bq := Blk.new w #[.int .u8 k, .int .u64 a, .int .u64 b] 50
  clear h
  go_enter Try.func37, Try.ntmps37
  go_wp2_with fail
  have hx0' : Ext w (w.alloc (.cells #[.int .u8 k, .int .u64 a, .int .u64 b] 50)) := (Ext.refl w).alloc _
  generalize w.alloc (.cells #[.int .u8 k, .int .u64 a, .int .u64 b] 50) = w0 at *
  have hlt := bq.lt
  have q0 : w0.cell? ⟨w.heap.size, 0, none⟩ = some (.int .u8 k) := bq.cell 0
  go_region_held3 (fun w' => w'.cell? ⟨w.heap.size, 0, none⟩ = some (.int .u8 k) ∧ Ext w0 w')
    (((try go_split_ands); refine ⟨?_, ?_⟩ <;> first | with_reducible assumption | exact (Ext.refl _).drew | ((repeat (first | with_reducible exact Ext.refl _ | with_reducible assumption | with_reducible refine Ext.alloc ?_ _ | with_reducible refine Ext.drew ?_ | (with_reducible refine Ext.setCell ?_ (by first | exact Nat.le_refl _ | (dsimp only; omega) | (simp; done) | (simp; omega)) _) | with_reducible refine Ext.trans ?_ (by with_reducible assumption))); done) | (refine Ext.keep (w := w0) (by repeat (first | with_reducible exact Ext.refl _ | with_reducible assumption | with_reducible refine Ext.alloc ?_ _ | with_reducible refine Ext.drew ?_ | (with_reducible refine Ext.setCell ?_ (by first | exact Nat.le_refl _ | (dsimp only; omega) | (simp; done) | (simp; omega)) _) | with_reducible refine Ext.trans ?_ (by with_reducible assumption))) ?_; with_reducible assumption)))
    (first
      | (go_at_call 53; (with_reducible refine (kern_call _).mono ?_); rintro e w' ⟨rfl, rfl⟩))
  all_goals
  go_wp2
  go_ret
  exact ⟨rfl, (by repeat (first | with_reducible exact Ext.refl _ | with_reducible assumption | with_reducible refine Ext.alloc ?_ _ | with_reducible refine Ext.drew ?_ | (with_reducible refine Ext.setCell ?_ (by first | exact Nat.le_refl _ | (dsimp only; omega) | (simp; done) | (simp; omega)) _) | with_reducible refine Ext.trans ?_ (by with_reducible assumption)))⟩

theorem kernel_Fill (k a b now cap : Int) (w : World) (ha0 : 0 ≤ a) (ha1 : a < 18446744073709551616) (hb0 : 0 ≤ b) (hb1 : b < 18446744073709551616) (hn0 : 0 ≤ now) (hn1 : now < 18446744073709551616) (hc0 : 0 ≤ cap) (hc1 : cap < 18446744073709551616) :
    Calls Try.prog 37 #[.agg #[.int .u8 k, .int .u64 a, .int .u64 b], .int .u64 now, .int .u64 cap] w fun e w' => e = .returned (.int .u64 (kFill k a b now cap)) ∧ Ext w w' := by
  by_cases h1 : k = 1
  · subst h1; exact kernel_Fill1 a b now cap w ha0 ha1 hb0 hb1 hn0 hn1 hc0 hc1
  by_cases h2 : k = 2
  · subst h2; exact kernel_Fill2 a b now cap w ha0 ha1 hb0 hb1 hn0 hn1 hc0 hc1
  by_cases h3 : k = 3
  · subst h3; exact kernel_Fill3 a b now cap w ha0 ha1 hb0 hb1 hn0 hn1 hc0 hc1
  have e : kFill k a b now cap = 0 := by unfold kFill; rw [if_neg h1, if_neg h2, if_neg h3]
  rw [e]
  exact kernel_Fill0 k a b now cap w (by omega)
end Go.Proofs.Ytnlmbmbalmkiiaa

/- Walks: kernel.Decide, kernel.Of. -/
namespace Go.Proofs.Ytnlmbmbalmkiiaa
open Go.RowKit
set_option linter.unusedVariables false
set_option linter.unusedSimpArgs false

theorem gcra_Decide (a b now cap x : Int) (w : World) (ha0 : 0 ≤ a) (ha1 : a < 18446744073709551616) (hb0 : 0 ≤ b) (hb1 : b < 18446744073709551616) (hn0 : 0 ≤ now) (hn1 : now < 18446744073709551616) (hc0 : 0 ≤ cap) (hc1 : cap < 18446744073709551616) (hx0 : 0 ≤ x) (hx1 : x < 18446744073709551616) :
    Calls Try.prog 74 #[.agg #[.int .u8 1, .int .u64 a, .int .u64 b], .int .u64 now, .int .u64 cap, .int .u64 x] w fun e w' =>
      e = .returned (stB 1 (kNextA 1 a b now cap x) (kNextB 1 a b now cap x) (kOk 1 a b now cap x)) ∧ Ext w w' := by
  have hkk : kOk 1 a b now cap x = fitsB (max a now - now) x cap := rfl
  have hna : kNextA 1 a b now cap x = if kOk 1 a b now cap x then satAdd (max a now) x else a := rfl
  have hnb : kNextB 1 a b now cap x = if kOk 1 a b now cap x then 0 else b := rfl
  rw [hna, hnb]
  rcases max_cases a now with ⟨hm, hle⟩ | ⟨hm, hlt⟩
  · rw [hm] at hkk ⊢
    cases hk : fitsB (a - now) x cap
    · rw [hkk, hk]; exact gcra_Decide_le_no a b now cap x w ha0 ha1 hb0 hb1 hn0 hn1 hc0 hc1 hx0 hx1 hle (Lib.hid hk)
    · rw [hkk, hk]; exact gcra_Decide_le_yes a b now cap x w ha0 ha1 hb0 hb1 hn0 hn1 hc0 hc1 hx0 hx1 hle (Lib.hid hk)
  · rw [hm, Int.sub_self] at hkk
    rw [hm]
    cases hk : fitsB 0 x cap
    · rw [hkk, hk]; exact gcra_Decide_lt_no a b now cap x w ha0 ha1 hb0 hb1 hn0 hn1 hc0 hc1 hx0 hx1 hlt (Lib.hid hk)
    · rw [hkk, hk]; exact gcra_Decide_lt_yes a b now cap x w ha0 ha1 hb0 hb1 hn0 hn1 hc0 hc1 hx0 hx1 hlt (Lib.hid hk)

set_option maxHeartbeats 2000000 in
set_option maxRecDepth 100000 in
theorem kernel_Decide1 (a b now cap x : Int) (w : World) (ha0 : 0 ≤ a) (ha1 : a < 18446744073709551616) (hb0 : 0 ≤ b) (hb1 : b < 18446744073709551616) (hn0 : 0 ≤ now) (hn1 : now < 18446744073709551616) (hc0 : 0 ≤ cap) (hc1 : cap < 18446744073709551616) (hx0 : 0 ≤ x) (hx1 : x < 18446744073709551616) :
    Calls Try.prog 35 #[.agg #[.int .u8 1, .int .u64 a, .int .u64 b], .int .u64 now, .int .u64 cap, .int .u64 x] w fun e w' =>
      e = .returned (stB 1 (kNextA 1 a b now cap x) (kNextB 1 a b now cap x) (kOk 1 a b now cap x)) ∧ Ext w w' := by
  have L := kern_look1
  have La := kern_look1b
  have Lb := kern_look1c
  generalize hA : kNextA 1 a b now cap x = A
  generalize hB : kNextB 1 a b now cap x = B
  generalize hK : kOk 1 a b now cap x = K
  have HA := Lib.hid hA
  have HB := Lib.hid hB
  have HK := Lib.hid hK
  clear hA hB hK
  go_enter Try.func35, Try.ntmps35
  go_wp2_with fail
  have bq := (Blk.new w #[.int .u8 1, .int .u64 a, .int .u64 b] 50).alloc (.cells #[.int .u8 0, .int .u64 0, .int .u64 0] 50)
  have br := Blk.new' (w.alloc (.cells #[.int .u8 1, .int .u64 a, .int .u64 b] 50)) #[.int .u8 0, .int .u64 0, .int .u64 0] 50 (b := w.heap.size + 1) (by simp)
  have hxw : Ext w ((w.alloc (.cells #[.int .u8 1, .int .u64 a, .int .u64 b] 50)).alloc (.cells #[.int .u8 0, .int .u64 0, .int .u64 0] 50)) := ((Ext.refl w).alloc _).alloc _
  generalize (w.alloc (.cells #[.int .u8 1, .int .u64 a, .int .u64 b] 50)).alloc (.cells #[.int .u8 0, .int .u64 0, .int .u64 0] 50) = w0 at *
  have q0 : w0.cell? ⟨w.heap.size, 0, none⟩ = some (.int .u8 1) := bq.cell 0
  have q1 : w0.cell? ⟨w.heap.size, 1, none⟩ = some (.int .u64 a) := bq.cell 1
  have q2 : w0.cell? ⟨w.heap.size, 2, none⟩ = some (.int .u64 b) := bq.cell 2
  have hlt := bq.lt
  have hlt2 := br.lt
  go_region_held3 (fun w' => w'.cell? ⟨w.heap.size, 0, none⟩ = some (.int .u8 1) ∧ Ext w0 w')
    (((try go_split_ands); refine ⟨?_, ?_⟩ <;> first | with_reducible assumption | exact (Ext.refl _).drew | ((repeat (first | with_reducible exact Ext.refl _ | with_reducible assumption | with_reducible refine Ext.alloc ?_ _ | with_reducible refine Ext.drew ?_ | (with_reducible refine Ext.setCell ?_ (by first | exact Nat.le_refl _ | (dsimp only; omega) | (simp; done) | (simp; omega)) _) | with_reducible refine Ext.trans ?_ (by with_reducible assumption))); done) | (refine Ext.keep (w := w0) (by repeat (first | with_reducible exact Ext.refl _ | with_reducible assumption | with_reducible refine Ext.alloc ?_ _ | with_reducible refine Ext.drew ?_ | (with_reducible refine Ext.setCell ?_ (by first | exact Nat.le_refl _ | (dsimp only; omega) | (simp; done) | (simp; omega)) _) | with_reducible refine Ext.trans ?_ (by with_reducible assumption))) ?_; with_reducible assumption)))
    (first
      | (go_at_call 53; (with_reducible refine (kern_call _).mono ?_); rintro e w' ⟨rfl, rfl⟩))
  all_goals
  go_wp2_with fail
  refine (gcra_Decide a b now cap x _ ha0 ha1 hb0 hb1 hn0 hn1 hc0 hc1 hx0 hx1).mono ?_
  rw [HA.out, HB.out, HK.out]
  rintro e w1 ⟨rfl, hx⟩
  have hx1 : Ext w0 w1 := (by repeat (first | with_reducible exact Ext.refl _ | with_reducible assumption | with_reducible refine Ext.alloc ?_ _ | with_reducible refine Ext.drew ?_ | (with_reducible refine Ext.setCell ?_ (by first | exact Nat.le_refl _ | (dsimp only; omega) | (simp; done) | (simp; omega)) _) | with_reducible refine Ext.trans ?_ (by with_reducible assumption)))
  have hR := br.ext hx1
  have hf := hR.free
  have hc := hR.cell
  have hl := hR.lt
  simp only [stB, stV]
  go_wp2
  have hS := ((hR.set 0 (.int .u8 1)).set 1 (.int .u64 A)).set 2 (.int .u64 B)
  refine ret_cell_tmp Try.results35 rfl rfl hS Try.underlying50 rfl (by kernel_rfl) ⟨rfl, ?_⟩
  exact (((hxw.trans hx1).set (by omega) _ _).set (by omega) _ _).set (by omega) _ _

set_option maxHeartbeats 2000000 in
set_option maxRecDepth 100000 in
theorem kernel_Decide2 (a b now cap x : Int) (w : World) (ha0 : 0 ≤ a) (ha1 : a < 18446744073709551616) (hb0 : 0 ≤ b) (hb1 : b < 18446744073709551616) (hn0 : 0 ≤ now) (hn1 : now < 18446744073709551616) (hc0 : 0 ≤ cap) (hc1 : cap < 18446744073709551616) (hx0 : 0 ≤ x) (hx1 : x < 18446744073709551616) :
    Calls Try.prog 35 #[.agg #[.int .u8 2, .int .u64 a, .int .u64 b], .int .u64 now, .int .u64 cap, .int .u64 x] w fun e w' =>
      e = .returned (stB 2 (kNextA 2 a b now cap x) (kNextB 2 a b now cap x) (kOk 2 a b now cap x)) ∧ Ext w w' := by
  have L := kern_look2
  have La := kern_look2b
  have Lb := kern_look2c
  generalize hA : kNextA 2 a b now cap x = A
  generalize hB : kNextB 2 a b now cap x = B
  generalize hK : kOk 2 a b now cap x = K
  have HA := Lib.hid hA
  have HB := Lib.hid hB
  have HK := Lib.hid hK
  clear hA hB hK
  go_enter Try.func35, Try.ntmps35
  go_wp2_with fail
  have bq := (Blk.new w #[.int .u8 2, .int .u64 a, .int .u64 b] 50).alloc (.cells #[.int .u8 0, .int .u64 0, .int .u64 0] 50)
  have br := Blk.new' (w.alloc (.cells #[.int .u8 2, .int .u64 a, .int .u64 b] 50)) #[.int .u8 0, .int .u64 0, .int .u64 0] 50 (b := w.heap.size + 1) (by simp)
  have hxw : Ext w ((w.alloc (.cells #[.int .u8 2, .int .u64 a, .int .u64 b] 50)).alloc (.cells #[.int .u8 0, .int .u64 0, .int .u64 0] 50)) := ((Ext.refl w).alloc _).alloc _
  generalize (w.alloc (.cells #[.int .u8 2, .int .u64 a, .int .u64 b] 50)).alloc (.cells #[.int .u8 0, .int .u64 0, .int .u64 0] 50) = w0 at *
  have q0 : w0.cell? ⟨w.heap.size, 0, none⟩ = some (.int .u8 2) := bq.cell 0
  have q1 : w0.cell? ⟨w.heap.size, 1, none⟩ = some (.int .u64 a) := bq.cell 1
  have q2 : w0.cell? ⟨w.heap.size, 2, none⟩ = some (.int .u64 b) := bq.cell 2
  have hlt := bq.lt
  have hlt2 := br.lt
  go_region_held3 (fun w' => w'.cell? ⟨w.heap.size, 0, none⟩ = some (.int .u8 2) ∧ Ext w0 w')
    (((try go_split_ands); refine ⟨?_, ?_⟩ <;> first | with_reducible assumption | exact (Ext.refl _).drew | ((repeat (first | with_reducible exact Ext.refl _ | with_reducible assumption | with_reducible refine Ext.alloc ?_ _ | with_reducible refine Ext.drew ?_ | (with_reducible refine Ext.setCell ?_ (by first | exact Nat.le_refl _ | (dsimp only; omega) | (simp; done) | (simp; omega)) _) | with_reducible refine Ext.trans ?_ (by with_reducible assumption))); done) | (refine Ext.keep (w := w0) (by repeat (first | with_reducible exact Ext.refl _ | with_reducible assumption | with_reducible refine Ext.alloc ?_ _ | with_reducible refine Ext.drew ?_ | (with_reducible refine Ext.setCell ?_ (by first | exact Nat.le_refl _ | (dsimp only; omega) | (simp; done) | (simp; omega)) _) | with_reducible refine Ext.trans ?_ (by with_reducible assumption))) ?_; with_reducible assumption)))
    (first
      | (go_at_call 53; (with_reducible refine (kern_call _).mono ?_); rintro e w' ⟨rfl, rfl⟩))
  all_goals
  go_wp2_with fail
  refine (bucket_Decide a b now cap x _ ha0 ha1 hb0 hb1 hn0 hn1 hc0 hc1 hx0 hx1).mono ?_
  rw [HA.out, HB.out, HK.out]
  rintro e w1 ⟨rfl, hx⟩
  have hx1 : Ext w0 w1 := (by repeat (first | with_reducible exact Ext.refl _ | with_reducible assumption | with_reducible refine Ext.alloc ?_ _ | with_reducible refine Ext.drew ?_ | (with_reducible refine Ext.setCell ?_ (by first | exact Nat.le_refl _ | (dsimp only; omega) | (simp; done) | (simp; omega)) _) | with_reducible refine Ext.trans ?_ (by with_reducible assumption)))
  have hR := br.ext hx1
  have hf := hR.free
  have hc := hR.cell
  have hl := hR.lt
  simp only [stB, stV]
  go_wp2
  have hS := ((hR.set 0 (.int .u8 2)).set 1 (.int .u64 A)).set 2 (.int .u64 B)
  refine ret_cell_tmp Try.results35 rfl rfl hS Try.underlying50 rfl (by kernel_rfl) ⟨rfl, ?_⟩
  exact (((hxw.trans hx1).set (by omega) _ _).set (by omega) _ _).set (by omega) _ _

set_option maxHeartbeats 2000000 in
set_option maxRecDepth 100000 in
theorem kernel_Decide3 (a b now cap x : Int) (w : World) (ha0 : 0 ≤ a) (ha1 : a < 18446744073709551616) (hb0 : 0 ≤ b) (hb1 : b < 18446744073709551616) (hn0 : 0 ≤ now) (hn1 : now < 18446744073709551616) (hc0 : 0 ≤ cap) (hc1 : cap < 18446744073709551616) (hx0 : 0 ≤ x) (hx1 : x < 18446744073709551616) :
    Calls Try.prog 35 #[.agg #[.int .u8 3, .int .u64 a, .int .u64 b], .int .u64 now, .int .u64 cap, .int .u64 x] w fun e w' =>
      e = .returned (stB 3 (kNextA 3 a b now cap x) (kNextB 3 a b now cap x) (kOk 3 a b now cap x)) ∧ Ext w w' := by
  have L := kern_look3
  have La := kern_look3b
  have Lb := kern_look3c
  generalize hA : kNextA 3 a b now cap x = A
  generalize hB : kNextB 3 a b now cap x = B
  generalize hK : kOk 3 a b now cap x = K
  have HA := Lib.hid hA
  have HB := Lib.hid hB
  have HK := Lib.hid hK
  clear hA hB hK
  go_enter Try.func35, Try.ntmps35
  go_wp2_with fail
  have bq := (Blk.new w #[.int .u8 3, .int .u64 a, .int .u64 b] 50).alloc (.cells #[.int .u8 0, .int .u64 0, .int .u64 0] 50)
  have br := Blk.new' (w.alloc (.cells #[.int .u8 3, .int .u64 a, .int .u64 b] 50)) #[.int .u8 0, .int .u64 0, .int .u64 0] 50 (b := w.heap.size + 1) (by simp)
  have hxw : Ext w ((w.alloc (.cells #[.int .u8 3, .int .u64 a, .int .u64 b] 50)).alloc (.cells #[.int .u8 0, .int .u64 0, .int .u64 0] 50)) := ((Ext.refl w).alloc _).alloc _
  generalize (w.alloc (.cells #[.int .u8 3, .int .u64 a, .int .u64 b] 50)).alloc (.cells #[.int .u8 0, .int .u64 0, .int .u64 0] 50) = w0 at *
  have q0 : w0.cell? ⟨w.heap.size, 0, none⟩ = some (.int .u8 3) := bq.cell 0
  have q1 : w0.cell? ⟨w.heap.size, 1, none⟩ = some (.int .u64 a) := bq.cell 1
  have q2 : w0.cell? ⟨w.heap.size, 2, none⟩ = some (.int .u64 b) := bq.cell 2
  have hlt := bq.lt
  have hlt2 := br.lt
  go_region_held3 (fun w' => w'.cell? ⟨w.heap.size, 0, none⟩ = some (.int .u8 3) ∧ Ext w0 w')
    (((try go_split_ands); refine ⟨?_, ?_⟩ <;> first | with_reducible assumption | exact (Ext.refl _).drew | ((repeat (first | with_reducible exact Ext.refl _ | with_reducible assumption | with_reducible refine Ext.alloc ?_ _ | with_reducible refine Ext.drew ?_ | (with_reducible refine Ext.setCell ?_ (by first | exact Nat.le_refl _ | (dsimp only; omega) | (simp; done) | (simp; omega)) _) | with_reducible refine Ext.trans ?_ (by with_reducible assumption))); done) | (refine Ext.keep (w := w0) (by repeat (first | with_reducible exact Ext.refl _ | with_reducible assumption | with_reducible refine Ext.alloc ?_ _ | with_reducible refine Ext.drew ?_ | (with_reducible refine Ext.setCell ?_ (by first | exact Nat.le_refl _ | (dsimp only; omega) | (simp; done) | (simp; omega)) _) | with_reducible refine Ext.trans ?_ (by with_reducible assumption))) ?_; with_reducible assumption)))
    (first
      | (go_at_call 53; (with_reducible refine (kern_call _).mono ?_); rintro e w' ⟨rfl, rfl⟩))
  all_goals
  go_wp2_with fail
  refine (leaky_Decide a b now cap x _ ha0 ha1 hb0 hb1 hn0 hn1 hc0 hc1 hx0 hx1).mono ?_
  rw [HA.out, HB.out, HK.out]
  rintro e w1 ⟨rfl, hx⟩
  have hx1 : Ext w0 w1 := (by repeat (first | with_reducible exact Ext.refl _ | with_reducible assumption | with_reducible refine Ext.alloc ?_ _ | with_reducible refine Ext.drew ?_ | (with_reducible refine Ext.setCell ?_ (by first | exact Nat.le_refl _ | (dsimp only; omega) | (simp; done) | (simp; omega)) _) | with_reducible refine Ext.trans ?_ (by with_reducible assumption)))
  have hR := br.ext hx1
  have hf := hR.free
  have hc := hR.cell
  have hl := hR.lt
  simp only [stB, stV]
  go_wp2
  have hS := ((hR.set 0 (.int .u8 3)).set 1 (.int .u64 A)).set 2 (.int .u64 B)
  refine ret_cell_tmp Try.results35 rfl rfl hS Try.underlying50 rfl (by kernel_rfl) ⟨rfl, ?_⟩
  exact (((hxw.trans hx1).set (by omega) _ _).set (by omega) _ _).set (by omega) _ _

set_option maxHeartbeats 2000000 in
set_option maxRecDepth 100000 in
theorem kernel_Decide0 (k a b now cap x : Int) (w : World) (h : ¬ (1 ≤ k ∧ k ≤ 3)) :
    Calls Try.prog 35 #[.agg #[.int .u8 k, .int .u64 a, .int .u64 b], .int .u64 now, .int .u64 cap, .int .u64 x] w fun e w' =>
      e = .returned (stB k a b false) ∧ Ext w w' := by
  have L := kern_look0 k h
  have La := kern_look0b k h
  have Lb := kern_look0c k h
  clear h
  go_enter Try.func35, Try.ntmps35
  go_wp2_with fail
  have bq := (Blk.new w #[.int .u8 k, .int .u64 a, .int .u64 b] 50).alloc (.cells #[.int .u8 0, .int .u64 0, .int .u64 0] 50)
  have br := Blk.new' (w.alloc (.cells #[.int .u8 k, .int .u64 a, .int .u64 b] 50)) #[.int .u8 0, .int .u64 0, .int .u64 0] 50 (b := w.heap.size + 1) (by simp)
  have hxw : Ext w ((w.alloc (.cells #[.int .u8 k, .int .u64 a, .int .u64 b] 50)).alloc (.cells #[.int .u8 0, .int .u64 0, .int .u64 0] 50)) := ((Ext.refl w).alloc _).alloc _
  generalize (w.alloc (.cells #[.int .u8 k, .int .u64 a, .int .u64 b] 50)).alloc (.cells #[.int .u8 0, .int .u64 0, .int .u64 0] 50) = w0 at *
  have q0 : w0.cell? ⟨w.heap.size, 0, none⟩ = some (.int .u8 k) := bq.cell 0
  have q1 : w0.cell? ⟨w.heap.size, 1, none⟩ = some (.int .u64 a) := bq.cell 1
  have q2 : w0.cell? ⟨w.heap.size, 2, none⟩ = some (.int .u64 b) := bq.cell 2
  have hlt := bq.lt
  have hlt2 := br.lt
  go_region_held3 (fun w' => w'.cell? ⟨w.heap.size, 0, none⟩ = some (.int .u8 k) ∧ Ext w0 w')
    (((try go_split_ands); refine ⟨?_, ?_⟩ <;> first | with_reducible assumption | exact (Ext.refl _).drew | ((repeat (first | with_reducible exact Ext.refl _ | with_reducible assumption | with_reducible refine Ext.alloc ?_ _ | with_reducible refine Ext.drew ?_ | (with_reducible refine Ext.setCell ?_ (by first | exact Nat.le_refl _ | (dsimp only; omega) | (simp; done) | (simp; omega)) _) | with_reducible refine Ext.trans ?_ (by with_reducible assumption))); done) | (refine Ext.keep (w := w0) (by repeat (first | with_reducible exact Ext.refl _ | with_reducible assumption | with_reducible refine Ext.alloc ?_ _ | with_reducible refine Ext.drew ?_ | (with_reducible refine Ext.setCell ?_ (by first | exact Nat.le_refl _ | (dsimp only; omega) | (simp; done) | (simp; omega)) _) | with_reducible refine Ext.trans ?_ (by with_reducible assumption))) ?_; with_reducible assumption)))
    (first
      | (go_at_call 53; (with_reducible refine (kern_call _).mono ?_); rintro e w' ⟨rfl, rfl⟩))
  all_goals
  have hz := br.free
  have hz2 := br.cell
  go_wp2
  refine ret_cell_tmp Try.results35 rfl rfl (((((br.set 0 (.int .u8 k)).set 1 (.int .u64 a)).set 2 (.int .u64 b)).alloc _).alloc _).drew Try.underlying50 rfl (by kernel_rfl) ⟨rfl, ?_⟩
  exact ((((((hxw.set (by omega) _ _).set (by omega) _ _).set (by omega) _ _)).alloc _).alloc _).drew

theorem kernel_Decide (k a b now cap x : Int) (w : World) (ha0 : 0 ≤ a) (ha1 : a < 18446744073709551616) (hb0 : 0 ≤ b) (hb1 : b < 18446744073709551616) (hn0 : 0 ≤ now) (hn1 : now < 18446744073709551616) (hc0 : 0 ≤ cap) (hc1 : cap < 18446744073709551616) (hx0 : 0 ≤ x) (hx1 : x < 18446744073709551616) :
    Calls Try.prog 35 #[.agg #[.int .u8 k, .int .u64 a, .int .u64 b], .int .u64 now, .int .u64 cap, .int .u64 x] w fun e w' =>
      e = .returned (stB k (kNextA k a b now cap x) (kNextB k a b now cap x) (kOk k a b now cap x)) ∧ Ext w w' := by
  by_cases h1 : k = 1
  · subst h1; exact kernel_Decide1 a b now cap x w ha0 ha1 hb0 hb1 hn0 hn1 hc0 hc1 hx0 hx1
  by_cases h2 : k = 2
  · subst h2; exact kernel_Decide2 a b now cap x w ha0 ha1 hb0 hb1 hn0 hn1 hc0 hc1 hx0 hx1
  by_cases h3 : k = 3
  · subst h3; exact kernel_Decide3 a b now cap x w ha0 ha1 hb0 hb1 hn0 hn1 hc0 hc1 hx0 hx1
  have e : kOk k a b now cap x = false := by unfold kOk; rw [if_neg h1, if_neg h2, if_neg h3]
  have e1 : kNextA k a b now cap x = a := by unfold kNextA; rw [e]; rfl
  have e2 : kNextB k a b now cap x = b := by unfold kNextB; rw [e]; rfl
  rw [e, e1, e2]
  exact kernel_Decide0 k a b now cap x w (by omega)

set_option maxHeartbeats 1000000 in
set_option maxRecDepth 100000 in
theorem kernel_Of1 (now cap fill : Int) (w : World) (hn0 : 0 ≤ now) (hn1 : now < 18446744073709551616) (hc0 : 0 ≤ cap) (hc1 : cap < 18446744073709551616) (hf0 : 0 ≤ fill) (hf1 : fill < 18446744073709551616) :
    Calls Try.prog 31 #[.int .u8 1, .int .u64 now, .int .u64 cap, .int .u64 fill] w fun e w' => e = .returned (.tuple #[stV 1 (satAdd now fill) (0), .int .u16 0]) ∧ Ext w w' := by
  have L := kern_look1p
  have br := Blk.new w #[.int .u8 0, .int .u64 0, .int .u64 0] 50
  go_enter Try.func31, Try.ntmps31
  go_wp2_with fail
  have hxw : Ext w (w.alloc (.cells #[.int .u8 0, .int .u64 0, .int .u64 0] 50)) := (Ext.refl w).alloc _
  generalize w.alloc (.cells #[.int .u8 0, .int .u64 0, .int .u64 0] 50) = w0 at *
  refine (kern_call _).mono ?_
  rintro e w' ⟨rfl, rfl⟩
  go_wp2_with fail
  refine (gcra_Of now cap fill _ hn0 hn1 hf0 hf1).mono ?_
  rintro e w1 ⟨rfl, hx⟩
  have hx1 : Ext w0 w1 := (by repeat (first | with_reducible exact Ext.refl _ | with_reducible assumption | with_reducible refine Ext.alloc ?_ _ | with_reducible refine Ext.drew ?_ | (with_reducible refine Ext.setCell ?_ (by first | exact Nat.le_refl _ | (dsimp only; omega) | (simp; done) | (simp; omega)) _) | with_reducible refine Ext.trans ?_ (by with_reducible assumption)))
  have hR := br.ext hx1
  have hfr := hR.free
  have hc := hR.cell
  have hl := hR.lt
  simp only [stV]
  go_wp2
  have hS := ((hR.set 0 (.int .u8 1)).set 1 (.int .u64 (satAdd now fill))).set 2 (.int .u64 (0))
  refine ret_cell_tmp Try.results31 rfl rfl hS Try.underlying50 rfl (by kernel_rfl) ⟨rfl, ?_⟩
  exact (((hxw.trans hx1).set (by omega) _ _).set (by omega) _ _).set (by omega) _ _

set_option maxHeartbeats 1000000 in
set_option maxRecDepth 100000 in
theorem kernel_Of2 (now cap fill : Int) (w : World) (hn0 : 0 ≤ now) (hn1 : now < 18446744073709551616) (hc0 : 0 ≤ cap) (hc1 : cap < 18446744073709551616) (hf0 : 0 ≤ fill) (hf1 : fill < 18446744073709551616) :
    Calls Try.prog 31 #[.int .u8 2, .int .u64 now, .int .u64 cap, .int .u64 fill] w fun e w' => e = .returned (.tuple #[stV 2 (satSub cap fill) (now), .int .u16 0]) ∧ Ext w w' := by
  have L := kern_look2p
  have br := Blk.new w #[.int .u8 0, .int .u64 0, .int .u64 0] 50
  go_enter Try.func31, Try.ntmps31
  go_wp2_with fail
  have hxw : Ext w (w.alloc (.cells #[.int .u8 0, .int .u64 0, .int .u64 0] 50)) := (Ext.refl w).alloc _
  generalize w.alloc (.cells #[.int .u8 0, .int .u64 0, .int .u64 0] 50) = w0 at *
  refine (kern_call _).mono ?_
  rintro e w' ⟨rfl, rfl⟩
  go_wp2_with fail
  refine (bucket_Of now cap fill _ hc0 hc1 hf0 hf1).mono ?_
  rintro e w1 ⟨rfl, hx⟩
  have hx1 : Ext w0 w1 := (by repeat (first | with_reducible exact Ext.refl _ | with_reducible assumption | with_reducible refine Ext.alloc ?_ _ | with_reducible refine Ext.drew ?_ | (with_reducible refine Ext.setCell ?_ (by first | exact Nat.le_refl _ | (dsimp only; omega) | (simp; done) | (simp; omega)) _) | with_reducible refine Ext.trans ?_ (by with_reducible assumption)))
  have hR := br.ext hx1
  have hfr := hR.free
  have hc := hR.cell
  have hl := hR.lt
  simp only [stV]
  go_wp2
  have hS := ((hR.set 0 (.int .u8 2)).set 1 (.int .u64 (satSub cap fill))).set 2 (.int .u64 (now))
  refine ret_cell_tmp Try.results31 rfl rfl hS Try.underlying50 rfl (by kernel_rfl) ⟨rfl, ?_⟩
  exact (((hxw.trans hx1).set (by omega) _ _).set (by omega) _ _).set (by omega) _ _

set_option maxHeartbeats 1000000 in
set_option maxRecDepth 100000 in
theorem kernel_Of3 (now cap fill : Int) (w : World) (hn0 : 0 ≤ now) (hn1 : now < 18446744073709551616) (hc0 : 0 ≤ cap) (hc1 : cap < 18446744073709551616) (hf0 : 0 ≤ fill) (hf1 : fill < 18446744073709551616) :
    Calls Try.prog 31 #[.int .u8 3, .int .u64 now, .int .u64 cap, .int .u64 fill] w fun e w' => e = .returned (.tuple #[stV 3 (fill) (now), .int .u16 0]) ∧ Ext w w' := by
  have L := kern_look3p
  have br := Blk.new w #[.int .u8 0, .int .u64 0, .int .u64 0] 50
  go_enter Try.func31, Try.ntmps31
  go_wp2_with fail
  have hxw : Ext w (w.alloc (.cells #[.int .u8 0, .int .u64 0, .int .u64 0] 50)) := (Ext.refl w).alloc _
  generalize w.alloc (.cells #[.int .u8 0, .int .u64 0, .int .u64 0] 50) = w0 at *
  refine (kern_call _).mono ?_
  rintro e w' ⟨rfl, rfl⟩
  go_wp2_with fail
  refine (leaky_Of now cap fill _).mono ?_
  rintro e w1 ⟨rfl, hx⟩
  have hx1 : Ext w0 w1 := (by repeat (first | with_reducible exact Ext.refl _ | with_reducible assumption | with_reducible refine Ext.alloc ?_ _ | with_reducible refine Ext.drew ?_ | (with_reducible refine Ext.setCell ?_ (by first | exact Nat.le_refl _ | (dsimp only; omega) | (simp; done) | (simp; omega)) _) | with_reducible refine Ext.trans ?_ (by with_reducible assumption)))
  have hR := br.ext hx1
  have hfr := hR.free
  have hc := hR.cell
  have hl := hR.lt
  simp only [stV]
  go_wp2
  have hS := ((hR.set 0 (.int .u8 3)).set 1 (.int .u64 (fill))).set 2 (.int .u64 (now))
  refine ret_cell_tmp Try.results31 rfl rfl hS Try.underlying50 rfl (by kernel_rfl) ⟨rfl, ?_⟩
  exact (((hxw.trans hx1).set (by omega) _ _).set (by omega) _ _).set (by omega) _ _

set_option maxHeartbeats 1000000 in
set_option maxRecDepth 100000 in
theorem kernel_Of0 (k now cap fill : Int) (w : World) (h : ¬ (1 ≤ k ∧ k ≤ 3)) :
    Calls Try.prog 31 #[.int .u8 k, .int .u64 now, .int .u64 cap, .int .u64 fill] w fun e w' => e = .returned (.tuple #[stV 0 0 0, .int .u16 27]) ∧ Ext w w' := by
  have L := kern_look0p k h
  clear h
  have br := Blk.new w #[.int .u8 0, .int .u64 0, .int .u64 0] 50
  go_enter Try.func31, Try.ntmps31
  go_wp2_with fail
  have hxw : Ext w (w.alloc (.cells #[.int .u8 0, .int .u64 0, .int .u64 0] 50)) := (Ext.refl w).alloc _
  generalize w.alloc (.cells #[.int .u8 0, .int .u64 0, .int .u64 0] 50) = w0 at *
  have hz := br.free
  have hz2 := br.cell
  have hlt := br.lt
  refine (kern_call _).mono ?_
  rintro e w' ⟨rfl, rfl⟩
  go_wp2
  refine ret_cell_tmp Try.results31 rfl rfl (((((br.set 0 (.int .u8 0)).set 1 (.int .u64 0)).set 2 (.int .u64 0)).alloc _).alloc _) Try.underlying50 rfl (by kernel_rfl) ⟨rfl, ?_⟩
  exact ((((hxw.set (by omega) _ _).set (by omega) _ _).set (by omega) _ _).alloc _).alloc _

/-- a state that is so full, or none -/
def ofV (k now cap fill : Int) : Value := .tuple #[stV (if rightKind k then k else 0) (kOfA k now cap fill) (kOfB k now), .int .u16 (if rightKind k then 0 else 27)]
theorem kernel_Of (k now cap fill : Int) (w : World) (hn0 : 0 ≤ now) (hn1 : now < 18446744073709551616) (hc0 : 0 ≤ cap) (hc1 : cap < 18446744073709551616) (hf0 : 0 ≤ fill) (hf1 : fill < 18446744073709551616) :
    Calls Try.prog 31 #[.int .u8 k, .int .u64 now, .int .u64 cap, .int .u64 fill] w fun e w' => e = .returned (ofV k now cap fill) ∧ Ext w w' := by
  by_cases h1 : k = 1
  · subst h1; exact kernel_Of1 now cap fill w hn0 hn1 hc0 hc1 hf0 hf1
  by_cases h2 : k = 2
  · subst h2; exact kernel_Of2 now cap fill w hn0 hn1 hc0 hc1 hf0 hf1
  by_cases h3 : k = 3
  · subst h3; exact kernel_Of3 now cap fill w hn0 hn1 hc0 hc1 hf0 hf1
  have e : ofV k now cap fill = .tuple #[stV 0 0 0, .int .u16 27] := by
    have hr : rightKind k = false := by simp [rightKind]; omega
    unfold ofV kOfA kOfB
    rw [hr, if_neg h1, if_neg h2, if_neg h3, if_neg h1, if_neg h2, if_neg h3]
    rfl
  rw [e]
  exact kernel_Of0 k now cap fill w (by omega)
end Go.Proofs.Ytnlmbmbalmkiiaa

/- Walks: kernel.Wait, Left, Until, Migrate. -/
namespace Go.Proofs.Ytnlmbmbalmkiiaa
open Go.RowKit
set_option linter.unusedVariables false
set_option linter.unusedSimpArgs false

theorem kWait_no {f cap x : Int} (h : cap < x ∨ f + x ≤ cap) : kRetry f cap x = false ∧ kWait f cap x = 0 := by
  have e : kRetry f cap x = false := by unfold kRetry; simp; omega
  exact ⟨e, by unfold kWait; rw [e]; rfl⟩
theorem kWait_yes {f cap x : Int} (h : x ≤ cap) (h' : cap < f + x) : kRetry f cap x = true ∧ kWait f cap x = f - (cap - x) := by
  have e : kRetry f cap x = true := by unfold kRetry; simp; omega
  exact ⟨e, by unfold kWait; rw [e]; rfl⟩

set_option maxHeartbeats 1000000 in
set_option maxRecDepth 100000 in
theorem kernel_Wait (k a b now cap x : Int) (w : World) (ha0 : 0 ≤ a) (ha1 : a < 18446744073709551616) (hb0 : 0 ≤ b) (hb1 : b < 18446744073709551616) (hn0 : 0 ≤ now) (hn1 : now < 18446744073709551616) (hc0 : 0 ≤ cap) (hc1 : cap < 18446744073709551616) (hx0 : 0 ≤ x) (hx1 : x < 18446744073709551616) :
    Calls Try.prog 33 #[.agg #[.int .u8 k, .int .u64 a, .int .u64 b], .int .u64 now, .int .u64 cap, .int .u64 x] w fun e w' => e = .returned (.tuple #[.int .u64 (kWait (kFill k a b now cap) cap x), .bool (kRetry (kFill k a b now cap) cap x)]) ∧ Ext w w' := by
  have hF := kFill_u k a b now cap ha0 ha1 hb0 hn0 hn1 hc0 hc1
  generalize hf : kFill k a b now cap = F at *
  have HF := Lib.hid hf
  obtain ⟨hF0, hF1⟩ := hF
  clear hf
  by_cases h : cap < x
  · obtain ⟨e1, e2⟩ := kWait_no (f := F) (Or.inl h)
    have HR := Lib.hid (And.intro e1 e2)
    clear e1 e2
    go_enter Try.func33, Try.ntmps33
    go_wp2_with (go_at_call 37; (with_reducible refine (kernel_Fill k a b now cap _ ha0 ha1 hb0 hb1 hn0 hn1 hc0 hc1).mono ?_); rw [HF.out]; rintro e w1 ⟨rfl, hx⟩)
    go_ret2
    exact ⟨ret_2 (val_int HR.out.2.symm) (val_bool HR.out.1.symm), (by repeat (first | with_reducible exact Ext.refl _ | with_reducible assumption | with_reducible refine Ext.alloc ?_ _ | with_reducible refine Ext.drew ?_ | (with_reducible refine Ext.setCell ?_ (by first | exact Nat.le_refl _ | (dsimp only; omega) | (simp; done) | (simp; omega)) _) | with_reducible refine Ext.trans ?_ (by with_reducible assumption)))⟩
  · have h' : x ≤ cap := by omega
    cases hf : fitsB F x cap
    · have hlt : cap < F + x := by simpa [fitsB] using hf
      obtain ⟨e1, e2⟩ := kWait_yes (f := F) h' hlt
      have HR := Lib.hid (And.intro e1 e2)
      have HK := Lib.hid hf
      clear e1 e2 hf
      have hs1 : 0 ≤ cap - x := by omega
      have hs2 : cap - x < 18446744073709551616 := by omega
      have hs3 : 0 ≤ F - (cap - x) := by omega
      have hs4 : F - (cap - x) < 18446744073709551616 := by omega
      go_enter Try.func33, Try.ntmps33
      go_wp2_with (first
        | (go_at_call 37; (with_reducible refine (kernel_Fill k a b now cap _ ha0 ha1 hb0 hb1 hn0 hn1 hc0 hc1).mono ?_); rw [HF.out]; rintro e w1 ⟨rfl, hx⟩)
        | (go_at_call 55; (with_reducible refine (num_Fits F x cap _ hF0 hF1 hx0 hx1 hc0 hc1).mono ?_); rw [HK.out]; rintro e w' ⟨rfl, rfl⟩))
      go_ret2
      exact ⟨ret_2 (val_int HR.out.2.symm) (val_bool HR.out.1.symm), (by repeat (first | with_reducible exact Ext.refl _ | with_reducible assumption | with_reducible refine Ext.alloc ?_ _ | with_reducible refine Ext.drew ?_ | (with_reducible refine Ext.setCell ?_ (by first | exact Nat.le_refl _ | (dsimp only; omega) | (simp; done) | (simp; omega)) _) | with_reducible refine Ext.trans ?_ (by with_reducible assumption)))⟩
    · have hle : F + x ≤ cap := by simpa [fitsB] using hf
      obtain ⟨e1, e2⟩ := kWait_no (f := F) (Or.inr hle)
      have HR := Lib.hid (And.intro e1 e2)
      have HK := Lib.hid hf
      clear e1 e2 hf
      go_enter Try.func33, Try.ntmps33
      go_wp2_with (first
        | (go_at_call 37; (with_reducible refine (kernel_Fill k a b now cap _ ha0 ha1 hb0 hb1 hn0 hn1 hc0 hc1).mono ?_); rw [HF.out]; rintro e w1 ⟨rfl, hx⟩)
        | (go_at_call 55; (with_reducible refine (num_Fits F x cap _ hF0 hF1 hx0 hx1 hc0 hc1).mono ?_); rw [HK.out]; rintro e w' ⟨rfl, rfl⟩))
      go_ret2
      exact ⟨ret_2 (val_int HR.out.2.symm) (val_bool HR.out.1.symm), (by repeat (first | with_reducible exact Ext.refl _ | with_reducible assumption | with_reducible refine Ext.alloc ?_ _ | with_reducible refine Ext.drew ?_ | (with_reducible refine Ext.setCell ?_ (by first | exact Nat.le_refl _ | (dsimp only; omega) | (simp; done) | (simp; omega)) _) | with_reducible refine Ext.trans ?_ (by with_reducible assumption)))⟩

set_option maxHeartbeats 1000000 in
set_option maxRecDepth 100000 in
theorem kernel_Left (k a b now cap x : Int) (w : World) (ha0 : 0 ≤ a) (ha1 : a < 18446744073709551616) (hb0 : 0 ≤ b) (hb1 : b < 18446744073709551616) (hn0 : 0 ≤ now) (hn1 : now < 18446744073709551616) (hc0 : 0 ≤ cap) (hc1 : cap < 18446744073709551616) (hx0 : 0 ≤ x) (hx1 : x < 18446744073709551616) :
    Calls Try.prog 36 #[.agg #[.int .u8 k, .int .u64 a, .int .u64 b], .int .u64 now, .int .u64 cap, .int .u64 x] w fun e w' => e = .returned (.int .u64 (divS (satSub cap (kFill k a b now cap)) x)) ∧ Ext w w' := by
  have hF := kFill_u k a b now cap ha0 ha1 hb0 hn0 hn1 hc0 hc1
  generalize hf : kFill k a b now cap = F at *
  have HF := Lib.hid hf
  obtain ⟨hF0, hF1⟩ := hF
  clear hf
  have hs := satSub_u cap F hc0 hc1 hF0
  generalize hs' : satSub cap F = s at *
  have HS := Lib.hid hs'
  obtain ⟨hs0, hs1⟩ := hs
  clear hs'
  go_enter Try.func36, Try.ntmps36
  go_wp2_with (first
    | (go_at_call 37; (with_reducible refine (kernel_Fill k a b now cap _ ha0 ha1 hb0 hb1 hn0 hn1 hc0 hc1).mono ?_); rw [HF.out]; rintro e w1 ⟨rfl, hx⟩)
    | (go_at_call 59; (with_reducible refine (num_Sub cap F _ hc0 hc1 hF0 hF1).mono ?_); rw [HS.out]; rintro e w' ⟨rfl, rfl⟩)
    | (go_at_call 58; (with_reducible refine (num_Div s x _ hs0 (by omega) hx0 hx1).mono ?_); rintro e w' ⟨rfl, rfl⟩))
  go_ret
  exact ⟨rfl, (by repeat (first | with_reducible exact Ext.refl _ | with_reducible assumption | with_reducible refine Ext.alloc ?_ _ | with_reducible refine Ext.drew ?_ | (with_reducible refine Ext.setCell ?_ (by first | exact Nat.le_refl _ | (dsimp only; omega) | (simp; done) | (simp; omega)) _) | with_reducible refine Ext.trans ?_ (by with_reducible assumption)))⟩

def kUntil (f now : Int) : Int := if 0 < f then satAdd now f else 0
set_option maxHeartbeats 1000000 in
set_option maxRecDepth 100000 in
theorem kernel_Until (k a b now cap : Int) (w : World) (ha0 : 0 ≤ a) (ha1 : a < 18446744073709551616) (hb0 : 0 ≤ b) (hb1 : b < 18446744073709551616) (hn0 : 0 ≤ now) (hn1 : now < 18446744073709551616) (hc0 : 0 ≤ cap) (hc1 : cap < 18446744073709551616) :
    Calls Try.prog 46 #[.agg #[.int .u8 k, .int .u64 a, .int .u64 b], .int .u64 now, .int .u64 cap] w fun e w' => e = .returned (.int .u64 (kUntil (kFill k a b now cap) now)) ∧ Ext w w' := by
  have hF := kFill_u k a b now cap ha0 ha1 hb0 hn0 hn1 hc0 hc1
  generalize hf : kFill k a b now cap = F at *
  have HF := Lib.hid hf
  obtain ⟨hF0, hF1⟩ := hF
  clear hf
  by_cases h : 0 < F
  · have HR := Lib.hid (show kUntil F now = satAdd now F from if_pos h)
    go_enter Try.func46, Try.ntmps46
    go_wp2_with (first
      | (go_at_call 37; (with_reducible refine (kernel_Fill k a b now cap _ ha0 ha1 hb0 hb1 hn0 hn1 hc0 hc1).mono ?_); rw [HF.out]; rintro e w1 ⟨rfl, hx⟩)
      | (go_at_call 65; (with_reducible refine (num_Add _ now F _ hn0 hn1 hF0 hF1 ?_ ?_).mono ?_); exact Eq.trans (Blk.cell (Blk.new' _ _ _ rfl) 0) rfl; exact Eq.trans (Blk.cell (Blk.new' _ _ _ rfl) 1) rfl; rintro e w' ⟨rfl, rfl⟩))
    go_ret
    exact ⟨ret_int HR.out.symm, (by repeat (first | with_reducible exact Ext.refl _ | with_reducible assumption | with_reducible refine Ext.alloc ?_ _ | with_reducible refine Ext.drew ?_ | (with_reducible refine Ext.setCell ?_ (by first | exact Nat.le_refl _ | (dsimp only; omega) | (simp; done) | (simp; omega)) _) | with_reducible refine Ext.trans ?_ (by with_reducible assumption)))⟩
  · have HR := Lib.hid (show kUntil F now = 0 from if_neg h)
    go_enter Try.func46, Try.ntmps46
    go_wp2_with (go_at_call 37; (with_reducible refine (kernel_Fill k a b now cap _ ha0 ha1 hb0 hb1 hn0 hn1 hc0 hc1).mono ?_); rw [HF.out]; rintro e w1 ⟨rfl, hx⟩)
    go_ret
    exact ⟨ret_int HR.out.symm, (by repeat (first | with_reducible exact Ext.refl _ | with_reducible assumption | with_reducible refine Ext.alloc ?_ _ | with_reducible refine Ext.drew ?_ | (with_reducible refine Ext.setCell ?_ (by first | exact Nat.le_refl _ | (dsimp only; omega) | (simp; done) | (simp; omega)) _) | with_reducible refine Ext.trans ?_ (by with_reducible assumption)))⟩
end Go.Proofs.Ytnlmbmbalmkiiaa

/- Slots, and maps of slots: what the operations do to a block that is such a map. No program in sight. -/
namespace Go.Proofs.Ytnlmbmbalmkiiaa
open Go.RowKit
set_option linter.unusedVariables false
set_option linter.unusedSimpArgs false

theorem Blk.drewN {w : World} {b : Nat} {C : Array Value} {t : TypeId} (h : Blk w b C t) (n : Nat) : Blk (w.drewN n) b C t := h
theorem Ext.drewNs (w : World) (n : Nat) : Ext w (w.drewN n) := ⟨rfl, rfl, rfl, Nat.le_refl _, fun _ _ => rfl⟩

structure Slot where
  key : ByteArray
  p : ByteArray
  e : Int
  b : Int
  rk : Int
  sk : Int
  sa : Int
  sb : Int

def Slot.cells (s : Slot) : Array Value := #[.string s.key, .string s.p, .int .u64 s.e, .int .u64 s.b, .int .u8 s.rk, .int .u8 s.sk, .int .u64 s.sa, .int .u64 s.sb]
def Slot.val (s : Slot) : Value := .agg s.cells
def slot0 : Slot := ⟨⟨#[]⟩, ⟨#[]⟩, 0, 0, 0, 0, 0, 0⟩

/-- a slot that the program may have -/
structure SlotOk (s : Slot) : Prop where
  key : s.key.size ≤ maxLen
  p : s.p.size ≤ maxLen
  e0 : 0 ≤ s.e
  e1 : s.e < 18446744073709551616
  b0 : 0 ≤ s.b
  b1 : s.b < 18446744073709551616
  rk0 : 0 ≤ s.rk
  rk1 : s.rk < 256
  sk0 : 0 ≤ s.sk
  sk1 : s.sk < 256
  sa0 : 0 ≤ s.sa
  sa1 : s.sa < 18446744073709551616
  sb0 : 0 ≤ s.sb
  sb1 : s.sb < 18446744073709551616

/-- the slots of a map, and when each was born -/
abbrev SMap := List (Slot × Nat)
def ent (x : Slot × Nat) : MapEntry := ⟨.string x.1.key, x.1.val, x.2⟩
def ents (l : SMap) : Array MapEntry := (l.map ent).toArray
def SMap.keys (l : SMap) : List ByteArray := l.map (·.1.key)
def SMap.look (l : SMap) (k : ByteArray) : Option Slot := (l.find? fun x => decide (x.1.key = k)).map (·.1)
def SMap.del (l : SMap) (k : ByteArray) : SMap := l.filter fun x => decide (x.1.key ≠ k)
def SMap.rep (l : SMap) (s : Slot) : SMap := l.map fun x => if x.1.key = s.key then (s, x.2) else x
def SMap.put (l : SMap) (s : Slot) (c : Nat) : SMap := if (l.look s.key).isSome then l.rep s else l ++ [(s, c)]
def SMap.putC (l : SMap) (s : Slot) (c : Nat) : Nat := if (l.look s.key).isSome then c else c + 1

theorem look_nil (k : ByteArray) : SMap.look [] k = none := rfl
theorem look_cons (x : Slot × Nat) (l : SMap) (k : ByteArray) : SMap.look (x :: l) k = if x.1.key = k then some x.1 else SMap.look l k := by
  unfold SMap.look
  rw [List.find?_cons]
  by_cases h : x.1.key = k <;> simp [h]
theorem look_key {l : SMap} {k : ByteArray} {s : Slot} (h : l.look k = some s) : s.key = k := by
  induction l with
  | nil => cases h
  | cons x l ih =>
    rw [look_cons] at h
    by_cases hk : x.1.key = k
    · rw [if_pos hk] at h; cases h; exact hk
    · rw [if_neg hk] at h; exact ih h
theorem look_none {l : SMap} {k : ByteArray} : l.look k = none ↔ ∀ x ∈ l, x.1.key ≠ k := by
  induction l with
  | nil => simp [look_nil]
  | cons x l ih =>
    rw [look_cons]
    by_cases hk : x.1.key = k
    · rw [if_pos hk]; simp [hk]
    · rw [if_neg hk, ih]; simp [hk]
theorem look_mem {l : SMap} {k : ByteArray} {s : Slot} (h : l.look k = some s) : ∃ n, (s, n) ∈ l := by
  induction l with
  | nil => cases h
  | cons x l ih =>
    rw [look_cons] at h
    by_cases hk : x.1.key = k
    · rw [if_pos hk] at h; cases h; exact ⟨x.2, List.mem_cons_self⟩
    · rw [if_neg hk] at h
      obtain ⟨n, hn⟩ := ih h
      exact ⟨n, List.mem_cons_of_mem _ hn⟩

theorem str_beq (a b : ByteArray) : (a == b) = decide (a = b) := by
  by_cases h : a = b
  · subst h; rw [decide_eq_true rfl]; exact (MapKept.bytes_beq a a).2 rfl
  · rw [decide_eq_false h]
    cases hb : a == b
    · rfl
    · exact absurd ((MapKept.bytes_beq a b).1 hb) h

theorem find_none {l : SMap} {k : ByteArray} (h : l.look k = none) (i : Nat) : Instr.findNow .string (.string k) (l.map ent) i = some none := by
  induction l generalizing i with
  | nil => rfl
  | cons x l ih =>
    rw [look_cons] at h
    by_cases hk : x.1.key = k
    · rw [if_pos hk] at h; cases h
    · rw [if_neg hk] at h
      have e : (k == x.1.key) = false := by rw [str_beq]; exact decide_eq_false (fun q => hk q.symm)
      simp [Instr.findNow, ent, Instr.sameNow, e]
      exact ih h (i + 1)
theorem find_some {l : SMap} {k : ByteArray} {s : Slot} (h : l.look k = some s) (i : Nat) : ∃ j n, l[j]? = some (s, n) ∧ Instr.findNow .string (.string k) (l.map ent) i = some (some (i + j, s.val)) := by
  induction l generalizing i with
  | nil => cases h
  | cons x l ih =>
    rw [look_cons] at h
    by_cases hk : x.1.key = k
    · rw [if_pos hk] at h
      cases h
      have e : (k == x.1.key) = true := by rw [str_beq]; exact decide_eq_true hk.symm
      exact ⟨0, x.2, rfl, by simp [Instr.findNow, ent, Instr.sameNow, e]⟩
    · rw [if_neg hk] at h
      obtain ⟨j, n, h1, h2⟩ := ih h (i + 1)
      have e : (k == x.1.key) = false := by rw [str_beq]; exact decide_eq_false (fun q => hk q.symm)
      exact ⟨j + 1, n, by simpa using h1, by simp [Instr.findNow, ent, Instr.sameNow, e]; rw [h2]; simp; omega⟩

theorem del_none {l : SMap} {k : ByteArray} (h : ∀ x ∈ l, x.1.key ≠ k) : l.del k = l := by
  unfold SMap.del
  rw [List.filter_eq_self]
  intro x hx
  simpa using h x hx
theorem erase_ents {l : SMap} {j n : Nat} {s : Slot} (hk : l.keys.Nodup) (h : l[j]? = some (s, n)) : (ents l).eraseIdxIfInBounds j = ents (l.del s.key) := by
  have key : ∀ (l : SMap) (j : Nat), l.keys.Nodup → l[j]? = some (s, n) → l.eraseIdx j = l.del s.key := by
    intro l
    induction l with
    | nil => intro j _ h; simp at h
    | cons x l ih =>
      intro j hk h
      have hk2 : x.1.key ∉ SMap.keys l ∧ (SMap.keys l).Nodup := by simpa [SMap.keys] using hk
      cases j with
      | zero =>
        have hx : x = (s, n) := by simpa using h
        subst hx
        have : ∀ x ∈ l, x.1.key ≠ s.key := fun x hx q => hk2.1 (by rw [← q]; exact List.mem_map_of_mem hx)
        have e : SMap.del ((s, n) :: l) s.key = l := by
          rw [show SMap.del ((s, n) :: l) s.key = SMap.del l s.key by simp [SMap.del], del_none this]
        rw [e]
        rfl
      | succ j =>
        have hj : l[j]? = some (s, n) := by simpa using h
        have hne : x.1.key ≠ s.key := fun q => hk2.1 (by rw [q]; exact List.mem_map_of_mem (f := fun x : Slot × Nat => x.1.key) (List.mem_of_getElem? hj))
        have e := ih j hk2.2 hj
        rw [show SMap.del (x :: l) s.key = x :: SMap.del l s.key by simp [SMap.del, hne], ← e]
        rfl
  have hj : j < l.length := by
    rcases Nat.lt_or_ge j l.length with q | q
    · exact q
    · rw [List.getElem?_eq_none q] at h; cases h
  rw [← key l j hk h]
  unfold ents Array.eraseIdxIfInBounds
  rw [dif_pos (by simpa using hj)]
  apply Array.ext'
  simp
  have em : ∀ (l : SMap) (j : Nat), (l.map ent).eraseIdx j = (l.eraseIdx j).map ent := by
    intro l
    induction l with
    | nil => intro j; rfl
    | cons x l ih => intro j; cases j with
      | zero => rfl
      | succ j => simp [ih]
  exact em l j
theorem modify_ents {l : SMap} {j n : Nat} {s s' : Slot} (hk : l.keys.Nodup) (h : l[j]? = some (s, n)) (hs : s.key = s'.key) :
    (ents l).modify j (fun e => { e with key := .string s'.key, val := s'.val }) = ents (l.rep s') := by
  have key : ∀ (l : SMap) (j : Nat), l.keys.Nodup → l[j]? = some (s, n) → (l.map ent).modify j (fun e => { e with key := .string s'.key, val := s'.val }) = (l.rep s').map ent := by
    intro l
    induction l with
    | nil => intro j _ h; simp at h
    | cons x l ih =>
      intro j hk h
      have hk2 : x.1.key ∉ SMap.keys l ∧ (SMap.keys l).Nodup := by simpa [SMap.keys] using hk
      cases j with
      | zero =>
        have hx : x = (s, n) := by simpa using h
        subst hx
        have h3 : ∀ x ∈ l, x.1.key ≠ s'.key := fun x hx q => hk2.1 (by show s.key ∈ _; rw [hs, ← q]; exact List.mem_map_of_mem hx)
        have e : SMap.rep l s' = l := by
          unfold SMap.rep
          conv => rhs; rw [← List.map_id l]
          apply List.map_congr_left
          intro x hx
          rw [if_neg (h3 x hx)]; rfl
        have e2 : SMap.rep ((s, n) :: l) s' = (s', n) :: SMap.rep l s' := by simp [SMap.rep, hs]
        rw [e2, e]
        simp [ent]
      | succ j =>
        have hj : l[j]? = some (s, n) := by simpa using h
        have hne : x.1.key ≠ s'.key := fun q => hk2.1 (by rw [q, ← hs]; exact List.mem_map_of_mem (f := fun x : Slot × Nat => x.1.key) (List.mem_of_getElem? hj))
        have e2 : SMap.rep (x :: l) s' = x :: SMap.rep l s' := by simp [SMap.rep, hne]
        rw [e2]
        simp [ih j hk2.2 hj]
  unfold ents
  apply Array.ext'
  rw [← key l j hk h]
  simp
theorem push_ents (l : SMap) (s : Slot) (c : Nat) : (ents l).push ⟨.string s.key, s.val, c⟩ = ents (l ++ [(s, c)]) := by simp [ents, ent]

/-- block b is a map of these slots -/
def MapIs (w : World) (b : Nat) (l : SMap) (c : Nat) : Prop := w.heap[b]? = some (.map (ents l) c)
theorem MapIs.lt {w : World} {b c : Nat} {l : SMap} (h : MapIs w b l c) : b < w.heap.size := lt_of_block h
theorem MapIs.ext {w w' : World} {b c : Nat} {l : SMap} (h : MapIs w b l c) (e : Ext w w') : MapIs w' b l c := (e.block h.lt).trans h
theorem MapIs.extB {w w' : World} {b c g : Nat} {l : SMap} (h : MapIs w b l c) (e : ExtB g w w') (ne : b ≠ g) : MapIs w' b l c := (e.block b h.lt ne).trans h
theorem MapIs.other {w : World} {b c : Nat} {l : SMap} (h : MapIs w b l c) {a : Addr} (ne : b ≠ a.block) (v : Value) : MapIs (w.setCell a v) b l c := (Below.heap_setCell _ _ _ _ ne).trans h
theorem MapIs.ne {w : World} {b c g : Nat} {l : SMap} {C : Array Value} {t : TypeId} (h : MapIs w b l c) (k : Blk w g C t) : b ≠ g := fun e => by
  subst e
  have := (show w.heap[b]? = some (.map (ents l) c) from h).symm.trans (show w.heap[b]? = some (.cells C t) from k)
  cases this

section
variable {P : Program} {t k e : TypeId}
theorem run_sdel (ht : P.underlying t = some (.map k e)) (hk : P.underlying k = some .string) {w : World} {b c : Nat} {l : SMap} (h : MapIs w b l c) (hd : l.keys.Nodup) (key : ByteArray) :
    ∃ w', (∀ ty, (Builtin.delete_ #[t, k] ty #[.map (some b), .string key]).run P w = .ok (.tuple #[]) w') ∧ MapIs w' b (l.del key) c ∧ ExtB b w w' := by
  have hb : w.heap[b]? = some (.map (ents l) c) := h
  have hkey : MapKept.IsKey .string (.string key) := trivial
  cases hl : l.look key with
  | none =>
    have hf : Instr.findNow .string (.string key) (ents l).toList 0 = some none := by simpa [ents] using find_none hl 0
    refine ⟨{ w with heap := w.heap.setIfInBounds b (.map (ents l) c) }, ?_, ?_, ⟨rfl, rfl, rfl, by simp, fun j _ hj => (MapKept.heap_set hb).2 j hj⟩⟩
    · intro ty
      simp [Builtin.delete_, run_underlying ht, MapKept.run_getObj_map hb, MapKept.run_checkKey hk hkey, MapKept.run_findKey hk hf, MapKept.run_setObj_map _ hb, Result.andThen]
    · rw [del_none (look_none.1 hl)]
      exact (MapKept.heap_set hb).1
  | some s =>
    obtain ⟨j, n, hj, hf⟩ := find_some hl 0
    have hf' : Instr.findNow .string (.string key) (ents l).toList 0 = some (some (j, s.val)) := by simpa [ents] using hf
    refine ⟨{ w with heap := w.heap.setIfInBounds b (.map ((ents l).eraseIdxIfInBounds j) c) }, ?_, ?_, ⟨rfl, rfl, rfl, by simp, fun j _ hj => (MapKept.heap_set hb).2 j hj⟩⟩
    · intro ty
      simp [Builtin.delete_, run_underlying ht, MapKept.run_getObj_map hb, MapKept.run_checkKey hk hkey, MapKept.run_findKey hk hf', MapKept.run_setObj_map _ hb, Result.andThen]
    · have := (MapKept.heap_set (o' := .map ((ents l).eraseIdxIfInBounds j) c) hb).1
      rw [erase_ents hd hj, look_key hl] at this
      unfold MapIs
      rw [erase_ents hd hj, look_key hl]
      exact this
theorem run_sput (ht : P.underlying t = some (.map k e)) (hk : P.underlying k = some .string) {w : World} {b c : Nat} {l : SMap} (h : MapIs w b l c) (hd : l.keys.Nodup) (s : Slot) :
    ∃ w', (Instr.mapUpdate t (.map (some b)) (.string s.key) s.val).run P w = .ok () w' ∧ MapIs w' b (l.put s c) (l.putC s c) ∧ ExtB b w w' := by
  have hb : w.heap[b]? = some (.map (ents l) c) := h
  have hkey : MapKept.IsKey .string (.string s.key) := trivial
  cases hl : l.look s.key with
  | none =>
    have hf : Instr.findNow .string (.string s.key) (ents l).toList 0 = some none := by simpa [ents] using find_none hl 0
    refine ⟨{ w with heap := w.heap.setIfInBounds b (.map ((ents l).push ⟨.string s.key, s.val, c⟩) (c + 1)) }, ?_, ?_, ⟨rfl, rfl, rfl, by simp, fun j _ hj => (MapKept.heap_set hb).2 j hj⟩⟩
    · simp [Instr.mapUpdate, run_underlying ht, MapKept.run_getObj_map hb, MapKept.run_checkKey hk hkey, MapKept.run_findKey hk hf, MapKept.run_setObj_map _ hb, Result.andThen]
    · have := (MapKept.heap_set (o' := .map ((ents l).push ⟨.string s.key, s.val, c⟩) (c + 1)) hb).1
      unfold MapIs
      rw [show l.put s c = l ++ [(s, c)] by simp [SMap.put, hl], show l.putC s c = c + 1 by simp [SMap.putC, hl], ← push_ents]
      exact this
  | some s0 =>
    obtain ⟨j, n, hj, hf⟩ := find_some hl 0
    have hf' : Instr.findNow .string (.string s.key) (ents l).toList 0 = some (some (j, s0.val)) := by simpa [ents] using hf
    have hsame : (((ents l)[j]?).map (·.key)).getD (.string s.key) = .string s.key := by
      simp [ents, hj, ent, look_key hl]
    refine ⟨{ w with heap := w.heap.setIfInBounds b (.map ((ents l).modify j fun e => { e with key := .string s.key, val := s.val }) c) }, ?_, ?_, ⟨rfl, rfl, rfl, by simp, fun j _ hj => (MapKept.heap_set hb).2 j hj⟩⟩
    · simp [Instr.mapUpdate, run_underlying ht, MapKept.run_getObj_map hb, MapKept.run_checkKey hk hkey, MapKept.run_findKey hk hf', hsame, MapKept.run_keyThatStays (d := .string) hkey, MapKept.run_setObj_map _ hb, Result.andThen]
    · have := (MapKept.heap_set (o' := .map ((ents l).modify j fun e => { e with key := .string s.key, val := s.val }) c) hb).1
      unfold MapIs
      rw [show l.put s c = l.rep s by simp [SMap.put, hl], show l.putC s c = c by simp [SMap.putC, hl], ← modify_ents hd hj (look_key hl)]
      exact this
theorem run_slook_yes (ht : P.underlying t = some (.map k e)) (hk : P.underlying k = some .string) {w : World} {b c : Nat} {l : SMap} (h : MapIs w b l c) {key : ByteArray} {s : Slot} (hl : l.look key = some s) :
    (Instr.lookup t (.map (some b)) (.string key) true).run P w = .ok (.tuple #[s.val, .bool true]) w := by
  obtain ⟨j, n, hj, hf⟩ := find_some hl 0
  exact (run_lookup_yes ht hk (key := .string key) trivial h (by simpa [ents] using hf)).1
theorem run_slook_no (ht : P.underlying t = some (.map k e)) (hk : P.underlying k = some .string) {w : World} {b c : Nat} {l : SMap} (h : MapIs w b l c) {key : ByteArray} (hl : l.look key = none) (hz : (zeroValue e).run P w = .ok slot0.val w) :
    (Instr.lookup t (.map (some b)) (.string key) true).run P w = .ok (.tuple #[slot0.val, .bool false]) w :=
  (run_lookup_no ht hk (key := .string key) trivial h hz (by simpa [ents] using find_none hl 0)).1
end
end Go.Proofs.Ytnlmbmbalmkiiaa
