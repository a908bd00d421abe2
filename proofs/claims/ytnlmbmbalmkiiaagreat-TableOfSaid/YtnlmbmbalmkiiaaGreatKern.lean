/- Walks: kernel.all, kernel.Right. -/
import Derived.Test.YtnlmbmbalmkiiaaGreatProg
import Derived.Test.YtnlmbmbalmkiiaaGreatMaps
namespace Go.Proofs.YtnlmbmbalmkiiaaGreat
open Go.RowKit
set_option linter.unusedVariables false
set_option linter.unusedSimpArgs false

def kern (a b c : Nat) : Value := .agg #[.func (.func a) #[] #[], .func (.func b) #[] #[], .func (.func c) #[] #[]]
def kernels : Array MapEntry := #[⟨.int .u8 1, kern 108 109 110, 0⟩, ⟨.int .u8 2, kern 111 112 113, 1⟩, ⟨.int .u8 3, kern 114 115 116, 2⟩]
def KernMap (w w' : World) (e : Ending) : Prop := e = .returned (.map (some w.heap.size)) ∧ w' = w.alloc (.map kernels 3)

set_option maxRecDepth 100000 in
theorem kernel_all (w : World) : Calls Tryz.prog 74 #[] w fun e w' => KernMap w w' e := by
  have hmm := @run_makeMap Tryz.prog
  have u1 := run_update_new (P := Tryz.prog) Tryz.underlying131 Tryz.underlying5 (key := .int .u8 1) rfl (es := #[]) (c := 0) rfl w
  have u2 := run_update_new (P := Tryz.prog) Tryz.underlying131 Tryz.underlying5 (key := .int .u8 2) rfl (es := #[⟨.int .u8 1, kern 108 109 110, 0⟩]) (c := 1) rfl w
  have u3 := run_update_new (P := Tryz.prog) Tryz.underlying131 Tryz.underlying5 (key := .int .u8 3) rfl (es := #[⟨.int .u8 1, kern 108 109 110, 0⟩, ⟨.int .u8 2, kern 111 112 113, 1⟩]) (c := 2) rfl w
  simp only [kern, List.push_toArray, List.cons_append, List.nil_append, Nat.reduceAdd] at u1 u2 u3
  go_enter Tryz.func74, Tryz.ntmps74
  go_wp2
  go_ret
  exact ⟨rfl, rfl⟩

def rightKind (k : Int) : Bool := decide (1 ≤ k) && decide (k ≤ 3)
theorem kern_hit (k : Int) (h : 1 ≤ k) (h' : k ≤ 3) : ∃ i a b c, Instr.findNow (.int .u8) (.int .u8 k) kernels.toList 0 = some (some (i, kern a b c)) := by
  rcases (by omega : k = 1 ∨ k = 2 ∨ k = 3) with rfl | rfl | rfl
  · exact ⟨_, _, _, _, rfl⟩
  · exact ⟨_, _, _, _, rfl⟩
  · exact ⟨_, _, _, _, rfl⟩
theorem kern_miss (k : Int) (h : ¬ (1 ≤ k ∧ k ≤ 3)) : Instr.findNow (.int .u8) (.int .u8 k) kernels.toList 0 = some none := by
  have h1 : (k == 1) = false := by simp; omega
  have h2 : (k == 2) = false := by simp; omega
  have h3 : (k == 3) = false := by simp; omega
  simp [kernels, Instr.findNow, Instr.sameNow, h1, h2, h3]

theorem kern_zero (w : World) : (zeroValue 129).run Tryz.prog w = .ok (.agg #[.nilFunc, .nilFunc, .nilFunc]) w := by kernel_rfl

set_option maxHeartbeats 400000 in
set_option maxRecDepth 100000 in
theorem kernel_Right (k : Int) (w : World) :
    Calls Tryz.prog 81 #[.int .u8 k] w fun e w' => e = .returned (.bool (rightKind k)) ∧ Ext w w' := by
  have hat := map_new_at w (.map kernels 3)
  by_cases h : 1 ≤ k ∧ k ≤ 3
  · obtain ⟨i, a, b, c, hf⟩ := kern_hit k h.1 h.2
    have L := (run_lookup_yes (P := Tryz.prog) Tryz.underlying131 Tryz.underlying5 (key := .int .u8 k) rfl hat hf).1
    have H := Lib.hid (show rightKind k = true by simp [rightKind, h])
    clear hf hat
    simp only [kern] at L
    go_enter Tryz.func81, Tryz.ntmps81
    go_wp2_with (go_at_call 74; refine (kernel_all _).mono ?_; rintro e w' ⟨rfl, rfl⟩)
    go_ret
    exact ⟨ret_bool H.out.symm, (by repeat (first | with_reducible exact Ext.refl _ | with_reducible assumption | with_reducible refine Ext.alloc ?_ _ | with_reducible refine Ext.drew ?_ | (with_reducible refine Ext.setCell ?_ (by first | exact Nat.le_refl _ | (dsimp only; omega) | (simp; done) | (simp; omega)) _) | with_reducible refine Ext.setCell ?_ (by simp; try omega) _ | with_reducible refine Ext.trans ?_ (by with_reducible assumption)))⟩
  · have L := (run_lookup_no (P := Tryz.prog) Tryz.underlying131 Tryz.underlying5 (key := .int .u8 k) rfl hat (kern_zero _) (kern_miss k h)).1
    have H := Lib.hid (show rightKind k = false by simp [rightKind]; omega)
    clear hat
    go_enter Tryz.func81, Tryz.ntmps81
    go_wp2_with (go_at_call 74; refine (kernel_all _).mono ?_; rintro e w' ⟨rfl, rfl⟩)
    go_ret
    exact ⟨ret_bool H.out.symm, (by repeat (first | with_reducible exact Ext.refl _ | with_reducible assumption | with_reducible refine Ext.alloc ?_ _ | with_reducible refine Ext.drew ?_ | (with_reducible refine Ext.setCell ?_ (by first | exact Nat.le_refl _ | (dsimp only; omega) | (simp; done) | (simp; omega)) _) | with_reducible refine Ext.setCell ?_ (by simp; try omega) _ | with_reducible refine Ext.trans ?_ (by with_reducible assumption)))⟩
end Go.Proofs.YtnlmbmbalmkiiaaGreat
