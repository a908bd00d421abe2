/- Walks: package rule. -/
import Derived.Test.YtnlmbmbalmkiiaaGreatProg
import Derived.Test.YtnlmbmbalmkiiaaGreatNum
import Derived.Test.YtnlmbmbalmkiiaaGreatKey
import Derived.Test.YtnlmbmbalmkiiaaGreatKern
namespace Go.Proofs.YtnlmbmbalmkiiaaGreat
open Go.RowKit
set_option linter.unusedVariables false
set_option linter.unusedSimpArgs false

/-- may it stand ahead of keys? -/
def prefOk (p : ByteArray) : Bool := decide (p.size = 0) || keyOk p
def capOk (e b : Int) : Bool := decide (satMul e b ≤ 4611686018427387904)

theorem toList_nil_iff (s : ByteArray) : (s.toList = []) ↔ s.size = 0 := by
  rw [ByteArray.toList_eq, ← List.length_eq_zero_iff, data_len]
theorem isEmpty_iff (s : ByteArray) : s.toList.isEmpty = decide (s.size = 0) := by
  rw [Bool.eq_iff_iff, List.isEmpty_iff, toList_nil_iff]; simp

set_option maxHeartbeats 400000 in
theorem rule_ask1 (p : ByteArray) (e b k : Int) (w : World) (hm : p.size ≤ maxLen) :
    Calls Tryz.prog 103 #[.agg #[.string p, .int .u64 e, .int .u64 b, .int .u8 k]] w fun e w' => e = .returned (.bool (prefOk p)) ∧ Ext w w' := by
  by_cases h : p.size = 0
  · have H := Lib.hid (show prefOk p = true by simp [prefOk, h])
    have h1 : p.toList.isEmpty = true := by rw [isEmpty_iff]; simpa using h
    have h2 : p.toList = [] := (toList_nil_iff p).2 h
    clear h
    go_enter Tryz.func103, Tryz.ntmps103
    go_wp2
    go_ret
    exact ⟨ret_bool H.out.symm, (by repeat (first | with_reducible exact Ext.refl _ | with_reducible assumption | with_reducible refine Ext.alloc ?_ _ | with_reducible refine Ext.drew ?_ | (with_reducible refine Ext.setCell ?_ (by first | exact Nat.le_refl _ | (dsimp only; omega) | (simp; done) | (simp; omega)) _) | with_reducible refine Ext.trans ?_ (by with_reducible assumption)))⟩
  · have H := Lib.hid (show prefOk p = keyOk p by simp [prefOk, h])
    have h1 : p.toList.isEmpty = false := by rw [isEmpty_iff]; simpa using h
    have h2 : ¬ p.toList = [] := fun e => h ((toList_nil_iff p).1 e)
    clear h
    go_enter Tryz.func103, Tryz.ntmps103
    go_wp2_with (go_at_call 27; refine (key_Right _ _ hm).mono ?_; rintro e w' ⟨rfl, hb⟩)
    go_ret
    exact ⟨ret_bool H.out.symm, (by repeat (first | with_reducible exact Ext.refl _ | with_reducible assumption | with_reducible refine Ext.alloc ?_ _ | with_reducible refine Ext.drew ?_ | (with_reducible refine Ext.setCell ?_ (by first | exact Nat.le_refl _ | (dsimp only; omega) | (simp; done) | (simp; omega)) _) | with_reducible refine Ext.trans ?_ (by with_reducible assumption)))⟩

theorem rule_ask2 (p : ByteArray) (e b k : Int) (w : World) :
    Calls Tryz.prog 104 #[.agg #[.string p, .int .u64 e, .int .u64 b, .int .u8 k]] w fun x w' => x = .returned (.bool (decide (0 < e))) ∧ Ext w w' := by
  go_enter Tryz.func104, Tryz.ntmps104
  go_wp2
  go_ret
  exact ⟨rfl, (by repeat (first | with_reducible exact Ext.refl _ | with_reducible assumption | with_reducible refine Ext.alloc ?_ _ | with_reducible refine Ext.drew ?_ | (with_reducible refine Ext.setCell ?_ (by first | exact Nat.le_refl _ | (dsimp only; omega) | (simp; done) | (simp; omega)) _) | with_reducible refine Ext.trans ?_ (by with_reducible assumption)))⟩

theorem rule_ask3 (p : ByteArray) (e b k : Int) (w : World) :
    Calls Tryz.prog 105 #[.agg #[.string p, .int .u64 e, .int .u64 b, .int .u8 k]] w fun x w' => x = .returned (.bool (decide (0 < b))) ∧ Ext w w' := by
  go_enter Tryz.func105, Tryz.ntmps105
  go_wp2
  go_ret
  exact ⟨rfl, (by repeat (first | with_reducible exact Ext.refl _ | with_reducible assumption | with_reducible refine Ext.alloc ?_ _ | with_reducible refine Ext.drew ?_ | (with_reducible refine Ext.setCell ?_ (by first | exact Nat.le_refl _ | (dsimp only; omega) | (simp; done) | (simp; omega)) _) | with_reducible refine Ext.trans ?_ (by with_reducible assumption)))⟩

theorem rule_ask4 (p : ByteArray) (e b k : Int) (w : World) (he0 : 0 ≤ e) (he1 : e < 18446744073709551616) (hb0 : 0 ≤ b) (hb1 : b < 18446744073709551616) :
    Calls Tryz.prog 106 #[.agg #[.string p, .int .u64 e, .int .u64 b, .int .u8 k]] w fun x w' => x = .returned (.bool (capOk e b)) ∧ Ext w w' := by
  have H := Lib.hid (show capOk e b = decide (satMul e b ≤ 4611686018427387904) from rfl)
  generalize hM : satMul e b = M at H
  have HM := Lib.hid hM
  clear hM
  go_enter Tryz.func106, Tryz.ntmps106
  go_wp2_with (go_at_call 33; refine (num_Mul _ _ _ he0 he1 hb0 hb1).mono ?_; rw [HM.out]; rintro x w' ⟨rfl, hb⟩)
  go_ret
  exact ⟨ret_bool H.out.symm, (by repeat (first | with_reducible exact Ext.refl _ | with_reducible assumption | with_reducible refine Ext.alloc ?_ _ | with_reducible refine Ext.drew ?_ | (with_reducible refine Ext.setCell ?_ (by first | exact Nat.le_refl _ | (dsimp only; omega) | (simp; done) | (simp; omega)) _) | with_reducible refine Ext.trans ?_ (by with_reducible assumption)))⟩

theorem rule_ask5 (p : ByteArray) (e b k : Int) (w : World) :
    Calls Tryz.prog 107 #[.agg #[.string p, .int .u64 e, .int .u64 b, .int .u8 k]] w fun x w' => x = .returned (.bool (rightKind k)) ∧ Ext w w' := by
  go_enter Tryz.func107, Tryz.ntmps107
  go_wp2_with (go_at_call 81; refine (kernel_Right _ _).mono ?_; rintro x w' ⟨rfl, hb⟩)
  go_ret
  exact ⟨rfl, (by repeat (first | with_reducible exact Ext.refl _ | with_reducible assumption | with_reducible refine Ext.alloc ?_ _ | with_reducible refine Ext.drew ?_ | (with_reducible refine Ext.setCell ?_ (by first | exact Nat.le_refl _ | (dsimp only; omega) | (simp; done) | (simp; omega)) _) | with_reducible refine Ext.trans ?_ (by with_reducible assumption)))⟩

def askCells : Array Value := #[.func (.func 103) #[] #[], .int .u16 23, .func (.func 104) #[] #[], .int .u16 24, .func (.func 105) #[] #[], .int .u16 25, .func (.func 106) #[] #[], .int .u16 26, .func (.func 107) #[] #[], .int .u16 27]
theorem rule_asks (w : World) :
    Calls Tryz.prog 70 #[] w fun x w' => x = .returned (.slice (some ⟨w.heap.size, 0, none⟩) 5 5) ∧ Ext w w' ∧ Blk w' w.heap.size askCells 124 := by
  go_enter Tryz.func70, Tryz.ntmps70
  go_wp2
  go_ret
  exact ⟨rfl, (by repeat (first | with_reducible exact Ext.refl _ | with_reducible assumption | with_reducible refine Ext.alloc ?_ _ | with_reducible refine Ext.drew ?_ | (with_reducible refine Ext.setCell ?_ (by first | exact Nat.le_refl _ | (dsimp only; omega) | (simp; done) | (simp; omega)) _) | with_reducible refine Ext.trans ?_ (by with_reducible assumption))), Blk.new _ _ _⟩

end Go.Proofs.YtnlmbmbalmkiiaaGreat
