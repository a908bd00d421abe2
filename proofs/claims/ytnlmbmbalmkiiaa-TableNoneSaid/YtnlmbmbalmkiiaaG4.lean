/- Walks: rule.Right, rule.Cap. Walks: rule.Cap, rule.Kind, rule.Name; slices.Index over strings. Walks: package table: a slot; table.fill. Plain: a slot that has gone over to a kernel. -/
import Derived.Deep.QuietTactic
import Derived.BigQuiet
import Derived.Test.YtnlmbmbalmkiiaaG1
import Derived.Test.YtnlmbmbalmkiiaaG3

/- Walks: rule.Right, rule.Cap. -/
namespace Go.Proofs.Ytnlmbmbalmkiiaa
open Go.RowKit
set_option linter.unusedVariables false
set_option linter.unusedSimpArgs false

def ruleErr (p : ByteArray) (e b k : Int) : Int :=
  if prefOk p = false then 23 else if ¬ 0 < e then 24 else if ¬ 0 < b then 25 else if capOk e b = false then 26 else if rightKind k = false then 27 else 0

def ruleBox (p : ByteArray) (e b k : Int) : Array Value := #[.string p, .int .u64 e, .int .u64 b, .int .u8 k]

set_option maxHeartbeats 1000000 in
set_option maxRecDepth 100000 in
theorem rule_Right1 (p : ByteArray) (e b k : Int) (w : World) (hm : p.size ≤ maxLen) (he0 : 0 ≤ e) (he1 : e < 18446744073709551616) (hb0 : 0 ≤ b) (hb1 : b < 18446744073709551616)
    (H1 : Hid (prefOk p = false)) :
    Calls Try.prog 27 #[.agg #[.string p, .int .u64 e, .int .u64 b, .int .u8 k]] w fun x w' => x = .returned (.int .u16 23) ∧ Ext w w' := by
  go_enter Try.func27, Try.ntmps27
  go_wp2_with (go_at_call 49; refine (rule_asks _).mono ?_; rintro x w0 ⟨rfl, hx0, a0⟩)
  have b0 := (Blk.new w (ruleBox p e b k) 30).ext hx0
  simp only [World.size_alloc] at a0
  refine wp_loop_rounds 6 ?_
  rw [rounds_succ]
  have ac := a0.cell
  have bc := b0.cell
  have al := a0.lt
  have bl := b0.lt
  simp only [askCells, ruleBox] at ac bc
  go_wp2_with fail
  refine (rule_ask1 _ _ _ _ _ hm).mono ?_
  rw [H1.out]
  rintro x w1 ⟨rfl, hx1⟩
  clear ac bc al bl
  have a1 := (a0.alloc _).ext hx1
  have b1 := (b0.alloc _).ext hx1
  have n1 := (Blk.new' w0 #[.func (.func 67) #[] #[], .int .u16 23] 101 rfl).ext hx1
  have nc := n1.cell
  go_wp2
  go_ret
  exact ⟨rfl, (by repeat (first | with_reducible exact Ext.refl _ | with_reducible assumption | with_reducible refine Ext.alloc ?_ _ | with_reducible refine Ext.drew ?_ | (with_reducible refine Ext.setCell ?_ (by first | exact Nat.le_refl _ | (dsimp only; omega) | (simp; done) | (simp; omega)) _) | with_reducible refine Ext.trans ?_ (by with_reducible assumption)))⟩

set_option maxHeartbeats 1000000 in
set_option maxRecDepth 100000 in
theorem rule_Right2 (p : ByteArray) (e b k : Int) (w : World) (hm : p.size ≤ maxLen) (he0 : 0 ≤ e) (he1 : e < 18446744073709551616) (hb0 : 0 ≤ b) (hb1 : b < 18446744073709551616)
    (H1 : Hid (prefOk p = true)) (H2 : Hid (decide (0 < e) = false)) :
    Calls Try.prog 27 #[.agg #[.string p, .int .u64 e, .int .u64 b, .int .u8 k]] w fun x w' => x = .returned (.int .u16 24) ∧ Ext w w' := by
  go_enter Try.func27, Try.ntmps27
  go_wp2_with (go_at_call 49; refine (rule_asks _).mono ?_; rintro x w0 ⟨rfl, hx0, a0⟩)
  have b0 := (Blk.new w (ruleBox p e b k) 30).ext hx0
  simp only [World.size_alloc] at a0
  refine wp_loop_rounds 6 ?_
  rw [rounds_succ]
  have ac := a0.cell
  have bc := b0.cell
  have al := a0.lt
  have bl := b0.lt
  simp only [askCells, ruleBox] at ac bc
  go_wp2_with fail
  refine (rule_ask1 _ _ _ _ _ hm).mono ?_
  rw [H1.out]
  rintro x w1 ⟨rfl, hx1⟩
  clear ac bc al bl
  have a1 := (a0.alloc _).ext hx1
  have b1 := (b0.alloc _).ext hx1
  go_wp2
  rw [rounds_succ]
  have ac := a1.cell
  have bc := b1.cell
  have al := a1.lt
  have bl := b1.lt
  simp only [askCells, ruleBox] at ac bc
  go_wp2_with fail
  refine (rule_ask2 _ _ _ _ _).mono ?_
  rw [H2.out]
  rintro x w2 ⟨rfl, hx2⟩
  clear ac bc al bl
  have a2 := (a1.alloc _).ext hx2
  have b2 := (b1.alloc _).ext hx2
  have n2 := (Blk.new' w1 #[.func (.func 68) #[] #[], .int .u16 24] 101 rfl).ext hx2
  have nc := n2.cell
  go_wp2
  go_ret
  exact ⟨rfl, (by repeat (first | with_reducible exact Ext.refl _ | with_reducible assumption | with_reducible refine Ext.alloc ?_ _ | with_reducible refine Ext.drew ?_ | (with_reducible refine Ext.setCell ?_ (by first | exact Nat.le_refl _ | (dsimp only; omega) | (simp; done) | (simp; omega)) _) | with_reducible refine Ext.trans ?_ (by with_reducible assumption)))⟩

set_option maxHeartbeats 1000000 in
set_option maxRecDepth 100000 in
theorem rule_Right3 (p : ByteArray) (e b k : Int) (w : World) (hm : p.size ≤ maxLen) (he0 : 0 ≤ e) (he1 : e < 18446744073709551616) (hb0 : 0 ≤ b) (hb1 : b < 18446744073709551616)
    (H1 : Hid (prefOk p = true)) (H2 : Hid (decide (0 < e) = true)) (H3 : Hid (decide (0 < b) = false)) :
    Calls Try.prog 27 #[.agg #[.string p, .int .u64 e, .int .u64 b, .int .u8 k]] w fun x w' => x = .returned (.int .u16 25) ∧ Ext w w' := by
  go_enter Try.func27, Try.ntmps27
  go_wp2_with (go_at_call 49; refine (rule_asks _).mono ?_; rintro x w0 ⟨rfl, hx0, a0⟩)
  have b0 := (Blk.new w (ruleBox p e b k) 30).ext hx0
  simp only [World.size_alloc] at a0
  refine wp_loop_rounds 6 ?_
  rw [rounds_succ]
  have ac := a0.cell
  have bc := b0.cell
  have al := a0.lt
  have bl := b0.lt
  simp only [askCells, ruleBox] at ac bc
  go_wp2_with fail
  refine (rule_ask1 _ _ _ _ _ hm).mono ?_
  rw [H1.out]
  rintro x w1 ⟨rfl, hx1⟩
  clear ac bc al bl
  have a1 := (a0.alloc _).ext hx1
  have b1 := (b0.alloc _).ext hx1
  go_wp2
  rw [rounds_succ]
  have ac := a1.cell
  have bc := b1.cell
  have al := a1.lt
  have bl := b1.lt
  simp only [askCells, ruleBox] at ac bc
  go_wp2_with fail
  refine (rule_ask2 _ _ _ _ _).mono ?_
  rw [H2.out]
  rintro x w2 ⟨rfl, hx2⟩
  clear ac bc al bl
  have a2 := (a1.alloc _).ext hx2
  have b2 := (b1.alloc _).ext hx2
  go_wp2
  rw [rounds_succ]
  have ac := a2.cell
  have bc := b2.cell
  have al := a2.lt
  have bl := b2.lt
  simp only [askCells, ruleBox] at ac bc
  go_wp2_with fail
  refine (rule_ask3 _ _ _ _ _).mono ?_
  rw [H3.out]
  rintro x w3 ⟨rfl, hx3⟩
  clear ac bc al bl
  have a3 := (a2.alloc _).ext hx3
  have b3 := (b2.alloc _).ext hx3
  have n3 := (Blk.new' w2 #[.func (.func 69) #[] #[], .int .u16 25] 101 rfl).ext hx3
  have nc := n3.cell
  go_wp2
  go_ret
  exact ⟨rfl, (by repeat (first | with_reducible exact Ext.refl _ | with_reducible assumption | with_reducible refine Ext.alloc ?_ _ | with_reducible refine Ext.drew ?_ | (with_reducible refine Ext.setCell ?_ (by first | exact Nat.le_refl _ | (dsimp only; omega) | (simp; done) | (simp; omega)) _) | with_reducible refine Ext.trans ?_ (by with_reducible assumption)))⟩

set_option maxHeartbeats 1000000 in
set_option maxRecDepth 100000 in
theorem rule_Right4 (p : ByteArray) (e b k : Int) (w : World) (hm : p.size ≤ maxLen) (he0 : 0 ≤ e) (he1 : e < 18446744073709551616) (hb0 : 0 ≤ b) (hb1 : b < 18446744073709551616)
    (H1 : Hid (prefOk p = true)) (H2 : Hid (decide (0 < e) = true)) (H3 : Hid (decide (0 < b) = true)) (H4 : Hid (capOk e b = false)) :
    Calls Try.prog 27 #[.agg #[.string p, .int .u64 e, .int .u64 b, .int .u8 k]] w fun x w' => x = .returned (.int .u16 26) ∧ Ext w w' := by
  go_enter Try.func27, Try.ntmps27
  go_wp2_with (go_at_call 49; refine (rule_asks _).mono ?_; rintro x w0 ⟨rfl, hx0, a0⟩)
  have b0 := (Blk.new w (ruleBox p e b k) 30).ext hx0
  simp only [World.size_alloc] at a0
  refine wp_loop_rounds 6 ?_
  rw [rounds_succ]
  have ac := a0.cell
  have bc := b0.cell
  have al := a0.lt
  have bl := b0.lt
  simp only [askCells, ruleBox] at ac bc
  go_wp2_with fail
  refine (rule_ask1 _ _ _ _ _ hm).mono ?_
  rw [H1.out]
  rintro x w1 ⟨rfl, hx1⟩
  clear ac bc al bl
  have a1 := (a0.alloc _).ext hx1
  have b1 := (b0.alloc _).ext hx1
  go_wp2
  rw [rounds_succ]
  have ac := a1.cell
  have bc := b1.cell
  have al := a1.lt
  have bl := b1.lt
  simp only [askCells, ruleBox] at ac bc
  go_wp2_with fail
  refine (rule_ask2 _ _ _ _ _).mono ?_
  rw [H2.out]
  rintro x w2 ⟨rfl, hx2⟩
  clear ac bc al bl
  have a2 := (a1.alloc _).ext hx2
  have b2 := (b1.alloc _).ext hx2
  go_wp2
  rw [rounds_succ]
  have ac := a2.cell
  have bc := b2.cell
  have al := a2.lt
  have bl := b2.lt
  simp only [askCells, ruleBox] at ac bc
  go_wp2_with fail
  refine (rule_ask3 _ _ _ _ _).mono ?_
  rw [H3.out]
  rintro x w3 ⟨rfl, hx3⟩
  clear ac bc al bl
  have a3 := (a2.alloc _).ext hx3
  have b3 := (b2.alloc _).ext hx3
  go_wp2
  rw [rounds_succ]
  have ac := a3.cell
  have bc := b3.cell
  have al := a3.lt
  have bl := b3.lt
  simp only [askCells, ruleBox] at ac bc
  go_wp2_with fail
  refine (rule_ask4 _ _ _ _ _ he0 he1 hb0 hb1).mono ?_
  rw [H4.out]
  rintro x w4 ⟨rfl, hx4⟩
  clear ac bc al bl
  have a4 := (a3.alloc _).ext hx4
  have b4 := (b3.alloc _).ext hx4
  have n4 := (Blk.new' w3 #[.func (.func 70) #[] #[], .int .u16 26] 101 rfl).ext hx4
  have nc := n4.cell
  go_wp2
  go_ret
  exact ⟨rfl, (by repeat (first | with_reducible exact Ext.refl _ | with_reducible assumption | with_reducible refine Ext.alloc ?_ _ | with_reducible refine Ext.drew ?_ | (with_reducible refine Ext.setCell ?_ (by first | exact Nat.le_refl _ | (dsimp only; omega) | (simp; done) | (simp; omega)) _) | with_reducible refine Ext.trans ?_ (by with_reducible assumption)))⟩

set_option maxHeartbeats 1000000 in
set_option maxRecDepth 100000 in
theorem rule_Right5 (p : ByteArray) (e b k : Int) (w : World) (hm : p.size ≤ maxLen) (he0 : 0 ≤ e) (he1 : e < 18446744073709551616) (hb0 : 0 ≤ b) (hb1 : b < 18446744073709551616)
    (H1 : Hid (prefOk p = true)) (H2 : Hid (decide (0 < e) = true)) (H3 : Hid (decide (0 < b) = true)) (H4 : Hid (capOk e b = true)) (H5 : Hid (rightKind k = false)) :
    Calls Try.prog 27 #[.agg #[.string p, .int .u64 e, .int .u64 b, .int .u8 k]] w fun x w' => x = .returned (.int .u16 27) ∧ Ext w w' := by
  go_enter Try.func27, Try.ntmps27
  go_wp2_with (go_at_call 49; refine (rule_asks _).mono ?_; rintro x w0 ⟨rfl, hx0, a0⟩)
  have b0 := (Blk.new w (ruleBox p e b k) 30).ext hx0
  simp only [World.size_alloc] at a0
  refine wp_loop_rounds 6 ?_
  rw [rounds_succ]
  have ac := a0.cell
  have bc := b0.cell
  have al := a0.lt
  have bl := b0.lt
  simp only [askCells, ruleBox] at ac bc
  go_wp2_with fail
  refine (rule_ask1 _ _ _ _ _ hm).mono ?_
  rw [H1.out]
  rintro x w1 ⟨rfl, hx1⟩
  clear ac bc al bl
  have a1 := (a0.alloc _).ext hx1
  have b1 := (b0.alloc _).ext hx1
  go_wp2
  rw [rounds_succ]
  have ac := a1.cell
  have bc := b1.cell
  have al := a1.lt
  have bl := b1.lt
  simp only [askCells, ruleBox] at ac bc
  go_wp2_with fail
  refine (rule_ask2 _ _ _ _ _).mono ?_
  rw [H2.out]
  rintro x w2 ⟨rfl, hx2⟩
  clear ac bc al bl
  have a2 := (a1.alloc _).ext hx2
  have b2 := (b1.alloc _).ext hx2
  go_wp2
  rw [rounds_succ]
  have ac := a2.cell
  have bc := b2.cell
  have al := a2.lt
  have bl := b2.lt
  simp only [askCells, ruleBox] at ac bc
  go_wp2_with fail
  refine (rule_ask3 _ _ _ _ _).mono ?_
  rw [H3.out]
  rintro x w3 ⟨rfl, hx3⟩
  clear ac bc al bl
  have a3 := (a2.alloc _).ext hx3
  have b3 := (b2.alloc _).ext hx3
  go_wp2
  rw [rounds_succ]
  have ac := a3.cell
  have bc := b3.cell
  have al := a3.lt
  have bl := b3.lt
  simp only [askCells, ruleBox] at ac bc
  go_wp2_with fail
  refine (rule_ask4 _ _ _ _ _ he0 he1 hb0 hb1).mono ?_
  rw [H4.out]
  rintro x w4 ⟨rfl, hx4⟩
  clear ac bc al bl
  have a4 := (a3.alloc _).ext hx4
  have b4 := (b3.alloc _).ext hx4
  go_wp2
  rw [rounds_succ]
  have ac := a4.cell
  have bc := b4.cell
  have al := a4.lt
  have bl := b4.lt
  simp only [askCells, ruleBox] at ac bc
  go_wp2_with fail
  refine (rule_ask5 _ _ _ _ _).mono ?_
  rw [H5.out]
  rintro x w5 ⟨rfl, hx5⟩
  clear ac bc al bl
  have a5 := (a4.alloc _).ext hx5
  have b5 := (b4.alloc _).ext hx5
  have n5 := (Blk.new' w4 #[.func (.func 71) #[] #[], .int .u16 27] 101 rfl).ext hx5
  have nc := n5.cell
  go_wp2
  go_ret
  exact ⟨rfl, (by repeat (first | with_reducible exact Ext.refl _ | with_reducible assumption | with_reducible refine Ext.alloc ?_ _ | with_reducible refine Ext.drew ?_ | (with_reducible refine Ext.setCell ?_ (by first | exact Nat.le_refl _ | (dsimp only; omega) | (simp; done) | (simp; omega)) _) | with_reducible refine Ext.trans ?_ (by with_reducible assumption)))⟩

set_option maxHeartbeats 1000000 in
set_option maxRecDepth 100000 in
theorem rule_Right6 (p : ByteArray) (e b k : Int) (w : World) (hm : p.size ≤ maxLen) (he0 : 0 ≤ e) (he1 : e < 18446744073709551616) (hb0 : 0 ≤ b) (hb1 : b < 18446744073709551616)
    (H1 : Hid (prefOk p = true)) (H2 : Hid (decide (0 < e) = true)) (H3 : Hid (decide (0 < b) = true)) (H4 : Hid (capOk e b = true)) (H5 : Hid (rightKind k = true)) :
    Calls Try.prog 27 #[.agg #[.string p, .int .u64 e, .int .u64 b, .int .u8 k]] w fun x w' => x = .returned (.int .u16 0) ∧ Ext w w' := by
  go_enter Try.func27, Try.ntmps27
  go_wp2_with (go_at_call 49; refine (rule_asks _).mono ?_; rintro x w0 ⟨rfl, hx0, a0⟩)
  have b0 := (Blk.new w (ruleBox p e b k) 30).ext hx0
  simp only [World.size_alloc] at a0
  refine wp_loop_rounds 6 ?_
  rw [rounds_succ]
  have ac := a0.cell
  have bc := b0.cell
  have al := a0.lt
  have bl := b0.lt
  simp only [askCells, ruleBox] at ac bc
  go_wp2_with fail
  refine (rule_ask1 _ _ _ _ _ hm).mono ?_
  rw [H1.out]
  rintro x w1 ⟨rfl, hx1⟩
  clear ac bc al bl
  have a1 := (a0.alloc _).ext hx1
  have b1 := (b0.alloc _).ext hx1
  go_wp2
  rw [rounds_succ]
  have ac := a1.cell
  have bc := b1.cell
  have al := a1.lt
  have bl := b1.lt
  simp only [askCells, ruleBox] at ac bc
  go_wp2_with fail
  refine (rule_ask2 _ _ _ _ _).mono ?_
  rw [H2.out]
  rintro x w2 ⟨rfl, hx2⟩
  clear ac bc al bl
  have a2 := (a1.alloc _).ext hx2
  have b2 := (b1.alloc _).ext hx2
  go_wp2
  rw [rounds_succ]
  have ac := a2.cell
  have bc := b2.cell
  have al := a2.lt
  have bl := b2.lt
  simp only [askCells, ruleBox] at ac bc
  go_wp2_with fail
  refine (rule_ask3 _ _ _ _ _).mono ?_
  rw [H3.out]
  rintro x w3 ⟨rfl, hx3⟩
  clear ac bc al bl
  have a3 := (a2.alloc _).ext hx3
  have b3 := (b2.alloc _).ext hx3
  go_wp2
  rw [rounds_succ]
  have ac := a3.cell
  have bc := b3.cell
  have al := a3.lt
  have bl := b3.lt
  simp only [askCells, ruleBox] at ac bc
  go_wp2_with fail
  refine (rule_ask4 _ _ _ _ _ he0 he1 hb0 hb1).mono ?_
  rw [H4.out]
  rintro x w4 ⟨rfl, hx4⟩
  clear ac bc al bl
  have a4 := (a3.alloc _).ext hx4
  have b4 := (b3.alloc _).ext hx4
  go_wp2
  rw [rounds_succ]
  have ac := a4.cell
  have bc := b4.cell
  have al := a4.lt
  have bl := b4.lt
  simp only [askCells, ruleBox] at ac bc
  go_wp2_with fail
  refine (rule_ask5 _ _ _ _ _).mono ?_
  rw [H5.out]
  rintro x w5 ⟨rfl, hx5⟩
  clear ac bc al bl
  have a5 := (a4.alloc _).ext hx5
  have b5 := (b4.alloc _).ext hx5
  go_wp2
  rw [rounds_succ]
  go_wp2
  go_ret
  exact ⟨rfl, (by repeat (first | with_reducible exact Ext.refl _ | with_reducible assumption | with_reducible refine Ext.alloc ?_ _ | with_reducible refine Ext.drew ?_ | (with_reducible refine Ext.setCell ?_ (by first | exact Nat.le_refl _ | (dsimp only; omega) | (simp; done) | (simp; omega)) _) | with_reducible refine Ext.trans ?_ (by with_reducible assumption)))⟩

theorem rule_Right (p : ByteArray) (e b k : Int) (w : World) (hm : p.size ≤ maxLen) (he0 : 0 ≤ e) (he1 : e < 18446744073709551616) (hb0 : 0 ≤ b) (hb1 : b < 18446744073709551616) :
    Calls Try.prog 27 #[.agg #[.string p, .int .u64 e, .int .u64 b, .int .u8 k]] w fun x w' => x = .returned (.int .u16 (ruleErr p e b k)) ∧ Ext w w' := by
  unfold ruleErr
  by_cases h1 : prefOk p = false
  · rw [if_pos h1]; exact rule_Right1 p e b k w hm he0 he1 hb0 hb1 (Lib.hid h1)
  rw [if_neg h1]
  have H1 := Lib.hid (by simpa using h1 : prefOk p = true)
  by_cases h2 : 0 < e
  · rw [if_neg (by simpa using h2)]
    have H2 := Lib.hid (decide_eq_true h2)
    by_cases h3 : 0 < b
    · rw [if_neg (by simpa using h3)]
      have H3 := Lib.hid (decide_eq_true h3)
      by_cases h4 : capOk e b = false
      · rw [if_pos h4]; exact rule_Right4 p e b k w hm he0 he1 hb0 hb1 H1 H2 H3 (Lib.hid h4)
      rw [if_neg h4]
      have H4 := Lib.hid (by simpa using h4 : capOk e b = true)
      by_cases h5 : rightKind k = false
      · rw [if_pos h5]; exact rule_Right5 p e b k w hm he0 he1 hb0 hb1 H1 H2 H3 H4 (Lib.hid h5)
      · rw [if_neg h5]; exact rule_Right6 p e b k w hm he0 he1 hb0 hb1 H1 H2 H3 H4 (Lib.hid (by simpa using h5))
    · rw [if_pos h3]; exact rule_Right3 p e b k w hm he0 he1 hb0 hb1 H1 H2 (Lib.hid (decide_eq_false h3))
  · rw [if_pos h2]; exact rule_Right2 p e b k w hm he0 he1 hb0 hb1 H1 (Lib.hid (decide_eq_false h2))
end Go.Proofs.Ytnlmbmbalmkiiaa

/- Walks: rule.Cap, rule.Kind, rule.Name; slices.Index over strings. -/
namespace Go.Proofs.Ytnlmbmbalmkiiaa
open Go.RowKit
set_option linter.unusedVariables false
set_option linter.unusedSimpArgs false

def ruleCap (p : ByteArray) (e b k : Int) : Int := if ruleErr p e b k = 0 then e * b else 0

theorem capOk_lt {e b : Int} (h : capOk e b = true) : e * b ≤ 4611686018427387904 := by
  unfold capOk satMul at h
  split at h <;> simp at h
  omega
theorem ruleErr_zero {p : ByteArray} {e b k : Int} (h : ruleErr p e b k = 0) : prefOk p = true ∧ 0 < e ∧ 0 < b ∧ capOk e b = true ∧ rightKind k = true := by
  unfold ruleErr at h
  by_cases h1 : prefOk p = false
  · rw [if_pos h1] at h; omega
  rw [if_neg h1] at h
  by_cases h2 : ¬ 0 < e
  · rw [if_pos h2] at h; omega
  rw [if_neg h2] at h
  by_cases h3 : ¬ 0 < b
  · rw [if_pos h3] at h; omega
  rw [if_neg h3] at h
  by_cases h4 : capOk e b = false
  · rw [if_pos h4] at h; omega
  rw [if_neg h4] at h
  by_cases h5 : rightKind k = false
  · rw [if_pos h5] at h; omega
  simp at h1 h4 h5
  exact ⟨h1, by omega, by omega, h4, h5⟩

theorem rule_Cap (p : ByteArray) (e b k : Int) (w : World) (hm : p.size ≤ maxLen) (he0 : 0 ≤ e) (he1 : e < 18446744073709551616) (hb0 : 0 ≤ b) (hb1 : b < 18446744073709551616) :
    Calls Try.prog 30 #[.agg #[.string p, .int .u64 e, .int .u64 b, .int .u8 k]] w fun x w' => x = .returned (.int .u64 (ruleCap p e b k)) ∧ Ext w w' := by
  generalize hE : ruleErr p e b k = E
  have HE := Lib.hid hE
  by_cases h : E = 0
  · have H := Lib.hid (show ruleCap p e b k = e * b by simp [ruleCap, hE, h])
    subst h
    have hc := capOk_lt (ruleErr_zero hE).2.2.2.1
    have hp : 0 ≤ e * b := Int.mul_nonneg he0 hb0
    have hw : IntKind.u64.wrap (e * b) = e * b := by rw [wrap_u64]; omega
    have HW := Lib.hid hw
    clear hE hw hc
    go_enter Try.func30, Try.ntmps30
    go_wp2_with fail
    refine (rule_Right _ _ _ _ _ hm he0 he1 hb0 hb1).mono ?_
    rw [HE.out]
    rintro x w1 ⟨rfl, hx⟩
    have b0 := (Blk.new w (ruleBox p e b k) 30).ext hx
    have bc := b0.cell
    simp only [ruleBox] at bc
    go_wp2
    go_ret
    exact ⟨ret_int (by rw [H.out]; exact HW.out), (by repeat (first | with_reducible exact Ext.refl _ | with_reducible assumption | with_reducible refine Ext.alloc ?_ _ | with_reducible refine Ext.drew ?_ | (with_reducible refine Ext.setCell ?_ (by first | exact Nat.le_refl _ | (dsimp only; omega) | (simp; done) | (simp; omega)) _) | with_reducible refine Ext.trans ?_ (by with_reducible assumption)))⟩
  · have H := Lib.hid (show ruleCap p e b k = 0 by simp [ruleCap, hE, h])
    have hE' : (E != 0) = true := by rw [bne_iff_ne]; exact h
    clear hE h
    go_enter Try.func30, Try.ntmps30
    go_wp2_with fail
    refine (rule_Right _ _ _ _ _ hm he0 he1 hb0 hb1).mono ?_
    rw [HE.out]
    rintro x w1 ⟨rfl, hx⟩
    go_wp2
    go_ret
    exact ⟨ret_int H.out.symm, (by repeat (first | with_reducible exact Ext.refl _ | with_reducible assumption | with_reducible refine Ext.alloc ?_ _ | with_reducible refine Ext.drew ?_ | (with_reducible refine Ext.setCell ?_ (by first | exact Nat.le_refl _ | (dsimp only; omega) | (simp; done) | (simp; omega)) _) | with_reducible refine Ext.trans ?_ (by with_reducible assumption)))⟩

end Go.Proofs.Ytnlmbmbalmkiiaa

/- Walks: package table: a slot; table.fill. -/
namespace Go.Proofs.Ytnlmbmbalmkiiaa
open Go.RowKit
set_option linter.unusedVariables false
set_option linter.unusedSimpArgs false

def Slot.cap (s : Slot) : Int := ruleCap s.p s.e s.b s.rk
def Slot.fill (s : Slot) (clock : Int) : Int := kFill s.sk s.sa s.sb clock s.cap

theorem ruleCap_u (p : ByteArray) (e b k : Int) (he0 : 0 ≤ e) (hb0 : 0 ≤ b) : 0 ≤ ruleCap p e b k ∧ ruleCap p e b k ≤ 4611686018427387904 := by
  unfold ruleCap
  split
  · rename_i h
    exact ⟨Int.mul_nonneg he0 hb0, capOk_lt (ruleErr_zero h).2.2.2.1⟩
  · omega

set_option maxHeartbeats 1000000 in
set_option maxRecDepth 100000 in
theorem table_fill (s : Slot) (clock : Int) (w : World) (hs : SlotOk s) (hn0 : 0 ≤ clock) (hn1 : clock < 18446744073709551616) :
    Calls Try.prog 50 #[s.val, .int .u64 clock] w fun e w' => e = .returned (.int .u64 (s.fill clock)) ∧ Ext w w' := by
  obtain ⟨key, p, e, b, rk, sk, sa, sb⟩ := s
  obtain ⟨h1, h2, h3, h4, h5, h6, h7, h8, h9, h10, h11, h12, h13, h14⟩ := hs
  simp only at h1 h2 h3 h4 h5 h6 h7 h8 h9 h10 h11 h12 h13 h14
  have hc := ruleCap_u p e b rk h3 h5
  show Calls _ _ #[.agg #[.string key, .string p, .int .u64 e, .int .u64 b, .int .u8 rk, .int .u8 sk, .int .u64 sa, .int .u64 sb], _] _ fun x w' => x = .returned (.int .u64 (kFill sk sa sb clock (ruleCap p e b rk))) ∧ Ext w w'
  generalize hcap : ruleCap p e b rk = cap at *
  have HC := Lib.hid hcap
  clear hcap
  obtain ⟨hc0, hc1⟩ := hc
  go_enter Try.func50, Try.ntmps50
  go_wp2_with fail
  have bq := Blk.new w #[.string key, .string p, .int .u64 e, .int .u64 b, .int .u8 rk, .int .u8 sk, .int .u64 sa, .int .u64 sb] 52
  have hx0 : Ext w (w.alloc (.cells #[.string key, .string p, .int .u64 e, .int .u64 b, .int .u8 rk, .int .u8 sk, .int .u64 sa, .int .u64 sb] 52)) := (Ext.refl w).alloc _
  generalize w.alloc (.cells #[.string key, .string p, .int .u64 e, .int .u64 b, .int .u8 rk, .int .u8 sk, .int .u64 sa, .int .u64 sb] 52) = w0 at *
  have q1 : w0.cell? ⟨w.heap.size, 1, none⟩ = some (.string p) := bq.cell 1
  have q2 : w0.cell? ⟨w.heap.size, 2, none⟩ = some (.int .u64 e) := bq.cell 2
  have q3 : w0.cell? ⟨w.heap.size, 3, none⟩ = some (.int .u64 b) := bq.cell 3
  have q4 : w0.cell? ⟨w.heap.size, 4, none⟩ = some (.int .u8 rk) := bq.cell 4
  have q5 : w0.cell? ⟨w.heap.size, 5, none⟩ = some (.int .u8 sk) := bq.cell 5
  have q6 : w0.cell? ⟨w.heap.size, 6, none⟩ = some (.int .u64 sa) := bq.cell 6
  have q7 : w0.cell? ⟨w.heap.size, 7, none⟩ = some (.int .u64 sb) := bq.cell 7
  go_region_held3 (fun w' => w'.cell? ⟨w.heap.size, 1, none⟩ = some (.string p) ∧ w'.cell? ⟨w.heap.size, 2, none⟩ = some (.int .u64 e) ∧ w'.cell? ⟨w.heap.size, 3, none⟩ = some (.int .u64 b) ∧ w'.cell? ⟨w.heap.size, 4, none⟩ = some (.int .u8 rk) ∧ w'.cell? ⟨w.heap.size, 5, none⟩ = some (.int .u8 sk) ∧ w'.cell? ⟨w.heap.size, 6, none⟩ = some (.int .u64 sa) ∧ w'.cell? ⟨w.heap.size, 7, none⟩ = some (.int .u64 sb) ∧ Ext w0 w')
    (((try go_split_ands); refine ⟨?_, ?_, ?_, ?_, ?_, ?_, ?_, ?_⟩ <;> first | with_reducible assumption | exact (Ext.refl _).drew | ((repeat (first | with_reducible exact Ext.refl _ | with_reducible assumption | with_reducible refine Ext.alloc ?_ _ | with_reducible refine Ext.drew ?_ | (with_reducible refine Ext.setCell ?_ (by first | exact Nat.le_refl _ | (dsimp only; omega) | (simp; done) | (simp; omega)) _) | with_reducible refine Ext.trans ?_ (by with_reducible assumption))); done) | (refine Ext.keep (w := w0) (by repeat (first | with_reducible exact Ext.refl _ | with_reducible assumption | with_reducible refine Ext.alloc ?_ _ | with_reducible refine Ext.drew ?_ | (with_reducible refine Ext.setCell ?_ (by first | exact Nat.le_refl _ | (dsimp only; omega) | (simp; done) | (simp; omega)) _) | with_reducible refine Ext.trans ?_ (by with_reducible assumption))) ?_; with_reducible assumption)))
    (first
      | (go_at_call 30; (with_reducible refine (rule_Cap p e b rk _ h2 h3 h4 h5 h6).mono ?_); rw [HC.out]; rintro x w1 ⟨rfl, hx⟩)
      | (go_at_call 37; (with_reducible refine (kernel_Fill sk sa sb clock cap _ h11 h12 h13 h14 hn0 hn1 hc0 (by omega)).mono ?_); rintro x w2 ⟨rfl, hx⟩))
  go_wp2
  go_ret
  exact ⟨rfl, (by repeat (first | with_reducible exact Ext.refl _ | with_reducible assumption | with_reducible refine Ext.alloc ?_ _ | with_reducible refine Ext.drew ?_ | (with_reducible refine Ext.setCell ?_ (by first | exact Nat.le_refl _ | (dsimp only; omega) | (simp; done) | (simp; omega)) _) | with_reducible refine Ext.trans ?_ (by with_reducible assumption)))⟩

/-- a table in memory -/
structure TabAt (w : World) (t mb : Nat) (most clock : Int) (l : SMap) (c : Nat) : Prop where
  blk : Blk w t #[.int .i64 most, .int .u64 clock, .map (some mb)] 69
  map : MapIs w mb l c
theorem TabAt.ext {w w' : World} {t mb c : Nat} {most clock : Int} {l : SMap} (h : TabAt w t mb most clock l c) (e : Ext w w') : TabAt w' t mb most clock l c := ⟨h.blk.ext e, h.map.ext e⟩
theorem TabAt.ne {w : World} {t mb c : Nat} {most clock : Int} {l : SMap} (h : TabAt w t mb most clock l c) : t ≠ mb := fun e => h.map.ne h.blk e.symm
theorem TabAt.swap {w w' : World} {t mb c c' : Nat} {most clock : Int} {l l' : SMap} (h : TabAt w t mb most clock l c) (e : ExtB mb w w') (m : MapIs w' mb l' c') : TabAt w' t mb most clock l' c' := ⟨h.blk.extB e h.ne, m⟩

theorem slot_zero (w : World) : (zeroValue 52).run Try.prog w = .ok slot0.val w := by kernel_rfl

set_option maxHeartbeats 1000000 in
set_option maxRecDepth 100000 in
theorem table_slot_none (t mb c : Nat) (k p : ByteArray) (most clock e b rk : Int) (l : SMap) (w : World) (h : TabAt w t mb most clock l c) (hl : l.look k = none) :
    Calls Try.prog 28 #[.pointer (some ⟨t, 0, none⟩), .string k, .agg #[.string p, .int .u64 e, .int .u64 b, .int .u8 rk]] w fun x w' => x = .returned (.tuple #[slot0.val, .bool false]) ∧ Ext w w' := by
  have hbc := h.blk.cell
  have c2 : w.cell? ⟨t, 2, none⟩ = some (.map (some mb)) := hbc 2
  have hlt := h.blk.lt
  have L := run_slook_no (P := Try.prog) Try.underlying67 Try.underlying9 (((h.map).ext ((Ext.refl w).alloc (.cells #[.string p, .int .u64 e, .int .u64 b, .int .u8 rk] 30))).ext ((Ext.refl _).alloc (.cells slot0.cells 52))) hl (slot_zero _)
  simp only [slot0, Slot.val, Slot.cells] at L
  clear hbc hl
  go_enter Try.func28, Try.ntmps28
  go_wp2
  go_quiet (fail)
  have hB := ((Blk.new' (w.alloc (.cells #[.string p, .int .u64 e, .int .u64 b, .int .u8 rk] 30)) slot0.cells 52 (b := w.heap.size + 1) (by simp)).alloc (.cells slot0.cells 52)).drewN nq
  go_wp2
  have hS := ((((((((hB.set 0 (.string ⟨#[]⟩)).set 1 (.string ⟨#[]⟩)).set 2 (.int .u64 0)).set 3 (.int .u64 0)).set 4 (.int .u8 0)).set 5 (.int .u8 0)).set 6 (.int .u64 0)).set 7 (.int .u64 0))
  have hx := (((((Ext.refl w).alloc (.cells #[.string p, .int .u64 e, .int .u64 b, .int .u8 rk] 30)).alloc (.cells slot0.cells 52)).alloc (.cells slot0.cells 52)).trans (Ext.drewNs _ nq))
  refine ret_cell_tmp Try.results28 rfl rfl hS Try.underlying52 rfl (by kernel_rfl) ⟨rfl, ?_⟩
  exact ((((((((hx.set (by omega) _ _).set (by omega) _ _).set (by omega) _ _).set (by omega) _ _).set (by omega) _ _).set (by omega) _ _).set (by omega) _ _).set (by omega) _ _)
end Go.Proofs.Ytnlmbmbalmkiiaa

/- Plain: a slot that has gone over to a kernel. -/
namespace Go.Proofs.Ytnlmbmbalmkiiaa

def movedS (clock : Int) (s : Slot) (kind : Int) : Slot := ⟨s.key, s.p, s.e, s.b, s.rk, kind, kOfA kind clock s.cap (s.fill clock), kOfB kind clock⟩
end Go.Proofs.Ytnlmbmbalmkiiaa
