/- Walks: rule.Right, rule.Cap. Walks: rule.Cap, rule.Kind, rule.Name; slices.Index over strings. -/
import Derived.Test.YtknlojlcahgnoaaGreatEb6

namespace Go.Proofs.YtknlojlcahgnoaaGreat
open Go.RowKit
set_option linter.unusedVariables false
set_option linter.unusedSimpArgs false

def ruleErr (p : ByteArray) (e b k : Int) : Int :=
  if prefOk p = false then 23 else if ¬ 0 < e then 24 else if ¬ 0 < b then 25 else if capOk e b = false then 26 else if rightKind k = false then 27 else 0

def ruleBox (p : ByteArray) (e b k : Int) : Array Value := #[.string p, .int .u64 e, .int .u64 b, .int .u8 k]

set_option maxHeartbeats 1000000 in
set_option maxRecDepth 100000 in
theorem rule_Right1 (p : ByteArray) (e b k : Int) (w : World) (hm : p.size ≤ maxLen) (he0 : 0 ≤ e) (he1 : e < 18446744073709551616) (hb0 : 0 ≤ b) (hb1 : b < 18446744073709551616)
    (H1 : Hid (prefOk p = false)) :
    Calls Tryz.prog 81 #[.agg #[.string p, .int .u64 e, .int .u64 b, .int .u8 k]] w fun x w' => x = .returned (.int .u16 23) ∧ Ext w w' := by
  go_enter Tryz.func81, Tryz.ntmps81
  go_wp2_with (go_at_call 132; refine (rule_asks _).mono ?_; rintro x w0 ⟨rfl, hx0, a0⟩)
  have b0 := (Blk.new w (ruleBox p e b k) 37).ext hx0
  simp only [World.size_alloc] at a0
  refine wp_loop_rounds 6 ?_
  rw [rounds_succ]
  have ac := a0.cell
  have bc := b0.cell
  have al := a0.lt
  have bl := b0.lt
  simp only [askCells, ruleBox] at ac bc
  go_wp2_with fail
  refine (rule_ask1 _ _ _ _ _ hm).mono ?_
  rw [H1.out]
  rintro x w1 ⟨rfl, hx1⟩
  clear ac bc al bl
  have a1 := (a0.alloc _).ext hx1
  have b1 := (b0.alloc _).ext hx1
  have n1 := (Blk.new' w0 #[.func (.func 183) #[] #[], .int .u16 23] 230 rfl).ext hx1
  have nc := n1.cell
  go_wp2
  go_ret
  exact ⟨rfl, (by repeat (first | with_reducible exact Ext.refl _ | with_reducible assumption | with_reducible refine Ext.alloc ?_ _ | with_reducible refine Ext.drew ?_ | (with_reducible refine Ext.setCell ?_ (by first | exact Nat.le_refl _ | (dsimp only; omega) | (simp; done) | (simp; omega)) _) | with_reducible refine Ext.trans ?_ (by with_reducible assumption)))⟩

set_option maxHeartbeats 1000000 in
set_option maxRecDepth 100000 in
theorem rule_Right2 (p : ByteArray) (e b k : Int) (w : World) (hm : p.size ≤ maxLen) (he0 : 0 ≤ e) (he1 : e < 18446744073709551616) (hb0 : 0 ≤ b) (hb1 : b < 18446744073709551616)
    (H1 : Hid (prefOk p = true)) (H2 : Hid (decide (0 < e) = false)) :
    Calls Tryz.prog 81 #[.agg #[.string p, .int .u64 e, .int .u64 b, .int .u8 k]] w fun x w' => x = .returned (.int .u16 24) ∧ Ext w w' := by
  go_enter Tryz.func81, Tryz.ntmps81
  go_wp2_with (go_at_call 132; refine (rule_asks _).mono ?_; rintro x w0 ⟨rfl, hx0, a0⟩)
  have b0 := (Blk.new w (ruleBox p e b k) 37).ext hx0
  simp only [World.size_alloc] at a0
  refine wp_loop_rounds 6 ?_
  rw [rounds_succ]
  have ac := a0.cell
  have bc := b0.cell
  have al := a0.lt
  have bl := b0.lt
  simp only [askCells, ruleBox] at ac bc
  go_wp2_with fail
  refine (rule_ask1 _ _ _ _ _ hm).mono ?_
  rw [H1.out]
  rintro x w1 ⟨rfl, hx1⟩
  clear ac bc al bl
  have a1 := (a0.alloc _).ext hx1
  have b1 := (b0.alloc _).ext hx1
  go_wp2
  rw [rounds_succ]
  have ac := a1.cell
  have bc := b1.cell
  have al := a1.lt
  have bl := b1.lt
  simp only [askCells, ruleBox] at ac bc
  go_wp2_with fail
  refine (rule_ask2 _ _ _ _ _).mono ?_
  rw [H2.out]
  rintro x w2 ⟨rfl, hx2⟩
  clear ac bc al bl
  have a2 := (a1.alloc _).ext hx2
  have b2 := (b1.alloc _).ext hx2
  have n2 := (Blk.new' w1 #[.func (.func 184) #[] #[], .int .u16 24] 230 rfl).ext hx2
  have nc := n2.cell
  go_wp2
  go_ret
  exact ⟨rfl, (by repeat (first | with_reducible exact Ext.refl _ | with_reducible assumption | with_reducible refine Ext.alloc ?_ _ | with_reducible refine Ext.drew ?_ | (with_reducible refine Ext.setCell ?_ (by first | exact Nat.le_refl _ | (dsimp only; omega) | (simp; done) | (simp; omega)) _) | with_reducible refine Ext.trans ?_ (by with_reducible assumption)))⟩

set_option maxHeartbeats 1000000 in
set_option maxRecDepth 100000 in
theorem rule_Right3 (p : ByteArray) (e b k : Int) (w : World) (hm : p.size ≤ maxLen) (he0 : 0 ≤ e) (he1 : e < 18446744073709551616) (hb0 : 0 ≤ b) (hb1 : b < 18446744073709551616)
    (H1 : Hid (prefOk p = true)) (H2 : Hid (decide (0 < e) = true)) (H3 : Hid (decide (0 < b) = false)) :
    Calls Tryz.prog 81 #[.agg #[.string p, .int .u64 e, .int .u64 b, .int .u8 k]] w fun x w' => x = .returned (.int .u16 25) ∧ Ext w w' := by
  go_enter Tryz.func81, Tryz.ntmps81
  go_wp2_with (go_at_call 132; refine (rule_asks _).mono ?_; rintro x w0 ⟨rfl, hx0, a0⟩)
  have b0 := (Blk.new w (ruleBox p e b k) 37).ext hx0
  simp only [World.size_alloc] at a0
  refine wp_loop_rounds 6 ?_
  rw [rounds_succ]
  have ac := a0.cell
  have bc := b0.cell
  have al := a0.lt
  have bl := b0.lt
  simp only [askCells, ruleBox] at ac bc
  go_wp2_with fail
  refine (rule_ask1 _ _ _ _ _ hm).mono ?_
  rw [H1.out]
  rintro x w1 ⟨rfl, hx1⟩
  clear ac bc al bl
  have a1 := (a0.alloc _).ext hx1
  have b1 := (b0.alloc _).ext hx1
  go_wp2
  rw [rounds_succ]
  have ac := a1.cell
  have bc := b1.cell
  have al := a1.lt
  have bl := b1.lt
  simp only [askCells, ruleBox] at ac bc
  go_wp2_with fail
  refine (rule_ask2 _ _ _ _ _).mono ?_
  rw [H2.out]
  rintro x w2 ⟨rfl, hx2⟩
  clear ac bc al bl
  have a2 := (a1.alloc _).ext hx2
  have b2 := (b1.alloc _).ext hx2
  go_wp2
  rw [rounds_succ]
  have ac := a2.cell
  have bc := b2.cell
  have al := a2.lt
  have bl := b2.lt
  simp only [askCells, ruleBox] at ac bc
  go_wp2_with fail
  refine (rule_ask3 _ _ _ _ _).mono ?_
  rw [H3.out]
  rintro x w3 ⟨rfl, hx3⟩
  clear ac bc al bl
  have a3 := (a2.alloc _).ext hx3
  have b3 := (b2.alloc _).ext hx3
  have n3 := (Blk.new' w2 #[.func (.func 185) #[] #[], .int .u16 25] 230 rfl).ext hx3
  have nc := n3.cell
  go_wp2
  go_ret
  exact ⟨rfl, (by repeat (first | with_reducible exact Ext.refl _ | with_reducible assumption | with_reducible refine Ext.alloc ?_ _ | with_reducible refine Ext.drew ?_ | (with_reducible refine Ext.setCell ?_ (by first | exact Nat.le_refl _ | (dsimp only; omega) | (simp; done) | (simp; omega)) _) | with_reducible refine Ext.trans ?_ (by with_reducible assumption)))⟩

set_option maxHeartbeats 1000000 in
set_option maxRecDepth 100000 in
theorem rule_Right4 (p : ByteArray) (e b k : Int) (w : World) (hm : p.size ≤ maxLen) (he0 : 0 ≤ e) (he1 : e < 18446744073709551616) (hb0 : 0 ≤ b) (hb1 : b < 18446744073709551616)
    (H1 : Hid (prefOk p = true)) (H2 : Hid (decide (0 < e) = true)) (H3 : Hid (decide (0 < b) = true)) (H4 : Hid (capOk e b = false)) :
    Calls Tryz.prog 81 #[.agg #[.string p, .int .u64 e, .int .u64 b, .int .u8 k]] w fun x w' => x = .returned (.int .u16 26) ∧ Ext w w' := by
  go_enter Tryz.func81, Tryz.ntmps81
  go_wp2_with (go_at_call 132; refine (rule_asks _).mono ?_; rintro x w0 ⟨rfl, hx0, a0⟩)
  have b0 := (Blk.new w (ruleBox p e b k) 37).ext hx0
  simp only [World.size_alloc] at a0
  refine wp_loop_rounds 6 ?_
  rw [rounds_succ]
  have ac := a0.cell
  have bc := b0.cell
  have al := a0.lt
  have bl := b0.lt
  simp only [askCells, ruleBox] at ac bc
  go_wp2_with fail
  refine (rule_ask1 _ _ _ _ _ hm).mono ?_
  rw [H1.out]
  rintro x w1 ⟨rfl, hx1⟩
  clear ac bc al bl
  have a1 := (a0.alloc _).ext hx1
  have b1 := (b0.alloc _).ext hx1
  go_wp2
  rw [rounds_succ]
  have ac := a1.cell
  have bc := b1.cell
  have al := a1.lt
  have bl := b1.lt
  simp only [askCells, ruleBox] at ac bc
  go_wp2_with fail
  refine (rule_ask2 _ _ _ _ _).mono ?_
  rw [H2.out]
  rintro x w2 ⟨rfl, hx2⟩
  clear ac bc al bl
  have a2 := (a1.alloc _).ext hx2
  have b2 := (b1.alloc _).ext hx2
  go_wp2
  rw [rounds_succ]
  have ac := a2.cell
  have bc := b2.cell
  have al := a2.lt
  have bl := b2.lt
  simp only [askCells, ruleBox] at ac bc
  go_wp2_with fail
  refine (rule_ask3 _ _ _ _ _).mono ?_
  rw [H3.out]
  rintro x w3 ⟨rfl, hx3⟩
  clear ac bc al bl
  have a3 := (a2.alloc _).ext hx3
  have b3 := (b2.alloc _).ext hx3
  go_wp2
  rw [rounds_succ]
  have ac := a3.cell
  have bc := b3.cell
  have al := a3.lt
  have bl := b3.lt
  simp only [askCells, ruleBox] at ac bc
  go_wp2_with fail
  refine (rule_ask4 _ _ _ _ _ he0 he1 hb0 hb1).mono ?_
  rw [H4.out]
  rintro x w4 ⟨rfl, hx4⟩
  clear ac bc al bl
  have a4 := (a3.alloc _).ext hx4
  have b4 := (b3.alloc _).ext hx4
  have n4 := (Blk.new' w3 #[.func (.func 186) #[] #[], .int .u16 26] 230 rfl).ext hx4
  have nc := n4.cell
  go_wp2
  go_ret
  exact ⟨rfl, (by repeat (first | with_reducible exact Ext.refl _ | with_reducible assumption | with_reducible refine Ext.alloc ?_ _ | with_reducible refine Ext.drew ?_ | (with_reducible refine Ext.setCell ?_ (by first | exact Nat.le_refl _ | (dsimp only; omega) | (simp; done) | (simp; omega)) _) | with_reducible refine Ext.trans ?_ (by with_reducible assumption)))⟩

set_option maxHeartbeats 1000000 in
set_option maxRecDepth 100000 in
theorem rule_Right5 (p : ByteArray) (e b k : Int) (w : World) (hm : p.size ≤ maxLen) (he0 : 0 ≤ e) (he1 : e < 18446744073709551616) (hb0 : 0 ≤ b) (hb1 : b < 18446744073709551616)
    (H1 : Hid (prefOk p = true)) (H2 : Hid (decide (0 < e) = true)) (H3 : Hid (decide (0 < b) = true)) (H4 : Hid (capOk e b = true)) (H5 : Hid (rightKind k = false)) :
    Calls Tryz.prog 81 #[.agg #[.string p, .int .u64 e, .int .u64 b, .int .u8 k]] w fun x w' => x = .returned (.int .u16 27) ∧ Ext w w' := by
  go_enter Tryz.func81, Tryz.ntmps81
  go_wp2_with (go_at_call 132; refine (rule_asks _).mono ?_; rintro x w0 ⟨rfl, hx0, a0⟩)
  have b0 := (Blk.new w (ruleBox p e b k) 37).ext hx0
  simp only [World.size_alloc] at a0
  refine wp_loop_rounds 6 ?_
  rw [rounds_succ]
  have ac := a0.cell
  have bc := b0.cell
  have al := a0.lt
  have bl := b0.lt
  simp only [askCells, ruleBox] at ac bc
  go_wp2_with fail
  refine (rule_ask1 _ _ _ _ _ hm).mono ?_
  rw [H1.out]
  rintro x w1 ⟨rfl, hx1⟩
  clear ac bc al bl
  have a1 := (a0.alloc _).ext hx1
  have b1 := (b0.alloc _).ext hx1
  go_wp2
  rw [rounds_succ]
  have ac := a1.cell
  have bc := b1.cell
  have al := a1.lt
  have bl := b1.lt
  simp only [askCells, ruleBox] at ac bc
  go_wp2_with fail
  refine (rule_ask2 _ _ _ _ _).mono ?_
  rw [H2.out]
  rintro x w2 ⟨rfl, hx2⟩
  clear ac bc al bl
  have a2 := (a1.alloc _).ext hx2
  have b2 := (b1.alloc _).ext hx2
  go_wp2
  rw [rounds_succ]
  have ac := a2.cell
  have bc := b2.cell
  have al := a2.lt
  have bl := b2.lt
  simp only [askCells, ruleBox] at ac bc
  go_wp2_with fail
  refine (rule_ask3 _ _ _ _ _).mono ?_
  rw [H3.out]
  rintro x w3 ⟨rfl, hx3⟩
  clear ac bc al bl
  have a3 := (a2.alloc _).ext hx3
  have b3 := (b2.alloc _).ext hx3
  go_wp2
  rw [rounds_succ]
  have ac := a3.cell
  have bc := b3.cell
  have al := a3.lt
  have bl := b3.lt
  simp only [askCells, ruleBox] at ac bc
  go_wp2_with fail
  refine (rule_ask4 _ _ _ _ _ he0 he1 hb0 hb1).mono ?_
  rw [H4.out]
  rintro x w4 ⟨rfl, hx4⟩
  clear ac bc al bl
  have a4 := (a3.alloc _).ext hx4
  have b4 := (b3.alloc _).ext hx4
  go_wp2
  rw [rounds_succ]
  have ac := a4.cell
  have bc := b4.cell
  have al := a4.lt
  have bl := b4.lt
  simp only [askCells, ruleBox] at ac bc
  go_wp2_with fail
  refine (rule_ask5 _ _ _ _ _).mono ?_
  rw [H5.out]
  rintro x w5 ⟨rfl, hx5⟩
  clear ac bc al bl
  have a5 := (a4.alloc _).ext hx5
  have b5 := (b4.alloc _).ext hx5
  have n5 := (Blk.new' w4 #[.func (.func 187) #[] #[], .int .u16 27] 230 rfl).ext hx5
  have nc := n5.cell
  go_wp2
  go_ret
  exact ⟨rfl, (by repeat (first | with_reducible exact Ext.refl _ | with_reducible assumption | with_reducible refine Ext.alloc ?_ _ | with_reducible refine Ext.drew ?_ | (with_reducible refine Ext.setCell ?_ (by first | exact Nat.le_refl _ | (dsimp only; omega) | (simp; done) | (simp; omega)) _) | with_reducible refine Ext.trans ?_ (by with_reducible assumption)))⟩

set_option maxHeartbeats 1000000 in
set_option maxRecDepth 100000 in
theorem rule_Right6 (p : ByteArray) (e b k : Int) (w : World) (hm : p.size ≤ maxLen) (he0 : 0 ≤ e) (he1 : e < 18446744073709551616) (hb0 : 0 ≤ b) (hb1 : b < 18446744073709551616)
    (H1 : Hid (prefOk p = true)) (H2 : Hid (decide (0 < e) = true)) (H3 : Hid (decide (0 < b) = true)) (H4 : Hid (capOk e b = true)) (H5 : Hid (rightKind k = true)) :
    Calls Tryz.prog 81 #[.agg #[.string p, .int .u64 e, .int .u64 b, .int .u8 k]] w fun x w' => x = .returned (.int .u16 0) ∧ Ext w w' := by
  go_enter Tryz.func81, Tryz.ntmps81
  go_wp2_with (go_at_call 132; refine (rule_asks _).mono ?_; rintro x w0 ⟨rfl, hx0, a0⟩)
  have b0 := (Blk.new w (ruleBox p e b k) 37).ext hx0
  simp only [World.size_alloc] at a0
  refine wp_loop_rounds 6 ?_
  rw [rounds_succ]
  have ac := a0.cell
  have bc := b0.cell
  have al := a0.lt
  have bl := b0.lt
  simp only [askCells, ruleBox] at ac bc
  go_wp2_with fail
  refine (rule_ask1 _ _ _ _ _ hm).mono ?_
  rw [H1.out]
  rintro x w1 ⟨rfl, hx1⟩
  clear ac bc al bl
  have a1 := (a0.alloc _).ext hx1
  have b1 := (b0.alloc _).ext hx1
  go_wp2
  rw [rounds_succ]
  have ac := a1.cell
  have bc := b1.cell
  have al := a1.lt
  have bl := b1.lt
  simp only [askCells, ruleBox] at ac bc
  go_wp2_with fail
  refine (rule_ask2 _ _ _ _ _).mono ?_
  rw [H2.out]
  rintro x w2 ⟨rfl, hx2⟩
  clear ac bc al bl
  have a2 := (a1.alloc _).ext hx2
  have b2 := (b1.alloc _).ext hx2
  go_wp2
  rw [rounds_succ]
  have ac := a2.cell
  have bc := b2.cell
  have al := a2.lt
  have bl := b2.lt
  simp only [askCells, ruleBox] at ac bc
  go_wp2_with fail
  refine (rule_ask3 _ _ _ _ _).mono ?_
  rw [H3.out]
  rintro x w3 ⟨rfl, hx3⟩
  clear ac bc al bl
  have a3 := (a2.alloc _).ext hx3
  have b3 := (b2.alloc _).ext hx3
  go_wp2
  rw [rounds_succ]
  have ac := a3.cell
  have bc := b3.cell
  have al := a3.lt
  have bl := b3.lt
  simp only [askCells, ruleBox] at ac bc
  go_wp2_with fail
  refine (rule_ask4 _ _ _ _ _ he0 he1 hb0 hb1).mono ?_
  rw [H4.out]
  rintro x w4 ⟨rfl, hx4⟩
  clear ac bc al bl
  have a4 := (a3.alloc _).ext hx4
  have b4 := (b3.alloc _).ext hx4
  go_wp2
  rw [rounds_succ]
  have ac := a4.cell
  have bc := b4.cell
  have al := a4.lt
  have bl := b4.lt
  simp only [askCells, ruleBox] at ac bc
  go_wp2_with fail
  refine (rule_ask5 _ _ _ _ _).mono ?_
  rw [H5.out]
  rintro x w5 ⟨rfl, hx5⟩
  clear ac bc al bl
  have a5 := (a4.alloc _).ext hx5
  have b5 := (b4.alloc _).ext hx5
  go_wp2
  rw [rounds_succ]
  go_wp2
  go_ret
  exact ⟨rfl, (by repeat (first | with_reducible exact Ext.refl _ | with_reducible assumption | with_reducible refine Ext.alloc ?_ _ | with_reducible refine Ext.drew ?_ | (with_reducible refine Ext.setCell ?_ (by first | exact Nat.le_refl _ | (dsimp only; omega) | (simp; done) | (simp; omega)) _) | with_reducible refine Ext.trans ?_ (by with_reducible assumption)))⟩

theorem rule_Right (p : ByteArray) (e b k : Int) (w : World) (hm : p.size ≤ maxLen) (he0 : 0 ≤ e) (he1 : e < 18446744073709551616) (hb0 : 0 ≤ b) (hb1 : b < 18446744073709551616) :
    Calls Tryz.prog 81 #[.agg #[.string p, .int .u64 e, .int .u64 b, .int .u8 k]] w fun x w' => x = .returned (.int .u16 (ruleErr p e b k)) ∧ Ext w w' := by
  unfold ruleErr
  by_cases h1 : prefOk p = false
  · rw [if_pos h1]; exact rule_Right1 p e b k w hm he0 he1 hb0 hb1 (Lib.hid h1)
  rw [if_neg h1]
  have H1 := Lib.hid (by simpa using h1 : prefOk p = true)
  by_cases h2 : 0 < e
  · rw [if_neg (by simpa using h2)]
    have H2 := Lib.hid (decide_eq_true h2)
    by_cases h3 : 0 < b
    · rw [if_neg (by simpa using h3)]
      have H3 := Lib.hid (decide_eq_true h3)
      by_cases h4 : capOk e b = false
      · rw [if_pos h4]; exact rule_Right4 p e b k w hm he0 he1 hb0 hb1 H1 H2 H3 (Lib.hid h4)
      rw [if_neg h4]
      have H4 := Lib.hid (by simpa using h4 : capOk e b = true)
      by_cases h5 : rightKind k = false
      · rw [if_pos h5]; exact rule_Right5 p e b k w hm he0 he1 hb0 hb1 H1 H2 H3 H4 (Lib.hid h5)
      · rw [if_neg h5]; exact rule_Right6 p e b k w hm he0 he1 hb0 hb1 H1 H2 H3 H4 (Lib.hid (by simpa using h5))
    · rw [if_pos h3]; exact rule_Right3 p e b k w hm he0 he1 hb0 hb1 H1 H2 (Lib.hid (decide_eq_false h3))
  · rw [if_pos h2]; exact rule_Right2 p e b k w hm he0 he1 hb0 hb1 H1 (Lib.hid (decide_eq_false h2))
end Go.Proofs.YtknlojlcahgnoaaGreat

namespace Go.Proofs.YtknlojlcahgnoaaGreat
open Go.RowKit
set_option linter.unusedVariables false
set_option linter.unusedSimpArgs false

def ruleCap (p : ByteArray) (e b k : Int) : Int := if ruleErr p e b k = 0 then e * b else 0

theorem capOk_lt {e b : Int} (h : capOk e b = true) : e * b ≤ 4611686018427387904 := by
  unfold capOk satMul at h
  split at h <;> simp at h
  omega
theorem ruleErr_zero {p : ByteArray} {e b k : Int} (h : ruleErr p e b k = 0) : prefOk p = true ∧ 0 < e ∧ 0 < b ∧ capOk e b = true ∧ rightKind k = true := by
  unfold ruleErr at h
  by_cases h1 : prefOk p = false
  · rw [if_pos h1] at h; omega
  rw [if_neg h1] at h
  by_cases h2 : ¬ 0 < e
  · rw [if_pos h2] at h; omega
  rw [if_neg h2] at h
  by_cases h3 : ¬ 0 < b
  · rw [if_pos h3] at h; omega
  rw [if_neg h3] at h
  by_cases h4 : capOk e b = false
  · rw [if_pos h4] at h; omega
  rw [if_neg h4] at h
  by_cases h5 : rightKind k = false
  · rw [if_pos h5] at h; omega
  simp at h1 h4 h5
  exact ⟨h1, by omega, by omega, h4, h5⟩

theorem rule_Cap (p : ByteArray) (e b k : Int) (w : World) (hm : p.size ≤ maxLen) (he0 : 0 ≤ e) (he1 : e < 18446744073709551616) (hb0 : 0 ≤ b) (hb1 : b < 18446744073709551616) :
    Calls Tryz.prog 69 #[.agg #[.string p, .int .u64 e, .int .u64 b, .int .u8 k]] w fun x w' => x = .returned (.int .u64 (ruleCap p e b k)) ∧ Ext w w' := by
  generalize hE : ruleErr p e b k = E
  have HE := Lib.hid hE
  by_cases h : E = 0
  · have H := Lib.hid (show ruleCap p e b k = e * b by simp [ruleCap, hE, h])
    subst h
    have hc := capOk_lt (ruleErr_zero hE).2.2.2.1
    have hp : 0 ≤ e * b := Int.mul_nonneg he0 hb0
    have hw : IntKind.u64.wrap (e * b) = e * b := by rw [wrap_u64]; omega
    have HW := Lib.hid hw
    clear hE hw hc
    go_enter Tryz.func69, Tryz.ntmps69
    go_wp2_with fail
    refine (rule_Right _ _ _ _ _ hm he0 he1 hb0 hb1).mono ?_
    rw [HE.out]
    rintro x w1 ⟨rfl, hx⟩
    have b0 := (Blk.new w (ruleBox p e b k) 37).ext hx
    have bc := b0.cell
    simp only [ruleBox] at bc
    go_wp2
    go_ret
    exact ⟨ret_int (by rw [H.out]; exact HW.out), (by repeat (first | with_reducible exact Ext.refl _ | with_reducible assumption | with_reducible refine Ext.alloc ?_ _ | with_reducible refine Ext.drew ?_ | (with_reducible refine Ext.setCell ?_ (by first | exact Nat.le_refl _ | (dsimp only; omega) | (simp; done) | (simp; omega)) _) | with_reducible refine Ext.trans ?_ (by with_reducible assumption)))⟩
  · have H := Lib.hid (show ruleCap p e b k = 0 by simp [ruleCap, hE, h])
    have hE' : (E != 0) = true := by rw [bne_iff_ne]; exact h
    clear hE h
    go_enter Tryz.func69, Tryz.ntmps69
    go_wp2_with fail
    refine (rule_Right _ _ _ _ _ hm he0 he1 hb0 hb1).mono ?_
    rw [HE.out]
    rintro x w1 ⟨rfl, hx⟩
    go_wp2
    go_ret
    exact ⟨ret_int H.out.symm, (by repeat (first | with_reducible exact Ext.refl _ | with_reducible assumption | with_reducible refine Ext.alloc ?_ _ | with_reducible refine Ext.drew ?_ | (with_reducible refine Ext.setCell ?_ (by first | exact Nat.le_refl _ | (dsimp only; omega) | (simp; done) | (simp; omega)) _) | with_reducible refine Ext.trans ?_ (by with_reducible assumption)))⟩

/-- the first place of a text in a list, or -1 -/
def sIdx (l : List ByteArray) (s : ByteArray) : Int := match l with
  | [] => -1
  | x :: r => if (s.toList == x.toList) = true then 0 else if sIdx r s < 0 then -1 else sIdx r s + 1
def nmG : ByteArray := ⟨#[103, 99, 114, 97]⟩
def nmB : ByteArray := ⟨#[98, 117, 99, 107, 101, 116]⟩
def nmL : ByteArray := ⟨#[108, 101, 97, 107, 121]⟩
def kindOf (s : ByteArray) : Int := sIdx [nmG, nmB, nmL] s + 1

def nameOf (k : Int) : ByteArray := if k = 1 then nmG else if k = 2 then nmB else if k = 3 then nmL else ⟨#[]⟩

end Go.Proofs.YtknlojlcahgnoaaGreat
