/- Walk: tollerlaw15.KeepSame. -/
import Derived.Test.YtfglpejbgfmojaaGreatG51

/- Walk: tollerlaw15.KeepSame. -/
namespace Go.Proofs.YtfglpejbgfmojaaGreat
open Go.RowKit
set_option linter.unusedVariables false
set_option linter.unusedSimpArgs false

theorem same_at {e b e' b' : Int} {Z : Bool} (h : (decide (e = e') && decide (b = b')) = Z) (p p' : ByteArray) (k k' : Int) (w : World) :
    Calls Tryz.prog 12 #[.agg #[.string p, .int .u64 e, .int .u64 b, .int .u8 k], .agg #[.string p', .int .u64 e', .int .u64 b', .int .u8 k']] w fun x w' => x = .returned (.bool Z) ∧ Ext w w' := by
  rw [← h]
  exact keep_Same p p' e b k e' b' k' w
theorem up_ne {e : Int} (h0 : 0 ≤ e) (h1 : e < 18446744073709551616) : e ≠ IntKind.u64.wrap (e + 1) := by
  rw [wrap_u64]; omega

set_option maxHeartbeats 2000000 in
set_option maxRecDepth 100000 in
theorem keepSame_walk (p : ByteArray) (e b k : Int) (p2 : ByteArray) (e2 b2 k2 : Int) (q : Int) (w : World) (he0 : 0 ≤ e) (he1 : e < 18446744073709551616) (hb0 : 0 ≤ b) (hb1 : b < 18446744073709551616) (hq0 : 0 ≤ q) (hq1 : q < 256) :
    Calls Tryz.prog 7 #[.agg #[.string p, .int .u64 e, .int .u64 b, .int .u8 k], .agg #[.string p2, .int .u64 e2, .int .u64 b2, .int .u8 k2], .int .u8 q] w fun x w' => x = .returned (.bool true) ∧ Ext w w' := by
  have hq : q.tmod 2 = q % 2 := Int.tmod_eq_emod_of_nonneg hq0
  have hqw : IntKind.u8.wrap (q % 2) = q % 2 := by simp [IntKind.wrap, IntKind.signed, IntKind.bits]; omega
  obtain ⟨Z, hZ⟩ : ∃ Z, (decide (e = e2) && decide (b = b2)) = Z := ⟨_, rfl⟩
  have hZ' : (decide (e2 = e) && decide (b2 = b)) = Z := by rw [← hZ]; simp [eq_comm]
  obtain ⟨d1, d2, hd, hd0, hd1⟩ : ∃ d1 d2 : Int, (decide (e = d1) && decide (b = d2)) = false ∧ (q % 2 = 0 → IntKind.u64.wrap (e + 1) = d1 ∧ b = d2) ∧ (q % 2 ≠ 0 → e = d1 ∧ IntKind.u64.wrap (b + 1) = d2) := by
    by_cases h : q % 2 = 0
    · exact ⟨IntKind.u64.wrap (e + 1), b, by simp [up_ne he0 he1], fun _ => ⟨rfl, rfl⟩, fun n => absurd h n⟩
    · exact ⟨e, IntKind.u64.wrap (b + 1), by simp [up_ne hb0 hb1], fun n => absurd n h, fun _ => ⟨rfl, rfl⟩⟩
  have HAC := Lib.hid (fun W => same_at (e := e) (b := b) (e' := e) (b' := b) (Z := true) (by simp) p p2 k k2 W)
  have HCA := Lib.hid (fun W => same_at (e := e) (b := b) (e' := e) (b' := b) (Z := true) (by simp) p2 p k2 k W)
  have HAD := Lib.hid (fun W => same_at hd p p k k W)
  have HAB := Lib.hid (fun W => same_at hZ p p2 k k2 W)
  have HBA := Lib.hid (fun W => same_at hZ' p2 p k2 k W)
  have hZZ : (Z == Z) = true := by cases Z <;> rfl
  have HD := Lib.hid (And.intro hd0 hd1)
  clear hZ hZ' hd hd0 hd1 he0 he1 hb0 hb1
  have bA := ((Blk.new w #[.string p, .int .u64 e, .int .u64 b, .int .u8 k] 29).alloc (.cells #[.string p2, .int .u64 e2, .int .u64 b2, .int .u8 k2] 29)).alloc (.cells #[.string p, .int .u64 e, .int .u64 b, .int .u8 k] 29)
  have bB := (Blk.new' (w.alloc (.cells #[.string p, .int .u64 e, .int .u64 b, .int .u8 k] 29)) #[.string p2, .int .u64 e2, .int .u64 b2, .int .u8 k2] 29 (b := w.heap.size + 1) (by simp)).alloc (.cells #[.string p, .int .u64 e, .int .u64 b, .int .u8 k] 29)
  have bC := Blk.new' ((w.alloc (.cells #[.string p, .int .u64 e, .int .u64 b, .int .u8 k] 29)).alloc (.cells #[.string p2, .int .u64 e2, .int .u64 b2, .int .u8 k2] 29)) #[.string p, .int .u64 e, .int .u64 b, .int .u8 k] 29 (b := w.heap.size + 1 + 1) (by simp)
  have hx0 : Ext w (((w.alloc (.cells #[.string p, .int .u64 e, .int .u64 b, .int .u8 k] 29)).alloc (.cells #[.string p2, .int .u64 e2, .int .u64 b2, .int .u8 k2] 29)).alloc (.cells #[.string p, .int .u64 e, .int .u64 b, .int .u8 k] 29)) := (((Ext.refl w).alloc _).alloc _).alloc _
  go_enter Tryz.func7, Tryz.ntmps7
  go_upto_region 2 with fail
  generalize ((w.alloc (.cells #[.string p, .int .u64 e, .int .u64 b, .int .u8 k] 29)).alloc (.cells #[.string p2, .int .u64 e2, .int .u64 b2, .int .u8 k2] 29)).alloc (.cells #[.string p, .int .u64 e, .int .u64 b, .int .u8 k] 29) = w1 at *
  generalize hS : w.heap.size = S at *
  have cB := bB.cell
  have cC := bC.cell
  have fC := bC.free
  have lC := bC.lt
  go_upto_region 4 with fail
  have bC2 : Blk ((w1.setCell ⟨S + 1 + 1, 0, none⟩ (.string p2)).setCell ⟨S + 1 + 1, 3, none⟩ (.int .u8 k2)) (S + 1 + 1) #[.string p2, .int .u64 e, .int .u64 b, .int .u8 k2] 29 := (bC.set 0 _).set 3 _
  have bA2 := (bA.other (a := ⟨S + 1 + 1, 0, none⟩) (by dsimp only; omega) (.string p2)).other (a := ⟨S + 1 + 1, 3, none⟩) (by dsimp only; omega) (.int .u8 k2)
  have bB2 := (bB.other (a := ⟨S + 1 + 1, 0, none⟩) (by dsimp only; omega) (.string p2)).other (a := ⟨S + 1 + 1, 3, none⟩) (by dsimp only; omega) (.int .u8 k2)
  have hx2 := (hx0.setCell (p := ⟨S + 1 + 1, 0, none⟩) (by dsimp only; omega) (.string p2)).setCell (p := ⟨S + 1 + 1, 3, none⟩) (by dsimp only; omega) (.int .u8 k2)
  generalize (w1.setCell ⟨S + 1 + 1, 0, none⟩ (.string p2)).setCell ⟨S + 1 + 1, 3, none⟩ (.int .u8 k2) = w2 at *
  clear bA bB bC cB cC fC lC hx0
  have cA := bA2.cell
  have bD := Blk.new w2 #[.string p, .int .u64 e, .int .u64 b, .int .u8 k] 29
  have hxd : Ext w2 (w2.alloc (.cells #[.string p, .int .u64 e, .int .u64 b, .int .u8 k] 29)) := (Ext.refl w2).alloc _
  go_upto_region 5 with fail
  have bA3 := bA2.ext hxd
  have bB3 := bB2.ext hxd
  have bC3 := bC2.ext hxd
  have hx3 := hx2.trans hxd
  have hlC := bC2.lt
  generalize w2.alloc (.cells #[.string p, .int .u64 e, .int .u64 b, .int .u8 k] 29) = w3 at *
  generalize hD : w2.heap.size = D at *
  clear bA2 bB2 bC2 cA hxd hx2
  have cD := bD.cell
  have fD := bD.free
  have lD := bD.lt
  have HA := Lib.hid bA3
  have HB := Lib.hid bB3
  have HC := Lib.hid bC3
  have HX := Lib.hid hx3
  clear bA3 bB3 bC3 hx3
  by_cases h2 : q % 2 = 0
  · obtain ⟨rfl, rfl⟩ := HD.out.1 h2
    go_upto_region 8 with fail
    generalize IntKind.u64.wrap (e + 1) = d1 at *
    have bD4 : Blk (w3.setCell ⟨D, 1, none⟩ (.int .u64 d1)) D #[.string p, .int .u64 d1, .int .u64 b, .int .u8 k] 29 := bD.set 1 _
    have bA4 := HA.out.other (a := ⟨D, 1, none⟩) (by dsimp only; omega) (.int .u64 d1)
    have bB4 := HB.out.other (a := ⟨D, 1, none⟩) (by dsimp only; omega) (.int .u64 d1)
    have bC4 := HC.out.other (a := ⟨D, 1, none⟩) (by dsimp only; omega) (.int .u64 d1)
    have hx4 := HX.out.setCell (p := ⟨D, 1, none⟩) (by dsimp only; omega) (.int .u64 d1)
    generalize w3.setCell ⟨D, 1, none⟩ (.int .u64 d1) = w4 at *
    clear cD fD lD bD
    go_region_held3 (fun w' => (∀ o, w'.cell? ⟨S, o, none⟩ = (#[.string p, .int .u64 e, .int .u64 b, .int .u8 k] : Array Value)[o]?) ∧ (∀ o, w'.cell? ⟨S + 1, o, none⟩ = (#[.string p2, .int .u64 e2, .int .u64 b2, .int .u8 k2] : Array Value)[o]?) ∧ (∀ o, w'.cell? ⟨S + 1 + 1, o, none⟩ = (#[.string p2, .int .u64 e, .int .u64 b, .int .u8 k2] : Array Value)[o]?) ∧ (∀ o, w'.cell? ⟨D, o, none⟩ = (#[.string p, .int .u64 d1, .int .u64 b, .int .u8 k] : Array Value)[o]?) ∧ Ext w4 w')
      (((try go_split_ands); refine ⟨Blk.cell (bA4.ext ?_), Blk.cell (bB4.ext ?_), Blk.cell (bC4.ext ?_), Blk.cell (bD4.ext ?_), ?_⟩ <;> (repeat (first | with_reducible exact Ext.refl _ | with_reducible assumption | with_reducible refine Ext.alloc ?_ _ | with_reducible refine Ext.drew ?_ | (with_reducible refine Ext.setCell ?_ (by first | exact Nat.le_refl _ | (dsimp only; omega) | (simp; done) | (simp; omega)) _) | with_reducible refine Ext.trans ?_ (by with_reducible assumption)))))
      (first
        | (go_at_call 11; (with_reducible refine (law15_known _).mono ?_); rintro x w5 ⟨rfl, hx5⟩)
        | (go_at_call 12; (with_reducible refine (HAC.out _).mono ?_); rintro x w6 ⟨rfl, hx6⟩)
        | (go_at_call 12; (with_reducible refine (HCA.out _).mono ?_); rintro x w7 ⟨rfl, hx7⟩)
        | (go_at_call 12; (with_reducible refine (HAD.out _).mono ?_); rintro x w8 ⟨rfl, hx8⟩)
        | (go_at_call 12; (with_reducible refine (HAB.out _).mono ?_); rintro x w9 ⟨rfl, hx9⟩)
        | (go_at_call 12; (with_reducible refine (HBA.out _).mono ?_); rintro x w10 ⟨rfl, hx10⟩))
    all_goals
      have hxf : Ext w4 w10 := (by repeat (first | with_reducible exact Ext.refl _ | with_reducible assumption | with_reducible refine Ext.alloc ?_ _ | with_reducible refine Ext.drew ?_ | (with_reducible refine Ext.setCell ?_ (by first | exact Nat.le_refl _ | (dsimp only; omega) | (simp; done) | (simp; omega)) _) | with_reducible refine Ext.trans ?_ (by with_reducible assumption)))
      go_wp2
      go_ret
      exact ⟨rfl, hx4.trans hxf⟩
  · obtain ⟨rfl, rfl⟩ := HD.out.2 h2
    go_upto_region 8 with fail
    generalize IntKind.u64.wrap (b + 1) = d2 at *
    have bD4 : Blk (w3.setCell ⟨D, 2, none⟩ (.int .u64 d2)) D #[.string p, .int .u64 e, .int .u64 d2, .int .u8 k] 29 := bD.set 2 _
    have bA4 := HA.out.other (a := ⟨D, 2, none⟩) (by dsimp only; omega) (.int .u64 d2)
    have bB4 := HB.out.other (a := ⟨D, 2, none⟩) (by dsimp only; omega) (.int .u64 d2)
    have bC4 := HC.out.other (a := ⟨D, 2, none⟩) (by dsimp only; omega) (.int .u64 d2)
    have hx4 := HX.out.setCell (p := ⟨D, 2, none⟩) (by dsimp only; omega) (.int .u64 d2)
    generalize w3.setCell ⟨D, 2, none⟩ (.int .u64 d2) = w4 at *
    clear cD fD lD bD
    go_region_held3 (fun w' => (∀ o, w'.cell? ⟨S, o, none⟩ = (#[.string p, .int .u64 e, .int .u64 b, .int .u8 k] : Array Value)[o]?) ∧ (∀ o, w'.cell? ⟨S + 1, o, none⟩ = (#[.string p2, .int .u64 e2, .int .u64 b2, .int .u8 k2] : Array Value)[o]?) ∧ (∀ o, w'.cell? ⟨S + 1 + 1, o, none⟩ = (#[.string p2, .int .u64 e, .int .u64 b, .int .u8 k2] : Array Value)[o]?) ∧ (∀ o, w'.cell? ⟨D, o, none⟩ = (#[.string p, .int .u64 e, .int .u64 d2, .int .u8 k] : Array Value)[o]?) ∧ Ext w4 w')
      (((try go_split_ands); refine ⟨Blk.cell (bA4.ext ?_), Blk.cell (bB4.ext ?_), Blk.cell (bC4.ext ?_), Blk.cell (bD4.ext ?_), ?_⟩ <;> (repeat (first | with_reducible exact Ext.refl _ | with_reducible assumption | with_reducible refine Ext.alloc ?_ _ | with_reducible refine Ext.drew ?_ | (with_reducible refine Ext.setCell ?_ (by first | exact Nat.le_refl _ | (dsimp only; omega) | (simp; done) | (simp; omega)) _) | with_reducible refine Ext.trans ?_ (by with_reducible assumption)))))
      (first
        | (go_at_call 11; (with_reducible refine (law15_known _).mono ?_); rintro x w5 ⟨rfl, hx5⟩)
        | (go_at_call 12; (with_reducible refine (HAC.out _).mono ?_); rintro x w6 ⟨rfl, hx6⟩)
        | (go_at_call 12; (with_reducible refine (HCA.out _).mono ?_); rintro x w7 ⟨rfl, hx7⟩)
        | (go_at_call 12; (with_reducible refine (HAD.out _).mono ?_); rintro x w8 ⟨rfl, hx8⟩)
        | (go_at_call 12; (with_reducible refine (HAB.out _).mono ?_); rintro x w9 ⟨rfl, hx9⟩)
        | (go_at_call 12; (with_reducible refine (HBA.out _).mono ?_); rintro x w10 ⟨rfl, hx10⟩))
    all_goals
      have hxf : Ext w4 w10 := (by repeat (first | with_reducible exact Ext.refl _ | with_reducible assumption | with_reducible refine Ext.alloc ?_ _ | with_reducible refine Ext.drew ?_ | (with_reducible refine Ext.setCell ?_ (by first | exact Nat.le_refl _ | (dsimp only; omega) | (simp; done) | (simp; omega)) _) | with_reducible refine Ext.trans ?_ (by with_reducible assumption)))
      go_wp2
      go_ret
      exact ⟨rfl, hx4.trans hxf⟩
end Go.Proofs.YtfglpejbgfmojaaGreat
