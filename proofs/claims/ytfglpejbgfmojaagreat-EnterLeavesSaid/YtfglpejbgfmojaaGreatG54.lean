/- Walk: tollerlaw17.EnterLeaves. -/
import Derived.Test.YtfglpejbgfmojaaGreatG51
import Derived.Test.YtfglpejbgfmojaaGreatG53

/- Walk: tollerlaw17.EnterLeaves. -/
namespace Go.Proofs.YtfglpejbgfmojaaGreat
open Go.RowKit
set_option linter.unusedVariables false
set_option linter.unusedSimpArgs false

set_option maxHeartbeats 2000000 in
set_option maxRecDepth 100000 in
theorem enterLeaves_walk (q : Int) (v : Value) (ds : List Deed) (w : World) (hq0 : 0 ≤ q) (hq1 : q < 256) (hv : DeedSlice w v ds) :
    Calls Tryz.prog 9 #[.int .u8 q, v] w fun x w' => x = .returned (.bool true) ∧ Ext w w' := by
  have HV := Lib.hid hv
  obtain ⟨a, c, rfl, -⟩ := hv.form
  clear hv
  go_enter Tryz.func9, Tryz.ntmps9
  go_wp2_with fail
  refine (law14_Heavy _ ds _ HV.out).mono ?_
  rintro x w1 ⟨⟨n, rfl⟩, hx1⟩
  by_cases hn : 400 < n
  · go_wp2_with fail
    refine (law17_known _).mono ?_
    rintro x w2 ⟨rfl, hx2⟩
    go_wp2
    go_ret
    exact ⟨rfl, hx1.trans hx2⟩
  go_wp2_with fail
  refine (law17_known _).mono ?_
  rintro x w2 ⟨rfl, hx2⟩
  have hx12 := hx1.trans hx2
  go_wp2_with fail
  refine (law15_Both q _ ds _ (HV.out.ext hx12) hq0 hq1).mono ?_
  rintro x w3 ⟨B, cc, clock, l, v', all, rfl, hB, hrel, hx3⟩
  obtain ⟨a3, c3, rfl⟩ := hrel.row.size
  have hx123 := hx12.trans hx3
  have HX := Lib.hid hx123
  generalize mostOf (1 + q % 9) = most at *
  have hn0 := hrel.n0
  have hn1 := hrel.n1
  have hsl := hrel.rel.slots hrel.ok hrel.n0 hrel.n1
  have hll := hrel.lenL
  have hla := hrel.lenA
  have hL := fun W (hx : Ext w3 W) => enter_Leave (w2.heap.size + 1 + 1) (w2.heap.size + 1) cc most clock l W (hrel.tab.ext hx) hrel.ok hn0 hn1 (by omega)
  have hR := fun W (hx : Ext w3 W) => ref17_Leave most clock (.slice a3 all.length c3) all W (hrel.row.slots.ext hx) hrel.rel.ok hn0 hn1 (by omega)
  unfold entsOf at hL
  rw [hsl] at hL
  generalize hzs : (rSlots clock all).map (entOf clock) = zs at *
  have HL := Lib.hid hL
  have HR := Lib.hid hR
  clear hL hR hrel hsl hzs
  go_upto_region 4 with fail
  have bG := Blk.new w3 #[.int .i64 most, .int .u64 clock, .slice a3 all.length c3] 42
  have hxG : Ext w3 (w3.alloc (.cells #[.int .i64 most, .int .u64 clock, .slice a3 all.length c3] 42)) := (Ext.refl w3).alloc _
  generalize w3.alloc (.cells #[.int .i64 most, .int .u64 clock, .slice a3 all.length c3] 42) = w4 at *
  generalize hg : w3.heap.size = g at *
  have e0 : w4.cell? ⟨g, 0, none⟩ = some (.int .i64 most) := bG.cell 0
  have e1 : w4.cell? ⟨g, 1, none⟩ = some (.int .u64 clock) := bG.cell 1
  have e2 : w4.cell? ⟨g, 2, none⟩ = some (.slice a3 all.length c3) := bG.cell 2
  clear bG
  go_region_held3 (fun w' => w'.cell? ⟨g, 0, none⟩ = some (.int .i64 most) ∧ w'.cell? ⟨g, 1, none⟩ = some (.int .u64 clock) ∧ w'.cell? ⟨g, 2, none⟩ = some (.slice a3 all.length c3) ∧ Ext w4 w')
    (((try go_split_ands); refine ⟨?_, ?_, ?_, ?_⟩ <;> first | with_reducible assumption | exact (Ext.refl _).drew | ((repeat (first | with_reducible exact Ext.refl _ | with_reducible assumption | with_reducible refine Ext.alloc ?_ _ | with_reducible refine Ext.drew ?_ | (with_reducible refine Ext.setCell ?_ (by first | exact Nat.le_refl _ | (dsimp only; omega) | (simp; done) | (simp; omega)) _) | with_reducible refine Ext.trans ?_ (by with_reducible assumption))); done) | (refine Ext.keep (w := w4) (by repeat (first | with_reducible exact Ext.refl _ | with_reducible assumption | with_reducible refine Ext.alloc ?_ _ | with_reducible refine Ext.drew ?_ | (with_reducible refine Ext.setCell ?_ (by first | exact Nat.le_refl _ | (dsimp only; omega) | (simp; done) | (simp; omega)) _) | with_reducible refine Ext.trans ?_ (by with_reducible assumption))) ?_; with_reducible assumption)))
    (first
      | (go_at_call 27; (with_reducible refine (HL.out _ (Ext.trans hxG (by repeat (first | with_reducible exact Ext.refl _ | with_reducible assumption | with_reducible refine Ext.alloc ?_ _ | with_reducible refine Ext.drew ?_ | (with_reducible refine Ext.setCell ?_ (by first | exact Nat.le_refl _ | (dsimp only; omega) | (simp; done) | (simp; omega)) _) | with_reducible refine Ext.trans ?_ (by with_reducible assumption))))).mono ?_); rintro x w5 ⟨v5, rfl, hr5, hx5⟩; obtain ⟨a5, c5, rfl⟩ := hr5.size)
      | (go_at_call 28; (with_reducible refine (HR.out _ (Ext.trans hxG (by repeat (first | with_reducible exact Ext.refl _ | with_reducible assumption | with_reducible refine Ext.alloc ?_ _ | with_reducible refine Ext.drew ?_ | (with_reducible refine Ext.setCell ?_ (by first | exact Nat.le_refl _ | (dsimp only; omega) | (simp; done) | (simp; omega)) _) | with_reducible refine Ext.trans ?_ (by with_reducible assumption))))).mono ?_); rintro x w6 ⟨b6, v6, rfl, hr6, hx6⟩; obtain ⟨a6, c6, rfl⟩ := hr6.size)
      | (go_at_call 26; (with_reducible refine (ref16_Same_yes _ _ clock _ _ zs _ (hr5.ext (by repeat (first | with_reducible exact Ext.refl _ | with_reducible assumption | with_reducible refine Ext.alloc ?_ _ | with_reducible refine Ext.drew ?_ | (with_reducible refine Ext.setCell ?_ (by first | exact Nat.le_refl _ | (dsimp only; omega) | (simp; done) | (simp; omega)) _) | with_reducible refine Ext.trans ?_ (by with_reducible assumption)))) hr6).mono ?_); rintro x w7 ⟨rfl, hx7⟩))
  have hxf : Ext w4 w7 := (by repeat (first | with_reducible exact Ext.refl _ | with_reducible assumption | with_reducible refine Ext.alloc ?_ _ | with_reducible refine Ext.drew ?_ | (with_reducible refine Ext.setCell ?_ (by first | exact Nat.le_refl _ | (dsimp only; omega) | (simp; done) | (simp; omega)) _) | with_reducible refine Ext.trans ?_ (by with_reducible assumption)))
  go_wp2
  go_ret
  exact ⟨rfl, HX.out.trans (hxG.trans hxf)⟩
end Go.Proofs.YtfglpejbgfmojaaGreat
