/- Walks: config.Right and enter.Right of no policy; tollerlaw17.known. -/
import Derived.Test.YtknlojlcahgnoaaGreatEb43

namespace Go.Proofs.YtknlojlcahgnoaaGreat
open Go.RowKit
set_option linter.unusedVariables false
set_option linter.unusedSimpArgs false

set_option maxHeartbeats 1000000 in
set_option maxRecDepth 100000 in
theorem config_Right0 (w : World) : Calls Tryz.prog 35 #[.agg #[.int .i64 0, .slice none 0 0]] w fun x w' => x = .returned (.int .u16 29) ∧ Ext w w' := by
  go_enter Tryz.func35, Tryz.ntmps35
  go_wp2
  go_ret
  exact ⟨rfl, (by repeat (first | with_reducible exact Ext.refl _ | with_reducible assumption | with_reducible refine Ext.alloc ?_ _ | with_reducible refine Ext.drew ?_ | (with_reducible refine Ext.setCell ?_ (by first | exact Nat.le_refl _ | (dsimp only; omega) | (simp; done) | (simp; omega)) _) | with_reducible refine Ext.trans ?_ (by with_reducible assumption)))⟩

set_option maxHeartbeats 1000000 in
set_option maxRecDepth 100000 in
theorem enter_Right0 (clock : Int) (a : Option Addr) (n cp : Nat) (w : World) :
    Calls Tryz.prog 30 #[.agg #[.int .i64 0, .slice none 0 0], .agg #[.int .u64 clock, .slice a n cp]] w fun x w' => x = .returned (.int .u16 29) ∧ Ext w w' := by
  go_enter Tryz.func30, Tryz.ntmps30
  go_wp2_with fail
  refine (config_Right0 _).mono ?_
  rintro x w1 ⟨rfl, hx1⟩
  go_wp2
  go_ret
  exact ⟨rfl, (by repeat (first | with_reducible exact Ext.refl _ | with_reducible assumption | with_reducible refine Ext.alloc ?_ _ | with_reducible refine Ext.drew ?_ | (with_reducible refine Ext.setCell ?_ (by first | exact Nat.le_refl _ | (dsimp only; omega) | (simp; done) | (simp; omega)) _) | with_reducible refine Ext.trans ?_ (by with_reducible assumption)))⟩

def k17_s : Slot := ⟨⟨#[97]⟩, ⟨#[]⟩, 8, 2, 3, 3, 8, 5⟩
def k17_l : SMap := [(k17_s, 0)]
theorem k17_cg : cgL 2 5 [] 0 ⟨#[97]⟩ ⟨#[]⟩ 8 2 3 1 = k17_l := by kernel_rfl
theorem k17_act : actives 5 k17_l = [k17_s] := by kernel_rfl
theorem k17_ents : entsOf 5 k17_l = [⟨⟨#[97]⟩, 13⟩] := by
  unfold entsOf slotsOf
  rw [k17_act, List.mergeSort_singleton]
  kernel_rfl

set_option maxHeartbeats 2000000 in
set_option maxRecDepth 100000 in
theorem law17_known (w : World) :
    Calls Tryz.prog 21 #[] w fun x w' => x = .returned (.bool true) ∧ Ext w w' := by
  go_enter Tryz.func21, Tryz.ntmps21
  go_wp2_with fail
  refine (table_New 2 w (by decide) (by decide)).mono ?_
  rw [show mostOf 2 = 2 from by decide]
  rintro x w1 ⟨rfl, ht1, hx1⟩
  have HT1 := Lib.hid ht1
  have hsz := ht1.blk.lt
  clear ht1
  go_wp2_with fail
  refine (table_Tick (w.heap.size + 1) w.heap.size 0 2 0 5 [] _ HT1.out (by decide) (by decide) (by decide) (by decide)).mono ?_
  rw [show max (0 : Int) 5 = 5 from by decide]
  rintro x w2 ⟨rfl, ht2, hx2⟩
  have HT2 := Lib.hid ht2
  clear ht2
  go_wp2_with fail
  refine (charge_any (w.heap.size + 1) w.heap.size 0 ⟨#[97]⟩ ⟨#[]⟩ 2 5 8 2 3 1 [] _ HT2.out (TabOk.nil 0) (by decide) (by decide) (by decide) (by decide) (by decide) (by decide) (by decide) (by decide) (by decide) (by decide) (by decide) (by decide)).mono ?_
  rw [k17_cg]
  generalize cgC 2 5 [] 0 ⟨#[97]⟩ ⟨#[]⟩ 8 2 3 1 = c3
  generalize cgV 2 5 [] ⟨#[97]⟩ ⟨#[]⟩ 8 2 3 1 = v3
  rintro x w3 ⟨rfl, ht3, hok3, hx3⟩
  have HT3 := Lib.hid ht3
  have HOK3 := Lib.hid hok3
  have hxx : Ext w w3 := hx1.own2 (((hx2.to2t w.heap.size)).trans (hx3.to2m (w.heap.size + 1))) (Nat.le_succ _) (Nat.le_refl _)
  have HX3 := Lib.hid hxx
  clear ht3 hok3 hx2 hx3 hxx hx1
  go_wp2_with fail
  refine (enter_Leave (w.heap.size + 1) w.heap.size c3 2 5 k17_l _ HT3.out HOK3.out (by decide) (by decide) (by decide)).mono ?_
  rw [k17_ents]
  rintro x w4 ⟨v, rfl, hs, hx4⟩
  obtain ⟨b, cp, rfl, hb0, hb1, hcc⟩ := RowOf.cells (enc := Ent.cells) (k := 2) (fun _ => rfl) hs 0 (by decide)
  have d0 : w4.cell? ⟨b, 0, none⟩ = some (.string ⟨#[97]⟩) := hcc 0 (by decide)
  have d1 : w4.cell? ⟨b, 1, none⟩ = some (.int .u64 13) := hcc 1 (by decide)
  clear hcc hs
  simp only [List.length_cons, List.length_nil, Nat.zero_add]
  go_wp2_with fail
  refine (enter_Right0 _ _ _ _ _).mono ?_
  rintro x w5 ⟨rfl, hx5⟩
  go_wp2
  go_ret
  exact ⟨rfl, HX3.out.trans ((hx4.alloc _).trans hx5)⟩
end Go.Proofs.YtknlojlcahgnoaaGreat
