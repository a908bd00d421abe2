/- Walks: tollerlaw14.known. -/
import Derived.Test.YtnlmbmbalmkiiaaChG
namespace Go.Proofs.Ytnlmbmbalmkiiaa
open Go.RowKit
set_option linter.unusedVariables false
set_option linter.unusedSimpArgs false

set_option maxHeartbeats 1000000 in
set_option maxRecDepth 100000 in
theorem law14_known (w : World) :
    Calls Try.prog 9 #[] w fun x w' => x = .returned (.bool true) ∧ Ext w w' := by
  go_enter Try.func9, Try.ntmps9
  go_wp2_with fail
  refine (table_New 1 w (by decide) (by decide)).mono ?_
  rw [kn_most]
  rintro x w1 ⟨rfl, ht1, hx1⟩
  have HT1 := Lib.hid ht1
  have hsz := ht1.blk.lt
  clear ht1
  go_wp2_with fail
  have hxr := (Ext.refl w1).alloc (.cells #[.string ⟨#[]⟩, .int .u64 10, .int .u64 2, .int .u8 1] 30)
  have br := Blk.new w1 #[.string ⟨#[]⟩, .int .u64 10, .int .u64 2, .int .u8 1] 30
  refine (charge_any (w.heap.size + 1) w.heap.size 0 ⟨#[97]⟩ ⟨#[]⟩ 1 0 10 2 1 2 [] _ (HT1.out.ext hxr) (TabOk.nil 0) (by decide) (by decide) (by decide) (by decide) (by decide) (by decide) (by decide) (by decide) (by decide) (by decide) (by decide) (by decide)).mono ?_
  rw [kn_v1, kn_l1, kn_c1]
  rintro x w2 ⟨rfl, ht2, hok2, hx2⟩
  have hxr2 : ExtB w.heap.size w1 w2 := (hxr.toB _).trans hx2
  have br2 := br.extB hx2 (by omega)
  have HT2 := Lib.hid ht2
  have hok2' := Lib.hid hok2
  have hs2 := hx2.size
  have hs1 := hxr.sz
  have hcr := br2.cell
  have hbl := br2.lt
  clear ht2 hok2
  simp only [ansV, ansC]
  go_wp2_with fail
  have hxa := (Ext.refl w2).alloc (.cells (ansC 1 0 2 0 1 0 0 false) 36)
  have ba := Blk.new w2 (ansC 1 0 2 0 1 0 0 false) 36
  refine (charge_any (w.heap.size + 1) w.heap.size 1 ⟨#[98]⟩ ⟨#[]⟩ 1 0 10 2 1 1 kn_l _ (HT2.out.ext hxa) hok2'.out (by decide) (by decide) (by decide) (by decide) (by decide) (by decide) (by decide) (by decide) (by decide) (by decide) (by decide) (by decide)).mono ?_
  rw [kn_v2]
  rintro x w3 ⟨rfl, -, -, hx3⟩
  have ba3 := ba.extB hx3 (by omega)
  have hca := ba3.cell
  have hal := ba3.lt
  simp only [ansC] at hca
  simp only [ansV, ansC]
  go_wp2
  go_ret
  have hfin : Ext w (w3.alloc (.cells (ansC 3 0 2 0 0 0 0 false) 36)) := ((hx1.own (hxr2.trans ((hxa.toB _).trans hx3)) (Nat.le_refl _))).alloc _
  exact ⟨rfl, hfin⟩
end Go.Proofs.Ytnlmbmbalmkiiaa
