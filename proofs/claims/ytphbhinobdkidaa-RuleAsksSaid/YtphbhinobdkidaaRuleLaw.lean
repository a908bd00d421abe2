/- The walk of tollerlaw11.Rule: a rule of choices. -/
import Derived.Test.YtphbhinobdkidaaKeyLaw
import Derived.Test.YtphbhinobdkidaaRule3
namespace Go.Proofs.Ytphbhinobdkidaa
open Go.RowKit
set_option linter.unusedVariables false
set_option linter.unusedSimpArgs false

def lawPre (l : List UInt8) : ByteArray := if l ≠ [] ∧ 0 < (l.getD 0 0).toNat % 4 then keyText l else ⟨#[]⟩

set_option maxHeartbeats 1000000 in
set_option maxRecDepth 100000 in
theorem law11_Rule (v : Value) (l : List UInt8) (e b k : Int) (w : World) (hv : ByteSlice w v l) (he0 : 0 ≤ e) (he1 : e < 4294967296) (hb0 : 0 ≤ b) (hb1 : b < 65536) (hk0 : 0 ≤ k) (hk1 : k < 256) :
    Calls Try.prog 17 #[v, .int .u32 e, .int .u16 b, .int .u8 k] w fun x w' => x = .returned (.agg #[.string (lawPre l), .int .u64 (1 + e), .int .u64 (1 + b), .int .u8 (1 + k % 3)]) ∧ Ext w w' := by
  have HV := Lib.hid hv
  obtain ⟨⟨a, c, rfl, hl⟩, hlen⟩ := hv
  unfold maxLen at hlen
  by_cases hne : l = []
  · have HP := Lib.hid (show lawPre l = ⟨#[]⟩ by simp [lawPre, hne])
    have h0 : l.length = 0 := by rw [hne]; rfl
    clear hl HV
    rw [h0]
    clear h0 hne hlen
    go_enter Try.func17, Try.ntmps17
    go_wp2
    exact bodyPost_ret (v := .agg #[.string ⟨#[]⟩, .int .u64 (1 + e), .int .u64 (1 + b), .int .u8 (1 + k % 3)]) (by simp [results, Try.results17, go_sem]) rfl ⟨by rw [HP.out], (by repeat (first | with_reducible exact Ext.refl _ | with_reducible assumption | with_reducible refine Ext.alloc ?_ _ | with_reducible refine Ext.drew ?_ | with_reducible refine Ext.setCell ?_ (by simp; try omega) _ | with_reducible refine Ext.trans ?_ (by with_reducible assumption)))⟩
  · obtain ⟨bb, o, rfl, hc⟩ := hl hne
    have hlt : 0 < l.length := List.length_pos_iff.2 hne
    have hcell : w.cell? ⟨bb, o, none⟩ = some (.int .u8 (l[0].toNat : Int)) := hc 0 hlt
    have hblt := cell_lt hcell
    have hg : l.getD 0 0 = l[0] := by rw [List.getD_eq_getElem?_getD, List.getElem?_eq_getElem hlt]; rfl
    have hbd : 0 ≤ (l[0].toNat : Int) ∧ (l[0].toNat : Int) < 256 := ⟨by omega, by have := l[0].toNat_lt; omega⟩
    obtain ⟨d0, d1⟩ := hbd
    by_cases hm : 0 < (l[0].toNat : Int) % 4
    · have HP := Lib.hid (show lawPre l = keyText l by unfold lawPre; rw [hg, if_pos ⟨hne, by omega⟩])
      clear hl hne hc hg
      generalize l[0].toNat = c0 at *
      generalize hn : l.length = n at *
      have HN := Lib.hid hn
      clear hn
      go_enter Try.func17, Try.ntmps17
      go_wp2_with fail
      refine (law09_Key _ l _ (HV.out.ext (by repeat (first | with_reducible exact Ext.refl _ | with_reducible assumption | with_reducible refine Ext.alloc ?_ _ | with_reducible refine Ext.drew ?_ | with_reducible refine Ext.trans ?_ (by with_reducible assumption))))).mono ?_
      rintro x w1 ⟨rfl, hx1⟩
      have r8 := ((Blk.new w (ruleBox ⟨#[]⟩ 0 0 0) 25).alloc (.cells (ruleBox ⟨#[]⟩ (1 + e) (1 + b) (1 + k % 3)) 25)).ext hx1
      have r9 := (Blk.new' (w.alloc (.cells (ruleBox ⟨#[]⟩ 0 0 0) 25)) (ruleBox ⟨#[]⟩ (1 + e) (1 + b) (1 + k % 3)) 25 (b := w.heap.size + 1) (by simp)).ext hx1
      have c8 := r8.cell
      have c9 := r9.cell
      have f8 := r8.free
      have f9 := r9.free
      simp only [ruleBox] at c8 c9
      clear r8 r9
      go_wp2
      exact bodyPost_ret (v := .agg #[.string (keyText l), .int .u64 (1 + e), .int .u64 (1 + b), .int .u8 (1 + k % 3)]) (by simp [results, Try.results17, go_sem, c8, c9]) rfl ⟨by rw [HP.out], (by repeat (first | with_reducible exact Ext.refl _ | with_reducible assumption | with_reducible refine Ext.alloc ?_ _ | with_reducible refine Ext.drew ?_ | with_reducible refine Ext.setCell ?_ (by simp; try omega) _ | with_reducible refine Ext.trans ?_ (by with_reducible assumption)))⟩
    · have HP := Lib.hid (show lawPre l = ⟨#[]⟩ by unfold lawPre; rw [hg, if_neg (by omega)])
      clear hl hne hc hg HV
      generalize l[0].toNat = c0 at *
      generalize l.length = n at *
      go_enter Try.func17, Try.ntmps17
      go_wp2
      exact bodyPost_ret (v := .agg #[.string ⟨#[]⟩, .int .u64 (1 + e), .int .u64 (1 + b), .int .u8 (1 + k % 3)]) (by simp [results, Try.results17, go_sem]) rfl ⟨by rw [HP.out], (by repeat (first | with_reducible exact Ext.refl _ | with_reducible assumption | with_reducible refine Ext.alloc ?_ _ | with_reducible refine Ext.drew ?_ | with_reducible refine Ext.setCell ?_ (by simp; try omega) _ | with_reducible refine Ext.trans ?_ (by with_reducible assumption)))⟩
end Go.Proofs.Ytphbhinobdkidaa
