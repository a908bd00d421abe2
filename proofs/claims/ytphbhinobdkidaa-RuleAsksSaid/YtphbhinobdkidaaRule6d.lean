/- Walks: rule.Parse, Rule6d. -/
import Derived.Test.YtphbhinobdkidaaRule6
namespace Go.Proofs.Ytphbhinobdkidaa
open Go.RowKit
set_option linter.unusedVariables false
set_option linter.unusedSimpArgs false

set_option maxHeartbeats 1000000 in
set_option maxRecDepth 100000 in
theorem rule_Parse_deflen (b o n c : Nat) (w : World) (hn : 1 ≤ n) (hnm : n ≤ maxLen) (c0 : w.cell? ⟨b, o, none⟩ = some (.string wDef)) (hlen : n ≠ 4) :
    Calls Try.prog 16 #[.slice (some ⟨b, o, none⟩) n c] w fun x w' => x = .returned (parseBad 22 0) ∧ Ext w w' := by
  unfold maxLen at hnm
  have hn0 : ((n : Int) == 0) = false := by rw [beq_eq_false_iff_ne]; omega
  have hn4 : ((n : Int) != 4) = true := by rw [bne_iff_ne]; omega
  clear hlen
  go_enter Try.func16, Try.ntmps16
  go_wp2_with fail
  refine (rule_number_every _ _).mono ?_
  rintro x w1 ⟨rfl, hx1, bf, bn⟩
  have br := (Blk.new w zeroBox 25).ext hx1
  simp only [World.size_alloc] at bf bn
  have hx0 : Ext w w1 := ((Ext.refl w).alloc _).trans hx1
  obtain ⟨w2, w3, u1, u2, hmap, hx3, bd, bl⟩ := parts_map (w.heap.size + 1) w1
  simp only [defParts, ruleParts, numClo] at u1 u2
  have hmm := @run_makeMap Try.prog
  have hw := hx0.sz
  have hnn : w1.heap.size < w3.heap.size := lt_of_block hmap
  have k0 := (hx0.trans hx3).keep c0
  have hbl := cell_lt k0
  have L := (run_lookup_yes (P := Try.prog) Try.underlying69 Try.underlying9 (key := .string wDef) trivial hmap (i := 0) (v := .slice (some ⟨w1.heap.size + 1, 0, none⟩) 3 3) (by kernel_rfl)).2
  simp only [wDef] at L k0
  have brr := br.ext hx3
  have cr := brr.cell
  have fr := brr.free
  simp only [zeroBox, ruleBox] at cr
  have nl := parts_nil
  have ex0 := hx0.trans hx3
  clear hmap bd bl bf bn br brr c0
  go_wp2
  exact bodyPost_ret (v := parseBad 22 0) (by simp [results, Try.results16, go_sem, parseBad, parseRet, cr]) rfl ⟨rfl, (by repeat (first | with_reducible exact Ext.refl _ | with_reducible assumption | with_reducible refine Ext.alloc ?_ _ | with_reducible refine Ext.drew ?_ | with_reducible refine Ext.setCell ?_ (by simp; try omega) _ | with_reducible refine Ext.trans ?_ (by with_reducible assumption)))⟩

set_option maxHeartbeats 1000000 in
set_option maxRecDepth 100000 in
theorem rule_Parse_rulelen (b o n c : Nat) (w : World) (hn : 1 ≤ n) (hnm : n ≤ maxLen) (c0 : w.cell? ⟨b, o, none⟩ = some (.string wRule)) (hlen : n ≠ 5) :
    Calls Try.prog 16 #[.slice (some ⟨b, o, none⟩) n c] w fun x w' => x = .returned (parseBad 22 0) ∧ Ext w w' := by
  unfold maxLen at hnm
  have hn0 : ((n : Int) == 0) = false := by rw [beq_eq_false_iff_ne]; omega
  have hn4 : ((n : Int) != 5) = true := by rw [bne_iff_ne]; omega
  clear hlen
  go_enter Try.func16, Try.ntmps16
  go_wp2_with fail
  refine (rule_number_every _ _).mono ?_
  rintro x w1 ⟨rfl, hx1, bf, bn⟩
  have br := (Blk.new w zeroBox 25).ext hx1
  simp only [World.size_alloc] at bf bn
  have hx0 : Ext w w1 := ((Ext.refl w).alloc _).trans hx1
  obtain ⟨w2, w3, u1, u2, hmap, hx3, bd, bl⟩ := parts_map (w.heap.size + 1) w1
  simp only [defParts, ruleParts, numClo] at u1 u2
  have hmm := @run_makeMap Try.prog
  have hw := hx0.sz
  have hnn : w1.heap.size < w3.heap.size := lt_of_block hmap
  have k0 := (hx0.trans hx3).keep c0
  have hbl := cell_lt k0
  have L := (run_lookup_yes (P := Try.prog) Try.underlying69 Try.underlying9 (key := .string wRule) trivial hmap (i := 1) (v := .slice (some ⟨w2.heap.size, 0, none⟩) 4 4) (by kernel_rfl)).2
  simp only [wRule] at L k0
  have brr := br.ext hx3
  have cr := brr.cell
  have fr := brr.free
  simp only [zeroBox, ruleBox] at cr
  have nl := parts_nil
  have ex0 := hx0.trans hx3
  clear hmap bd bl bf bn br brr c0
  go_wp2
  exact bodyPost_ret (v := parseBad 22 0) (by simp [results, Try.results16, go_sem, parseBad, parseRet, cr]) rfl ⟨rfl, (by repeat (first | with_reducible exact Ext.refl _ | with_reducible assumption | with_reducible refine Ext.alloc ?_ _ | with_reducible refine Ext.drew ?_ | with_reducible refine Ext.setCell ?_ (by simp; try omega) _ | with_reducible refine Ext.trans ?_ (by with_reducible assumption)))⟩

end Go.Proofs.Ytphbhinobdkidaa
