/- Walks: rule.Parse, Rule6b. -/
import Derived.Test.YtphbhinobdkidaaRule6
namespace Go.Proofs.Ytphbhinobdkidaa
open Go.RowKit
set_option linter.unusedVariables false
set_option linter.unusedSimpArgs false

set_option maxHeartbeats 2000000 in
set_option maxRecDepth 100000 in
theorem rule_Parse_rule1 (b o c : Nat) (s1 s2 s3 s4 : ByteArray) (w : World) (c0 : w.cell? ⟨b, o, none⟩ = some (.string wRule)) (c1 : w.cell? ⟨b, o + 1, none⟩ = some (.string s1)) (m1 : s1.size ≤ maxLen) (c2 : w.cell? ⟨b, o + 2, none⟩ = some (.string s2)) (m2 : s2.size ≤ maxLen) (c3 : w.cell? ⟨b, o + 3, none⟩ = some (.string s3)) (m3 : s3.size ≤ maxLen) (c4 : w.cell? ⟨b, o + 4, none⟩ = some (.string s4)) (m4 : s4.size ≤ maxLen)
     (h1 : prefErr s1 ≠ 0) :
    Calls Try.prog 16 #[.slice (some ⟨b, o, none⟩) 5 c] w fun x w' => x = .returned (parseBad (prefErr s1) 1) ∧ Ext w w' := by
  have g1 : ((prefErr s1) != 0) = true := by rw [bne_iff_ne]; exact h1
  obtain ⟨d0, d1⟩ := digNum_bounds s2
  generalize hE1 : prefErr s1 = E1 at *
  have HE1 := Lib.hid hE1
  clear hE1
  clear h1
  go_enter Try.func16, Try.ntmps16
  go_wp2_with fail
  refine (rule_number_every _ _).mono ?_
  rintro x w1 ⟨rfl, hx1, bf, bn⟩
  have br := (Blk.new w zeroBox 25).ext hx1
  simp only [World.size_alloc] at bf bn
  have hx0 : Ext w w1 := ((Ext.refl w).alloc _).trans hx1
  obtain ⟨w2, w3, u1, u2, hmap, hx3, bd, bl⟩ := parts_map (w.heap.size + 1) w1
  simp only [defParts, ruleParts, numClo] at u1 u2
  have hmm := @run_makeMap Try.prog
  have hw := hx0.sz
  have hnn : w1.heap.size < w3.heap.size := lt_of_block hmap
  have x3 := hx0.trans hx3
  have hbl := cell_lt (x3.keep c0)
  have hbw := cell_lt c0
  have k0 := x3.keep c0
  have k1 := x3.keep c1
  have k2 := x3.keep c2
  have k3 := x3.keep c3
  have k4 := x3.keep c4
  clear c0 c1 c2 c3 c4
  have L := (run_lookup_yes (P := Try.prog) Try.underlying69 Try.underlying9 (key := .string wRule) trivial hmap (i := 1) (v := .slice (some ⟨w2.heap.size, 0, none⟩) 4 4) (by kernel_rfl)).2
  simp only [wRule] at L k0
  have nl := parts_nil
  have bp := bl
  have pc := bp.cell
  have pl := bp.lt
  simp only [ruleParts, numClo] at pc
  have r0 := Blk.new w3 zeroBox 25
  have hr0 := (br.ext hx3).alloc (.cells zeroBox 25)
  have f0 := ((bf.ext hx3).alloc (.cells zeroBox 25))
  have n0 := ((bn.ext hx3).alloc (.cells zeroBox 25))
  have F0 := Lib.hid f0
  have N0 := Lib.hid n0
  have R0 := Lib.hid r0
  have RES := Lib.hid hr0
  have BP := Lib.hid bp
  have rlt := br.lt
  have rl2 := bn.lt
  clear hmap bd bl bf bn br hr0 f0 n0 r0 bp
  go_wp2_with fail
  refine wp_loop_rounds 6 ?_
  have ex : Ext w (w3.alloc (.cells zeroBox 25)) := x3.alloc _
  have EX := Lib.hid ex
  have xb := Lib.hid (ExtB.refl w3.heap.size (w3.alloc (.cells zeroBox 25)))
  have P0 := Lib.hid (BP.out.alloc (.cells zeroBox 25))
  have q1 := Lib.hid (Ext.keep ((Ext.refl w3).alloc (.cells zeroBox 25)) k1)
  have q2 := Lib.hid (Ext.keep ((Ext.refl w3).alloc (.cells zeroBox 25)) k2)
  have q3 := Lib.hid (Ext.keep ((Ext.refl w3).alloc (.cells zeroBox 25)) k3)
  have q4 := Lib.hid (Ext.keep ((Ext.refl w3).alloc (.cells zeroBox 25)) k4)
  rw [rounds_succ]
  go_wp2_with fail
  refine (rule_prefix w3.heap.size s1 ⟨#[]⟩ 0 0 0 _ m1 R0.out).mono ?_
  rw [HE1.out]
  rintro x w4 ⟨rfl, rr1, xx1⟩
  have R1 := Lib.hid rr1
  replace xb := Lib.hid (xb.out.trans xx1)
  clear rr1 xx1 pc k0 k1 k2 k3 k4
  have pc := (P0.out.extB xb.out (by omega)).cell
  simp only [ruleParts, numClo] at pc
  have hres := RES.out.extB xb.out (by omega)
  have cr := hres.cell
  have fr := hres.free
  simp only [zeroBox, ruleBox] at cr
  have kk := xb.out.keep q2.out (by show b ≠ w3.heap.size; omega)
  go_wp2
  have exf := EX.out.own xb.out (by omega)
  exact bodyPost_ret (v := parseBad E1 1) (by simp [results, Try.results16, go_sem, parseBad, parseRet, cr]) rfl ⟨rfl, (by repeat (first | with_reducible exact Ext.refl _ | with_reducible assumption | with_reducible refine Ext.alloc ?_ _ | with_reducible refine Ext.drew ?_ | with_reducible refine Ext.setCell ?_ (by simp; try omega) _ | with_reducible refine Ext.trans ?_ (by with_reducible assumption)))⟩

set_option maxHeartbeats 2000000 in
set_option maxRecDepth 100000 in
theorem rule_Parse_rule2 (b o c : Nat) (s1 s2 s3 s4 : ByteArray) (w : World) (c0 : w.cell? ⟨b, o, none⟩ = some (.string wRule)) (c1 : w.cell? ⟨b, o + 1, none⟩ = some (.string s1)) (m1 : s1.size ≤ maxLen) (c2 : w.cell? ⟨b, o + 2, none⟩ = some (.string s2)) (m2 : s2.size ≤ maxLen) (c3 : w.cell? ⟨b, o + 3, none⟩ = some (.string s3)) (m3 : s3.size ≤ maxLen) (c4 : w.cell? ⟨b, o + 4, none⟩ = some (.string s4)) (m4 : s4.size ≤ maxLen)
    (h1 : prefErr s1 = 0) (h2 : numErr s2 24 ≠ 0) :
    Calls Try.prog 16 #[.slice (some ⟨b, o, none⟩) 5 c] w fun x w' => x = .returned (parseBad (numErr s2 24) 2) ∧ Ext w w' := by
  have g1 : ((prefErr s1) != 0) = false := by rw [h1]; rfl
  have g2 : ((numErr s2 24) != 0) = true := by rw [bne_iff_ne]; exact h2
  obtain ⟨d0, d1⟩ := digNum_bounds s2
  generalize hE1 : prefErr s1 = E1 at *
  have HE1 := Lib.hid hE1
  clear hE1
  generalize hE2 : numErr s2 24 = E2 at *
  have HE2 := Lib.hid hE2
  clear hE2
  clear h1 h2
  go_enter Try.func16, Try.ntmps16
  go_wp2_with fail
  refine (rule_number_every _ _).mono ?_
  rintro x w1 ⟨rfl, hx1, bf, bn⟩
  have br := (Blk.new w zeroBox 25).ext hx1
  simp only [World.size_alloc] at bf bn
  have hx0 : Ext w w1 := ((Ext.refl w).alloc _).trans hx1
  obtain ⟨w2, w3, u1, u2, hmap, hx3, bd, bl⟩ := parts_map (w.heap.size + 1) w1
  simp only [defParts, ruleParts, numClo] at u1 u2
  have hmm := @run_makeMap Try.prog
  have hw := hx0.sz
  have hnn : w1.heap.size < w3.heap.size := lt_of_block hmap
  have x3 := hx0.trans hx3
  have hbl := cell_lt (x3.keep c0)
  have hbw := cell_lt c0
  have k0 := x3.keep c0
  have k1 := x3.keep c1
  have k2 := x3.keep c2
  have k3 := x3.keep c3
  have k4 := x3.keep c4
  clear c0 c1 c2 c3 c4
  have L := (run_lookup_yes (P := Try.prog) Try.underlying69 Try.underlying9 (key := .string wRule) trivial hmap (i := 1) (v := .slice (some ⟨w2.heap.size, 0, none⟩) 4 4) (by kernel_rfl)).2
  simp only [wRule] at L k0
  have nl := parts_nil
  have bp := bl
  have pc := bp.cell
  have pl := bp.lt
  simp only [ruleParts, numClo] at pc
  have r0 := Blk.new w3 zeroBox 25
  have hr0 := (br.ext hx3).alloc (.cells zeroBox 25)
  have f0 := ((bf.ext hx3).alloc (.cells zeroBox 25))
  have n0 := ((bn.ext hx3).alloc (.cells zeroBox 25))
  have F0 := Lib.hid f0
  have N0 := Lib.hid n0
  have R0 := Lib.hid r0
  have RES := Lib.hid hr0
  have BP := Lib.hid bp
  have rlt := br.lt
  have rl2 := bn.lt
  clear hmap bd bl bf bn br hr0 f0 n0 r0 bp
  go_wp2_with fail
  refine wp_loop_rounds 6 ?_
  have ex : Ext w (w3.alloc (.cells zeroBox 25)) := x3.alloc _
  have EX := Lib.hid ex
  have xb := Lib.hid (ExtB.refl w3.heap.size (w3.alloc (.cells zeroBox 25)))
  have P0 := Lib.hid (BP.out.alloc (.cells zeroBox 25))
  have q1 := Lib.hid (Ext.keep ((Ext.refl w3).alloc (.cells zeroBox 25)) k1)
  have q2 := Lib.hid (Ext.keep ((Ext.refl w3).alloc (.cells zeroBox 25)) k2)
  have q3 := Lib.hid (Ext.keep ((Ext.refl w3).alloc (.cells zeroBox 25)) k3)
  have q4 := Lib.hid (Ext.keep ((Ext.refl w3).alloc (.cells zeroBox 25)) k4)
  rw [rounds_succ]
  go_wp2_with fail
  refine (rule_prefix w3.heap.size s1 ⟨#[]⟩ 0 0 0 _ m1 R0.out).mono ?_
  rw [HE1.out]
  rintro x w4 ⟨rfl, rr1, xx1⟩
  have R1 := Lib.hid rr1
  replace xb := Lib.hid (xb.out.trans xx1)
  clear rr1 xx1 pc k0 k1 k2 k3 k4
  have pc := (P0.out.extB xb.out (by omega)).cell
  simp only [ruleParts, numClo] at pc
  have hres := RES.out.extB xb.out (by omega)
  have cr := hres.cell
  have fr := hres.free
  simp only [zeroBox, ruleBox] at cr
  have kk := xb.out.keep q2.out (by show b ≠ w3.heap.size; omega)
  go_wp2
  rw [rounds_succ]
  go_wp2_with fail
  refine (number_every w3.heap.size _ _ s2 s1 0 0 0 24 _ m2 R1.out (F0.out.extB xb.out (by omega)) (N0.out.extB xb.out (by omega))).mono ?_
  rw [HE2.out]
  rintro x w5 ⟨rfl, rr2, xx2⟩
  have R2 := Lib.hid rr2
  replace xb := Lib.hid (xb.out.trans xx2)
  clear rr2 xx2 pc hres cr fr kk
  have pc := (P0.out.extB xb.out (by omega)).cell
  simp only [ruleParts, numClo] at pc
  have hres := RES.out.extB xb.out (by omega)
  have cr := hres.cell
  have fr := hres.free
  simp only [zeroBox, ruleBox] at cr
  have kk := xb.out.keep q3.out (by show b ≠ w3.heap.size; omega)
  go_wp2
  have exf := EX.out.own xb.out (by omega)
  exact bodyPost_ret (v := parseBad E2 2) (by simp [results, Try.results16, go_sem, parseBad, parseRet, cr]) rfl ⟨rfl, (by repeat (first | with_reducible exact Ext.refl _ | with_reducible assumption | with_reducible refine Ext.alloc ?_ _ | with_reducible refine Ext.drew ?_ | with_reducible refine Ext.setCell ?_ (by simp; try omega) _ | with_reducible refine Ext.trans ?_ (by with_reducible assumption)))⟩

set_option maxHeartbeats 2000000 in
set_option maxRecDepth 100000 in
theorem rule_Parse_rule3 (b o c : Nat) (s1 s2 s3 s4 : ByteArray) (w : World) (c0 : w.cell? ⟨b, o, none⟩ = some (.string wRule)) (c1 : w.cell? ⟨b, o + 1, none⟩ = some (.string s1)) (m1 : s1.size ≤ maxLen) (c2 : w.cell? ⟨b, o + 2, none⟩ = some (.string s2)) (m2 : s2.size ≤ maxLen) (c3 : w.cell? ⟨b, o + 3, none⟩ = some (.string s3)) (m3 : s3.size ≤ maxLen) (c4 : w.cell? ⟨b, o + 4, none⟩ = some (.string s4)) (m4 : s4.size ≤ maxLen)
    (h1 : prefErr s1 = 0) (h2 : numErr s2 24 = 0) (h3 : burstErr (digNum s2) s3 ≠ 0) :
    Calls Try.prog 16 #[.slice (some ⟨b, o, none⟩) 5 c] w fun x w' => x = .returned (parseBad (burstErr (digNum s2) s3) 3) ∧ Ext w w' := by
  have g1 : ((prefErr s1) != 0) = false := by rw [h1]; rfl
  have g2 : ((numErr s2 24) != 0) = false := by rw [h2]; rfl
  have g3 : ((burstErr (digNum s2) s3) != 0) = true := by rw [bne_iff_ne]; exact h3
  obtain ⟨d0, d1⟩ := digNum_bounds s2
  generalize hE1 : prefErr s1 = E1 at *
  have HE1 := Lib.hid hE1
  clear hE1
  generalize hE2 : numErr s2 24 = E2 at *
  have HE2 := Lib.hid hE2
  clear hE2
  generalize hE3 : burstErr (digNum s2) s3 = E3 at *
  have HE3 := Lib.hid hE3
  clear hE3
  clear h1 h2 h3
  go_enter Try.func16, Try.ntmps16
  go_wp2_with fail
  refine (rule_number_every _ _).mono ?_
  rintro x w1 ⟨rfl, hx1, bf, bn⟩
  have br := (Blk.new w zeroBox 25).ext hx1
  simp only [World.size_alloc] at bf bn
  have hx0 : Ext w w1 := ((Ext.refl w).alloc _).trans hx1
  obtain ⟨w2, w3, u1, u2, hmap, hx3, bd, bl⟩ := parts_map (w.heap.size + 1) w1
  simp only [defParts, ruleParts, numClo] at u1 u2
  have hmm := @run_makeMap Try.prog
  have hw := hx0.sz
  have hnn : w1.heap.size < w3.heap.size := lt_of_block hmap
  have x3 := hx0.trans hx3
  have hbl := cell_lt (x3.keep c0)
  have hbw := cell_lt c0
  have k0 := x3.keep c0
  have k1 := x3.keep c1
  have k2 := x3.keep c2
  have k3 := x3.keep c3
  have k4 := x3.keep c4
  clear c0 c1 c2 c3 c4
  have L := (run_lookup_yes (P := Try.prog) Try.underlying69 Try.underlying9 (key := .string wRule) trivial hmap (i := 1) (v := .slice (some ⟨w2.heap.size, 0, none⟩) 4 4) (by kernel_rfl)).2
  simp only [wRule] at L k0
  have nl := parts_nil
  have bp := bl
  have pc := bp.cell
  have pl := bp.lt
  simp only [ruleParts, numClo] at pc
  have r0 := Blk.new w3 zeroBox 25
  have hr0 := (br.ext hx3).alloc (.cells zeroBox 25)
  have f0 := ((bf.ext hx3).alloc (.cells zeroBox 25))
  have n0 := ((bn.ext hx3).alloc (.cells zeroBox 25))
  have F0 := Lib.hid f0
  have N0 := Lib.hid n0
  have R0 := Lib.hid r0
  have RES := Lib.hid hr0
  have BP := Lib.hid bp
  have rlt := br.lt
  have rl2 := bn.lt
  clear hmap bd bl bf bn br hr0 f0 n0 r0 bp
  go_wp2_with fail
  refine wp_loop_rounds 6 ?_
  have ex : Ext w (w3.alloc (.cells zeroBox 25)) := x3.alloc _
  have EX := Lib.hid ex
  have xb := Lib.hid (ExtB.refl w3.heap.size (w3.alloc (.cells zeroBox 25)))
  have P0 := Lib.hid (BP.out.alloc (.cells zeroBox 25))
  have q1 := Lib.hid (Ext.keep ((Ext.refl w3).alloc (.cells zeroBox 25)) k1)
  have q2 := Lib.hid (Ext.keep ((Ext.refl w3).alloc (.cells zeroBox 25)) k2)
  have q3 := Lib.hid (Ext.keep ((Ext.refl w3).alloc (.cells zeroBox 25)) k3)
  have q4 := Lib.hid (Ext.keep ((Ext.refl w3).alloc (.cells zeroBox 25)) k4)
  rw [rounds_succ]
  go_wp2_with fail
  refine (rule_prefix w3.heap.size s1 ⟨#[]⟩ 0 0 0 _ m1 R0.out).mono ?_
  rw [HE1.out]
  rintro x w4 ⟨rfl, rr1, xx1⟩
  have R1 := Lib.hid rr1
  replace xb := Lib.hid (xb.out.trans xx1)
  clear rr1 xx1 pc k0 k1 k2 k3 k4
  have pc := (P0.out.extB xb.out (by omega)).cell
  simp only [ruleParts, numClo] at pc
  have hres := RES.out.extB xb.out (by omega)
  have cr := hres.cell
  have fr := hres.free
  simp only [zeroBox, ruleBox] at cr
  have kk := xb.out.keep q2.out (by show b ≠ w3.heap.size; omega)
  go_wp2
  rw [rounds_succ]
  go_wp2_with fail
  refine (number_every w3.heap.size _ _ s2 s1 0 0 0 24 _ m2 R1.out (F0.out.extB xb.out (by omega)) (N0.out.extB xb.out (by omega))).mono ?_
  rw [HE2.out]
  rintro x w5 ⟨rfl, rr2, xx2⟩
  have R2 := Lib.hid rr2
  replace xb := Lib.hid (xb.out.trans xx2)
  clear rr2 xx2 pc hres cr fr kk
  have pc := (P0.out.extB xb.out (by omega)).cell
  simp only [ruleParts, numClo] at pc
  have hres := RES.out.extB xb.out (by omega)
  have cr := hres.cell
  have fr := hres.free
  simp only [zeroBox, ruleBox] at cr
  have kk := xb.out.keep q3.out (by show b ≠ w3.heap.size; omega)
  go_wp2
  rw [rounds_succ]
  go_wp2_with fail
  refine (rule_burst w3.heap.size s3 s1 (digNum s2) 0 0 _ m3 d0 d1 R2.out).mono ?_
  rw [HE3.out]
  rintro x w6 ⟨rfl, rr3, xx3⟩
  have R3 := Lib.hid rr3
  replace xb := Lib.hid (xb.out.trans xx3)
  clear rr3 xx3 pc hres cr fr kk
  have pc := (P0.out.extB xb.out (by omega)).cell
  simp only [ruleParts, numClo] at pc
  have hres := RES.out.extB xb.out (by omega)
  have cr := hres.cell
  have fr := hres.free
  simp only [zeroBox, ruleBox] at cr
  have kk := xb.out.keep q4.out (by show b ≠ w3.heap.size; omega)
  go_wp2
  have exf := EX.out.own xb.out (by omega)
  exact bodyPost_ret (v := parseBad E3 3) (by simp [results, Try.results16, go_sem, parseBad, parseRet, cr]) rfl ⟨rfl, (by repeat (first | with_reducible exact Ext.refl _ | with_reducible assumption | with_reducible refine Ext.alloc ?_ _ | with_reducible refine Ext.drew ?_ | with_reducible refine Ext.setCell ?_ (by simp; try omega) _ | with_reducible refine Ext.trans ?_ (by with_reducible assumption)))⟩

end Go.Proofs.Ytphbhinobdkidaa
