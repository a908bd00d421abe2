/- Walks: rule.burst. Walks: rule.Parse. Walks: rule.Parse, Rule6a. Walks: rule.Parse, Rule6b. Walks: rule.Parse, Rule6c. Walks: rule.Parse, Rule6d. -/
import Derived.Deep.QuietTactic
import Derived.BigQuiet
import Derived.Test.YtknlojlcahgnoaaGreatCf5

namespace Go.Proofs.YtknlojlcahgnoaaGreat
open Go.RowKit
set_option linter.unusedVariables false
set_option linter.unusedSimpArgs false

def burstErr (e : Int) (s : ByteArray) : Int := if numErr s 25 = 0 ∧ capOk e (digNum s) = false then 26 else numErr s 25
theorem digNum_bounds (s : ByteArray) : 0 ≤ digNum s ∧ digNum s < 18446744073709551616 := by
  unfold digNum
  split
  · rename_i h
    unfold digErr at h
    by_cases h1 : digLead s = true
    · rw [if_pos h1] at h; omega
    rw [if_neg h1] at h
    by_cases h2 : s.data.toList.all isDig = false
    · rw [if_pos h2] at h; omega
    rw [if_neg h2] at h
    by_cases h3 : 18446744073709551616 ≤ dval s.data.toList
    · rw [if_pos h3] at h; omega
    exact ⟨dval_nonneg (by simpa using h2), by omega⟩
  · omega

theorem Ext.drewN (w : World) (n : Nat) : Ext w (w.drewN n) := ⟨rfl, rfl, rfl, Nat.le_refl _, fun _ _ => rfl⟩

set_option maxHeartbeats 1000000 in
theorem rule_burst (B : Nat) (s p : ByteArray) (e b k : Int) (w : World) (hm : s.size ≤ maxLen) (he0 : 0 ≤ e) (he1 : e < 18446744073709551616) (hB : Blk w B (ruleBox p e b k) 37) :
    Calls Tryz.prog 146 #[.pointer (some ⟨B, 0, none⟩), .string s] w fun x w' =>
      x = .returned (.int .u16 (burstErr e s)) ∧ Blk w' B (ruleBox p e (digNum s) k) 37 ∧ ExtB B w w' := by
  have HB := Lib.hid hB
  clear hB
  obtain ⟨hd0, hd1⟩ := digNum_bounds s
  generalize hD : digNum s = D at *
  have HD := Lib.hid hD
  have hcap : capOk e D = decide (satMul e D ≤ 4611686018427387904) := rfl
  generalize hM : satMul e D = M at *
  have HM := Lib.hid hM
  have HC := Lib.hid hcap
  have hbe : burstErr e s = if numErr s 25 = 0 ∧ capOk e D = false then 26 else numErr s 25 := by unfold burstErr; rw [hD]
  generalize hN : numErr s 25 = N at *
  have HN := Lib.hid hN
  have HBE := Lib.hid hbe
  clear hD hM hcap hbe hN
  by_cases hz : N = 0
  · have HZ := Lib.hid hz
    have hz' : (N == 0) = true := by rw [hz]; rfl
    have hz2 : decide (N = 0) = true := by simp [hz]
    clear hz
    go_enter Tryz.func146, Tryz.ntmps146
    go_wp2_with fail
    refine (rule_number_burst _ _).mono ?_
    rintro x w1 ⟨rfl, hx1, bf, bn⟩
    have HBf := Lib.hid bf
    have HBn := Lib.hid bn
    clear bf bn
    go_wp2_with fail
    refine (number_burst B _ _ s p e b k 25 w1 hm (HB.out.ext hx1) HBf.out HBn.out).mono ?_
    rw [HN.out, HD.out]
    rintro x w2 ⟨rfl, hb2, hx2⟩
    have c1 : w2.cell? ⟨B, 1, none⟩ = some (.int .u64 e) := hb2.cell 1
    have c2 : w2.cell? ⟨B, 2, none⟩ = some (.int .u64 D) := hb2.cell 2
    have HB2 := Lib.hid hb2
    clear hb2
    go_wp2_with fail
    go_region_held3 (fun w' => w'.cell? ⟨B, 1, none⟩ = some (.int .u64 e) ∧ w'.cell? ⟨B, 2, none⟩ = some (.int .u64 D) ∧ Ext w2 w')
      (first | exact ⟨c1, c2, (Ext.refl _).drew⟩ | exact ⟨Ext.keep hx c1, Ext.keep hx c2, Ext.trans ((Ext.refl _).drew) hx⟩)
      (first | (go_at_call 105; refine (num_Mul _ _ _ he0 he1 hd0 hd1).mono ?_; rw [HM.out]; rintro x w' ⟨rfl, hx⟩))
    have hx3 : Ext w2 w' := (Ext.refl _).drew.trans hx
    have hz3 : N = 0 := HZ.out
    cases hbig : decide (4611686018427387904 < M)
    all_goals
      have HG := Lib.hid hbig
      clear hz3
      go_wp2
      go_ret
      refine ⟨ret_int ?_, HB2.out.ext hx3, (hx1.toB B).trans (hx2.trans (hx3.toB B))⟩
      rw [HBE.out, HC.out]
      have h1 := HG.out
      have h2 := HZ.out
      simp at h1
      first
        | (rw [if_pos ⟨h2, by simp; omega⟩]; done)
        | (rw [if_neg (by simp; omega)]; try rw [h2])
  · have HZ := Lib.hid hz
    have hz' : (N == 0) = false := by simpa using hz
    have hz2 : decide (N = 0) = false := by simpa using hz
    clear hz
    go_enter Tryz.func146, Tryz.ntmps146
    go_wp2_with fail
    refine (rule_number_burst _ _).mono ?_
    rintro x w1 ⟨rfl, hx1, bf, bn⟩
    have HBf := Lib.hid bf
    have HBn := Lib.hid bn
    clear bf bn
    go_wp2_with fail
    refine (number_burst B _ _ s p e b k 25 w1 hm (HB.out.ext hx1) HBf.out HBn.out).mono ?_
    rw [HN.out, HD.out]
    rintro x w2 ⟨rfl, hb2, hx2⟩
    have HB2 := Lib.hid hb2
    clear hb2
    go_wp2_with fail
    go_quiet (fail)
    go_wp2
    go_ret
    refine ⟨ret_int ?_, ?_, ?_⟩
    · rw [HBE.out, if_neg (fun q => HZ.out q.1)]
    · exact HB2.out.ext (Ext.drewN _ _)
    · exact (hx1.toB B).trans (hx2.trans ((Ext.drewN w2 nq).toB B))
end Go.Proofs.YtknlojlcahgnoaaGreat

namespace Go.Proofs.YtknlojlcahgnoaaGreat
open Go.RowKit
set_option linter.unusedVariables false
set_option linter.unusedSimpArgs false

theorem ExtB.keep {b : Nat} {w w' : World} (h : ExtB b w w') {a : Addr} {v : Value} (c : w.cell? a = some v) (ne : a.block ≠ b) : w'.cell? a = some v := by
  have hlt : a.block < w.heap.size := World.block_lt_of_cell? w _ c
  rw [World.cell?_of_block (w := w) (h.block a.block hlt ne)]; exact c
/-- a store of a new key into a map that stands anywhere -/
theorem run_update_at {P : Program} {t k e : TypeId} {d : TypeDesc} (ht : P.underlying t = some (.map k e)) (hk : P.underlying k = some d) {key : Value} (hkey : MapKept.IsKey d key) {es : Array MapEntry} {c b : Nat} {w : World} (hb : w.heap[b]? = some (.map es c))
    (hnew : Instr.findNow d key es.toList 0 = some none) (v : Value) :
    ∃ w', (Instr.mapUpdate t (.map (some b)) key v).run P w = .ok () w' ∧ w'.heap[b]? = some (.map (es.push ⟨key, v, c⟩) (c + 1)) ∧ ExtB b w w' := by
  refine ⟨{ w with heap := w.heap.setIfInBounds b (.map (es.push ⟨key, v, c⟩) (c + 1)) }, ?_, (MapKept.heap_set hb).1, ⟨rfl, rfl, rfl, by simp, fun j _ hj => (MapKept.heap_set hb).2 j hj⟩⟩
  simp [Instr.mapUpdate, run_underlying ht, MapKept.run_getObj_map hb, MapKept.run_checkKey hk hkey, MapKept.run_findKey hk hnew, MapKept.run_setObj_map _ hb, Result.andThen]

def wDef : ByteArray := ⟨#[100, 101, 102, 97, 117, 108, 116]⟩
def wRule : ByteArray := ⟨#[114, 117, 108, 101]⟩
def numClo (f : Nat) : Value := .func (.func 194) #[] #[.pointer (some ⟨f, 0, none⟩), .pointer (some ⟨f + 1, 0, none⟩)]
def defParts (f : Nat) : Array Value := #[numClo f, .func (.func 146) #[] #[], .func (.func 147) #[] #[]]
def ruleParts (f : Nat) : Array Value := #[.func (.func 148) #[] #[], numClo f, .func (.func 146) #[] #[], .func (.func 147) #[] #[]]

/-- the two stores into the map of parts, and what is there then -/
theorem parts_map (f : Nat) (w : World) : ∃ w2 w3 : World,
    (Instr.mapUpdate 244 (.map (some w.heap.size)) (.string ⟨#[100, 101, 102, 97, 117, 108, 116]⟩) (.slice (some ⟨w.heap.size + 1, 0, none⟩) 3 3)).run Tryz.prog ((w.alloc (.map #[] 0)).alloc (.cells (defParts f) 239)) = .ok () w2 ∧
    (Instr.mapUpdate 244 (.map (some w.heap.size)) (.string ⟨#[114, 117, 108, 101]⟩) (.slice (some ⟨w2.heap.size, 0, none⟩) 4 4)).run Tryz.prog (w2.alloc (.cells (ruleParts f) 239)) = .ok () w3 ∧
    w3.heap[w.heap.size]? = some (.map #[⟨.string wDef, .slice (some ⟨w.heap.size + 1, 0, none⟩) 3 3, 0⟩, ⟨.string wRule, .slice (some ⟨w2.heap.size, 0, none⟩) 4 4, 1⟩] 2) ∧
    Ext w w3 ∧ Blk w3 (w.heap.size + 1) (defParts f) 239 ∧ Blk w3 w2.heap.size (ruleParts f) 239 := by
  have hb1 : ((w.alloc (.map #[] 0)).alloc (.cells (defParts f) 239)).heap[w.heap.size]? = some (.map #[] 0) :=
    ((MapKept.heap_alloc (w.alloc (.map #[] 0)) _).2 _ (by simp)).trans (map_new_at w _)
  obtain ⟨w2, r2, m2, x2⟩ := run_update_at (P := Tryz.prog) Tryz.underlying244 Tryz.underlying9 (key := .string wDef) trivial hb1 rfl (.slice (some ⟨w.heap.size + 1, 0, none⟩) 3 3)
  have hb2 : (w2.alloc (.cells (ruleParts f) 239)).heap[w.heap.size]? = some (.map #[⟨.string wDef, .slice (some ⟨w.heap.size + 1, 0, none⟩) 3 3, 0⟩] 1) :=
    ((MapKept.heap_alloc w2 _).2 _ (lt_of_block m2)).trans m2
  obtain ⟨w3, r3, m3, x3⟩ := run_update_at (P := Tryz.prog) Tryz.underlying244 Tryz.underlying9 (key := .string wRule) trivial hb2 (by kernel_rfl) (.slice (some ⟨w2.heap.size, 0, none⟩) 4 4)
  have e1 : Ext w w2 := (((Ext.refl w).alloc _).alloc _).own x2 (Nat.le_refl _)
  have d1 : Blk w2 (w.heap.size + 1) (defParts f) 239 := (Blk.new' _ _ _ (by simp)).extB x2 (by omega)
  have lt2 := lt_of_block m2
  have d2 : Blk w3 w2.heap.size (ruleParts f) 239 := (Blk.new _ _ _).extB x3 (by omega)
  exact ⟨w2, w3, r2, r3, m3, (e1.alloc _).own x3 (Nat.le_refl _), (d1.alloc _).extB x3 (by omega), d2⟩

theorem parts_nil (w : World) (a : Option Addr) (n c : Nat) : (binOp .eql 243 (.slice a n c) (.slice none 0 0)).run Tryz.prog w = .ok (.bool a.isNone) w := by
  simp only [binOp]
  simp [Op.equal, Op.maxDepth, Lib.run_equalIn_slice_nil w 9999 243 239 a n c 0 0 Tryz.underlying243]
def zeroBox : Array Value := ruleBox ⟨#[]⟩ 0 0 0
def parseRet (p : ByteArray) (e b k err at_ : Int) : Value := .tuple #[.agg #[.string p, .int .u64 e, .int .u64 b, .int .u8 k], .int .u16 err, .int .i64 at_]
def parseBad (err at_ : Int) : Value := parseRet ⟨#[]⟩ 0 0 0 err at_

theorem rule_Parse_empty (a : Option Addr) (c : Nat) (w : World) :
    Calls Tryz.prog 100 #[.slice a 0 c] w fun x w' => x = .returned (parseBad 22 0) ∧ Ext w w' := by
  go_enter Tryz.func100, Tryz.ntmps100
  go_wp2
  exact bodyPost_ret (v := parseBad 22 0) (by simp [results, Tryz.results100, go_sem, parseBad, parseRet]) rfl ⟨rfl, (by repeat (first | with_reducible exact Ext.refl _ | with_reducible assumption | with_reducible refine Ext.alloc ?_ _ | with_reducible refine Ext.drew ?_ | (with_reducible refine Ext.setCell ?_ (by first | exact Nat.le_refl _ | (dsimp only; omega) | (simp; done) | (simp; omega)) _) | with_reducible refine Ext.setCell ?_ (by simp; try omega) _ | with_reducible refine Ext.trans ?_ (by with_reducible assumption)))⟩

set_option maxHeartbeats 1000000 in
set_option maxRecDepth 100000 in
theorem rule_Parse_other (b o n c : Nat) (s : ByteArray) (w : World) (hn : 1 ≤ n) (hnm : n ≤ maxLen) (c0 : w.cell? ⟨b, o, none⟩ = some (.string s)) (h1 : s ≠ wDef) (h2 : s ≠ wRule) :
    Calls Tryz.prog 100 #[.slice (some ⟨b, o, none⟩) n c] w fun x w' => x = .returned (parseBad 22 0) ∧ Ext w w' := by
  unfold maxLen at hnm
  have hn0 : ((n : Int) == 0) = false := by rw [beq_eq_false_iff_ne]; omega
  go_enter Tryz.func100, Tryz.ntmps100
  go_wp2_with fail
  refine (rule_number_every _ _).mono ?_
  rintro x w1 ⟨rfl, hx1, bf, bn⟩
  have br := (Blk.new w zeroBox 37).ext hx1
  simp only [World.size_alloc] at bf bn
  have hx0 : Ext w w1 := ((Ext.refl w).alloc _).trans hx1
  obtain ⟨w2, w3, u1, u2, hmap, hx3, bd, bl⟩ := parts_map (w.heap.size + 1) w1
  simp only [defParts, ruleParts, numClo] at u1 u2
  have hmm := @run_makeMap Tryz.prog
  have hw := hx0.sz
  have hnn : w1.heap.size < w3.heap.size := lt_of_block hmap
  have k0 := (hx0.trans hx3).keep c0
  have hbl := cell_lt k0
  have e1 : (s == wDef) = false := by rw [Bool.eq_false_iff]; exact fun h => h1 ((MapKept.bytes_beq _ _).1 h)
  have e2 : (s == wRule) = false := by rw [Bool.eq_false_iff]; exact fun h => h2 ((MapKept.bytes_beq _ _).1 h)
  have L := (run_lookup_no (P := Tryz.prog) Tryz.underlying244 Tryz.underlying9 (key := .string s) trivial hmap (z := .slice none 0 0) (by kernel_rfl) (by simp [Instr.findNow, Instr.sameNow, e1, e2])).2
  have brr := br.ext hx3
  have cr := brr.cell
  have fr := brr.free
  simp only [zeroBox, ruleBox] at cr
  have nl := parts_nil
  clear hmap bd bl e1 e2 h1 h2 bf bn br brr
  go_wp2
  exact bodyPost_ret (v := parseBad 22 0) (by simp [results, Tryz.results100, go_sem, parseBad, parseRet, cr]) rfl ⟨rfl, (hx0.trans hx3).own (by repeat (first | with_reducible exact ExtB.refl _ _ | with_reducible assumption | with_reducible refine ExtB.alloc ?_ _ | with_reducible refine ExtB.drew ?_ | with_reducible refine ExtB.setCell ?_ _ _ | with_reducible refine ExtB.trans ?_ (by with_reducible assumption) | with_reducible refine ExtB.trans ?_ (Ext.toB (by with_reducible assumption) _))) (Nat.le_refl _)⟩

end Go.Proofs.YtknlojlcahgnoaaGreat

namespace Go.Proofs.YtknlojlcahgnoaaGreat
open Go.RowKit
set_option linter.unusedVariables false
set_option linter.unusedSimpArgs false

set_option maxHeartbeats 2000000 in
set_option maxRecDepth 100000 in
theorem rule_Parse_def1 (b o c : Nat) (s1 s2 s3 : ByteArray) (w : World) (c0 : w.cell? ⟨b, o, none⟩ = some (.string wDef)) (c1 : w.cell? ⟨b, o + 1, none⟩ = some (.string s1)) (m1 : s1.size ≤ maxLen) (c2 : w.cell? ⟨b, o + 2, none⟩ = some (.string s2)) (m2 : s2.size ≤ maxLen) (c3 : w.cell? ⟨b, o + 3, none⟩ = some (.string s3)) (m3 : s3.size ≤ maxLen)
     (h1 : numErr s1 24 ≠ 0) :
    Calls Tryz.prog 100 #[.slice (some ⟨b, o, none⟩) 4 c] w fun x w' => x = .returned (parseBad (numErr s1 24) 1) ∧ Ext w w' := by
  have g1 : ((numErr s1 24) != 0) = true := by rw [bne_iff_ne]; exact h1
  obtain ⟨d0, d1⟩ := digNum_bounds s1
  generalize hE1 : numErr s1 24 = E1 at *
  have HE1 := Lib.hid hE1
  clear hE1
  clear h1
  go_enter Tryz.func100, Tryz.ntmps100
  go_wp2_with fail
  refine (rule_number_every _ _).mono ?_
  rintro x w1 ⟨rfl, hx1, bf, bn⟩
  have br := (Blk.new w zeroBox 37).ext hx1
  simp only [World.size_alloc] at bf bn
  have hx0 : Ext w w1 := ((Ext.refl w).alloc _).trans hx1
  obtain ⟨w2, w3, u1, u2, hmap, hx3, bd, bl⟩ := parts_map (w.heap.size + 1) w1
  simp only [defParts, ruleParts, numClo] at u1 u2
  have hmm := @run_makeMap Tryz.prog
  have hw := hx0.sz
  have hnn : w1.heap.size < w3.heap.size := lt_of_block hmap
  have x3 := hx0.trans hx3
  have hbl := cell_lt (x3.keep c0)
  have hbw := cell_lt c0
  have k0 := x3.keep c0
  have k1 := x3.keep c1
  have k2 := x3.keep c2
  have k3 := x3.keep c3
  clear c0 c1 c2 c3
  have L := (run_lookup_yes (P := Tryz.prog) Tryz.underlying244 Tryz.underlying9 (key := .string wDef) trivial hmap (i := 0) (v := .slice (some ⟨w1.heap.size + 1, 0, none⟩) 3 3) (by kernel_rfl)).2
  simp only [wDef] at L k0
  have nl := parts_nil
  have bp := bd
  have pc := bp.cell
  have pl := bp.lt
  simp only [defParts, numClo] at pc
  have r0 := Blk.new w3 zeroBox 37
  have hr0 := (br.ext hx3).alloc (.cells zeroBox 37)
  have f0 := ((bf.ext hx3).alloc (.cells zeroBox 37))
  have n0 := ((bn.ext hx3).alloc (.cells zeroBox 37))
  have F0 := Lib.hid f0
  have N0 := Lib.hid n0
  have R0 := Lib.hid r0
  have RES := Lib.hid hr0
  have BP := Lib.hid bp
  have rlt := br.lt
  have rl2 := bn.lt
  clear hmap bd bl bf bn br hr0 f0 n0 r0 bp
  go_wp2_with fail
  refine wp_loop_rounds 5 ?_
  have ex : Ext w (w3.alloc (.cells zeroBox 37)) := x3.alloc _
  have EX := Lib.hid ex
  have xb := Lib.hid (ExtB.refl w3.heap.size (w3.alloc (.cells zeroBox 37)))
  have P0 := Lib.hid (BP.out.alloc (.cells zeroBox 37))
  have q1 := Lib.hid (Ext.keep ((Ext.refl w3).alloc (.cells zeroBox 37)) k1)
  have q2 := Lib.hid (Ext.keep ((Ext.refl w3).alloc (.cells zeroBox 37)) k2)
  have q3 := Lib.hid (Ext.keep ((Ext.refl w3).alloc (.cells zeroBox 37)) k3)
  rw [rounds_succ]
  go_wp2_with fail
  refine (number_every w3.heap.size _ _ s1 ⟨#[]⟩ 0 0 0 24 _ m1 R0.out F0.out N0.out).mono ?_
  rw [HE1.out]
  rintro x w4 ⟨rfl, rr1, xx1⟩
  have R1 := Lib.hid rr1
  replace xb := Lib.hid (xb.out.trans xx1)
  clear rr1 xx1 pc k0 k1 k2 k3
  have pc := (P0.out.extB xb.out (by omega)).cell
  simp only [defParts, numClo] at pc
  have hres := RES.out.extB xb.out (by omega)
  have cr := hres.cell
  have fr := hres.free
  simp only [zeroBox, ruleBox] at cr
  have kk := xb.out.keep q2.out (by show b ≠ w3.heap.size; omega)
  go_wp2
  have exf := EX.out.own xb.out (by omega)
  exact bodyPost_ret (v := parseBad E1 1) (by simp [results, Tryz.results100, go_sem, parseBad, parseRet, cr]) rfl ⟨rfl, (by repeat (first | with_reducible exact Ext.refl _ | with_reducible assumption | with_reducible refine Ext.alloc ?_ _ | with_reducible refine Ext.drew ?_ | (with_reducible refine Ext.setCell ?_ (by first | exact Nat.le_refl _ | (dsimp only; omega) | (simp; done) | (simp; omega)) _) | with_reducible refine Ext.setCell ?_ (by simp; try omega) _ | with_reducible refine Ext.trans ?_ (by with_reducible assumption)))⟩

set_option maxHeartbeats 2000000 in
set_option maxRecDepth 100000 in
theorem rule_Parse_def2 (b o c : Nat) (s1 s2 s3 : ByteArray) (w : World) (c0 : w.cell? ⟨b, o, none⟩ = some (.string wDef)) (c1 : w.cell? ⟨b, o + 1, none⟩ = some (.string s1)) (m1 : s1.size ≤ maxLen) (c2 : w.cell? ⟨b, o + 2, none⟩ = some (.string s2)) (m2 : s2.size ≤ maxLen) (c3 : w.cell? ⟨b, o + 3, none⟩ = some (.string s3)) (m3 : s3.size ≤ maxLen)
    (h1 : numErr s1 24 = 0) (h2 : burstErr (digNum s1) s2 ≠ 0) :
    Calls Tryz.prog 100 #[.slice (some ⟨b, o, none⟩) 4 c] w fun x w' => x = .returned (parseBad (burstErr (digNum s1) s2) 2) ∧ Ext w w' := by
  have g1 : ((numErr s1 24) != 0) = false := by rw [h1]; rfl
  have g2 : ((burstErr (digNum s1) s2) != 0) = true := by rw [bne_iff_ne]; exact h2
  obtain ⟨d0, d1⟩ := digNum_bounds s1
  generalize hE1 : numErr s1 24 = E1 at *
  have HE1 := Lib.hid hE1
  clear hE1
  generalize hE2 : burstErr (digNum s1) s2 = E2 at *
  have HE2 := Lib.hid hE2
  clear hE2
  clear h1 h2
  go_enter Tryz.func100, Tryz.ntmps100
  go_wp2_with fail
  refine (rule_number_every _ _).mono ?_
  rintro x w1 ⟨rfl, hx1, bf, bn⟩
  have br := (Blk.new w zeroBox 37).ext hx1
  simp only [World.size_alloc] at bf bn
  have hx0 : Ext w w1 := ((Ext.refl w).alloc _).trans hx1
  obtain ⟨w2, w3, u1, u2, hmap, hx3, bd, bl⟩ := parts_map (w.heap.size + 1) w1
  simp only [defParts, ruleParts, numClo] at u1 u2
  have hmm := @run_makeMap Tryz.prog
  have hw := hx0.sz
  have hnn : w1.heap.size < w3.heap.size := lt_of_block hmap
  have x3 := hx0.trans hx3
  have hbl := cell_lt (x3.keep c0)
  have hbw := cell_lt c0
  have k0 := x3.keep c0
  have k1 := x3.keep c1
  have k2 := x3.keep c2
  have k3 := x3.keep c3
  clear c0 c1 c2 c3
  have L := (run_lookup_yes (P := Tryz.prog) Tryz.underlying244 Tryz.underlying9 (key := .string wDef) trivial hmap (i := 0) (v := .slice (some ⟨w1.heap.size + 1, 0, none⟩) 3 3) (by kernel_rfl)).2
  simp only [wDef] at L k0
  have nl := parts_nil
  have bp := bd
  have pc := bp.cell
  have pl := bp.lt
  simp only [defParts, numClo] at pc
  have r0 := Blk.new w3 zeroBox 37
  have hr0 := (br.ext hx3).alloc (.cells zeroBox 37)
  have f0 := ((bf.ext hx3).alloc (.cells zeroBox 37))
  have n0 := ((bn.ext hx3).alloc (.cells zeroBox 37))
  have F0 := Lib.hid f0
  have N0 := Lib.hid n0
  have R0 := Lib.hid r0
  have RES := Lib.hid hr0
  have BP := Lib.hid bp
  have rlt := br.lt
  have rl2 := bn.lt
  clear hmap bd bl bf bn br hr0 f0 n0 r0 bp
  go_wp2_with fail
  refine wp_loop_rounds 5 ?_
  have ex : Ext w (w3.alloc (.cells zeroBox 37)) := x3.alloc _
  have EX := Lib.hid ex
  have xb := Lib.hid (ExtB.refl w3.heap.size (w3.alloc (.cells zeroBox 37)))
  have P0 := Lib.hid (BP.out.alloc (.cells zeroBox 37))
  have q1 := Lib.hid (Ext.keep ((Ext.refl w3).alloc (.cells zeroBox 37)) k1)
  have q2 := Lib.hid (Ext.keep ((Ext.refl w3).alloc (.cells zeroBox 37)) k2)
  have q3 := Lib.hid (Ext.keep ((Ext.refl w3).alloc (.cells zeroBox 37)) k3)
  rw [rounds_succ]
  go_wp2_with fail
  refine (number_every w3.heap.size _ _ s1 ⟨#[]⟩ 0 0 0 24 _ m1 R0.out F0.out N0.out).mono ?_
  rw [HE1.out]
  rintro x w4 ⟨rfl, rr1, xx1⟩
  have R1 := Lib.hid rr1
  replace xb := Lib.hid (xb.out.trans xx1)
  clear rr1 xx1 pc k0 k1 k2 k3
  have pc := (P0.out.extB xb.out (by omega)).cell
  simp only [defParts, numClo] at pc
  have hres := RES.out.extB xb.out (by omega)
  have cr := hres.cell
  have fr := hres.free
  simp only [zeroBox, ruleBox] at cr
  have kk := xb.out.keep q2.out (by show b ≠ w3.heap.size; omega)
  go_wp2
  rw [rounds_succ]
  go_wp2_with fail
  refine (rule_burst w3.heap.size s2 ⟨#[]⟩ (digNum s1) 0 0 _ m2 d0 d1 R1.out).mono ?_
  rw [HE2.out]
  rintro x w5 ⟨rfl, rr2, xx2⟩
  have R2 := Lib.hid rr2
  replace xb := Lib.hid (xb.out.trans xx2)
  clear rr2 xx2 pc hres cr fr kk
  have pc := (P0.out.extB xb.out (by omega)).cell
  simp only [defParts, numClo] at pc
  have hres := RES.out.extB xb.out (by omega)
  have cr := hres.cell
  have fr := hres.free
  simp only [zeroBox, ruleBox] at cr
  have kk := xb.out.keep q3.out (by show b ≠ w3.heap.size; omega)
  go_wp2
  have exf := EX.out.own xb.out (by omega)
  exact bodyPost_ret (v := parseBad E2 2) (by simp [results, Tryz.results100, go_sem, parseBad, parseRet, cr]) rfl ⟨rfl, (by repeat (first | with_reducible exact Ext.refl _ | with_reducible assumption | with_reducible refine Ext.alloc ?_ _ | with_reducible refine Ext.drew ?_ | (with_reducible refine Ext.setCell ?_ (by first | exact Nat.le_refl _ | (dsimp only; omega) | (simp; done) | (simp; omega)) _) | with_reducible refine Ext.setCell ?_ (by simp; try omega) _ | with_reducible refine Ext.trans ?_ (by with_reducible assumption)))⟩

set_option maxHeartbeats 2000000 in
set_option maxRecDepth 100000 in
theorem rule_Parse_def3 (b o c : Nat) (s1 s2 s3 : ByteArray) (w : World) (c0 : w.cell? ⟨b, o, none⟩ = some (.string wDef)) (c1 : w.cell? ⟨b, o + 1, none⟩ = some (.string s1)) (m1 : s1.size ≤ maxLen) (c2 : w.cell? ⟨b, o + 2, none⟩ = some (.string s2)) (m2 : s2.size ≤ maxLen) (c3 : w.cell? ⟨b, o + 3, none⟩ = some (.string s3)) (m3 : s3.size ≤ maxLen)
    (h1 : numErr s1 24 = 0) (h2 : burstErr (digNum s1) s2 = 0) (h3 : kindErr (kindOf s3) ≠ 0) :
    Calls Tryz.prog 100 #[.slice (some ⟨b, o, none⟩) 4 c] w fun x w' => x = .returned (parseBad (kindErr (kindOf s3)) 3) ∧ Ext w w' := by
  have g1 : ((numErr s1 24) != 0) = false := by rw [h1]; rfl
  have g2 : ((burstErr (digNum s1) s2) != 0) = false := by rw [h2]; rfl
  have g3 : ((kindErr (kindOf s3)) != 0) = true := by rw [bne_iff_ne]; exact h3
  obtain ⟨d0, d1⟩ := digNum_bounds s1
  generalize hE1 : numErr s1 24 = E1 at *
  have HE1 := Lib.hid hE1
  clear hE1
  generalize hE2 : burstErr (digNum s1) s2 = E2 at *
  have HE2 := Lib.hid hE2
  clear hE2
  generalize hE3 : kindErr (kindOf s3) = E3 at *
  have HE3 := Lib.hid hE3
  clear hE3
  clear h1 h2 h3
  go_enter Tryz.func100, Tryz.ntmps100
  go_wp2_with fail
  refine (rule_number_every _ _).mono ?_
  rintro x w1 ⟨rfl, hx1, bf, bn⟩
  have br := (Blk.new w zeroBox 37).ext hx1
  simp only [World.size_alloc] at bf bn
  have hx0 : Ext w w1 := ((Ext.refl w).alloc _).trans hx1
  obtain ⟨w2, w3, u1, u2, hmap, hx3, bd, bl⟩ := parts_map (w.heap.size + 1) w1
  simp only [defParts, ruleParts, numClo] at u1 u2
  have hmm := @run_makeMap Tryz.prog
  have hw := hx0.sz
  have hnn : w1.heap.size < w3.heap.size := lt_of_block hmap
  have x3 := hx0.trans hx3
  have hbl := cell_lt (x3.keep c0)
  have hbw := cell_lt c0
  have k0 := x3.keep c0
  have k1 := x3.keep c1
  have k2 := x3.keep c2
  have k3 := x3.keep c3
  clear c0 c1 c2 c3
  have L := (run_lookup_yes (P := Tryz.prog) Tryz.underlying244 Tryz.underlying9 (key := .string wDef) trivial hmap (i := 0) (v := .slice (some ⟨w1.heap.size + 1, 0, none⟩) 3 3) (by kernel_rfl)).2
  simp only [wDef] at L k0
  have nl := parts_nil
  have bp := bd
  have pc := bp.cell
  have pl := bp.lt
  simp only [defParts, numClo] at pc
  have r0 := Blk.new w3 zeroBox 37
  have hr0 := (br.ext hx3).alloc (.cells zeroBox 37)
  have f0 := ((bf.ext hx3).alloc (.cells zeroBox 37))
  have n0 := ((bn.ext hx3).alloc (.cells zeroBox 37))
  have F0 := Lib.hid f0
  have N0 := Lib.hid n0
  have R0 := Lib.hid r0
  have RES := Lib.hid hr0
  have BP := Lib.hid bp
  have rlt := br.lt
  have rl2 := bn.lt
  clear hmap bd bl bf bn br hr0 f0 n0 r0 bp
  go_wp2_with fail
  refine wp_loop_rounds 5 ?_
  have ex : Ext w (w3.alloc (.cells zeroBox 37)) := x3.alloc _
  have EX := Lib.hid ex
  have xb := Lib.hid (ExtB.refl w3.heap.size (w3.alloc (.cells zeroBox 37)))
  have P0 := Lib.hid (BP.out.alloc (.cells zeroBox 37))
  have q1 := Lib.hid (Ext.keep ((Ext.refl w3).alloc (.cells zeroBox 37)) k1)
  have q2 := Lib.hid (Ext.keep ((Ext.refl w3).alloc (.cells zeroBox 37)) k2)
  have q3 := Lib.hid (Ext.keep ((Ext.refl w3).alloc (.cells zeroBox 37)) k3)
  rw [rounds_succ]
  go_wp2_with fail
  refine (number_every w3.heap.size _ _ s1 ⟨#[]⟩ 0 0 0 24 _ m1 R0.out F0.out N0.out).mono ?_
  rw [HE1.out]
  rintro x w4 ⟨rfl, rr1, xx1⟩
  have R1 := Lib.hid rr1
  replace xb := Lib.hid (xb.out.trans xx1)
  clear rr1 xx1 pc k0 k1 k2 k3
  have pc := (P0.out.extB xb.out (by omega)).cell
  simp only [defParts, numClo] at pc
  have hres := RES.out.extB xb.out (by omega)
  have cr := hres.cell
  have fr := hres.free
  simp only [zeroBox, ruleBox] at cr
  have kk := xb.out.keep q2.out (by show b ≠ w3.heap.size; omega)
  go_wp2
  rw [rounds_succ]
  go_wp2_with fail
  refine (rule_burst w3.heap.size s2 ⟨#[]⟩ (digNum s1) 0 0 _ m2 d0 d1 R1.out).mono ?_
  rw [HE2.out]
  rintro x w5 ⟨rfl, rr2, xx2⟩
  have R2 := Lib.hid rr2
  replace xb := Lib.hid (xb.out.trans xx2)
  clear rr2 xx2 pc hres cr fr kk
  have pc := (P0.out.extB xb.out (by omega)).cell
  simp only [defParts, numClo] at pc
  have hres := RES.out.extB xb.out (by omega)
  have cr := hres.cell
  have fr := hres.free
  simp only [zeroBox, ruleBox] at cr
  have kk := xb.out.keep q3.out (by show b ≠ w3.heap.size; omega)
  go_wp2
  rw [rounds_succ]
  go_wp2_with fail
  refine (rule_named w3.heap.size s3 ⟨#[]⟩ (digNum s1) (digNum s2) 0 _ m3 R2.out).mono ?_
  rw [HE3.out]
  rintro x w6 ⟨rfl, rr3, xx3⟩
  have R3 := Lib.hid rr3
  replace xb := Lib.hid (xb.out.trans xx3)
  clear rr3 xx3 pc hres cr fr kk
  have pc := (P0.out.extB xb.out (by omega)).cell
  simp only [defParts, numClo] at pc
  have hres := RES.out.extB xb.out (by omega)
  have cr := hres.cell
  have fr := hres.free
  simp only [zeroBox, ruleBox] at cr
  have kk := True.intro
  go_wp2
  have exf := EX.out.own xb.out (by omega)
  exact bodyPost_ret (v := parseBad E3 3) (by simp [results, Tryz.results100, go_sem, parseBad, parseRet, cr]) rfl ⟨rfl, (by repeat (first | with_reducible exact Ext.refl _ | with_reducible assumption | with_reducible refine Ext.alloc ?_ _ | with_reducible refine Ext.drew ?_ | (with_reducible refine Ext.setCell ?_ (by first | exact Nat.le_refl _ | (dsimp only; omega) | (simp; done) | (simp; omega)) _) | with_reducible refine Ext.setCell ?_ (by simp; try omega) _ | with_reducible refine Ext.trans ?_ (by with_reducible assumption)))⟩

set_option maxHeartbeats 2000000 in
set_option maxRecDepth 100000 in
theorem rule_Parse_def4 (b o c : Nat) (s1 s2 s3 : ByteArray) (w : World) (c0 : w.cell? ⟨b, o, none⟩ = some (.string wDef)) (c1 : w.cell? ⟨b, o + 1, none⟩ = some (.string s1)) (m1 : s1.size ≤ maxLen) (c2 : w.cell? ⟨b, o + 2, none⟩ = some (.string s2)) (m2 : s2.size ≤ maxLen) (c3 : w.cell? ⟨b, o + 3, none⟩ = some (.string s3)) (m3 : s3.size ≤ maxLen)
    (h1 : numErr s1 24 = 0) (h2 : burstErr (digNum s1) s2 = 0) (h3 : kindErr (kindOf s3) = 0) :
    Calls Tryz.prog 100 #[.slice (some ⟨b, o, none⟩) 4 c] w fun x w' => x = .returned (parseRet ⟨#[]⟩ (digNum s1) (digNum s2) (kindOf s3) 0 0) ∧ Ext w w' := by
  have g1 : ((numErr s1 24) != 0) = false := by rw [h1]; rfl
  have g2 : ((burstErr (digNum s1) s2) != 0) = false := by rw [h2]; rfl
  have g3 : ((kindErr (kindOf s3)) != 0) = false := by rw [h3]; rfl
  obtain ⟨d0, d1⟩ := digNum_bounds s1
  generalize hE1 : numErr s1 24 = E1 at *
  have HE1 := Lib.hid hE1
  clear hE1
  generalize hE2 : burstErr (digNum s1) s2 = E2 at *
  have HE2 := Lib.hid hE2
  clear hE2
  generalize hE3 : kindErr (kindOf s3) = E3 at *
  have HE3 := Lib.hid hE3
  clear hE3
  clear h1 h2 h3
  go_enter Tryz.func100, Tryz.ntmps100
  go_wp2_with fail
  refine (rule_number_every _ _).mono ?_
  rintro x w1 ⟨rfl, hx1, bf, bn⟩
  have br := (Blk.new w zeroBox 37).ext hx1
  simp only [World.size_alloc] at bf bn
  have hx0 : Ext w w1 := ((Ext.refl w).alloc _).trans hx1
  obtain ⟨w2, w3, u1, u2, hmap, hx3, bd, bl⟩ := parts_map (w.heap.size + 1) w1
  simp only [defParts, ruleParts, numClo] at u1 u2
  have hmm := @run_makeMap Tryz.prog
  have hw := hx0.sz
  have hnn : w1.heap.size < w3.heap.size := lt_of_block hmap
  have x3 := hx0.trans hx3
  have hbl := cell_lt (x3.keep c0)
  have hbw := cell_lt c0
  have k0 := x3.keep c0
  have k1 := x3.keep c1
  have k2 := x3.keep c2
  have k3 := x3.keep c3
  clear c0 c1 c2 c3
  have L := (run_lookup_yes (P := Tryz.prog) Tryz.underlying244 Tryz.underlying9 (key := .string wDef) trivial hmap (i := 0) (v := .slice (some ⟨w1.heap.size + 1, 0, none⟩) 3 3) (by kernel_rfl)).2
  simp only [wDef] at L k0
  have nl := parts_nil
  have bp := bd
  have pc := bp.cell
  have pl := bp.lt
  simp only [defParts, numClo] at pc
  have r0 := Blk.new w3 zeroBox 37
  have hr0 := (br.ext hx3).alloc (.cells zeroBox 37)
  have f0 := ((bf.ext hx3).alloc (.cells zeroBox 37))
  have n0 := ((bn.ext hx3).alloc (.cells zeroBox 37))
  have F0 := Lib.hid f0
  have N0 := Lib.hid n0
  have R0 := Lib.hid r0
  have RES := Lib.hid hr0
  have BP := Lib.hid bp
  have rlt := br.lt
  have rl2 := bn.lt
  clear hmap bd bl bf bn br hr0 f0 n0 r0 bp
  go_wp2_with fail
  refine wp_loop_rounds 5 ?_
  have ex : Ext w (w3.alloc (.cells zeroBox 37)) := x3.alloc _
  have EX := Lib.hid ex
  have xb := Lib.hid (ExtB.refl w3.heap.size (w3.alloc (.cells zeroBox 37)))
  have P0 := Lib.hid (BP.out.alloc (.cells zeroBox 37))
  have q1 := Lib.hid (Ext.keep ((Ext.refl w3).alloc (.cells zeroBox 37)) k1)
  have q2 := Lib.hid (Ext.keep ((Ext.refl w3).alloc (.cells zeroBox 37)) k2)
  have q3 := Lib.hid (Ext.keep ((Ext.refl w3).alloc (.cells zeroBox 37)) k3)
  rw [rounds_succ]
  go_wp2_with fail
  refine (number_every w3.heap.size _ _ s1 ⟨#[]⟩ 0 0 0 24 _ m1 R0.out F0.out N0.out).mono ?_
  rw [HE1.out]
  rintro x w4 ⟨rfl, rr1, xx1⟩
  have R1 := Lib.hid rr1
  replace xb := Lib.hid (xb.out.trans xx1)
  clear rr1 xx1 pc k0 k1 k2 k3
  have pc := (P0.out.extB xb.out (by omega)).cell
  simp only [defParts, numClo] at pc
  have hres := RES.out.extB xb.out (by omega)
  have cr := hres.cell
  have fr := hres.free
  simp only [zeroBox, ruleBox] at cr
  have kk := xb.out.keep q2.out (by show b ≠ w3.heap.size; omega)
  go_wp2
  rw [rounds_succ]
  go_wp2_with fail
  refine (rule_burst w3.heap.size s2 ⟨#[]⟩ (digNum s1) 0 0 _ m2 d0 d1 R1.out).mono ?_
  rw [HE2.out]
  rintro x w5 ⟨rfl, rr2, xx2⟩
  have R2 := Lib.hid rr2
  replace xb := Lib.hid (xb.out.trans xx2)
  clear rr2 xx2 pc hres cr fr kk
  have pc := (P0.out.extB xb.out (by omega)).cell
  simp only [defParts, numClo] at pc
  have hres := RES.out.extB xb.out (by omega)
  have cr := hres.cell
  have fr := hres.free
  simp only [zeroBox, ruleBox] at cr
  have kk := xb.out.keep q3.out (by show b ≠ w3.heap.size; omega)
  go_wp2
  rw [rounds_succ]
  go_wp2_with fail
  refine (rule_named w3.heap.size s3 ⟨#[]⟩ (digNum s1) (digNum s2) 0 _ m3 R2.out).mono ?_
  rw [HE3.out]
  rintro x w6 ⟨rfl, rr3, xx3⟩
  have R3 := Lib.hid rr3
  replace xb := Lib.hid (xb.out.trans xx3)
  clear rr3 xx3 pc hres cr fr kk
  have pc := (P0.out.extB xb.out (by omega)).cell
  simp only [defParts, numClo] at pc
  have hres := RES.out.extB xb.out (by omega)
  have cr := hres.cell
  have fr := hres.free
  simp only [zeroBox, ruleBox] at cr
  have kk := True.intro
  have rc := R3.out.cell
  simp only [ruleBox] at rc
  go_wp2
  rw [rounds_succ]
  go_wp2
  have exf := EX.out.own xb.out (by omega)
  exact bodyPost_ret (v := parseRet ⟨#[]⟩ (digNum s1) (digNum s2) (kindOf s3) 0 0) (by simp [results, Tryz.results100, go_sem, parseBad, parseRet, cr]) rfl ⟨rfl, (by repeat (first | with_reducible exact Ext.refl _ | with_reducible assumption | with_reducible refine Ext.alloc ?_ _ | with_reducible refine Ext.drew ?_ | (with_reducible refine Ext.setCell ?_ (by first | exact Nat.le_refl _ | (dsimp only; omega) | (simp; done) | (simp; omega)) _) | with_reducible refine Ext.setCell ?_ (by simp; try omega) _ | with_reducible refine Ext.trans ?_ (by with_reducible assumption)))⟩

end Go.Proofs.YtknlojlcahgnoaaGreat

namespace Go.Proofs.YtknlojlcahgnoaaGreat
open Go.RowKit
set_option linter.unusedVariables false
set_option linter.unusedSimpArgs false

set_option maxHeartbeats 2000000 in
set_option maxRecDepth 100000 in
theorem rule_Parse_rule1 (b o c : Nat) (s1 s2 s3 s4 : ByteArray) (w : World) (c0 : w.cell? ⟨b, o, none⟩ = some (.string wRule)) (c1 : w.cell? ⟨b, o + 1, none⟩ = some (.string s1)) (m1 : s1.size ≤ maxLen) (c2 : w.cell? ⟨b, o + 2, none⟩ = some (.string s2)) (m2 : s2.size ≤ maxLen) (c3 : w.cell? ⟨b, o + 3, none⟩ = some (.string s3)) (m3 : s3.size ≤ maxLen) (c4 : w.cell? ⟨b, o + 4, none⟩ = some (.string s4)) (m4 : s4.size ≤ maxLen)
     (h1 : prefErr s1 ≠ 0) :
    Calls Tryz.prog 100 #[.slice (some ⟨b, o, none⟩) 5 c] w fun x w' => x = .returned (parseBad (prefErr s1) 1) ∧ Ext w w' := by
  have g1 : ((prefErr s1) != 0) = true := by rw [bne_iff_ne]; exact h1
  obtain ⟨d0, d1⟩ := digNum_bounds s2
  generalize hE1 : prefErr s1 = E1 at *
  have HE1 := Lib.hid hE1
  clear hE1
  clear h1
  go_enter Tryz.func100, Tryz.ntmps100
  go_wp2_with fail
  refine (rule_number_every _ _).mono ?_
  rintro x w1 ⟨rfl, hx1, bf, bn⟩
  have br := (Blk.new w zeroBox 37).ext hx1
  simp only [World.size_alloc] at bf bn
  have hx0 : Ext w w1 := ((Ext.refl w).alloc _).trans hx1
  obtain ⟨w2, w3, u1, u2, hmap, hx3, bd, bl⟩ := parts_map (w.heap.size + 1) w1
  simp only [defParts, ruleParts, numClo] at u1 u2
  have hmm := @run_makeMap Tryz.prog
  have hw := hx0.sz
  have hnn : w1.heap.size < w3.heap.size := lt_of_block hmap
  have x3 := hx0.trans hx3
  have hbl := cell_lt (x3.keep c0)
  have hbw := cell_lt c0
  have k0 := x3.keep c0
  have k1 := x3.keep c1
  have k2 := x3.keep c2
  have k3 := x3.keep c3
  have k4 := x3.keep c4
  clear c0 c1 c2 c3 c4
  have L := (run_lookup_yes (P := Tryz.prog) Tryz.underlying244 Tryz.underlying9 (key := .string wRule) trivial hmap (i := 1) (v := .slice (some ⟨w2.heap.size, 0, none⟩) 4 4) (by kernel_rfl)).2
  simp only [wRule] at L k0
  have nl := parts_nil
  have bp := bl
  have pc := bp.cell
  have pl := bp.lt
  simp only [ruleParts, numClo] at pc
  have r0 := Blk.new w3 zeroBox 37
  have hr0 := (br.ext hx3).alloc (.cells zeroBox 37)
  have f0 := ((bf.ext hx3).alloc (.cells zeroBox 37))
  have n0 := ((bn.ext hx3).alloc (.cells zeroBox 37))
  have F0 := Lib.hid f0
  have N0 := Lib.hid n0
  have R0 := Lib.hid r0
  have RES := Lib.hid hr0
  have BP := Lib.hid bp
  have rlt := br.lt
  have rl2 := bn.lt
  clear hmap bd bl bf bn br hr0 f0 n0 r0 bp
  go_wp2_with fail
  refine wp_loop_rounds 6 ?_
  have ex : Ext w (w3.alloc (.cells zeroBox 37)) := x3.alloc _
  have EX := Lib.hid ex
  have xb := Lib.hid (ExtB.refl w3.heap.size (w3.alloc (.cells zeroBox 37)))
  have P0 := Lib.hid (BP.out.alloc (.cells zeroBox 37))
  have q1 := Lib.hid (Ext.keep ((Ext.refl w3).alloc (.cells zeroBox 37)) k1)
  have q2 := Lib.hid (Ext.keep ((Ext.refl w3).alloc (.cells zeroBox 37)) k2)
  have q3 := Lib.hid (Ext.keep ((Ext.refl w3).alloc (.cells zeroBox 37)) k3)
  have q4 := Lib.hid (Ext.keep ((Ext.refl w3).alloc (.cells zeroBox 37)) k4)
  rw [rounds_succ]
  go_wp2_with fail
  refine (rule_prefix w3.heap.size s1 ⟨#[]⟩ 0 0 0 _ m1 R0.out).mono ?_
  rw [HE1.out]
  rintro x w4 ⟨rfl, rr1, xx1⟩
  have R1 := Lib.hid rr1
  replace xb := Lib.hid (xb.out.trans xx1)
  clear rr1 xx1 pc k0 k1 k2 k3 k4
  have pc := (P0.out.extB xb.out (by omega)).cell
  simp only [ruleParts, numClo] at pc
  have hres := RES.out.extB xb.out (by omega)
  have cr := hres.cell
  have fr := hres.free
  simp only [zeroBox, ruleBox] at cr
  have kk := xb.out.keep q2.out (by show b ≠ w3.heap.size; omega)
  go_wp2
  have exf := EX.out.own xb.out (by omega)
  exact bodyPost_ret (v := parseBad E1 1) (by simp [results, Tryz.results100, go_sem, parseBad, parseRet, cr]) rfl ⟨rfl, (by repeat (first | with_reducible exact Ext.refl _ | with_reducible assumption | with_reducible refine Ext.alloc ?_ _ | with_reducible refine Ext.drew ?_ | (with_reducible refine Ext.setCell ?_ (by first | exact Nat.le_refl _ | (dsimp only; omega) | (simp; done) | (simp; omega)) _) | with_reducible refine Ext.setCell ?_ (by simp; try omega) _ | with_reducible refine Ext.trans ?_ (by with_reducible assumption)))⟩

set_option maxHeartbeats 2000000 in
set_option maxRecDepth 100000 in
theorem rule_Parse_rule2 (b o c : Nat) (s1 s2 s3 s4 : ByteArray) (w : World) (c0 : w.cell? ⟨b, o, none⟩ = some (.string wRule)) (c1 : w.cell? ⟨b, o + 1, none⟩ = some (.string s1)) (m1 : s1.size ≤ maxLen) (c2 : w.cell? ⟨b, o + 2, none⟩ = some (.string s2)) (m2 : s2.size ≤ maxLen) (c3 : w.cell? ⟨b, o + 3, none⟩ = some (.string s3)) (m3 : s3.size ≤ maxLen) (c4 : w.cell? ⟨b, o + 4, none⟩ = some (.string s4)) (m4 : s4.size ≤ maxLen)
    (h1 : prefErr s1 = 0) (h2 : numErr s2 24 ≠ 0) :
    Calls Tryz.prog 100 #[.slice (some ⟨b, o, none⟩) 5 c] w fun x w' => x = .returned (parseBad (numErr s2 24) 2) ∧ Ext w w' := by
  have g1 : ((prefErr s1) != 0) = false := by rw [h1]; rfl
  have g2 : ((numErr s2 24) != 0) = true := by rw [bne_iff_ne]; exact h2
  obtain ⟨d0, d1⟩ := digNum_bounds s2
  generalize hE1 : prefErr s1 = E1 at *
  have HE1 := Lib.hid hE1
  clear hE1
  generalize hE2 : numErr s2 24 = E2 at *
  have HE2 := Lib.hid hE2
  clear hE2
  clear h1 h2
  go_enter Tryz.func100, Tryz.ntmps100
  go_wp2_with fail
  refine (rule_number_every _ _).mono ?_
  rintro x w1 ⟨rfl, hx1, bf, bn⟩
  have br := (Blk.new w zeroBox 37).ext hx1
  simp only [World.size_alloc] at bf bn
  have hx0 : Ext w w1 := ((Ext.refl w).alloc _).trans hx1
  obtain ⟨w2, w3, u1, u2, hmap, hx3, bd, bl⟩ := parts_map (w.heap.size + 1) w1
  simp only [defParts, ruleParts, numClo] at u1 u2
  have hmm := @run_makeMap Tryz.prog
  have hw := hx0.sz
  have hnn : w1.heap.size < w3.heap.size := lt_of_block hmap
  have x3 := hx0.trans hx3
  have hbl := cell_lt (x3.keep c0)
  have hbw := cell_lt c0
  have k0 := x3.keep c0
  have k1 := x3.keep c1
  have k2 := x3.keep c2
  have k3 := x3.keep c3
  have k4 := x3.keep c4
  clear c0 c1 c2 c3 c4
  have L := (run_lookup_yes (P := Tryz.prog) Tryz.underlying244 Tryz.underlying9 (key := .string wRule) trivial hmap (i := 1) (v := .slice (some ⟨w2.heap.size, 0, none⟩) 4 4) (by kernel_rfl)).2
  simp only [wRule] at L k0
  have nl := parts_nil
  have bp := bl
  have pc := bp.cell
  have pl := bp.lt
  simp only [ruleParts, numClo] at pc
  have r0 := Blk.new w3 zeroBox 37
  have hr0 := (br.ext hx3).alloc (.cells zeroBox 37)
  have f0 := ((bf.ext hx3).alloc (.cells zeroBox 37))
  have n0 := ((bn.ext hx3).alloc (.cells zeroBox 37))
  have F0 := Lib.hid f0
  have N0 := Lib.hid n0
  have R0 := Lib.hid r0
  have RES := Lib.hid hr0
  have BP := Lib.hid bp
  have rlt := br.lt
  have rl2 := bn.lt
  clear hmap bd bl bf bn br hr0 f0 n0 r0 bp
  go_wp2_with fail
  refine wp_loop_rounds 6 ?_
  have ex : Ext w (w3.alloc (.cells zeroBox 37)) := x3.alloc _
  have EX := Lib.hid ex
  have xb := Lib.hid (ExtB.refl w3.heap.size (w3.alloc (.cells zeroBox 37)))
  have P0 := Lib.hid (BP.out.alloc (.cells zeroBox 37))
  have q1 := Lib.hid (Ext.keep ((Ext.refl w3).alloc (.cells zeroBox 37)) k1)
  have q2 := Lib.hid (Ext.keep ((Ext.refl w3).alloc (.cells zeroBox 37)) k2)
  have q3 := Lib.hid (Ext.keep ((Ext.refl w3).alloc (.cells zeroBox 37)) k3)
  have q4 := Lib.hid (Ext.keep ((Ext.refl w3).alloc (.cells zeroBox 37)) k4)
  rw [rounds_succ]
  go_wp2_with fail
  refine (rule_prefix w3.heap.size s1 ⟨#[]⟩ 0 0 0 _ m1 R0.out).mono ?_
  rw [HE1.out]
  rintro x w4 ⟨rfl, rr1, xx1⟩
  have R1 := Lib.hid rr1
  replace xb := Lib.hid (xb.out.trans xx1)
  clear rr1 xx1 pc k0 k1 k2 k3 k4
  have pc := (P0.out.extB xb.out (by omega)).cell
  simp only [ruleParts, numClo] at pc
  have hres := RES.out.extB xb.out (by omega)
  have cr := hres.cell
  have fr := hres.free
  simp only [zeroBox, ruleBox] at cr
  have kk := xb.out.keep q2.out (by show b ≠ w3.heap.size; omega)
  go_wp2
  rw [rounds_succ]
  go_wp2_with fail
  refine (number_every w3.heap.size _ _ s2 s1 0 0 0 24 _ m2 R1.out (F0.out.extB xb.out (by omega)) (N0.out.extB xb.out (by omega))).mono ?_
  rw [HE2.out]
  rintro x w5 ⟨rfl, rr2, xx2⟩
  have R2 := Lib.hid rr2
  replace xb := Lib.hid (xb.out.trans xx2)
  clear rr2 xx2 pc hres cr fr kk
  have pc := (P0.out.extB xb.out (by omega)).cell
  simp only [ruleParts, numClo] at pc
  have hres := RES.out.extB xb.out (by omega)
  have cr := hres.cell
  have fr := hres.free
  simp only [zeroBox, ruleBox] at cr
  have kk := xb.out.keep q3.out (by show b ≠ w3.heap.size; omega)
  go_wp2
  have exf := EX.out.own xb.out (by omega)
  exact bodyPost_ret (v := parseBad E2 2) (by simp [results, Tryz.results100, go_sem, parseBad, parseRet, cr]) rfl ⟨rfl, (by repeat (first | with_reducible exact Ext.refl _ | with_reducible assumption | with_reducible refine Ext.alloc ?_ _ | with_reducible refine Ext.drew ?_ | (with_reducible refine Ext.setCell ?_ (by first | exact Nat.le_refl _ | (dsimp only; omega) | (simp; done) | (simp; omega)) _) | with_reducible refine Ext.setCell ?_ (by simp; try omega) _ | with_reducible refine Ext.trans ?_ (by with_reducible assumption)))⟩

set_option maxHeartbeats 2000000 in
set_option maxRecDepth 100000 in
theorem rule_Parse_rule3 (b o c : Nat) (s1 s2 s3 s4 : ByteArray) (w : World) (c0 : w.cell? ⟨b, o, none⟩ = some (.string wRule)) (c1 : w.cell? ⟨b, o + 1, none⟩ = some (.string s1)) (m1 : s1.size ≤ maxLen) (c2 : w.cell? ⟨b, o + 2, none⟩ = some (.string s2)) (m2 : s2.size ≤ maxLen) (c3 : w.cell? ⟨b, o + 3, none⟩ = some (.string s3)) (m3 : s3.size ≤ maxLen) (c4 : w.cell? ⟨b, o + 4, none⟩ = some (.string s4)) (m4 : s4.size ≤ maxLen)
    (h1 : prefErr s1 = 0) (h2 : numErr s2 24 = 0) (h3 : burstErr (digNum s2) s3 ≠ 0) :
    Calls Tryz.prog 100 #[.slice (some ⟨b, o, none⟩) 5 c] w fun x w' => x = .returned (parseBad (burstErr (digNum s2) s3) 3) ∧ Ext w w' := by
  have g1 : ((prefErr s1) != 0) = false := by rw [h1]; rfl
  have g2 : ((numErr s2 24) != 0) = false := by rw [h2]; rfl
  have g3 : ((burstErr (digNum s2) s3) != 0) = true := by rw [bne_iff_ne]; exact h3
  obtain ⟨d0, d1⟩ := digNum_bounds s2
  generalize hE1 : prefErr s1 = E1 at *
  have HE1 := Lib.hid hE1
  clear hE1
  generalize hE2 : numErr s2 24 = E2 at *
  have HE2 := Lib.hid hE2
  clear hE2
  generalize hE3 : burstErr (digNum s2) s3 = E3 at *
  have HE3 := Lib.hid hE3
  clear hE3
  clear h1 h2 h3
  go_enter Tryz.func100, Tryz.ntmps100
  go_wp2_with fail
  refine (rule_number_every _ _).mono ?_
  rintro x w1 ⟨rfl, hx1, bf, bn⟩
  have br := (Blk.new w zeroBox 37).ext hx1
  simp only [World.size_alloc] at bf bn
  have hx0 : Ext w w1 := ((Ext.refl w).alloc _).trans hx1
  obtain ⟨w2, w3, u1, u2, hmap, hx3, bd, bl⟩ := parts_map (w.heap.size + 1) w1
  simp only [defParts, ruleParts, numClo] at u1 u2
  have hmm := @run_makeMap Tryz.prog
  have hw := hx0.sz
  have hnn : w1.heap.size < w3.heap.size := lt_of_block hmap
  have x3 := hx0.trans hx3
  have hbl := cell_lt (x3.keep c0)
  have hbw := cell_lt c0
  have k0 := x3.keep c0
  have k1 := x3.keep c1
  have k2 := x3.keep c2
  have k3 := x3.keep c3
  have k4 := x3.keep c4
  clear c0 c1 c2 c3 c4
  have L := (run_lookup_yes (P := Tryz.prog) Tryz.underlying244 Tryz.underlying9 (key := .string wRule) trivial hmap (i := 1) (v := .slice (some ⟨w2.heap.size, 0, none⟩) 4 4) (by kernel_rfl)).2
  simp only [wRule] at L k0
  have nl := parts_nil
  have bp := bl
  have pc := bp.cell
  have pl := bp.lt
  simp only [ruleParts, numClo] at pc
  have r0 := Blk.new w3 zeroBox 37
  have hr0 := (br.ext hx3).alloc (.cells zeroBox 37)
  have f0 := ((bf.ext hx3).alloc (.cells zeroBox 37))
  have n0 := ((bn.ext hx3).alloc (.cells zeroBox 37))
  have F0 := Lib.hid f0
  have N0 := Lib.hid n0
  have R0 := Lib.hid r0
  have RES := Lib.hid hr0
  have BP := Lib.hid bp
  have rlt := br.lt
  have rl2 := bn.lt
  clear hmap bd bl bf bn br hr0 f0 n0 r0 bp
  go_wp2_with fail
  refine wp_loop_rounds 6 ?_
  have ex : Ext w (w3.alloc (.cells zeroBox 37)) := x3.alloc _
  have EX := Lib.hid ex
  have xb := Lib.hid (ExtB.refl w3.heap.size (w3.alloc (.cells zeroBox 37)))
  have P0 := Lib.hid (BP.out.alloc (.cells zeroBox 37))
  have q1 := Lib.hid (Ext.keep ((Ext.refl w3).alloc (.cells zeroBox 37)) k1)
  have q2 := Lib.hid (Ext.keep ((Ext.refl w3).alloc (.cells zeroBox 37)) k2)
  have q3 := Lib.hid (Ext.keep ((Ext.refl w3).alloc (.cells zeroBox 37)) k3)
  have q4 := Lib.hid (Ext.keep ((Ext.refl w3).alloc (.cells zeroBox 37)) k4)
  rw [rounds_succ]
  go_wp2_with fail
  refine (rule_prefix w3.heap.size s1 ⟨#[]⟩ 0 0 0 _ m1 R0.out).mono ?_
  rw [HE1.out]
  rintro x w4 ⟨rfl, rr1, xx1⟩
  have R1 := Lib.hid rr1
  replace xb := Lib.hid (xb.out.trans xx1)
  clear rr1 xx1 pc k0 k1 k2 k3 k4
  have pc := (P0.out.extB xb.out (by omega)).cell
  simp only [ruleParts, numClo] at pc
  have hres := RES.out.extB xb.out (by omega)
  have cr := hres.cell
  have fr := hres.free
  simp only [zeroBox, ruleBox] at cr
  have kk := xb.out.keep q2.out (by show b ≠ w3.heap.size; omega)
  go_wp2
  rw [rounds_succ]
  go_wp2_with fail
  refine (number_every w3.heap.size _ _ s2 s1 0 0 0 24 _ m2 R1.out (F0.out.extB xb.out (by omega)) (N0.out.extB xb.out (by omega))).mono ?_
  rw [HE2.out]
  rintro x w5 ⟨rfl, rr2, xx2⟩
  have R2 := Lib.hid rr2
  replace xb := Lib.hid (xb.out.trans xx2)
  clear rr2 xx2 pc hres cr fr kk
  have pc := (P0.out.extB xb.out (by omega)).cell
  simp only [ruleParts, numClo] at pc
  have hres := RES.out.extB xb.out (by omega)
  have cr := hres.cell
  have fr := hres.free
  simp only [zeroBox, ruleBox] at cr
  have kk := xb.out.keep q3.out (by show b ≠ w3.heap.size; omega)
  go_wp2
  rw [rounds_succ]
  go_wp2_with fail
  refine (rule_burst w3.heap.size s3 s1 (digNum s2) 0 0 _ m3 d0 d1 R2.out).mono ?_
  rw [HE3.out]
  rintro x w6 ⟨rfl, rr3, xx3⟩
  have R3 := Lib.hid rr3
  replace xb := Lib.hid (xb.out.trans xx3)
  clear rr3 xx3 pc hres cr fr kk
  have pc := (P0.out.extB xb.out (by omega)).cell
  simp only [ruleParts, numClo] at pc
  have hres := RES.out.extB xb.out (by omega)
  have cr := hres.cell
  have fr := hres.free
  simp only [zeroBox, ruleBox] at cr
  have kk := xb.out.keep q4.out (by show b ≠ w3.heap.size; omega)
  go_wp2
  have exf := EX.out.own xb.out (by omega)
  exact bodyPost_ret (v := parseBad E3 3) (by simp [results, Tryz.results100, go_sem, parseBad, parseRet, cr]) rfl ⟨rfl, (by repeat (first | with_reducible exact Ext.refl _ | with_reducible assumption | with_reducible refine Ext.alloc ?_ _ | with_reducible refine Ext.drew ?_ | (with_reducible refine Ext.setCell ?_ (by first | exact Nat.le_refl _ | (dsimp only; omega) | (simp; done) | (simp; omega)) _) | with_reducible refine Ext.setCell ?_ (by simp; try omega) _ | with_reducible refine Ext.trans ?_ (by with_reducible assumption)))⟩

end Go.Proofs.YtknlojlcahgnoaaGreat

namespace Go.Proofs.YtknlojlcahgnoaaGreat
open Go.RowKit
set_option linter.unusedVariables false
set_option linter.unusedSimpArgs false

set_option maxHeartbeats 2000000 in
set_option maxRecDepth 100000 in
theorem rule_Parse_rule4 (b o c : Nat) (s1 s2 s3 s4 : ByteArray) (w : World) (c0 : w.cell? ⟨b, o, none⟩ = some (.string wRule)) (c1 : w.cell? ⟨b, o + 1, none⟩ = some (.string s1)) (m1 : s1.size ≤ maxLen) (c2 : w.cell? ⟨b, o + 2, none⟩ = some (.string s2)) (m2 : s2.size ≤ maxLen) (c3 : w.cell? ⟨b, o + 3, none⟩ = some (.string s3)) (m3 : s3.size ≤ maxLen) (c4 : w.cell? ⟨b, o + 4, none⟩ = some (.string s4)) (m4 : s4.size ≤ maxLen)
    (h1 : prefErr s1 = 0) (h2 : numErr s2 24 = 0) (h3 : burstErr (digNum s2) s3 = 0) (h4 : kindErr (kindOf s4) ≠ 0) :
    Calls Tryz.prog 100 #[.slice (some ⟨b, o, none⟩) 5 c] w fun x w' => x = .returned (parseBad (kindErr (kindOf s4)) 4) ∧ Ext w w' := by
  have g1 : ((prefErr s1) != 0) = false := by rw [h1]; rfl
  have g2 : ((numErr s2 24) != 0) = false := by rw [h2]; rfl
  have g3 : ((burstErr (digNum s2) s3) != 0) = false := by rw [h3]; rfl
  have g4 : ((kindErr (kindOf s4)) != 0) = true := by rw [bne_iff_ne]; exact h4
  obtain ⟨d0, d1⟩ := digNum_bounds s2
  generalize hE1 : prefErr s1 = E1 at *
  have HE1 := Lib.hid hE1
  clear hE1
  generalize hE2 : numErr s2 24 = E2 at *
  have HE2 := Lib.hid hE2
  clear hE2
  generalize hE3 : burstErr (digNum s2) s3 = E3 at *
  have HE3 := Lib.hid hE3
  clear hE3
  generalize hE4 : kindErr (kindOf s4) = E4 at *
  have HE4 := Lib.hid hE4
  clear hE4
  clear h1 h2 h3 h4
  go_enter Tryz.func100, Tryz.ntmps100
  go_wp2_with fail
  refine (rule_number_every _ _).mono ?_
  rintro x w1 ⟨rfl, hx1, bf, bn⟩
  have br := (Blk.new w zeroBox 37).ext hx1
  simp only [World.size_alloc] at bf bn
  have hx0 : Ext w w1 := ((Ext.refl w).alloc _).trans hx1
  obtain ⟨w2, w3, u1, u2, hmap, hx3, bd, bl⟩ := parts_map (w.heap.size + 1) w1
  simp only [defParts, ruleParts, numClo] at u1 u2
  have hmm := @run_makeMap Tryz.prog
  have hw := hx0.sz
  have hnn : w1.heap.size < w3.heap.size := lt_of_block hmap
  have x3 := hx0.trans hx3
  have hbl := cell_lt (x3.keep c0)
  have hbw := cell_lt c0
  have k0 := x3.keep c0
  have k1 := x3.keep c1
  have k2 := x3.keep c2
  have k3 := x3.keep c3
  have k4 := x3.keep c4
  clear c0 c1 c2 c3 c4
  have L := (run_lookup_yes (P := Tryz.prog) Tryz.underlying244 Tryz.underlying9 (key := .string wRule) trivial hmap (i := 1) (v := .slice (some ⟨w2.heap.size, 0, none⟩) 4 4) (by kernel_rfl)).2
  simp only [wRule] at L k0
  have nl := parts_nil
  have bp := bl
  have pc := bp.cell
  have pl := bp.lt
  simp only [ruleParts, numClo] at pc
  have r0 := Blk.new w3 zeroBox 37
  have hr0 := (br.ext hx3).alloc (.cells zeroBox 37)
  have f0 := ((bf.ext hx3).alloc (.cells zeroBox 37))
  have n0 := ((bn.ext hx3).alloc (.cells zeroBox 37))
  have F0 := Lib.hid f0
  have N0 := Lib.hid n0
  have R0 := Lib.hid r0
  have RES := Lib.hid hr0
  have BP := Lib.hid bp
  have rlt := br.lt
  have rl2 := bn.lt
  clear hmap bd bl bf bn br hr0 f0 n0 r0 bp
  go_wp2_with fail
  refine wp_loop_rounds 6 ?_
  have ex : Ext w (w3.alloc (.cells zeroBox 37)) := x3.alloc _
  have EX := Lib.hid ex
  have xb := Lib.hid (ExtB.refl w3.heap.size (w3.alloc (.cells zeroBox 37)))
  have P0 := Lib.hid (BP.out.alloc (.cells zeroBox 37))
  have q1 := Lib.hid (Ext.keep ((Ext.refl w3).alloc (.cells zeroBox 37)) k1)
  have q2 := Lib.hid (Ext.keep ((Ext.refl w3).alloc (.cells zeroBox 37)) k2)
  have q3 := Lib.hid (Ext.keep ((Ext.refl w3).alloc (.cells zeroBox 37)) k3)
  have q4 := Lib.hid (Ext.keep ((Ext.refl w3).alloc (.cells zeroBox 37)) k4)
  rw [rounds_succ]
  go_wp2_with fail
  refine (rule_prefix w3.heap.size s1 ⟨#[]⟩ 0 0 0 _ m1 R0.out).mono ?_
  rw [HE1.out]
  rintro x w4 ⟨rfl, rr1, xx1⟩
  have R1 := Lib.hid rr1
  replace xb := Lib.hid (xb.out.trans xx1)
  clear rr1 xx1 pc k0 k1 k2 k3 k4
  have pc := (P0.out.extB xb.out (by omega)).cell
  simp only [ruleParts, numClo] at pc
  have hres := RES.out.extB xb.out (by omega)
  have cr := hres.cell
  have fr := hres.free
  simp only [zeroBox, ruleBox] at cr
  have kk := xb.out.keep q2.out (by show b ≠ w3.heap.size; omega)
  go_wp2
  rw [rounds_succ]
  go_wp2_with fail
  refine (number_every w3.heap.size _ _ s2 s1 0 0 0 24 _ m2 R1.out (F0.out.extB xb.out (by omega)) (N0.out.extB xb.out (by omega))).mono ?_
  rw [HE2.out]
  rintro x w5 ⟨rfl, rr2, xx2⟩
  have R2 := Lib.hid rr2
  replace xb := Lib.hid (xb.out.trans xx2)
  clear rr2 xx2 pc hres cr fr kk
  have pc := (P0.out.extB xb.out (by omega)).cell
  simp only [ruleParts, numClo] at pc
  have hres := RES.out.extB xb.out (by omega)
  have cr := hres.cell
  have fr := hres.free
  simp only [zeroBox, ruleBox] at cr
  have kk := xb.out.keep q3.out (by show b ≠ w3.heap.size; omega)
  go_wp2
  rw [rounds_succ]
  go_wp2_with fail
  refine (rule_burst w3.heap.size s3 s1 (digNum s2) 0 0 _ m3 d0 d1 R2.out).mono ?_
  rw [HE3.out]
  rintro x w6 ⟨rfl, rr3, xx3⟩
  have R3 := Lib.hid rr3
  replace xb := Lib.hid (xb.out.trans xx3)
  clear rr3 xx3 pc hres cr fr kk
  have pc := (P0.out.extB xb.out (by omega)).cell
  simp only [ruleParts, numClo] at pc
  have hres := RES.out.extB xb.out (by omega)
  have cr := hres.cell
  have fr := hres.free
  simp only [zeroBox, ruleBox] at cr
  have kk := xb.out.keep q4.out (by show b ≠ w3.heap.size; omega)
  go_wp2
  rw [rounds_succ]
  go_wp2_with fail
  refine (rule_named w3.heap.size s4 s1 (digNum s2) (digNum s3) 0 _ m4 R3.out).mono ?_
  rw [HE4.out]
  rintro x w7 ⟨rfl, rr4, xx4⟩
  have R4 := Lib.hid rr4
  replace xb := Lib.hid (xb.out.trans xx4)
  clear rr4 xx4 pc hres cr fr kk
  have pc := (P0.out.extB xb.out (by omega)).cell
  simp only [ruleParts, numClo] at pc
  have hres := RES.out.extB xb.out (by omega)
  have cr := hres.cell
  have fr := hres.free
  simp only [zeroBox, ruleBox] at cr
  have kk := True.intro
  go_wp2
  have exf := EX.out.own xb.out (by omega)
  exact bodyPost_ret (v := parseBad E4 4) (by simp [results, Tryz.results100, go_sem, parseBad, parseRet, cr]) rfl ⟨rfl, (by repeat (first | with_reducible exact Ext.refl _ | with_reducible assumption | with_reducible refine Ext.alloc ?_ _ | with_reducible refine Ext.drew ?_ | (with_reducible refine Ext.setCell ?_ (by first | exact Nat.le_refl _ | (dsimp only; omega) | (simp; done) | (simp; omega)) _) | with_reducible refine Ext.setCell ?_ (by simp; try omega) _ | with_reducible refine Ext.trans ?_ (by with_reducible assumption)))⟩

set_option maxHeartbeats 2000000 in
set_option maxRecDepth 100000 in
theorem rule_Parse_rule5 (b o c : Nat) (s1 s2 s3 s4 : ByteArray) (w : World) (c0 : w.cell? ⟨b, o, none⟩ = some (.string wRule)) (c1 : w.cell? ⟨b, o + 1, none⟩ = some (.string s1)) (m1 : s1.size ≤ maxLen) (c2 : w.cell? ⟨b, o + 2, none⟩ = some (.string s2)) (m2 : s2.size ≤ maxLen) (c3 : w.cell? ⟨b, o + 3, none⟩ = some (.string s3)) (m3 : s3.size ≤ maxLen) (c4 : w.cell? ⟨b, o + 4, none⟩ = some (.string s4)) (m4 : s4.size ≤ maxLen)
    (h1 : prefErr s1 = 0) (h2 : numErr s2 24 = 0) (h3 : burstErr (digNum s2) s3 = 0) (h4 : kindErr (kindOf s4) = 0) :
    Calls Tryz.prog 100 #[.slice (some ⟨b, o, none⟩) 5 c] w fun x w' => x = .returned (parseRet s1 (digNum s2) (digNum s3) (kindOf s4) 0 0) ∧ Ext w w' := by
  have g1 : ((prefErr s1) != 0) = false := by rw [h1]; rfl
  have g2 : ((numErr s2 24) != 0) = false := by rw [h2]; rfl
  have g3 : ((burstErr (digNum s2) s3) != 0) = false := by rw [h3]; rfl
  have g4 : ((kindErr (kindOf s4)) != 0) = false := by rw [h4]; rfl
  obtain ⟨d0, d1⟩ := digNum_bounds s2
  generalize hE1 : prefErr s1 = E1 at *
  have HE1 := Lib.hid hE1
  clear hE1
  generalize hE2 : numErr s2 24 = E2 at *
  have HE2 := Lib.hid hE2
  clear hE2
  generalize hE3 : burstErr (digNum s2) s3 = E3 at *
  have HE3 := Lib.hid hE3
  clear hE3
  generalize hE4 : kindErr (kindOf s4) = E4 at *
  have HE4 := Lib.hid hE4
  clear hE4
  clear h1 h2 h3 h4
  go_enter Tryz.func100, Tryz.ntmps100
  go_wp2_with fail
  refine (rule_number_every _ _).mono ?_
  rintro x w1 ⟨rfl, hx1, bf, bn⟩
  have br := (Blk.new w zeroBox 37).ext hx1
  simp only [World.size_alloc] at bf bn
  have hx0 : Ext w w1 := ((Ext.refl w).alloc _).trans hx1
  obtain ⟨w2, w3, u1, u2, hmap, hx3, bd, bl⟩ := parts_map (w.heap.size + 1) w1
  simp only [defParts, ruleParts, numClo] at u1 u2
  have hmm := @run_makeMap Tryz.prog
  have hw := hx0.sz
  have hnn : w1.heap.size < w3.heap.size := lt_of_block hmap
  have x3 := hx0.trans hx3
  have hbl := cell_lt (x3.keep c0)
  have hbw := cell_lt c0
  have k0 := x3.keep c0
  have k1 := x3.keep c1
  have k2 := x3.keep c2
  have k3 := x3.keep c3
  have k4 := x3.keep c4
  clear c0 c1 c2 c3 c4
  have L := (run_lookup_yes (P := Tryz.prog) Tryz.underlying244 Tryz.underlying9 (key := .string wRule) trivial hmap (i := 1) (v := .slice (some ⟨w2.heap.size, 0, none⟩) 4 4) (by kernel_rfl)).2
  simp only [wRule] at L k0
  have nl := parts_nil
  have bp := bl
  have pc := bp.cell
  have pl := bp.lt
  simp only [ruleParts, numClo] at pc
  have r0 := Blk.new w3 zeroBox 37
  have hr0 := (br.ext hx3).alloc (.cells zeroBox 37)
  have f0 := ((bf.ext hx3).alloc (.cells zeroBox 37))
  have n0 := ((bn.ext hx3).alloc (.cells zeroBox 37))
  have F0 := Lib.hid f0
  have N0 := Lib.hid n0
  have R0 := Lib.hid r0
  have RES := Lib.hid hr0
  have BP := Lib.hid bp
  have rlt := br.lt
  have rl2 := bn.lt
  clear hmap bd bl bf bn br hr0 f0 n0 r0 bp
  go_wp2_with fail
  refine wp_loop_rounds 6 ?_
  have ex : Ext w (w3.alloc (.cells zeroBox 37)) := x3.alloc _
  have EX := Lib.hid ex
  have xb := Lib.hid (ExtB.refl w3.heap.size (w3.alloc (.cells zeroBox 37)))
  have P0 := Lib.hid (BP.out.alloc (.cells zeroBox 37))
  have q1 := Lib.hid (Ext.keep ((Ext.refl w3).alloc (.cells zeroBox 37)) k1)
  have q2 := Lib.hid (Ext.keep ((Ext.refl w3).alloc (.cells zeroBox 37)) k2)
  have q3 := Lib.hid (Ext.keep ((Ext.refl w3).alloc (.cells zeroBox 37)) k3)
  have q4 := Lib.hid (Ext.keep ((Ext.refl w3).alloc (.cells zeroBox 37)) k4)
  rw [rounds_succ]
  go_wp2_with fail
  refine (rule_prefix w3.heap.size s1 ⟨#[]⟩ 0 0 0 _ m1 R0.out).mono ?_
  rw [HE1.out]
  rintro x w4 ⟨rfl, rr1, xx1⟩
  have R1 := Lib.hid rr1
  replace xb := Lib.hid (xb.out.trans xx1)
  clear rr1 xx1 pc k0 k1 k2 k3 k4
  have pc := (P0.out.extB xb.out (by omega)).cell
  simp only [ruleParts, numClo] at pc
  have hres := RES.out.extB xb.out (by omega)
  have cr := hres.cell
  have fr := hres.free
  simp only [zeroBox, ruleBox] at cr
  have kk := xb.out.keep q2.out (by show b ≠ w3.heap.size; omega)
  go_wp2
  rw [rounds_succ]
  go_wp2_with fail
  refine (number_every w3.heap.size _ _ s2 s1 0 0 0 24 _ m2 R1.out (F0.out.extB xb.out (by omega)) (N0.out.extB xb.out (by omega))).mono ?_
  rw [HE2.out]
  rintro x w5 ⟨rfl, rr2, xx2⟩
  have R2 := Lib.hid rr2
  replace xb := Lib.hid (xb.out.trans xx2)
  clear rr2 xx2 pc hres cr fr kk
  have pc := (P0.out.extB xb.out (by omega)).cell
  simp only [ruleParts, numClo] at pc
  have hres := RES.out.extB xb.out (by omega)
  have cr := hres.cell
  have fr := hres.free
  simp only [zeroBox, ruleBox] at cr
  have kk := xb.out.keep q3.out (by show b ≠ w3.heap.size; omega)
  go_wp2
  rw [rounds_succ]
  go_wp2_with fail
  refine (rule_burst w3.heap.size s3 s1 (digNum s2) 0 0 _ m3 d0 d1 R2.out).mono ?_
  rw [HE3.out]
  rintro x w6 ⟨rfl, rr3, xx3⟩
  have R3 := Lib.hid rr3
  replace xb := Lib.hid (xb.out.trans xx3)
  clear rr3 xx3 pc hres cr fr kk
  have pc := (P0.out.extB xb.out (by omega)).cell
  simp only [ruleParts, numClo] at pc
  have hres := RES.out.extB xb.out (by omega)
  have cr := hres.cell
  have fr := hres.free
  simp only [zeroBox, ruleBox] at cr
  have kk := xb.out.keep q4.out (by show b ≠ w3.heap.size; omega)
  go_wp2
  rw [rounds_succ]
  go_wp2_with fail
  refine (rule_named w3.heap.size s4 s1 (digNum s2) (digNum s3) 0 _ m4 R3.out).mono ?_
  rw [HE4.out]
  rintro x w7 ⟨rfl, rr4, xx4⟩
  have R4 := Lib.hid rr4
  replace xb := Lib.hid (xb.out.trans xx4)
  clear rr4 xx4 pc hres cr fr kk
  have pc := (P0.out.extB xb.out (by omega)).cell
  simp only [ruleParts, numClo] at pc
  have hres := RES.out.extB xb.out (by omega)
  have cr := hres.cell
  have fr := hres.free
  simp only [zeroBox, ruleBox] at cr
  have kk := True.intro
  have rc := R4.out.cell
  simp only [ruleBox] at rc
  go_wp2
  rw [rounds_succ]
  go_wp2
  have exf := EX.out.own xb.out (by omega)
  exact bodyPost_ret (v := parseRet s1 (digNum s2) (digNum s3) (kindOf s4) 0 0) (by simp [results, Tryz.results100, go_sem, parseBad, parseRet, cr]) rfl ⟨rfl, (by repeat (first | with_reducible exact Ext.refl _ | with_reducible assumption | with_reducible refine Ext.alloc ?_ _ | with_reducible refine Ext.drew ?_ | (with_reducible refine Ext.setCell ?_ (by first | exact Nat.le_refl _ | (dsimp only; omega) | (simp; done) | (simp; omega)) _) | with_reducible refine Ext.setCell ?_ (by simp; try omega) _ | with_reducible refine Ext.trans ?_ (by with_reducible assumption)))⟩

end Go.Proofs.YtknlojlcahgnoaaGreat

namespace Go.Proofs.YtknlojlcahgnoaaGreat
open Go.RowKit
set_option linter.unusedVariables false
set_option linter.unusedSimpArgs false

set_option maxHeartbeats 1000000 in
set_option maxRecDepth 100000 in
theorem rule_Parse_deflen (b o n c : Nat) (w : World) (hn : 1 ≤ n) (hnm : n ≤ maxLen) (c0 : w.cell? ⟨b, o, none⟩ = some (.string wDef)) (hlen : n ≠ 4) :
    Calls Tryz.prog 100 #[.slice (some ⟨b, o, none⟩) n c] w fun x w' => x = .returned (parseBad 22 0) ∧ Ext w w' := by
  unfold maxLen at hnm
  have hn0 : ((n : Int) == 0) = false := by rw [beq_eq_false_iff_ne]; omega
  have hn4 : ((n : Int) != 4) = true := by rw [bne_iff_ne]; omega
  clear hlen
  go_enter Tryz.func100, Tryz.ntmps100
  go_wp2_with fail
  refine (rule_number_every _ _).mono ?_
  rintro x w1 ⟨rfl, hx1, bf, bn⟩
  have br := (Blk.new w zeroBox 37).ext hx1
  simp only [World.size_alloc] at bf bn
  have hx0 : Ext w w1 := ((Ext.refl w).alloc _).trans hx1
  obtain ⟨w2, w3, u1, u2, hmap, hx3, bd, bl⟩ := parts_map (w.heap.size + 1) w1
  simp only [defParts, ruleParts, numClo] at u1 u2
  have hmm := @run_makeMap Tryz.prog
  have hw := hx0.sz
  have hnn : w1.heap.size < w3.heap.size := lt_of_block hmap
  have k0 := (hx0.trans hx3).keep c0
  have hbl := cell_lt k0
  have L := (run_lookup_yes (P := Tryz.prog) Tryz.underlying244 Tryz.underlying9 (key := .string wDef) trivial hmap (i := 0) (v := .slice (some ⟨w1.heap.size + 1, 0, none⟩) 3 3) (by kernel_rfl)).2
  simp only [wDef] at L k0
  have brr := br.ext hx3
  have cr := brr.cell
  have fr := brr.free
  simp only [zeroBox, ruleBox] at cr
  have nl := parts_nil
  have ex0 := hx0.trans hx3
  clear hmap bd bl bf bn br brr c0
  go_wp2
  exact bodyPost_ret (v := parseBad 22 0) (by simp [results, Tryz.results100, go_sem, parseBad, parseRet, cr]) rfl ⟨rfl, (by repeat (first | with_reducible exact Ext.refl _ | with_reducible assumption | with_reducible refine Ext.alloc ?_ _ | with_reducible refine Ext.drew ?_ | (with_reducible refine Ext.setCell ?_ (by first | exact Nat.le_refl _ | (dsimp only; omega) | (simp; done) | (simp; omega)) _) | with_reducible refine Ext.setCell ?_ (by simp; try omega) _ | with_reducible refine Ext.trans ?_ (by with_reducible assumption)))⟩

set_option maxHeartbeats 1000000 in
set_option maxRecDepth 100000 in
theorem rule_Parse_rulelen (b o n c : Nat) (w : World) (hn : 1 ≤ n) (hnm : n ≤ maxLen) (c0 : w.cell? ⟨b, o, none⟩ = some (.string wRule)) (hlen : n ≠ 5) :
    Calls Tryz.prog 100 #[.slice (some ⟨b, o, none⟩) n c] w fun x w' => x = .returned (parseBad 22 0) ∧ Ext w w' := by
  unfold maxLen at hnm
  have hn0 : ((n : Int) == 0) = false := by rw [beq_eq_false_iff_ne]; omega
  have hn4 : ((n : Int) != 5) = true := by rw [bne_iff_ne]; omega
  clear hlen
  go_enter Tryz.func100, Tryz.ntmps100
  go_wp2_with fail
  refine (rule_number_every _ _).mono ?_
  rintro x w1 ⟨rfl, hx1, bf, bn⟩
  have br := (Blk.new w zeroBox 37).ext hx1
  simp only [World.size_alloc] at bf bn
  have hx0 : Ext w w1 := ((Ext.refl w).alloc _).trans hx1
  obtain ⟨w2, w3, u1, u2, hmap, hx3, bd, bl⟩ := parts_map (w.heap.size + 1) w1
  simp only [defParts, ruleParts, numClo] at u1 u2
  have hmm := @run_makeMap Tryz.prog
  have hw := hx0.sz
  have hnn : w1.heap.size < w3.heap.size := lt_of_block hmap
  have k0 := (hx0.trans hx3).keep c0
  have hbl := cell_lt k0
  have L := (run_lookup_yes (P := Tryz.prog) Tryz.underlying244 Tryz.underlying9 (key := .string wRule) trivial hmap (i := 1) (v := .slice (some ⟨w2.heap.size, 0, none⟩) 4 4) (by kernel_rfl)).2
  simp only [wRule] at L k0
  have brr := br.ext hx3
  have cr := brr.cell
  have fr := brr.free
  simp only [zeroBox, ruleBox] at cr
  have nl := parts_nil
  have ex0 := hx0.trans hx3
  clear hmap bd bl bf bn br brr c0
  go_wp2
  exact bodyPost_ret (v := parseBad 22 0) (by simp [results, Tryz.results100, go_sem, parseBad, parseRet, cr]) rfl ⟨rfl, (by repeat (first | with_reducible exact Ext.refl _ | with_reducible assumption | with_reducible refine Ext.alloc ?_ _ | with_reducible refine Ext.drew ?_ | (with_reducible refine Ext.setCell ?_ (by first | exact Nat.le_refl _ | (dsimp only; omega) | (simp; done) | (simp; omega)) _) | with_reducible refine Ext.setCell ?_ (by simp; try omega) _ | with_reducible refine Ext.trans ?_ (by with_reducible assumption)))⟩

end Go.Proofs.YtknlojlcahgnoaaGreat
