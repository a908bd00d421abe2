/- Walks: rule.Parse. -/
import Derived.Test.YtphbhinobdkidaaRule5
namespace Go.Proofs.Ytphbhinobdkidaa
open Go.RowKit
set_option linter.unusedVariables false
set_option linter.unusedSimpArgs false

theorem ExtB.keep {b : Nat} {w w' : World} (h : ExtB b w w') {a : Addr} {v : Value} (c : w.cell? a = some v) (ne : a.block ≠ b) : w'.cell? a = some v := by
  have hlt : a.block < w.heap.size := World.block_lt_of_cell? w _ c
  rw [World.cell?_of_block (w := w) (h.block a.block hlt ne)]; exact c
/-- a store of a new key into a map that stands anywhere -/
theorem run_update_at {P : Program} {t k e : TypeId} {d : TypeDesc} (ht : P.underlying t = some (.map k e)) (hk : P.underlying k = some d) {key : Value} (hkey : MapKept.IsKey d key) {es : Array MapEntry} {c b : Nat} {w : World} (hb : w.heap[b]? = some (.map es c))
    (hnew : Instr.findNow d key es.toList 0 = some none) (v : Value) :
    ∃ w', (Instr.mapUpdate t (.map (some b)) key v).run P w = .ok () w' ∧ w'.heap[b]? = some (.map (es.push ⟨key, v, c⟩) (c + 1)) ∧ ExtB b w w' := by
  refine ⟨{ w with heap := w.heap.setIfInBounds b (.map (es.push ⟨key, v, c⟩) (c + 1)) }, ?_, (MapKept.heap_set hb).1, ⟨rfl, rfl, rfl, by simp, fun j _ hj => (MapKept.heap_set hb).2 j hj⟩⟩
  simp [Instr.mapUpdate, run_underlying ht, MapKept.run_getObj_map hb, MapKept.run_checkKey hk hkey, MapKept.run_findKey hk hnew, MapKept.run_setObj_map _ hb, Result.andThen]

def wDef : ByteArray := ⟨#[100, 101, 102, 97, 117, 108, 116]⟩
def wRule : ByteArray := ⟨#[114, 117, 108, 101]⟩
def numClo (f : Nat) : Value := .func (.func 48) #[] #[.pointer (some ⟨f, 0, none⟩), .pointer (some ⟨f + 1, 0, none⟩)]
def defParts (f : Nat) : Array Value := #[numClo f, .func (.func 32) #[] #[], .func (.func 33) #[] #[]]
def ruleParts (f : Nat) : Array Value := #[.func (.func 34) #[] #[], numClo f, .func (.func 32) #[] #[], .func (.func 33) #[] #[]]

/-- the two stores into the map of parts, and what is there then -/
theorem parts_map (f : Nat) (w : World) : ∃ w2 w3 : World,
    (Instr.mapUpdate 69 (.map (some w.heap.size)) (.string ⟨#[100, 101, 102, 97, 117, 108, 116]⟩) (.slice (some ⟨w.heap.size + 1, 0, none⟩) 3 3)).run Try.prog ((w.alloc (.map #[] 0)).alloc (.cells (defParts f) 63)) = .ok () w2 ∧
    (Instr.mapUpdate 69 (.map (some w.heap.size)) (.string ⟨#[114, 117, 108, 101]⟩) (.slice (some ⟨w2.heap.size, 0, none⟩) 4 4)).run Try.prog (w2.alloc (.cells (ruleParts f) 63)) = .ok () w3 ∧
    w3.heap[w.heap.size]? = some (.map #[⟨.string wDef, .slice (some ⟨w.heap.size + 1, 0, none⟩) 3 3, 0⟩, ⟨.string wRule, .slice (some ⟨w2.heap.size, 0, none⟩) 4 4, 1⟩] 2) ∧
    Ext w w3 ∧ Blk w3 (w.heap.size + 1) (defParts f) 63 ∧ Blk w3 w2.heap.size (ruleParts f) 63 := by
  have hb1 : ((w.alloc (.map #[] 0)).alloc (.cells (defParts f) 63)).heap[w.heap.size]? = some (.map #[] 0) :=
    ((MapKept.heap_alloc (w.alloc (.map #[] 0)) _).2 _ (by simp)).trans (map_new_at w _)
  obtain ⟨w2, r2, m2, x2⟩ := run_update_at (P := Try.prog) Try.underlying69 Try.underlying9 (key := .string wDef) trivial hb1 rfl (.slice (some ⟨w.heap.size + 1, 0, none⟩) 3 3)
  have hb2 : (w2.alloc (.cells (ruleParts f) 63)).heap[w.heap.size]? = some (.map #[⟨.string wDef, .slice (some ⟨w.heap.size + 1, 0, none⟩) 3 3, 0⟩] 1) :=
    ((MapKept.heap_alloc w2 _).2 _ (lt_of_block m2)).trans m2
  obtain ⟨w3, r3, m3, x3⟩ := run_update_at (P := Try.prog) Try.underlying69 Try.underlying9 (key := .string wRule) trivial hb2 (by kernel_rfl) (.slice (some ⟨w2.heap.size, 0, none⟩) 4 4)
  have e1 : Ext w w2 := (((Ext.refl w).alloc _).alloc _).own x2 (Nat.le_refl _)
  have d1 : Blk w2 (w.heap.size + 1) (defParts f) 63 := (Blk.new' _ _ _ (by simp)).extB x2 (by omega)
  have lt2 := lt_of_block m2
  have d2 : Blk w3 w2.heap.size (ruleParts f) 63 := (Blk.new _ _ _).extB x3 (by omega)
  exact ⟨w2, w3, r2, r3, m3, (e1.alloc _).own x3 (Nat.le_refl _), (d1.alloc _).extB x3 (by omega), d2⟩

theorem parts_nil (w : World) (a : Option Addr) (n c : Nat) : (binOp .eql 68 (.slice a n c) (.slice none 0 0)).run Try.prog w = .ok (.bool a.isNone) w := by
  simp only [binOp]
  simp [Op.equal, Op.maxDepth, Lib.run_equalIn_slice_nil w 9999 68 63 a n c 0 0 Try.underlying68]
def zeroBox : Array Value := ruleBox ⟨#[]⟩ 0 0 0
def parseRet (p : ByteArray) (e b k err at_ : Int) : Value := .tuple #[.agg #[.string p, .int .u64 e, .int .u64 b, .int .u8 k], .int .u16 err, .int .i64 at_]
def parseBad (err at_ : Int) : Value := parseRet ⟨#[]⟩ 0 0 0 err at_

theorem rule_Parse_empty (a : Option Addr) (c : Nat) (w : World) :
    Calls Try.prog 16 #[.slice a 0 c] w fun x w' => x = .returned (parseBad 22 0) ∧ Ext w w' := by
  go_enter Try.func16, Try.ntmps16
  go_wp2
  exact bodyPost_ret (v := parseBad 22 0) (by simp [results, Try.results16, go_sem, parseBad, parseRet]) rfl ⟨rfl, (by repeat (first | with_reducible exact Ext.refl _ | with_reducible assumption | with_reducible refine Ext.alloc ?_ _ | with_reducible refine Ext.drew ?_ | with_reducible refine Ext.setCell ?_ (by simp; try omega) _ | with_reducible refine Ext.trans ?_ (by with_reducible assumption)))⟩

set_option maxHeartbeats 1000000 in
set_option maxRecDepth 100000 in
theorem rule_Parse_other (b o n c : Nat) (s : ByteArray) (w : World) (hn : 1 ≤ n) (hnm : n ≤ maxLen) (c0 : w.cell? ⟨b, o, none⟩ = some (.string s)) (h1 : s ≠ wDef) (h2 : s ≠ wRule) :
    Calls Try.prog 16 #[.slice (some ⟨b, o, none⟩) n c] w fun x w' => x = .returned (parseBad 22 0) ∧ Ext w w' := by
  unfold maxLen at hnm
  have hn0 : ((n : Int) == 0) = false := by rw [beq_eq_false_iff_ne]; omega
  go_enter Try.func16, Try.ntmps16
  go_wp2_with fail
  refine (rule_number_every _ _).mono ?_
  rintro x w1 ⟨rfl, hx1, bf, bn⟩
  have br := (Blk.new w zeroBox 25).ext hx1
  simp only [World.size_alloc] at bf bn
  have hx0 : Ext w w1 := ((Ext.refl w).alloc _).trans hx1
  obtain ⟨w2, w3, u1, u2, hmap, hx3, bd, bl⟩ := parts_map (w.heap.size + 1) w1
  simp only [defParts, ruleParts, numClo] at u1 u2
  have hmm := @run_makeMap Try.prog
  have hw := hx0.sz
  have hnn : w1.heap.size < w3.heap.size := lt_of_block hmap
  have k0 := (hx0.trans hx3).keep c0
  have hbl := cell_lt k0
  have e1 : (s == wDef) = false := by rw [Bool.eq_false_iff]; exact fun h => h1 ((MapKept.bytes_beq _ _).1 h)
  have e2 : (s == wRule) = false := by rw [Bool.eq_false_iff]; exact fun h => h2 ((MapKept.bytes_beq _ _).1 h)
  have L := (run_lookup_no (P := Try.prog) Try.underlying69 Try.underlying9 (key := .string s) trivial hmap (z := .slice none 0 0) (by kernel_rfl) (by simp [Instr.findNow, Instr.sameNow, e1, e2])).2
  have brr := br.ext hx3
  have cr := brr.cell
  have fr := brr.free
  simp only [zeroBox, ruleBox] at cr
  have nl := parts_nil
  clear hmap bd bl e1 e2 h1 h2 bf bn br brr
  go_wp2
  exact bodyPost_ret (v := parseBad 22 0) (by simp [results, Try.results16, go_sem, parseBad, parseRet, cr]) rfl ⟨rfl, (hx0.trans hx3).own (by repeat (first | with_reducible exact ExtB.refl _ _ | with_reducible assumption | with_reducible refine ExtB.alloc ?_ _ | with_reducible refine ExtB.drew ?_ | with_reducible refine ExtB.setCell ?_ _ _ | with_reducible refine ExtB.trans ?_ (by with_reducible assumption) | with_reducible refine ExtB.trans ?_ (Ext.toB (by with_reducible assumption) _))) (Nat.le_refl _)⟩

end Go.Proofs.Ytphbhinobdkidaa
