/- Walks: table.slot. A range over a map of slots, whose round may delete the slot that came. Walks: table.sweep, maps.DeleteFunc. -/
import Derived.Maps.RangeWalk
import Derived.Test.YtnlmbmbalmkiiaaG4
import Derived.Test.YtnlmbmbalmkiiaaG3

/- Walks: table.slot. -/
namespace Go.Proofs.Ytnlmbmbalmkiiaa
open Go.RowKit
set_option linter.unusedVariables false
set_option linter.unusedSimpArgs false

theorem table_fillX (k sp : ByteArray) (se sbu srk sk sa sb clock : Int) (w : World) (m1 : k.size ≤ maxLen) (m2 : sp.size ≤ maxLen) (u1 : 0 ≤ se) (u2 : se < 18446744073709551616) (u3 : 0 ≤ sbu) (u4 : sbu < 18446744073709551616) (u5 : 0 ≤ srk) (u6 : srk < 256) (u7 : 0 ≤ sk) (u8 : sk < 256) (u9 : 0 ≤ sa) (u10 : sa < 18446744073709551616) (u11 : 0 ≤ sb) (u12 : sb < 18446744073709551616) (hn0 : 0 ≤ clock) (hn1 : clock < 18446744073709551616) :
    Calls Try.prog 50 #[.agg #[.string k, .string sp, .int .u64 se, .int .u64 sbu, .int .u8 srk, .int .u8 sk, .int .u64 sa, .int .u64 sb], .int .u64 clock] w fun e w' => e = .returned (.int .u64 (Slot.fill ⟨k, sp, se, sbu, srk, sk, sa, sb⟩ clock)) ∧ Ext w w' :=
  table_fill ⟨k, sp, se, sbu, srk, sk, sa, sb⟩ clock w ⟨m1, m2, u1, u2, u3, u4, u5, u6, u7, u8, u9, u10, u11, u12⟩ hn0 hn1

set_option maxHeartbeats 4000000 in
set_option maxRecDepth 100000 in
theorem table_slot_yes (t mb c : Nat) (k sp p : ByteArray) (se sbu srk sk sa sb most clock rk : Int) (l : SMap) (w : World) (h : TabAt w t mb most clock l c) (m1 : k.size ≤ maxLen) (m2 : sp.size ≤ maxLen) (u1 : 0 ≤ se) (u2 : se < 18446744073709551616) (u3 : 0 ≤ sbu) (u4 : sbu < 18446744073709551616) (u5 : 0 ≤ srk) (u6 : srk < 256) (u7 : 0 ≤ sk) (u8 : sk < 256) (u9 : 0 ≤ sa) (u10 : sa < 18446744073709551616) (u11 : 0 ≤ sb) (u12 : sb < 18446744073709551616) (hn0 : 0 ≤ clock) (hn1 : clock < 18446744073709551616)
    (hl : l.look k = some ⟨k, sp, se, sbu, srk, sk, sa, sb⟩) (F : Int) (hf : Slot.fill ⟨k, sp, se, sbu, srk, sk, sa, sb⟩ clock = F) (hf1 : (F == 0) = false) :
    Calls Try.prog 28 #[.pointer (some ⟨t, 0, none⟩), .string k, .agg #[.string p, .int .u64 se, .int .u64 sbu, .int .u8 rk]] w fun x w' => x = .returned (.tuple #[.agg #[.string k, .string sp, .int .u64 se, .int .u64 sbu, .int .u8 srk, .int .u8 sk, .int .u64 sa, .int .u64 sb], .bool true]) ∧ Ext w w' := by
  have hbc := h.blk.cell
  have c2 : w.cell? ⟨t, 2, none⟩ = some (.map (some mb)) := hbc 2
  have hlt := h.blk.lt
  have hmlt := h.map.lt
  have L := run_slook_yes (P := Try.prog) Try.underlying67 Try.underlying9 (((h.map).ext ((Ext.refl w).alloc (.cells #[.string p, .int .u64 se, .int .u64 sbu, .int .u8 rk] 30))).ext ((Ext.refl _).alloc (.cells slot0.cells 52))) hl
  simp only [slot0, Slot.val, Slot.cells] at L
  have HL := Lib.hid hl
  clear hbc hl
  go_enter Try.func28, Try.ntmps28
  go_wp2
  have bs := ((h.blk.alloc (.cells #[.string p, .int .u64 se, .int .u64 sbu, .int .u8 rk] 30)).alloc (.cells slot0.cells 52)).alloc (.cells #[.string k, .string sp, .int .u64 se, .int .u64 sbu, .int .u8 srk, .int .u8 sk, .int .u64 sa, .int .u64 sb] 52)
  have ms := h.map.ext ((((Ext.refl w).alloc (.cells #[.string p, .int .u64 se, .int .u64 sbu, .int .u8 rk] 30)).alloc (.cells slot0.cells 52)).alloc (.cells #[.string k, .string sp, .int .u64 se, .int .u64 sbu, .int .u8 srk, .int .u8 sk, .int .u64 sa, .int .u64 sb] 52))
  have br := ((Blk.new w #[.string p, .int .u64 se, .int .u64 sbu, .int .u8 rk] 30).alloc (.cells slot0.cells 52)).alloc (.cells #[.string k, .string sp, .int .u64 se, .int .u64 sbu, .int .u8 srk, .int .u8 sk, .int .u64 sa, .int .u64 sb] 52)
  have bz := (Blk.new' (w.alloc (.cells #[.string p, .int .u64 se, .int .u64 sbu, .int .u8 rk] 30)) slot0.cells 52 (b := w.heap.size + 1) (by simp)).alloc (.cells #[.string k, .string sp, .int .u64 se, .int .u64 sbu, .int .u8 srk, .int .u8 sk, .int .u64 sa, .int .u64 sb] 52)
  have bx := Blk.new' ((w.alloc (.cells #[.string p, .int .u64 se, .int .u64 sbu, .int .u8 rk] 30)).alloc (.cells slot0.cells 52)) #[.string k, .string sp, .int .u64 se, .int .u64 sbu, .int .u8 srk, .int .u8 sk, .int .u64 sa, .int .u64 sb] 52 (b := w.heap.size + 1 + 1) (by simp)
  have hxw := (((Ext.refl w).alloc (.cells #[.string p, .int .u64 se, .int .u64 sbu, .int .u8 rk] 30)).alloc (.cells slot0.cells 52)).alloc (.cells #[.string k, .string sp, .int .u64 se, .int .u64 sbu, .int .u8 srk, .int .u8 sk, .int .u64 sa, .int .u64 sb] 52)
  clear L c2
  simp only [slot0, Slot.cells] at bs ms br bz bx hxw
  generalize ((w.alloc (.cells #[.string p, .int .u64 se, .int .u64 sbu, .int .u8 rk] 30)).alloc (.cells #[.string ⟨#[]⟩, .string ⟨#[]⟩, .int .u64 0, .int .u64 0, .int .u8 0, .int .u8 0, .int .u64 0, .int .u64 0] 52)).alloc (.cells #[.string k, .string sp, .int .u64 se, .int .u64 sbu, .int .u8 srk, .int .u8 sk, .int .u64 sa, .int .u64 sb] 52) = w0 at *
  have q0 : w0.cell? ⟨w.heap.size + 1 + 1, 0, none⟩ = some (.string k) := bx.cell 0
  have q1 : w0.cell? ⟨w.heap.size + 1 + 1, 1, none⟩ = some (.string sp) := bx.cell 1
  have q2 : w0.cell? ⟨w.heap.size + 1 + 1, 2, none⟩ = some (.int .u64 se) := bx.cell 2
  have q3 : w0.cell? ⟨w.heap.size + 1 + 1, 3, none⟩ = some (.int .u64 sbu) := bx.cell 3
  have q4 : w0.cell? ⟨w.heap.size + 1 + 1, 4, none⟩ = some (.int .u8 srk) := bx.cell 4
  have q5 : w0.cell? ⟨w.heap.size + 1 + 1, 5, none⟩ = some (.int .u8 sk) := bx.cell 5
  have q6 : w0.cell? ⟨w.heap.size + 1 + 1, 6, none⟩ = some (.int .u64 sa) := bx.cell 6
  have q7 : w0.cell? ⟨w.heap.size + 1 + 1, 7, none⟩ = some (.int .u64 sb) := bx.cell 7
  have r1 : w0.cell? ⟨w.heap.size, 1, none⟩ = some (.int .u64 se) := br.cell 1
  have r2 : w0.cell? ⟨w.heap.size, 2, none⟩ = some (.int .u64 sbu) := br.cell 2
  have t1 : w0.cell? ⟨t, 1, none⟩ = some (.int .u64 clock) := bs.cell 1
  have t2 : w0.cell? ⟨t, 2, none⟩ = some (.map (some mb)) := bs.cell 2
  have hxl := bx.lt
  have HF := Lib.hid hf
  clear hf
  go_region_held3 (fun w' => w'.cell? ⟨w.heap.size + 1 + 1, 0, none⟩ = some (.string k) ∧ w'.cell? ⟨w.heap.size + 1 + 1, 1, none⟩ = some (.string sp) ∧ w'.cell? ⟨w.heap.size + 1 + 1, 2, none⟩ = some (.int .u64 se) ∧ w'.cell? ⟨w.heap.size + 1 + 1, 3, none⟩ = some (.int .u64 sbu) ∧ w'.cell? ⟨w.heap.size + 1 + 1, 4, none⟩ = some (.int .u8 srk) ∧ w'.cell? ⟨w.heap.size + 1 + 1, 5, none⟩ = some (.int .u8 sk) ∧ w'.cell? ⟨w.heap.size + 1 + 1, 6, none⟩ = some (.int .u64 sa) ∧ w'.cell? ⟨w.heap.size + 1 + 1, 7, none⟩ = some (.int .u64 sb) ∧ w'.cell? ⟨w.heap.size, 1, none⟩ = some (.int .u64 se) ∧ w'.cell? ⟨w.heap.size, 2, none⟩ = some (.int .u64 sbu) ∧ w'.cell? ⟨t, 1, none⟩ = some (.int .u64 clock) ∧ Ext w0 w')
    (((try go_split_ands); refine ⟨?_, ?_, ?_, ?_, ?_, ?_, ?_, ?_, ?_, ?_, ?_, ?_⟩ <;> first | with_reducible assumption | exact (Ext.refl _).drew | ((repeat (first | with_reducible exact Ext.refl _ | with_reducible assumption | with_reducible refine Ext.alloc ?_ _ | with_reducible refine Ext.drew ?_ | (with_reducible refine Ext.setCell ?_ (by first | exact Nat.le_refl _ | (dsimp only; omega) | (simp; done) | (simp; omega)) _) | with_reducible refine Ext.trans ?_ (by with_reducible assumption))); done) | (refine Ext.keep (w := w0) (by repeat (first | with_reducible exact Ext.refl _ | with_reducible assumption | with_reducible refine Ext.alloc ?_ _ | with_reducible refine Ext.drew ?_ | (with_reducible refine Ext.setCell ?_ (by first | exact Nat.le_refl _ | (dsimp only; omega) | (simp; done) | (simp; omega)) _) | with_reducible refine Ext.trans ?_ (by with_reducible assumption))) ?_; with_reducible assumption)))
    (first
      | (go_at_call 50; (with_reducible refine (table_fillX k sp se sbu srk sk sa sb clock _ m1 m2 u1 u2 u3 u4 u5 u6 u7 u8 u9 u10 u11 u12 hn0 hn1).mono ?_); rw [HF.out]; rintro x w1 ⟨rfl, hx⟩))
  have hx1 : Ext w0 w1 := (by repeat (first | with_reducible exact Ext.refl _ | with_reducible assumption | with_reducible refine Ext.alloc ?_ _ | with_reducible refine Ext.drew ?_ | (with_reducible refine Ext.setCell ?_ (by first | exact Nat.le_refl _ | (dsimp only; omega) | (simp; done) | (simp; omega)) _) | with_reducible refine Ext.trans ?_ (by with_reducible assumption)))
  have bz1 := bz.ext hx1
  have bx1 := bx.ext hx1
  clear q0 q1 q2 q3 q4 q5 q6 q7 r1 r2 t1 t2 hxl
  have hfz := bz1.free
  have hcz := bz1.cell
  have hcx := bx1.cell
  have hlx := bx1.lt
  go_wp2
  have hS := ((((((((bz1.set 0 (.string k)).set 1 (.string sp)).set 2 (.int .u64 se)).set 3 (.int .u64 sbu)).set 4 (.int .u8 srk)).set 5 (.int .u8 sk)).set 6 (.int .u64 sa)).set 7 (.int .u64 sb))
  have hx2 := hxw.trans hx1
  have ne1 : t ≠ w.heap.size + 1 := by omega
  have ne2 : mb ≠ w.heap.size + 1 := by omega
  have le1 : w.heap.size ≤ w.heap.size + 1 := by omega
  refine ret_cell_tmp Try.results28 rfl rfl hS Try.underlying52 rfl (by kernel_rfl) ⟨rfl, ?_⟩
  exact ((((((((hx2.set le1 _ _).set le1 _ _).set le1 _ _).set le1 _ _).set le1 _ _).set le1 _ _).set le1 _ _).set le1 _ _)

set_option maxHeartbeats 4000000 in
set_option maxRecDepth 100000 in
theorem table_slot_drained (t mb c : Nat) (k sp p : ByteArray) (se sbu srk sk sa sb most clock rk : Int) (l : SMap) (w : World) (h : TabAt w t mb most clock l c) (m1 : k.size ≤ maxLen) (m2 : sp.size ≤ maxLen) (u1 : 0 ≤ se) (u2 : se < 18446744073709551616) (u3 : 0 ≤ sbu) (u4 : sbu < 18446744073709551616) (u5 : 0 ≤ srk) (u6 : srk < 256) (u7 : 0 ≤ sk) (u8 : sk < 256) (u9 : 0 ≤ sa) (u10 : sa < 18446744073709551616) (u11 : 0 ≤ sb) (u12 : sb < 18446744073709551616) (hn0 : 0 ≤ clock) (hn1 : clock < 18446744073709551616)
    (hl : l.look k = some ⟨k, sp, se, sbu, srk, sk, sa, sb⟩) (hk : l.keys.Nodup) (F : Int) (hf : Slot.fill ⟨k, sp, se, sbu, srk, sk, sa, sb⟩ clock = F) (hf1 : (F == 0) = true) :
    Calls Try.prog 28 #[.pointer (some ⟨t, 0, none⟩), .string k, .agg #[.string p, .int .u64 se, .int .u64 sbu, .int .u8 rk]] w fun x w' => x = .returned (.tuple #[.agg #[.string k, .string sp, .int .u64 se, .int .u64 sbu, .int .u8 srk, .int .u8 sk, .int .u64 sa, .int .u64 sb], .bool false]) ∧ TabAt w' t mb most clock (l.del k) c ∧ ExtB mb w w' := by
  have hbc := h.blk.cell
  have c2 : w.cell? ⟨t, 2, none⟩ = some (.map (some mb)) := hbc 2
  have hlt := h.blk.lt
  have hmlt := h.map.lt
  have L := run_slook_yes (P := Try.prog) Try.underlying67 Try.underlying9 (((h.map).ext ((Ext.refl w).alloc (.cells #[.string p, .int .u64 se, .int .u64 sbu, .int .u8 rk] 30))).ext ((Ext.refl _).alloc (.cells slot0.cells 52))) hl
  simp only [slot0, Slot.val, Slot.cells] at L
  have HL := Lib.hid hl
  clear hbc hl
  go_enter Try.func28, Try.ntmps28
  go_wp2
  have bs := ((h.blk.alloc (.cells #[.string p, .int .u64 se, .int .u64 sbu, .int .u8 rk] 30)).alloc (.cells slot0.cells 52)).alloc (.cells #[.string k, .string sp, .int .u64 se, .int .u64 sbu, .int .u8 srk, .int .u8 sk, .int .u64 sa, .int .u64 sb] 52)
  have ms := h.map.ext ((((Ext.refl w).alloc (.cells #[.string p, .int .u64 se, .int .u64 sbu, .int .u8 rk] 30)).alloc (.cells slot0.cells 52)).alloc (.cells #[.string k, .string sp, .int .u64 se, .int .u64 sbu, .int .u8 srk, .int .u8 sk, .int .u64 sa, .int .u64 sb] 52))
  have br := ((Blk.new w #[.string p, .int .u64 se, .int .u64 sbu, .int .u8 rk] 30).alloc (.cells slot0.cells 52)).alloc (.cells #[.string k, .string sp, .int .u64 se, .int .u64 sbu, .int .u8 srk, .int .u8 sk, .int .u64 sa, .int .u64 sb] 52)
  have bz := (Blk.new' (w.alloc (.cells #[.string p, .int .u64 se, .int .u64 sbu, .int .u8 rk] 30)) slot0.cells 52 (b := w.heap.size + 1) (by simp)).alloc (.cells #[.string k, .string sp, .int .u64 se, .int .u64 sbu, .int .u8 srk, .int .u8 sk, .int .u64 sa, .int .u64 sb] 52)
  have bx := Blk.new' ((w.alloc (.cells #[.string p, .int .u64 se, .int .u64 sbu, .int .u8 rk] 30)).alloc (.cells slot0.cells 52)) #[.string k, .string sp, .int .u64 se, .int .u64 sbu, .int .u8 srk, .int .u8 sk, .int .u64 sa, .int .u64 sb] 52 (b := w.heap.size + 1 + 1) (by simp)
  have hxw := (((Ext.refl w).alloc (.cells #[.string p, .int .u64 se, .int .u64 sbu, .int .u8 rk] 30)).alloc (.cells slot0.cells 52)).alloc (.cells #[.string k, .string sp, .int .u64 se, .int .u64 sbu, .int .u8 srk, .int .u8 sk, .int .u64 sa, .int .u64 sb] 52)
  clear L c2
  simp only [slot0, Slot.cells] at bs ms br bz bx hxw
  generalize ((w.alloc (.cells #[.string p, .int .u64 se, .int .u64 sbu, .int .u8 rk] 30)).alloc (.cells #[.string ⟨#[]⟩, .string ⟨#[]⟩, .int .u64 0, .int .u64 0, .int .u8 0, .int .u8 0, .int .u64 0, .int .u64 0] 52)).alloc (.cells #[.string k, .string sp, .int .u64 se, .int .u64 sbu, .int .u8 srk, .int .u8 sk, .int .u64 sa, .int .u64 sb] 52) = w0 at *
  have q0 : w0.cell? ⟨w.heap.size + 1 + 1, 0, none⟩ = some (.string k) := bx.cell 0
  have q1 : w0.cell? ⟨w.heap.size + 1 + 1, 1, none⟩ = some (.string sp) := bx.cell 1
  have q2 : w0.cell? ⟨w.heap.size + 1 + 1, 2, none⟩ = some (.int .u64 se) := bx.cell 2
  have q3 : w0.cell? ⟨w.heap.size + 1 + 1, 3, none⟩ = some (.int .u64 sbu) := bx.cell 3
  have q4 : w0.cell? ⟨w.heap.size + 1 + 1, 4, none⟩ = some (.int .u8 srk) := bx.cell 4
  have q5 : w0.cell? ⟨w.heap.size + 1 + 1, 5, none⟩ = some (.int .u8 sk) := bx.cell 5
  have q6 : w0.cell? ⟨w.heap.size + 1 + 1, 6, none⟩ = some (.int .u64 sa) := bx.cell 6
  have q7 : w0.cell? ⟨w.heap.size + 1 + 1, 7, none⟩ = some (.int .u64 sb) := bx.cell 7
  have r1 : w0.cell? ⟨w.heap.size, 1, none⟩ = some (.int .u64 se) := br.cell 1
  have r2 : w0.cell? ⟨w.heap.size, 2, none⟩ = some (.int .u64 sbu) := br.cell 2
  have t1 : w0.cell? ⟨t, 1, none⟩ = some (.int .u64 clock) := bs.cell 1
  have t2 : w0.cell? ⟨t, 2, none⟩ = some (.map (some mb)) := bs.cell 2
  have hxl := bx.lt
  have HF := Lib.hid hf
  clear hf
  go_region_held3 (fun w' => w'.cell? ⟨w.heap.size + 1 + 1, 0, none⟩ = some (.string k) ∧ w'.cell? ⟨w.heap.size + 1 + 1, 1, none⟩ = some (.string sp) ∧ w'.cell? ⟨w.heap.size + 1 + 1, 2, none⟩ = some (.int .u64 se) ∧ w'.cell? ⟨w.heap.size + 1 + 1, 3, none⟩ = some (.int .u64 sbu) ∧ w'.cell? ⟨w.heap.size + 1 + 1, 4, none⟩ = some (.int .u8 srk) ∧ w'.cell? ⟨w.heap.size + 1 + 1, 5, none⟩ = some (.int .u8 sk) ∧ w'.cell? ⟨w.heap.size + 1 + 1, 6, none⟩ = some (.int .u64 sa) ∧ w'.cell? ⟨w.heap.size + 1 + 1, 7, none⟩ = some (.int .u64 sb) ∧ w'.cell? ⟨w.heap.size, 1, none⟩ = some (.int .u64 se) ∧ w'.cell? ⟨w.heap.size, 2, none⟩ = some (.int .u64 sbu) ∧ w'.cell? ⟨t, 1, none⟩ = some (.int .u64 clock) ∧ Ext w0 w')
    (((try go_split_ands); refine ⟨?_, ?_, ?_, ?_, ?_, ?_, ?_, ?_, ?_, ?_, ?_, ?_⟩ <;> first | with_reducible assumption | exact (Ext.refl _).drew | ((repeat (first | with_reducible exact Ext.refl _ | with_reducible assumption | with_reducible refine Ext.alloc ?_ _ | with_reducible refine Ext.drew ?_ | (with_reducible refine Ext.setCell ?_ (by first | exact Nat.le_refl _ | (dsimp only; omega) | (simp; done) | (simp; omega)) _) | with_reducible refine Ext.trans ?_ (by with_reducible assumption))); done) | (refine Ext.keep (w := w0) (by repeat (first | with_reducible exact Ext.refl _ | with_reducible assumption | with_reducible refine Ext.alloc ?_ _ | with_reducible refine Ext.drew ?_ | (with_reducible refine Ext.setCell ?_ (by first | exact Nat.le_refl _ | (dsimp only; omega) | (simp; done) | (simp; omega)) _) | with_reducible refine Ext.trans ?_ (by with_reducible assumption))) ?_; with_reducible assumption)))
    (first
      | (go_at_call 50; (with_reducible refine (table_fillX k sp se sbu srk sk sa sb clock _ m1 m2 u1 u2 u3 u4 u5 u6 u7 u8 u9 u10 u11 u12 hn0 hn1).mono ?_); rw [HF.out]; rintro x w1 ⟨rfl, hx⟩))
  have hx1 : Ext w0 w1 := (by repeat (first | with_reducible exact Ext.refl _ | with_reducible assumption | with_reducible refine Ext.alloc ?_ _ | with_reducible refine Ext.drew ?_ | (with_reducible refine Ext.setCell ?_ (by first | exact Nat.le_refl _ | (dsimp only; omega) | (simp; done) | (simp; omega)) _) | with_reducible refine Ext.trans ?_ (by with_reducible assumption)))
  have mx := ms.ext hx1
  have bz1 := bz.ext hx1
  have bx1 := bx.ext hx1
  have bt1 := bs.ext hx1
  clear q0 q1 q2 q3 q4 q5 q6 q7 r1 r2 t1 t2 hxl
  obtain ⟨w2, hdel, hm2, hxB⟩ := run_sdel (P := Try.prog) Try.underlying67 Try.underlying9 mx hk k
  have bz2 := bz1.extB hxB (mx.ne bz1).symm
  have bx2 := bx1.extB hxB (mx.ne bx1).symm
  have bt2 := bt1.extB hxB (mx.ne bt1).symm
  have t2 : w1.cell? ⟨t, 2, none⟩ = some (.map (some mb)) := bt1.cell 2
  have hfz := bz2.free
  have hcz := bz2.cell
  have hcx := bx2.cell
  have hlx := bx2.lt
  go_wp2
  have hS := ((((((((bz2.set 0 (.string k)).set 1 (.string sp)).set 2 (.int .u64 se)).set 3 (.int .u64 sbu)).set 4 (.int .u8 srk)).set 5 (.int .u8 sk)).set 6 (.int .u64 sa)).set 7 (.int .u64 sb))
  have hx2 := hxw.trans hx1
  have ne1 : t ≠ w.heap.size + 1 := by omega
  have ne2 : mb ≠ w.heap.size + 1 := by omega
  have le1 : w.heap.size ≤ w.heap.size + 1 := by omega
  refine ret_cell_tmp Try.results28 rfl rfl hS Try.underlying52 rfl (by kernel_rfl) ⟨rfl, ?_, ?_⟩
  · refine ⟨?_, ?_⟩
    · exact ((((((((bt2.other (a := ⟨_, 0, none⟩) ne1 _).other (a := ⟨_, 1, none⟩) ne1 _).other (a := ⟨_, 2, none⟩) ne1 _).other (a := ⟨_, 3, none⟩) ne1 _).other (a := ⟨_, 4, none⟩) ne1 _).other (a := ⟨_, 5, none⟩) ne1 _).other (a := ⟨_, 6, none⟩) ne1 _).other (a := ⟨_, 7, none⟩) ne1 _)
    · exact ((((((((hm2.other (a := ⟨_, 0, none⟩) ne2 _).other (a := ⟨_, 1, none⟩) ne2 _).other (a := ⟨_, 2, none⟩) ne2 _).other (a := ⟨_, 3, none⟩) ne2 _).other (a := ⟨_, 4, none⟩) ne2 _).other (a := ⟨_, 5, none⟩) ne2 _).other (a := ⟨_, 6, none⟩) ne2 _).other (a := ⟨_, 7, none⟩) ne2 _)
  · exact ((((((((((hx2.toB mb).trans hxB).setNew (a := ⟨_, 0, none⟩) le1 _).setNew (a := ⟨_, 1, none⟩) le1 _).setNew (a := ⟨_, 2, none⟩) le1 _).setNew (a := ⟨_, 3, none⟩) le1 _).setNew (a := ⟨_, 4, none⟩) le1 _).setNew (a := ⟨_, 5, none⟩) le1 _).setNew (a := ⟨_, 6, none⟩) le1 _).setNew (a := ⟨_, 7, none⟩) le1 _)

set_option maxHeartbeats 4000000 in
set_option maxRecDepth 100000 in
theorem table_slot_every (t mb c : Nat) (k sp p : ByteArray) (se sbu srk sk sa sb most clock e b rk : Int) (l : SMap) (w : World) (h : TabAt w t mb most clock l c) (m1 : k.size ≤ maxLen) (m2 : sp.size ≤ maxLen) (u1 : 0 ≤ se) (u2 : se < 18446744073709551616) (u3 : 0 ≤ sbu) (u4 : sbu < 18446744073709551616) (u5 : 0 ≤ srk) (u6 : srk < 256) (u7 : 0 ≤ sk) (u8 : sk < 256) (u9 : 0 ≤ sa) (u10 : sa < 18446744073709551616) (u11 : 0 ≤ sb) (u12 : sb < 18446744073709551616) (hn0 : 0 ≤ clock) (hn1 : clock < 18446744073709551616)
    (hl : l.look k = some ⟨k, sp, se, sbu, srk, sk, sa, sb⟩) (hk : l.keys.Nodup) (hne : (se != e) = true) :
    Calls Try.prog 28 #[.pointer (some ⟨t, 0, none⟩), .string k, .agg #[.string p, .int .u64 e, .int .u64 b, .int .u8 rk]] w fun x w' => x = .returned (.tuple #[.agg #[.string k, .string sp, .int .u64 se, .int .u64 sbu, .int .u8 srk, .int .u8 sk, .int .u64 sa, .int .u64 sb], .bool false]) ∧ TabAt w' t mb most clock (l.del k) c ∧ ExtB mb w w' := by
  have hbc := h.blk.cell
  have c2 : w.cell? ⟨t, 2, none⟩ = some (.map (some mb)) := hbc 2
  have hlt := h.blk.lt
  have hmlt := h.map.lt
  have L := run_slook_yes (P := Try.prog) Try.underlying67 Try.underlying9 (((h.map).ext ((Ext.refl w).alloc (.cells #[.string p, .int .u64 e, .int .u64 b, .int .u8 rk] 30))).ext ((Ext.refl _).alloc (.cells slot0.cells 52))) hl
  simp only [slot0, Slot.val, Slot.cells] at L
  have HL := Lib.hid hl
  clear hbc hl
  go_enter Try.func28, Try.ntmps28
  go_wp2
  have bs := ((h.blk.alloc (.cells #[.string p, .int .u64 e, .int .u64 b, .int .u8 rk] 30)).alloc (.cells slot0.cells 52)).alloc (.cells #[.string k, .string sp, .int .u64 se, .int .u64 sbu, .int .u8 srk, .int .u8 sk, .int .u64 sa, .int .u64 sb] 52)
  have ms := h.map.ext ((((Ext.refl w).alloc (.cells #[.string p, .int .u64 e, .int .u64 b, .int .u8 rk] 30)).alloc (.cells slot0.cells 52)).alloc (.cells #[.string k, .string sp, .int .u64 se, .int .u64 sbu, .int .u8 srk, .int .u8 sk, .int .u64 sa, .int .u64 sb] 52))
  have br := ((Blk.new w #[.string p, .int .u64 e, .int .u64 b, .int .u8 rk] 30).alloc (.cells slot0.cells 52)).alloc (.cells #[.string k, .string sp, .int .u64 se, .int .u64 sbu, .int .u8 srk, .int .u8 sk, .int .u64 sa, .int .u64 sb] 52)
  have bz := (Blk.new' (w.alloc (.cells #[.string p, .int .u64 e, .int .u64 b, .int .u8 rk] 30)) slot0.cells 52 (b := w.heap.size + 1) (by simp)).alloc (.cells #[.string k, .string sp, .int .u64 se, .int .u64 sbu, .int .u8 srk, .int .u8 sk, .int .u64 sa, .int .u64 sb] 52)
  have bx := Blk.new' ((w.alloc (.cells #[.string p, .int .u64 e, .int .u64 b, .int .u8 rk] 30)).alloc (.cells slot0.cells 52)) #[.string k, .string sp, .int .u64 se, .int .u64 sbu, .int .u8 srk, .int .u8 sk, .int .u64 sa, .int .u64 sb] 52 (b := w.heap.size + 1 + 1) (by simp)
  have hxw := (((Ext.refl w).alloc (.cells #[.string p, .int .u64 e, .int .u64 b, .int .u8 rk] 30)).alloc (.cells slot0.cells 52)).alloc (.cells #[.string k, .string sp, .int .u64 se, .int .u64 sbu, .int .u8 srk, .int .u8 sk, .int .u64 sa, .int .u64 sb] 52)
  clear L c2
  simp only [slot0, Slot.cells] at bs ms br bz bx hxw
  generalize ((w.alloc (.cells #[.string p, .int .u64 e, .int .u64 b, .int .u8 rk] 30)).alloc (.cells #[.string ⟨#[]⟩, .string ⟨#[]⟩, .int .u64 0, .int .u64 0, .int .u8 0, .int .u8 0, .int .u64 0, .int .u64 0] 52)).alloc (.cells #[.string k, .string sp, .int .u64 se, .int .u64 sbu, .int .u8 srk, .int .u8 sk, .int .u64 sa, .int .u64 sb] 52) = w0 at *
  have q0 : w0.cell? ⟨w.heap.size + 1 + 1, 0, none⟩ = some (.string k) := bx.cell 0
  have q1 : w0.cell? ⟨w.heap.size + 1 + 1, 1, none⟩ = some (.string sp) := bx.cell 1
  have q2 : w0.cell? ⟨w.heap.size + 1 + 1, 2, none⟩ = some (.int .u64 se) := bx.cell 2
  have q3 : w0.cell? ⟨w.heap.size + 1 + 1, 3, none⟩ = some (.int .u64 sbu) := bx.cell 3
  have q4 : w0.cell? ⟨w.heap.size + 1 + 1, 4, none⟩ = some (.int .u8 srk) := bx.cell 4
  have q5 : w0.cell? ⟨w.heap.size + 1 + 1, 5, none⟩ = some (.int .u8 sk) := bx.cell 5
  have q6 : w0.cell? ⟨w.heap.size + 1 + 1, 6, none⟩ = some (.int .u64 sa) := bx.cell 6
  have q7 : w0.cell? ⟨w.heap.size + 1 + 1, 7, none⟩ = some (.int .u64 sb) := bx.cell 7
  have r1 : w0.cell? ⟨w.heap.size, 1, none⟩ = some (.int .u64 e) := br.cell 1
  have r2 : w0.cell? ⟨w.heap.size, 2, none⟩ = some (.int .u64 b) := br.cell 2
  have t1 : w0.cell? ⟨t, 1, none⟩ = some (.int .u64 clock) := bs.cell 1
  have t2 : w0.cell? ⟨t, 2, none⟩ = some (.map (some mb)) := bs.cell 2
  have hxl := bx.lt
  go_quiet (fail)
  have hx1 : Ext w0 (w0.drewN nq) := Ext.drewNs _ nq
  generalize w0.drewN nq = w1 at *
  have mx := ms.ext hx1
  have bz1 := bz.ext hx1
  have bx1 := bx.ext hx1
  have bt1 := bs.ext hx1
  clear q0 q1 q2 q3 q4 q5 q6 q7 r1 r2 t1 t2 hxl
  obtain ⟨w2, hdel, hm2, hxB⟩ := run_sdel (P := Try.prog) Try.underlying67 Try.underlying9 mx hk k
  have bz2 := bz1.extB hxB (mx.ne bz1).symm
  have bx2 := bx1.extB hxB (mx.ne bx1).symm
  have bt2 := bt1.extB hxB (mx.ne bt1).symm
  have t2 : w1.cell? ⟨t, 2, none⟩ = some (.map (some mb)) := bt1.cell 2
  have hfz := bz2.free
  have hcz := bz2.cell
  have hcx := bx2.cell
  have hlx := bx2.lt
  go_wp2
  have hS := ((((((((bz2.set 0 (.string k)).set 1 (.string sp)).set 2 (.int .u64 se)).set 3 (.int .u64 sbu)).set 4 (.int .u8 srk)).set 5 (.int .u8 sk)).set 6 (.int .u64 sa)).set 7 (.int .u64 sb))
  have hx2 := hxw.trans hx1
  have ne1 : t ≠ w.heap.size + 1 := by omega
  have ne2 : mb ≠ w.heap.size + 1 := by omega
  have le1 : w.heap.size ≤ w.heap.size + 1 := by omega
  refine ret_cell_tmp Try.results28 rfl rfl hS Try.underlying52 rfl (by kernel_rfl) ⟨rfl, ?_, ?_⟩
  · refine ⟨?_, ?_⟩
    · exact ((((((((bt2.other (a := ⟨_, 0, none⟩) ne1 _).other (a := ⟨_, 1, none⟩) ne1 _).other (a := ⟨_, 2, none⟩) ne1 _).other (a := ⟨_, 3, none⟩) ne1 _).other (a := ⟨_, 4, none⟩) ne1 _).other (a := ⟨_, 5, none⟩) ne1 _).other (a := ⟨_, 6, none⟩) ne1 _).other (a := ⟨_, 7, none⟩) ne1 _)
    · exact ((((((((hm2.other (a := ⟨_, 0, none⟩) ne2 _).other (a := ⟨_, 1, none⟩) ne2 _).other (a := ⟨_, 2, none⟩) ne2 _).other (a := ⟨_, 3, none⟩) ne2 _).other (a := ⟨_, 4, none⟩) ne2 _).other (a := ⟨_, 5, none⟩) ne2 _).other (a := ⟨_, 6, none⟩) ne2 _).other (a := ⟨_, 7, none⟩) ne2 _)
  · exact ((((((((((hx2.toB mb).trans hxB).setNew (a := ⟨_, 0, none⟩) le1 _).setNew (a := ⟨_, 1, none⟩) le1 _).setNew (a := ⟨_, 2, none⟩) le1 _).setNew (a := ⟨_, 3, none⟩) le1 _).setNew (a := ⟨_, 4, none⟩) le1 _).setNew (a := ⟨_, 5, none⟩) le1 _).setNew (a := ⟨_, 6, none⟩) le1 _).setNew (a := ⟨_, 7, none⟩) le1 _)

set_option maxHeartbeats 4000000 in
set_option maxRecDepth 100000 in
theorem table_slot_burst (t mb c : Nat) (k sp p : ByteArray) (se sbu srk sk sa sb most clock e b rk : Int) (l : SMap) (w : World) (h : TabAt w t mb most clock l c) (m1 : k.size ≤ maxLen) (m2 : sp.size ≤ maxLen) (u1 : 0 ≤ se) (u2 : se < 18446744073709551616) (u3 : 0 ≤ sbu) (u4 : sbu < 18446744073709551616) (u5 : 0 ≤ srk) (u6 : srk < 256) (u7 : 0 ≤ sk) (u8 : sk < 256) (u9 : 0 ≤ sa) (u10 : sa < 18446744073709551616) (u11 : 0 ≤ sb) (u12 : sb < 18446744073709551616) (hn0 : 0 ≤ clock) (hn1 : clock < 18446744073709551616)
    (hl : l.look k = some ⟨k, sp, se, sbu, srk, sk, sa, sb⟩) (hk : l.keys.Nodup) (hne : (se != e) = false) (hne2 : (sbu != b) = true) :
    Calls Try.prog 28 #[.pointer (some ⟨t, 0, none⟩), .string k, .agg #[.string p, .int .u64 e, .int .u64 b, .int .u8 rk]] w fun x w' => x = .returned (.tuple #[.agg #[.string k, .string sp, .int .u64 se, .int .u64 sbu, .int .u8 srk, .int .u8 sk, .int .u64 sa, .int .u64 sb], .bool false]) ∧ TabAt w' t mb most clock (l.del k) c ∧ ExtB mb w w' := by
  have hbc := h.blk.cell
  have c2 : w.cell? ⟨t, 2, none⟩ = some (.map (some mb)) := hbc 2
  have hlt := h.blk.lt
  have hmlt := h.map.lt
  have L := run_slook_yes (P := Try.prog) Try.underlying67 Try.underlying9 (((h.map).ext ((Ext.refl w).alloc (.cells #[.string p, .int .u64 e, .int .u64 b, .int .u8 rk] 30))).ext ((Ext.refl _).alloc (.cells slot0.cells 52))) hl
  simp only [slot0, Slot.val, Slot.cells] at L
  have HL := Lib.hid hl
  clear hbc hl
  go_enter Try.func28, Try.ntmps28
  go_wp2
  have bs := ((h.blk.alloc (.cells #[.string p, .int .u64 e, .int .u64 b, .int .u8 rk] 30)).alloc (.cells slot0.cells 52)).alloc (.cells #[.string k, .string sp, .int .u64 se, .int .u64 sbu, .int .u8 srk, .int .u8 sk, .int .u64 sa, .int .u64 sb] 52)
  have ms := h.map.ext ((((Ext.refl w).alloc (.cells #[.string p, .int .u64 e, .int .u64 b, .int .u8 rk] 30)).alloc (.cells slot0.cells 52)).alloc (.cells #[.string k, .string sp, .int .u64 se, .int .u64 sbu, .int .u8 srk, .int .u8 sk, .int .u64 sa, .int .u64 sb] 52))
  have br := ((Blk.new w #[.string p, .int .u64 e, .int .u64 b, .int .u8 rk] 30).alloc (.cells slot0.cells 52)).alloc (.cells #[.string k, .string sp, .int .u64 se, .int .u64 sbu, .int .u8 srk, .int .u8 sk, .int .u64 sa, .int .u64 sb] 52)
  have bz := (Blk.new' (w.alloc (.cells #[.string p, .int .u64 e, .int .u64 b, .int .u8 rk] 30)) slot0.cells 52 (b := w.heap.size + 1) (by simp)).alloc (.cells #[.string k, .string sp, .int .u64 se, .int .u64 sbu, .int .u8 srk, .int .u8 sk, .int .u64 sa, .int .u64 sb] 52)
  have bx := Blk.new' ((w.alloc (.cells #[.string p, .int .u64 e, .int .u64 b, .int .u8 rk] 30)).alloc (.cells slot0.cells 52)) #[.string k, .string sp, .int .u64 se, .int .u64 sbu, .int .u8 srk, .int .u8 sk, .int .u64 sa, .int .u64 sb] 52 (b := w.heap.size + 1 + 1) (by simp)
  have hxw := (((Ext.refl w).alloc (.cells #[.string p, .int .u64 e, .int .u64 b, .int .u8 rk] 30)).alloc (.cells slot0.cells 52)).alloc (.cells #[.string k, .string sp, .int .u64 se, .int .u64 sbu, .int .u8 srk, .int .u8 sk, .int .u64 sa, .int .u64 sb] 52)
  clear L c2
  simp only [slot0, Slot.cells] at bs ms br bz bx hxw
  generalize ((w.alloc (.cells #[.string p, .int .u64 e, .int .u64 b, .int .u8 rk] 30)).alloc (.cells #[.string ⟨#[]⟩, .string ⟨#[]⟩, .int .u64 0, .int .u64 0, .int .u8 0, .int .u8 0, .int .u64 0, .int .u64 0] 52)).alloc (.cells #[.string k, .string sp, .int .u64 se, .int .u64 sbu, .int .u8 srk, .int .u8 sk, .int .u64 sa, .int .u64 sb] 52) = w0 at *
  have q0 : w0.cell? ⟨w.heap.size + 1 + 1, 0, none⟩ = some (.string k) := bx.cell 0
  have q1 : w0.cell? ⟨w.heap.size + 1 + 1, 1, none⟩ = some (.string sp) := bx.cell 1
  have q2 : w0.cell? ⟨w.heap.size + 1 + 1, 2, none⟩ = some (.int .u64 se) := bx.cell 2
  have q3 : w0.cell? ⟨w.heap.size + 1 + 1, 3, none⟩ = some (.int .u64 sbu) := bx.cell 3
  have q4 : w0.cell? ⟨w.heap.size + 1 + 1, 4, none⟩ = some (.int .u8 srk) := bx.cell 4
  have q5 : w0.cell? ⟨w.heap.size + 1 + 1, 5, none⟩ = some (.int .u8 sk) := bx.cell 5
  have q6 : w0.cell? ⟨w.heap.size + 1 + 1, 6, none⟩ = some (.int .u64 sa) := bx.cell 6
  have q7 : w0.cell? ⟨w.heap.size + 1 + 1, 7, none⟩ = some (.int .u64 sb) := bx.cell 7
  have r1 : w0.cell? ⟨w.heap.size, 1, none⟩ = some (.int .u64 e) := br.cell 1
  have r2 : w0.cell? ⟨w.heap.size, 2, none⟩ = some (.int .u64 b) := br.cell 2
  have t1 : w0.cell? ⟨t, 1, none⟩ = some (.int .u64 clock) := bs.cell 1
  have t2 : w0.cell? ⟨t, 2, none⟩ = some (.map (some mb)) := bs.cell 2
  have hxl := bx.lt
  go_quiet (fail)
  have hx1 : Ext w0 (w0.drewN nq) := Ext.drewNs _ nq
  generalize w0.drewN nq = w1 at *
  have mx := ms.ext hx1
  have bz1 := bz.ext hx1
  have bx1 := bx.ext hx1
  have bt1 := bs.ext hx1
  clear q0 q1 q2 q3 q4 q5 q6 q7 r1 r2 t1 t2 hxl
  obtain ⟨w2, hdel, hm2, hxB⟩ := run_sdel (P := Try.prog) Try.underlying67 Try.underlying9 mx hk k
  have bz2 := bz1.extB hxB (mx.ne bz1).symm
  have bx2 := bx1.extB hxB (mx.ne bx1).symm
  have bt2 := bt1.extB hxB (mx.ne bt1).symm
  have t2 : w1.cell? ⟨t, 2, none⟩ = some (.map (some mb)) := bt1.cell 2
  have hfz := bz2.free
  have hcz := bz2.cell
  have hcx := bx2.cell
  have hlx := bx2.lt
  go_wp2
  have hS := ((((((((bz2.set 0 (.string k)).set 1 (.string sp)).set 2 (.int .u64 se)).set 3 (.int .u64 sbu)).set 4 (.int .u8 srk)).set 5 (.int .u8 sk)).set 6 (.int .u64 sa)).set 7 (.int .u64 sb))
  have hx2 := hxw.trans hx1
  have ne1 : t ≠ w.heap.size + 1 := by omega
  have ne2 : mb ≠ w.heap.size + 1 := by omega
  have le1 : w.heap.size ≤ w.heap.size + 1 := by omega
  refine ret_cell_tmp Try.results28 rfl rfl hS Try.underlying52 rfl (by kernel_rfl) ⟨rfl, ?_, ?_⟩
  · refine ⟨?_, ?_⟩
    · exact ((((((((bt2.other (a := ⟨_, 0, none⟩) ne1 _).other (a := ⟨_, 1, none⟩) ne1 _).other (a := ⟨_, 2, none⟩) ne1 _).other (a := ⟨_, 3, none⟩) ne1 _).other (a := ⟨_, 4, none⟩) ne1 _).other (a := ⟨_, 5, none⟩) ne1 _).other (a := ⟨_, 6, none⟩) ne1 _).other (a := ⟨_, 7, none⟩) ne1 _)
    · exact ((((((((hm2.other (a := ⟨_, 0, none⟩) ne2 _).other (a := ⟨_, 1, none⟩) ne2 _).other (a := ⟨_, 2, none⟩) ne2 _).other (a := ⟨_, 3, none⟩) ne2 _).other (a := ⟨_, 4, none⟩) ne2 _).other (a := ⟨_, 5, none⟩) ne2 _).other (a := ⟨_, 6, none⟩) ne2 _).other (a := ⟨_, 7, none⟩) ne2 _)
  · exact ((((((((((hx2.toB mb).trans hxB).setNew (a := ⟨_, 0, none⟩) le1 _).setNew (a := ⟨_, 1, none⟩) le1 _).setNew (a := ⟨_, 2, none⟩) le1 _).setNew (a := ⟨_, 3, none⟩) le1 _).setNew (a := ⟨_, 4, none⟩) le1 _).setNew (a := ⟨_, 5, none⟩) le1 _).setNew (a := ⟨_, 6, none⟩) le1 _).setNew (a := ⟨_, 7, none⟩) le1 _)
end Go.Proofs.Ytnlmbmbalmkiiaa

/- A range over a map of slots, whose round may delete the slot that came. -/
namespace Go.Proofs.Ytnlmbmbalmkiiaa
open Go.RowKit
set_option linter.unusedVariables false
set_option linter.unusedSimpArgs false

theorem mem_ents {l : SMap} {e : MapEntry} (h : e ∈ (ents l).toList) : ∃ x ∈ l, e = ent x := by
  simp [ents] at h
  obtain ⟨a, b, h1, h2⟩ := h
  exact ⟨(a, b), h1, h2.symm⟩
theorem ents_mem {l : SMap} {x : Slot × Nat} (h : x ∈ l) : ent x ∈ (ents l).toList := by
  simp [ents]
  exact ⟨x.1, x.2, h, rfl⟩

/-- an iterator over a map of slots: nothing was laid into it since the loop began -/
structure IterAt (w : World) (r b : Nat) (l : SMap) (c : Nat) (seen : Array Nat) : Prop where
  map : MapIs w b l c
  it : ∃ c0, w.heap[r]? = some (.mapIter (some b) c seen c0) ∧ c ≤ c0
  old : ∀ x ∈ l, x.2 < c
  born : (l.map (·.2)).Nodup
theorem IterAt.ne {w : World} {r b c : Nat} {l : SMap} {seen : Array Nat} (h : IterAt w r b l c seen) : b ≠ r := fun e => by
  subst e
  obtain ⟨c0, h1, -⟩ := h.it
  have := (show w.heap[b]? = some (.map (ents l) c) from h.map).symm.trans h1
  cases this
theorem IterAt.lt {w : World} {r b c : Nat} {l : SMap} {seen : Array Nat} (h : IterAt w r b l c seen) : r < w.heap.size := by
  obtain ⟨c0, h1, -⟩ := h.it
  exact lt_of_block h1
theorem IterAt.ext {w w' : World} {r b c : Nat} {l : SMap} {seen : Array Nat} (h : IterAt w r b l c seen) (e : Ext w w') : IterAt w' r b l c seen := by
  obtain ⟨c0, h1, h2⟩ := h.it
  exact ⟨h.map.ext e, ⟨c0, (e.block h.lt).trans h1, h2⟩, h.old, h.born⟩

/-- how many are to come -/
def toCome (l : SMap) (seen : Array Nat) : Nat := (l.filter fun x => !seen.contains x.2).length
theorem leftOf_ents (l : SMap) (seen : Array Nat) : leftOf (ents l) seen = ents (l.filter fun x => !seen.contains x.2) := by
  unfold leftOf ents
  rw [List.filter_toArray, List.filter_map]
  rfl
theorem leftOf_size (l : SMap) (seen : Array Nat) : (leftOf (ents l) seen).size = toCome l seen := by
  rw [leftOf_ents]; simp [ents, toCome]
theorem IterAt.left {w : World} {r b c : Nat} {l : SMap} {seen : Array Nat} (h : IterAt w r b l c seen) : w.rangeLeft b r = toCome l seen := by
  obtain ⟨c0, h1, h2⟩ := h.it
  unfold World.rangeLeft
  rw [show w.heap[b]? = some (.map (ents l) c) from h.map, h1]
  exact leftOf_size l seen

theorem toCome_zero {l : SMap} {seen : Array Nat} (h : toCome l seen = 0) : ∀ x ∈ l, seen.contains x.2 = true := by
  intro x hx
  have h1 : (l.filter fun x => !seen.contains x.2) = [] := List.length_eq_zero_iff.1 h
  have h2 := List.filter_eq_nil_iff.1 h1 x hx
  simpa using h2
theorem toCome_push {l : SMap} {seen : Array Nat} {s : Slot} {n : Nat} (h : (s, n) ∈ l) (hs : seen.contains n = false) : toCome l (seen.push n) < toCome l seen := by
  unfold toCome
  refine filter_length_lt ?_ (s, n) h (by simpa using hs) (by simp)
  intro x hx
  simp only [Array.contains_push] at hx
  simp at hx ⊢
  exact hx.1
where filter_length_lt {α : Type} {p q : α → Bool} {l : List α} (hpq : ∀ x, q x = true → p x = true) (e : α) (he : e ∈ l) (hp : p e = true) (hq : q e = false) : (l.filter q).length < (l.filter p).length := filter_lt p q hpq e hp hq l he
theorem toCome_del {l : SMap} {seen : Array Nat} (k : ByteArray) : toCome (l.del k) seen ≤ toCome l seen := by
  unfold toCome SMap.del
  rw [List.filter_filter]
  refine List.Sublist.length_le ?_
  rw [← List.filter_filter, List.filter_filter]
  have : (List.filter (fun a => (!seen.contains a.2) && decide (a.1.key ≠ k)) l) = List.filter (fun x => decide (x.1.key ≠ k)) (List.filter (fun x => !seen.contains x.2) l) := by
    rw [List.filter_filter]
    congr 1
    funext a
    exact Bool.and_comm _ _
  rw [this]
  exact List.filter_sublist

section
variable {P : Program} {t k e : TypeId}
theorem run_srange (ht : P.underlying t = some (.map k e)) {w : World} {b c : Nat} {l : SMap} (h : MapIs w b l c) (ho : ∀ x ∈ l, x.2 < c) (hb : (l.map (·.2)).Nodup) :
    (Instr.range t (.map (some b))).run P w = .ok (.pointer (some ⟨w.heap.size, 0, none⟩)) (w.alloc (.mapIter (some b) c #[] c)) ∧ IterAt (w.alloc (.mapIter (some b) c #[] c)) w.heap.size b l c #[] :=
  ⟨run_range_map w t k e b (ents l) c ht h, h.ext ((Ext.refl w).alloc _), ⟨c, map_new_at w _, Nat.le_refl _⟩, ho, hb⟩

theorem run_snext {w : World} {r b c : Nat} {l : SMap} {seen : Array Nat} (h : IterAt w r b l c seen) :
    (toCome l seen = 0 ∧ ∀ ty, (Instr.next (.pointer (some ⟨r, 0, none⟩)) false ty).run P w = .ok (.tuple #[.bool false]) w) ∨
    ∃ s n w', (s, n) ∈ l ∧ seen.contains n = false ∧ (∀ ty, (Instr.next (.pointer (some ⟨r, 0, none⟩)) false ty).run P w = .ok (.tuple #[.bool true, .string s.key, s.val]) w') ∧
      IterAt w' r b l c (seen.push n) ∧ ExtB r w w' ∧ (Instr.entry (.pointer (some ⟨r, 0, none⟩))).run P w' = .ok (.tuple #[.string s.key, s.val]) w' := by
  have hne := h.ne
  obtain ⟨hm, ⟨c0, hr, hc⟩, ho, hbn⟩ := h
  have hold : ∀ x ∈ (ents l).toList, x.born < c := fun x hx => by
    obtain ⟨y, hy, rfl⟩ := mem_ents hx
    exact ho y hy
  have hbn' : ((ents l).toList.map (·.born)).Nodup := by
    simpa [ents, ent, Function.comp_def] using hbn
  by_cases hz : (leftOf (ents l) seen).size = 0
  · refine Or.inl ⟨by rw [← leftOf_size]; exact hz, fun ty => ?_⟩
    rcases run_next_at (P := P) w ty r b c c0 seen (ents l) c hr hm hold hc with ⟨h0, hrun⟩ | ⟨e, he, w1, hal, hrun⟩
    · exact hrun
    · exfalso
      have : leftOf (ents l) seen = #[] := Array.eq_empty_of_size_eq_zero hz
      rw [this] at he
      simp at he
  · rcases run_next_at (P := P) w 0 r b c c0 seen (ents l) c hr hm hold hc with ⟨h0, hrun⟩ | ⟨e, he, w1, hal, hrun⟩
    · exact absurd h0 hz
    · obtain ⟨hem, hes⟩ := mem_left he
      obtain ⟨⟨s, n⟩, hx, rfl⟩ := mem_ents hem
      have hset := MapKept.heap_set (o' := .mapIter (some b) c (seen.push n) c) (show w1.heap[r]? = some (.mapIter (some b) c seen c0) by rcases hal with rfl | rfl <;> exact hr)
      have hb1 : w1.heap[b]? = some (.map (ents l) c) := by rcases hal with rfl | rfl <;> exact hm
      refine Or.inr ⟨s, n, ChangeMaps.setBlock w1 r (.mapIter (some b) c (seen.push n) c), hx, hes, fun ty => ?_, ⟨(hset.2 b hne).trans hb1, ⟨c, hset.1, Nat.le_refl _⟩, ho, hbn⟩, ?_, ?_⟩
      · exact hrun
      · rcases hal with rfl | rfl <;> exact ⟨rfl, rfl, rfl, by simp [ChangeMaps.setBlock], fun i _ hi => hset.2 i hi⟩
      · exact run_entry_at _ r b c seen (ents l) c _ hset.1 ((hset.2 b hne).trans hb1) (ents_mem hx) hbn'
end

/-- what is left of a map, when those that came and are of p are gone -/
def swept (p : Slot → Bool) (l : SMap) (seen : Array Nat) : SMap := l.filter fun x => !(seen.contains x.2 && p x.1)
theorem swept_start (p : Slot → Bool) (l : SMap) : swept p l #[] = l := by
  unfold swept
  rw [List.filter_eq_self]
  intro x _
  simp
theorem swept_end {p : Slot → Bool} {l : SMap} {seen : Array Nat} (h : toCome (swept p l seen) seen = 0) : swept p l seen = l.filter fun x => !p x.1 := by
  have h1 := toCome_zero h
  unfold swept at h1 ⊢
  refine List.filter_congr fun x hx => ?_
  cases hp : p x.1 with
  | false => simp
  | true =>
    cases hs : seen.contains x.2 with
    | true => simp
    | false =>
      have := h1 x (List.mem_filter.2 ⟨hx, by rw [hs]; rfl⟩)
      rw [hs] at this
      cases this
theorem map_inj {α β : Type} (f : α → β) : ∀ {l : List α}, (l.map f).Nodup → ∀ {x y : α}, x ∈ l → y ∈ l → f x = f y → x = y
  | [], _, _, _, hx, _, _ => by cases hx
  | a :: l, hn, x, y, hx, hy, h => by
    have hn' : f a ∉ l.map f ∧ (l.map f).Nodup := List.nodup_cons.1 hn
    rcases List.mem_cons.1 hx with e1 | hx'
    · rcases List.mem_cons.1 hy with e2 | hy'
      · rw [e1, e2]
      · exact absurd (List.mem_map.2 ⟨y, hy', by rw [← h, e1]⟩) hn'.1
    · rcases List.mem_cons.1 hy with e2 | hy'
      · exact absurd (List.mem_map.2 ⟨x, hx', by rw [h, e2]⟩) hn'.1
      · exact map_inj f hn'.2 hx' hy' h
theorem born_eq {l : SMap} (hn : (l.map (·.2)).Nodup) {x y : Slot × Nat} (hx : x ∈ l) (hy : y ∈ l) (h : x.2 = y.2) : x = y := map_inj (·.2) hn hx hy h
theorem key_eq {l : SMap} (hn : l.keys.Nodup) {x y : Slot × Nat} (hx : x ∈ l) (hy : y ∈ l) (h : x.1.key = y.1.key) : x = y := map_inj (fun x : Slot × Nat => x.1.key) (l := l) hn hx hy h
theorem swept_stays {p : Slot → Bool} {l : SMap} {seen : Array Nat} (hn : (l.map (·.2)).Nodup) {s : Slot} {n : Nat} (h : (s, n) ∈ swept p l seen) (hp : p s = false) : swept p l (seen.push n) = swept p l seen := by
  have hl : (s, n) ∈ l := (List.mem_filter.1 h).1
  refine List.filter_congr fun x hx => ?_
  by_cases e : x.2 = n
  · have := born_eq hn hx hl e
    subst this
    simp [hp]
  · have e' : (x.2 == n) = false := by simpa using e
    rw [Array.contains_push, e', Bool.or_false]
theorem swept_struck {p : Slot → Bool} {l : SMap} {seen : Array Nat} (hn : (l.map (·.2)).Nodup) (hk : l.keys.Nodup) {s : Slot} {n : Nat} (h : (s, n) ∈ swept p l seen) (hp : p s = true) : swept p l (seen.push n) = (swept p l seen).del s.key := by
  have hl : (s, n) ∈ l := (List.mem_filter.1 h).1
  unfold swept SMap.del
  rw [List.filter_filter]
  refine List.filter_congr fun x hx => ?_
  rw [Array.contains_push]
  by_cases e : x.2 = n
  · have := born_eq hn hx hl e
    subst this
    simp [hp]
  · have hkk : x.1.key ≠ s.key := fun q => e (by have := key_eq hk hx hl q; subst this; rfl)
    have e' : (x.2 == n) = false := by simpa using e
    rw [e', Bool.or_false, decide_eq_true hkk, Bool.true_and]
theorem swept_born {p : Slot → Bool} {l : SMap} {seen : Array Nat} (hn : (l.map (·.2)).Nodup) : ((swept p l seen).map (·.2)).Nodup := hn.sublist (List.filter_sublist.map _)
theorem swept_keys {p : Slot → Bool} {l : SMap} {seen : Array Nat} (hn : l.keys.Nodup) : (swept p l seen).keys.Nodup := hn.sublist (List.filter_sublist.map _)
theorem swept_mem {p : Slot → Bool} {l : SMap} {seen : Array Nat} {x : Slot × Nat} (h : x ∈ swept p l seen) : x ∈ l := (List.mem_filter.1 h).1
end Go.Proofs.Ytnlmbmbalmkiiaa

/- Walks: table.sweep, maps.DeleteFunc. -/
namespace Go.Proofs.Ytnlmbmbalmkiiaa
open Go.RowKit
set_option linter.unusedVariables false
set_option linter.unusedSimpArgs false

theorem ExtB.keep {b : Nat} {w w' : World} (h : ExtB b w w') {a : Addr} {v : Value} (c : w.cell? a = some v) (ne : a.block ≠ b) : w'.cell? a = some v := by
  have hlt : a.block < w.heap.size := by
    unfold World.cell? at c
    rcases Nat.lt_or_ge a.block w.heap.size with h | h
    · exact h
    · rw [Array.getElem?_eq_none h] at c; cases c
  unfold World.cell? at c ⊢
  rw [h.block a.block hlt ne]; exact c

set_option maxHeartbeats 1000000 in
set_option maxRecDepth 100000 in
theorem sweep_1 (bx t : Nat) (k sp : ByteArray) (se sbu srk sk sa sb clock : Int) (w : World) (m1 : k.size ≤ maxLen) (m2 : sp.size ≤ maxLen) (u1 : 0 ≤ se) (u2 : se < 18446744073709551616) (u3 : 0 ≤ sbu) (u4 : sbu < 18446744073709551616) (u5 : 0 ≤ srk) (u6 : srk < 256) (u7 : 0 ≤ sk) (u8 : sk < 256) (u9 : 0 ≤ sa) (u10 : sa < 18446744073709551616) (u11 : 0 ≤ sb) (u12 : sb < 18446744073709551616) (hn0 : 0 ≤ clock) (hn1 : clock < 18446744073709551616)
    (hb : w.cell? ⟨bx, 0, none⟩ = some (.pointer (some ⟨t, 0, none⟩))) (ht : w.cell? ⟨t, 1, none⟩ = some (.int .u64 clock)) :
    Calls Try.prog 52 #[.string k, .agg #[.string k, .string sp, .int .u64 se, .int .u64 sbu, .int .u8 srk, .int .u8 sk, .int .u64 sa, .int .u64 sb], .pointer (some ⟨bx, 0, none⟩)] w fun x w' => x = .returned (.bool (Slot.fill ⟨k, sp, se, sbu, srk, sk, sa, sb⟩ clock == 0)) ∧ Ext w w' := by
  generalize hf : Slot.fill ⟨k, sp, se, sbu, srk, sk, sa, sb⟩ clock = F
  have HF := Lib.hid hf
  clear hf
  have hbl := cell_lt hb
  have htl := cell_lt ht
  go_enter Try.func52, Try.ntmps52
  go_wp2_with fail
  have hx0 : Ext w (w.alloc (.cells #[.string k, .string sp, .int .u64 se, .int .u64 sbu, .int .u8 srk, .int .u8 sk, .int .u64 sa, .int .u64 sb] 52)) := (Ext.refl w).alloc _
  have bq := Blk.new w #[.string k, .string sp, .int .u64 se, .int .u64 sbu, .int .u8 srk, .int .u8 sk, .int .u64 sa, .int .u64 sb] 52
  have hb' := hx0.keep hb
  have ht' := hx0.keep ht
  generalize w.alloc (.cells #[.string k, .string sp, .int .u64 se, .int .u64 sbu, .int .u8 srk, .int .u8 sk, .int .u64 sa, .int .u64 sb] 52) = w0 at *
  have q0 : w0.cell? ⟨w.heap.size, 0, none⟩ = some (.string k) := bq.cell 0
  have q1 : w0.cell? ⟨w.heap.size, 1, none⟩ = some (.string sp) := bq.cell 1
  have q2 : w0.cell? ⟨w.heap.size, 2, none⟩ = some (.int .u64 se) := bq.cell 2
  have q3 : w0.cell? ⟨w.heap.size, 3, none⟩ = some (.int .u64 sbu) := bq.cell 3
  have q4 : w0.cell? ⟨w.heap.size, 4, none⟩ = some (.int .u8 srk) := bq.cell 4
  have q5 : w0.cell? ⟨w.heap.size, 5, none⟩ = some (.int .u8 sk) := bq.cell 5
  have q6 : w0.cell? ⟨w.heap.size, 6, none⟩ = some (.int .u64 sa) := bq.cell 6
  have q7 : w0.cell? ⟨w.heap.size, 7, none⟩ = some (.int .u64 sb) := bq.cell 7
  go_region_held3 (fun w' => w'.cell? ⟨w.heap.size, 0, none⟩ = some (.string k) ∧ w'.cell? ⟨w.heap.size, 1, none⟩ = some (.string sp) ∧ w'.cell? ⟨w.heap.size, 2, none⟩ = some (.int .u64 se) ∧ w'.cell? ⟨w.heap.size, 3, none⟩ = some (.int .u64 sbu) ∧ w'.cell? ⟨w.heap.size, 4, none⟩ = some (.int .u8 srk) ∧ w'.cell? ⟨w.heap.size, 5, none⟩ = some (.int .u8 sk) ∧ w'.cell? ⟨w.heap.size, 6, none⟩ = some (.int .u64 sa) ∧ w'.cell? ⟨w.heap.size, 7, none⟩ = some (.int .u64 sb) ∧ w'.cell? ⟨bx, 0, none⟩ = some (.pointer (some ⟨t, 0, none⟩)) ∧ w'.cell? ⟨t, 1, none⟩ = some (.int .u64 clock) ∧ Ext w0 w')
    (((try go_split_ands); refine ⟨?_, ?_, ?_, ?_, ?_, ?_, ?_, ?_, ?_, ?_, ?_⟩ <;> first | with_reducible assumption | exact (Ext.refl _).drew | ((repeat (first | with_reducible exact Ext.refl _ | with_reducible assumption | with_reducible refine Ext.alloc ?_ _ | with_reducible refine Ext.drew ?_ | (with_reducible refine Ext.setCell ?_ (by first | exact Nat.le_refl _ | (dsimp only; omega) | (simp; done) | (simp; omega)) _) | with_reducible refine Ext.trans ?_ (by with_reducible assumption))); done) | (refine Ext.keep (w := w0) (by repeat (first | with_reducible exact Ext.refl _ | with_reducible assumption | with_reducible refine Ext.alloc ?_ _ | with_reducible refine Ext.drew ?_ | (with_reducible refine Ext.setCell ?_ (by first | exact Nat.le_refl _ | (dsimp only; omega) | (simp; done) | (simp; omega)) _) | with_reducible refine Ext.trans ?_ (by with_reducible assumption))) ?_; with_reducible assumption)))
    (first
      | (go_at_call 50; (with_reducible refine (table_fillX k sp se sbu srk sk sa sb clock _ m1 m2 u1 u2 u3 u4 u5 u6 u7 u8 u9 u10 u11 u12 hn0 hn1).mono ?_); rw [HF.out]; rintro x w1 ⟨rfl, hx⟩))
  go_wp2
  go_ret
  exact ⟨rfl, (by repeat (first | with_reducible exact Ext.refl _ | with_reducible assumption | with_reducible refine Ext.alloc ?_ _ | with_reducible refine Ext.drew ?_ | (with_reducible refine Ext.setCell ?_ (by first | exact Nat.le_refl _ | (dsimp only; omega) | (simp; done) | (simp; omega)) _) | with_reducible refine Ext.trans ?_ (by with_reducible assumption)))⟩

theorem IterAt.del {w w' : World} {r b c : Nat} {l : SMap} {seen : Array Nat} {k : ByteArray} (h : IterAt w r b l c seen) (e : ExtB b w w') (m : MapIs w' b (l.del k) c) : IterAt w' r b (l.del k) c seen := by
  have hne := h.ne
  have hlt := h.lt
  obtain ⟨_, ⟨c0, h1, h2⟩, ho, hb⟩ := h
  exact ⟨m, ⟨c0, (e.block r hlt (fun q => hne q.symm)).trans h1, h2⟩, fun x hx => ho x (List.mem_filter.1 hx).1, hb.sublist (List.filter_sublist.map _)⟩

def drained (clock : Int) (s : Slot) : Bool := s.fill clock == 0

set_option maxHeartbeats 4000000 in
set_option maxRecDepth 100000 in
theorem delete_func (bx t mb c : Nat) (clock : Int) (l : SMap) (w : World) (hm : MapIs w mb l c) (ho : ∀ x ∈ l, x.2 < c) (hbn : (l.map (·.2)).Nodup) (hk : l.keys.Nodup) (hok : ∀ x ∈ l, SlotOk x.1) (hn0 : 0 ≤ clock) (hn1 : clock < 18446744073709551616)
    (hb : w.cell? ⟨bx, 0, none⟩ = some (.pointer (some ⟨t, 0, none⟩))) (ht : w.cell? ⟨t, 1, none⟩ = some (.int .u64 clock)) (ne1 : bx ≠ mb) (ne2 : t ≠ mb) :
    Calls Try.prog 51 #[.map (some mb), .func (.func 52) #[] #[.pointer (some ⟨bx, 0, none⟩)]] w fun x w' => x = .returned (.tuple #[]) ∧ MapIs w' mb (l.filter fun x => !drained clock x.1) c ∧ ExtB mb w w' := by
  obtain ⟨hrg, hit⟩ := run_srange (P := Try.prog) Try.underlying67 hm ho hbn
  have hbl := cell_lt hb
  have htl := cell_lt ht
  have hml := hm.lt
  go_enter Try.func51, Try.ntmps51
  go_wp2
  have hx0 : ExtB mb w (w.alloc (.mapIter (some mb) c #[] c)) := (ExtB.refl mb w).alloc _
  clear hrg
  go_loopw [8] (fun _ wr => ∃ seen, IterAt wr w.heap.size mb (swept (drained clock) l seen) c seen ∧ ExtB mb w wr) (fun _ wr => wr.rangeLeft mb w.heap.size)
  case atStart => exact ⟨#[], by rw [swept_start]; exact hit, hx0⟩
  case round =>
    obtain ⟨seen, hi, hxr⟩ := hrel
    rcases run_snext (P := Try.prog) hi with ⟨h0, hrun⟩ | ⟨s, n, w1, hmem, hns, hrun, hi1, hx1, hen⟩
    · go_wp2
      go_end0
      exact ⟨rfl, by rw [← swept_end h0]; exact hi.map, hxr⟩
    · have hsok := hok _ (swept_mem hmem)
      have hleft := hi.left
      have hlt := toCome_push hmem hns
      have hxr1 : ExtB mb w w1 := ⟨hx1.os.trans hxr.os, hx1.tape.trans hxr.tape, hx1.output.trans hxr.output, Nat.le_trans hxr.size hx1.size, fun i hi2 hne => (hx1.block i (Nat.lt_of_lt_of_le hi2 hxr.size) (by omega)).trans (hxr.block i hi2 hne)⟩
      have hb1 : w1.cell? ⟨bx, 0, none⟩ = some (.pointer (some ⟨t, 0, none⟩)) := hxr1.keep hb ne1
      have ht1 : w1.cell? ⟨t, 1, none⟩ = some (.int .u64 clock) := hxr1.keep ht ne2
      have hst := @swept_stays (drained clock) l seen hbn s n hmem
      have hsk := @swept_struck (drained clock) l seen hbn hk s n hmem
      obtain ⟨k, sp, se, sbu, srk, sk, sa, sb⟩ := s
      obtain ⟨m1, m2, u1, u2, u3, u4, u5, u6, u7, u8, u9, u10, u11, u12⟩ := hsok
      simp only at m1 m2 u1 u2 u3 u4 u5 u6 u7 u8 u9 u10 u11 u12
      simp only [Slot.val, Slot.cells] at hrun hen
      have HC := Lib.hid (fun W h1 h2 => sweep_1 bx t k sp se sbu srk sk sa sb clock W m1 m2 u1 u2 u3 u4 u5 u6 u7 u8 u9 u10 u11 u12 hn0 hn1 h1 h2)
      have HL := Lib.hid hst
      have HS := Lib.hid hsk
      clear hst hsk hi hmem
      generalize hD : (Slot.fill ⟨k, sp, se, sbu, srk, sk, sa, sb⟩ clock == 0) = D at HC
      have HD := Lib.hid hD
      clear hD
      cases D
      · go_wp2_with fail
        have hx1a : Ext w1 (w1.alloc (.cells #[.string k, .string sp, .int .u64 se, .int .u64 sbu, .int .u8 srk, .int .u8 sk, .int .u64 sa, .int .u64 sb] 52)) := (Ext.refl w1).alloc _
        refine (HC.out _ (hx1a.keep hb1) (hx1a.keep ht1)).mono ?_
        rintro x w2 ⟨rfl, hx2⟩
        have hx12 := hx1a.trans hx2
        go_wp2
        go_roundw
        case rel => exact ⟨seen.push n, by rw [HL.out HD.out]; exact hi1.ext hx12, hxr1.trans (hx12.toB mb)⟩
        case measure => rw [(hi1.ext hx12).left, hleft]; exact hlt
      · go_wp2_with fail
        have hx1a : Ext w1 (w1.alloc (.cells #[.string k, .string sp, .int .u64 se, .int .u64 sbu, .int .u8 srk, .int .u8 sk, .int .u64 sa, .int .u64 sb] 52)) := (Ext.refl w1).alloc _
        refine (HC.out _ (hx1a.keep hb1) (hx1a.keep ht1)).mono ?_
        rintro x w2 ⟨rfl, hx2⟩
        have hx12 := hx1a.trans hx2
        have hi2 := hi1.ext hx12
        obtain ⟨w3, hdel, hm3, hxB⟩ := run_sdel (P := Try.prog) Try.underlying67 Try.underlying9 hi2.map (swept_keys hk) k
        go_wp2
        have hi3 := hi2.del hxB hm3
        go_roundw
        case rel => exact ⟨seen.push n, by rw [HS.out HD.out]; exact hi3, (hxr1.trans (hx12.toB mb)).trans hxB⟩
        case measure => rw [hi3.left, hleft]; exact Nat.lt_of_le_of_lt (toCome_del k) hlt

set_option maxHeartbeats 1000000 in
set_option maxRecDepth 100000 in
theorem table_sweep (t mb c : Nat) (most clock : Int) (l : SMap) (w : World) (h : TabAt w t mb most clock l c) (ho : ∀ x ∈ l, x.2 < c) (hbn : (l.map (·.2)).Nodup) (hk : l.keys.Nodup) (hok : ∀ x ∈ l, SlotOk x.1) (hn0 : 0 ≤ clock) (hn1 : clock < 18446744073709551616) :
    Calls Try.prog 29 #[.pointer (some ⟨t, 0, none⟩)] w fun x w' => x = .returned (.tuple #[]) ∧ TabAt w' t mb most clock (l.filter fun x => !drained clock x.1) c ∧ ExtB mb w w' := by
  have hbc := h.blk.cell
  have c2 : w.cell? ⟨t, 2, none⟩ = some (.map (some mb)) := hbc 2
  have c1 : w.cell? ⟨t, 1, none⟩ = some (.int .u64 clock) := hbc 1
  have hlt := h.blk.lt
  have hmlt := h.map.lt
  have hne := h.ne
  have HT := Lib.hid h
  clear h hbc
  go_enter Try.func29, Try.ntmps29
  go_wp2_with fail
  have hxa : Ext w (w.alloc (.cells #[.pointer (some ⟨t, 0, none⟩)] 32)) := (Ext.refl w).alloc _
  have ba := Blk.new w #[.pointer (some ⟨t, 0, none⟩)] 32
  refine (delete_func w.heap.size t mb c clock l _ (HT.out.map.ext hxa) ho hbn hk hok hn0 hn1 (ba.cell 0) (hxa.keep c1) (by omega) hne).mono ?_
  rintro x w2 ⟨rfl, hm2, hx2⟩
  go_wp2
  go_end0
  exact ⟨rfl, (HT.out.ext hxa).swap hx2 hm2, (hxa.toB mb).trans hx2⟩
end Go.Proofs.Ytnlmbmbalmkiiaa
