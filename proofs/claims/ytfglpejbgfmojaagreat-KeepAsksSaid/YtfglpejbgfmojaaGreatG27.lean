/- Walks: table.slot. -/
import Derived.Test.YtfglpejbgfmojaaGreatG24

/- Walks: table.slot. -/
namespace Go.Proofs.YtfglpejbgfmojaaGreat
open Go.RowKit
set_option linter.unusedVariables false
set_option linter.unusedSimpArgs false

theorem table_fillX (k sp : ByteArray) (se sbu srk sk sa sb clock : Int) (w : World) (m1 : k.size ≤ maxLen) (m2 : sp.size ≤ maxLen) (u1 : 0 ≤ se) (u2 : se < 18446744073709551616) (u3 : 0 ≤ sbu) (u4 : sbu < 18446744073709551616) (u5 : 0 ≤ srk) (u6 : srk < 256) (u7 : 0 ≤ sk) (u8 : sk < 256) (u9 : 0 ≤ sa) (u10 : sa < 18446744073709551616) (u11 : 0 ≤ sb) (u12 : sb < 18446744073709551616) (hn0 : 0 ≤ clock) (hn1 : clock < 18446744073709551616) :
    Calls Tryz.prog 89 #[.agg #[.string k, .string sp, .int .u64 se, .int .u64 sbu, .int .u8 srk, .int .u8 sk, .int .u64 sa, .int .u64 sb], .int .u64 clock] w fun e w' => e = .returned (.int .u64 (Slot.fill ⟨k, sp, se, sbu, srk, sk, sa, sb⟩ clock)) ∧ Ext w w' :=
  table_fill ⟨k, sp, se, sbu, srk, sk, sa, sb⟩ clock w ⟨m1, m2, u1, u2, u3, u4, u5, u6, u7, u8, u9, u10, u11, u12⟩ hn0 hn1

set_option maxHeartbeats 4000000 in
set_option maxRecDepth 100000 in
theorem table_slot_yes (t mb c : Nat) (k sp p : ByteArray) (se sbu srk sk sa sb most clock rk : Int) (l : SMap) (w : World) (h : TabAt w t mb most clock l c) (m1 : k.size ≤ maxLen) (m2 : sp.size ≤ maxLen) (u1 : 0 ≤ se) (u2 : se < 18446744073709551616) (u3 : 0 ≤ sbu) (u4 : sbu < 18446744073709551616) (u5 : 0 ≤ srk) (u6 : srk < 256) (u7 : 0 ≤ sk) (u8 : sk < 256) (u9 : 0 ≤ sa) (u10 : sa < 18446744073709551616) (u11 : 0 ≤ sb) (u12 : sb < 18446744073709551616) (hn0 : 0 ≤ clock) (hn1 : clock < 18446744073709551616)
    (hl : l.look k = some ⟨k, sp, se, sbu, srk, sk, sa, sb⟩) (F : Int) (hf : Slot.fill ⟨k, sp, se, sbu, srk, sk, sa, sb⟩ clock = F) (hf1 : (F == 0) = false) :
    Calls Tryz.prog 57 #[.pointer (some ⟨t, 0, none⟩), .string k, .agg #[.string p, .int .u64 se, .int .u64 sbu, .int .u8 rk]] w fun x w' => x = .returned (.tuple #[.agg #[.string k, .string sp, .int .u64 se, .int .u64 sbu, .int .u8 srk, .int .u8 sk, .int .u64 sa, .int .u64 sb], .bool true]) ∧ Ext w w' := by
  have hbc := h.blk.cell
  have c2 : w.cell? ⟨t, 2, none⟩ = some (.map (some mb)) := hbc 2
  have hlt := h.blk.lt
  have hmlt := h.map.lt
  have L := run_slook_yes (P := Tryz.prog) Tryz.underlying106 Tryz.underlying9 (((h.map).ext ((Ext.refl w).alloc (.cells #[.string p, .int .u64 se, .int .u64 sbu, .int .u8 rk] 29))).ext ((Ext.refl _).alloc (.cells slot0.cells 65))) hl
  simp only [slot0, Slot.val, Slot.cells] at L
  have HL := Lib.hid hl
  clear hbc hl
  go_enter Tryz.func57, Tryz.ntmps57
  go_wp2
  have bs := ((h.blk.alloc (.cells #[.string p, .int .u64 se, .int .u64 sbu, .int .u8 rk] 29)).alloc (.cells slot0.cells 65)).alloc (.cells #[.string k, .string sp, .int .u64 se, .int .u64 sbu, .int .u8 srk, .int .u8 sk, .int .u64 sa, .int .u64 sb] 65)
  have ms := h.map.ext ((((Ext.refl w).alloc (.cells #[.string p, .int .u64 se, .int .u64 sbu, .int .u8 rk] 29)).alloc (.cells slot0.cells 65)).alloc (.cells #[.string k, .string sp, .int .u64 se, .int .u64 sbu, .int .u8 srk, .int .u8 sk, .int .u64 sa, .int .u64 sb] 65))
  have br := ((Blk.new w #[.string p, .int .u64 se, .int .u64 sbu, .int .u8 rk] 29).alloc (.cells slot0.cells 65)).alloc (.cells #[.string k, .string sp, .int .u64 se, .int .u64 sbu, .int .u8 srk, .int .u8 sk, .int .u64 sa, .int .u64 sb] 65)
  have bz := (Blk.new' (w.alloc (.cells #[.string p, .int .u64 se, .int .u64 sbu, .int .u8 rk] 29)) slot0.cells 65 (b := w.heap.size + 1) (by simp)).alloc (.cells #[.string k, .string sp, .int .u64 se, .int .u64 sbu, .int .u8 srk, .int .u8 sk, .int .u64 sa, .int .u64 sb] 65)
  have bx := Blk.new' ((w.alloc (.cells #[.string p, .int .u64 se, .int .u64 sbu, .int .u8 rk] 29)).alloc (.cells slot0.cells 65)) #[.string k, .string sp, .int .u64 se, .int .u64 sbu, .int .u8 srk, .int .u8 sk, .int .u64 sa, .int .u64 sb] 65 (b := w.heap.size + 1 + 1) (by simp)
  have hxw := (((Ext.refl w).alloc (.cells #[.string p, .int .u64 se, .int .u64 sbu, .int .u8 rk] 29)).alloc (.cells slot0.cells 65)).alloc (.cells #[.string k, .string sp, .int .u64 se, .int .u64 sbu, .int .u8 srk, .int .u8 sk, .int .u64 sa, .int .u64 sb] 65)
  clear L c2
  simp only [slot0, Slot.cells] at bs ms br bz bx hxw
  generalize ((w.alloc (.cells #[.string p, .int .u64 se, .int .u64 sbu, .int .u8 rk] 29)).alloc (.cells #[.string ⟨#[]⟩, .string ⟨#[]⟩, .int .u64 0, .int .u64 0, .int .u8 0, .int .u8 0, .int .u64 0, .int .u64 0] 65)).alloc (.cells #[.string k, .string sp, .int .u64 se, .int .u64 sbu, .int .u8 srk, .int .u8 sk, .int .u64 sa, .int .u64 sb] 65) = w0 at *
  have q0 : w0.cell? ⟨w.heap.size + 1 + 1, 0, none⟩ = some (.string k) := bx.cell 0
  have q1 : w0.cell? ⟨w.heap.size + 1 + 1, 1, none⟩ = some (.string sp) := bx.cell 1
  have q2 : w0.cell? ⟨w.heap.size + 1 + 1, 2, none⟩ = some (.int .u64 se) := bx.cell 2
  have q3 : w0.cell? ⟨w.heap.size + 1 + 1, 3, none⟩ = some (.int .u64 sbu) := bx.cell 3
  have q4 : w0.cell? ⟨w.heap.size + 1 + 1, 4, none⟩ = some (.int .u8 srk) := bx.cell 4
  have q5 : w0.cell? ⟨w.heap.size + 1 + 1, 5, none⟩ = some (.int .u8 sk) := bx.cell 5
  have q6 : w0.cell? ⟨w.heap.size + 1 + 1, 6, none⟩ = some (.int .u64 sa) := bx.cell 6
  have q7 : w0.cell? ⟨w.heap.size + 1 + 1, 7, none⟩ = some (.int .u64 sb) := bx.cell 7
  have r1 : w0.cell? ⟨w.heap.size, 1, none⟩ = some (.int .u64 se) := br.cell 1
  have r2 : w0.cell? ⟨w.heap.size, 2, none⟩ = some (.int .u64 sbu) := br.cell 2
  have t1 : w0.cell? ⟨t, 1, none⟩ = some (.int .u64 clock) := bs.cell 1
  have t2 : w0.cell? ⟨t, 2, none⟩ = some (.map (some mb)) := bs.cell 2
  have hxl := bx.lt
  have HF := Lib.hid hf
  clear hf
  go_region_held3 (fun w' => w'.cell? ⟨w.heap.size + 1 + 1, 0, none⟩ = some (.string k) ∧ w'.cell? ⟨w.heap.size + 1 + 1, 1, none⟩ = some (.string sp) ∧ w'.cell? ⟨w.heap.size + 1 + 1, 2, none⟩ = some (.int .u64 se) ∧ w'.cell? ⟨w.heap.size + 1 + 1, 3, none⟩ = some (.int .u64 sbu) ∧ w'.cell? ⟨w.heap.size + 1 + 1, 4, none⟩ = some (.int .u8 srk) ∧ w'.cell? ⟨w.heap.size + 1 + 1, 5, none⟩ = some (.int .u8 sk) ∧ w'.cell? ⟨w.heap.size + 1 + 1, 6, none⟩ = some (.int .u64 sa) ∧ w'.cell? ⟨w.heap.size + 1 + 1, 7, none⟩ = some (.int .u64 sb) ∧ w'.cell? ⟨w.heap.size, 1, none⟩ = some (.int .u64 se) ∧ w'.cell? ⟨w.heap.size, 2, none⟩ = some (.int .u64 sbu) ∧ w'.cell? ⟨t, 1, none⟩ = some (.int .u64 clock) ∧ Ext w0 w')
    (((try go_split_ands); refine ⟨?_, ?_, ?_, ?_, ?_, ?_, ?_, ?_, ?_, ?_, ?_, ?_⟩ <;> first | with_reducible assumption | exact (Ext.refl _).drew | ((repeat (first | with_reducible exact Ext.refl _ | with_reducible assumption | with_reducible refine Ext.alloc ?_ _ | with_reducible refine Ext.drew ?_ | (with_reducible refine Ext.setCell ?_ (by first | exact Nat.le_refl _ | (dsimp only; omega) | (simp; done) | (simp; omega)) _) | with_reducible refine Ext.trans ?_ (by with_reducible assumption))); done) | (refine Ext.keep (w := w0) (by repeat (first | with_reducible exact Ext.refl _ | with_reducible assumption | with_reducible refine Ext.alloc ?_ _ | with_reducible refine Ext.drew ?_ | (with_reducible refine Ext.setCell ?_ (by first | exact Nat.le_refl _ | (dsimp only; omega) | (simp; done) | (simp; omega)) _) | with_reducible refine Ext.trans ?_ (by with_reducible assumption))) ?_; with_reducible assumption)))
    (first
      | (go_at_call 89; (with_reducible refine (table_fillX k sp se sbu srk sk sa sb clock _ m1 m2 u1 u2 u3 u4 u5 u6 u7 u8 u9 u10 u11 u12 hn0 hn1).mono ?_); rw [HF.out]; rintro x w1 ⟨rfl, hx⟩))
  have hx1 : Ext w0 w1 := (by repeat (first | with_reducible exact Ext.refl _ | with_reducible assumption | with_reducible refine Ext.alloc ?_ _ | with_reducible refine Ext.drew ?_ | (with_reducible refine Ext.setCell ?_ (by first | exact Nat.le_refl _ | (dsimp only; omega) | (simp; done) | (simp; omega)) _) | with_reducible refine Ext.trans ?_ (by with_reducible assumption)))
  have bz1 := bz.ext hx1
  have bx1 := bx.ext hx1
  clear q0 q1 q2 q3 q4 q5 q6 q7 r1 r2 t1 t2 hxl
  have hfz := bz1.free
  have hcz := bz1.cell
  have hcx := bx1.cell
  have hlx := bx1.lt
  go_wp2
  have hS := ((((((((bz1.set 0 (.string k)).set 1 (.string sp)).set 2 (.int .u64 se)).set 3 (.int .u64 sbu)).set 4 (.int .u8 srk)).set 5 (.int .u8 sk)).set 6 (.int .u64 sa)).set 7 (.int .u64 sb))
  have hx2 := hxw.trans hx1
  have ne1 : t ≠ w.heap.size + 1 := by omega
  have ne2 : mb ≠ w.heap.size + 1 := by omega
  have le1 : w.heap.size ≤ w.heap.size + 1 := by omega
  refine ret_cell_tmp Tryz.results57 rfl rfl hS Tryz.underlying65 rfl (by kernel_rfl) ⟨rfl, ?_⟩
  exact ((((((((hx2.set le1 _ _).set le1 _ _).set le1 _ _).set le1 _ _).set le1 _ _).set le1 _ _).set le1 _ _).set le1 _ _)

set_option maxHeartbeats 4000000 in
set_option maxRecDepth 100000 in
theorem table_slot_drained (t mb c : Nat) (k sp p : ByteArray) (se sbu srk sk sa sb most clock rk : Int) (l : SMap) (w : World) (h : TabAt w t mb most clock l c) (m1 : k.size ≤ maxLen) (m2 : sp.size ≤ maxLen) (u1 : 0 ≤ se) (u2 : se < 18446744073709551616) (u3 : 0 ≤ sbu) (u4 : sbu < 18446744073709551616) (u5 : 0 ≤ srk) (u6 : srk < 256) (u7 : 0 ≤ sk) (u8 : sk < 256) (u9 : 0 ≤ sa) (u10 : sa < 18446744073709551616) (u11 : 0 ≤ sb) (u12 : sb < 18446744073709551616) (hn0 : 0 ≤ clock) (hn1 : clock < 18446744073709551616)
    (hl : l.look k = some ⟨k, sp, se, sbu, srk, sk, sa, sb⟩) (hk : l.keys.Nodup) (F : Int) (hf : Slot.fill ⟨k, sp, se, sbu, srk, sk, sa, sb⟩ clock = F) (hf1 : (F == 0) = true) :
    Calls Tryz.prog 57 #[.pointer (some ⟨t, 0, none⟩), .string k, .agg #[.string p, .int .u64 se, .int .u64 sbu, .int .u8 rk]] w fun x w' => x = .returned (.tuple #[.agg #[.string k, .string sp, .int .u64 se, .int .u64 sbu, .int .u8 srk, .int .u8 sk, .int .u64 sa, .int .u64 sb], .bool false]) ∧ TabAt w' t mb most clock (l.del k) c ∧ ExtB mb w w' := by
  have hbc := h.blk.cell
  have c2 : w.cell? ⟨t, 2, none⟩ = some (.map (some mb)) := hbc 2
  have hlt := h.blk.lt
  have hmlt := h.map.lt
  have L := run_slook_yes (P := Tryz.prog) Tryz.underlying106 Tryz.underlying9 (((h.map).ext ((Ext.refl w).alloc (.cells #[.string p, .int .u64 se, .int .u64 sbu, .int .u8 rk] 29))).ext ((Ext.refl _).alloc (.cells slot0.cells 65))) hl
  simp only [slot0, Slot.val, Slot.cells] at L
  have HL := Lib.hid hl
  clear hbc hl
  go_enter Tryz.func57, Tryz.ntmps57
  go_wp2
  have bs := ((h.blk.alloc (.cells #[.string p, .int .u64 se, .int .u64 sbu, .int .u8 rk] 29)).alloc (.cells slot0.cells 65)).alloc (.cells #[.string k, .string sp, .int .u64 se, .int .u64 sbu, .int .u8 srk, .int .u8 sk, .int .u64 sa, .int .u64 sb] 65)
  have ms := h.map.ext ((((Ext.refl w).alloc (.cells #[.string p, .int .u64 se, .int .u64 sbu, .int .u8 rk] 29)).alloc (.cells slot0.cells 65)).alloc (.cells #[.string k, .string sp, .int .u64 se, .int .u64 sbu, .int .u8 srk, .int .u8 sk, .int .u64 sa, .int .u64 sb] 65))
  have br := ((Blk.new w #[.string p, .int .u64 se, .int .u64 sbu, .int .u8 rk] 29).alloc (.cells slot0.cells 65)).alloc (.cells #[.string k, .string sp, .int .u64 se, .int .u64 sbu, .int .u8 srk, .int .u8 sk, .int .u64 sa, .int .u64 sb] 65)
  have bz := (Blk.new' (w.alloc (.cells #[.string p, .int .u64 se, .int .u64 sbu, .int .u8 rk] 29)) slot0.cells 65 (b := w.heap.size + 1) (by simp)).alloc (.cells #[.string k, .string sp, .int .u64 se, .int .u64 sbu, .int .u8 srk, .int .u8 sk, .int .u64 sa, .int .u64 sb] 65)
  have bx := Blk.new' ((w.alloc (.cells #[.string p, .int .u64 se, .int .u64 sbu, .int .u8 rk] 29)).alloc (.cells slot0.cells 65)) #[.string k, .string sp, .int .u64 se, .int .u64 sbu, .int .u8 srk, .int .u8 sk, .int .u64 sa, .int .u64 sb] 65 (b := w.heap.size + 1 + 1) (by simp)
  have hxw := (((Ext.refl w).alloc (.cells #[.string p, .int .u64 se, .int .u64 sbu, .int .u8 rk] 29)).alloc (.cells slot0.cells 65)).alloc (.cells #[.string k, .string sp, .int .u64 se, .int .u64 sbu, .int .u8 srk, .int .u8 sk, .int .u64 sa, .int .u64 sb] 65)
  clear L c2
  simp only [slot0, Slot.cells] at bs ms br bz bx hxw
  generalize ((w.alloc (.cells #[.string p, .int .u64 se, .int .u64 sbu, .int .u8 rk] 29)).alloc (.cells #[.string ⟨#[]⟩, .string ⟨#[]⟩, .int .u64 0, .int .u64 0, .int .u8 0, .int .u8 0, .int .u64 0, .int .u64 0] 65)).alloc (.cells #[.string k, .string sp, .int .u64 se, .int .u64 sbu, .int .u8 srk, .int .u8 sk, .int .u64 sa, .int .u64 sb] 65) = w0 at *
  have q0 : w0.cell? ⟨w.heap.size + 1 + 1, 0, none⟩ = some (.string k) := bx.cell 0
  have q1 : w0.cell? ⟨w.heap.size + 1 + 1, 1, none⟩ = some (.string sp) := bx.cell 1
  have q2 : w0.cell? ⟨w.heap.size + 1 + 1, 2, none⟩ = some (.int .u64 se) := bx.cell 2
  have q3 : w0.cell? ⟨w.heap.size + 1 + 1, 3, none⟩ = some (.int .u64 sbu) := bx.cell 3
  have q4 : w0.cell? ⟨w.heap.size + 1 + 1, 4, none⟩ = some (.int .u8 srk) := bx.cell 4
  have q5 : w0.cell? ⟨w.heap.size + 1 + 1, 5, none⟩ = some (.int .u8 sk) := bx.cell 5
  have q6 : w0.cell? ⟨w.heap.size + 1 + 1, 6, none⟩ = some (.int .u64 sa) := bx.cell 6
  have q7 : w0.cell? ⟨w.heap.size + 1 + 1, 7, none⟩ = some (.int .u64 sb) := bx.cell 7
  have r1 : w0.cell? ⟨w.heap.size, 1, none⟩ = some (.int .u64 se) := br.cell 1
  have r2 : w0.cell? ⟨w.heap.size, 2, none⟩ = some (.int .u64 sbu) := br.cell 2
  have t1 : w0.cell? ⟨t, 1, none⟩ = some (.int .u64 clock) := bs.cell 1
  have t2 : w0.cell? ⟨t, 2, none⟩ = some (.map (some mb)) := bs.cell 2
  have hxl := bx.lt
  have HF := Lib.hid hf
  clear hf
  go_region_held3 (fun w' => w'.cell? ⟨w.heap.size + 1 + 1, 0, none⟩ = some (.string k) ∧ w'.cell? ⟨w.heap.size + 1 + 1, 1, none⟩ = some (.string sp) ∧ w'.cell? ⟨w.heap.size + 1 + 1, 2, none⟩ = some (.int .u64 se) ∧ w'.cell? ⟨w.heap.size + 1 + 1, 3, none⟩ = some (.int .u64 sbu) ∧ w'.cell? ⟨w.heap.size + 1 + 1, 4, none⟩ = some (.int .u8 srk) ∧ w'.cell? ⟨w.heap.size + 1 + 1, 5, none⟩ = some (.int .u8 sk) ∧ w'.cell? ⟨w.heap.size + 1 + 1, 6, none⟩ = some (.int .u64 sa) ∧ w'.cell? ⟨w.heap.size + 1 + 1, 7, none⟩ = some (.int .u64 sb) ∧ w'.cell? ⟨w.heap.size, 1, none⟩ = some (.int .u64 se) ∧ w'.cell? ⟨w.heap.size, 2, none⟩ = some (.int .u64 sbu) ∧ w'.cell? ⟨t, 1, none⟩ = some (.int .u64 clock) ∧ Ext w0 w')
    (((try go_split_ands); refine ⟨?_, ?_, ?_, ?_, ?_, ?_, ?_, ?_, ?_, ?_, ?_, ?_⟩ <;> first | with_reducible assumption | exact (Ext.refl _).drew | ((repeat (first | with_reducible exact Ext.refl _ | with_reducible assumption | with_reducible refine Ext.alloc ?_ _ | with_reducible refine Ext.drew ?_ | (with_reducible refine Ext.setCell ?_ (by first | exact Nat.le_refl _ | (dsimp only; omega) | (simp; done) | (simp; omega)) _) | with_reducible refine Ext.trans ?_ (by with_reducible assumption))); done) | (refine Ext.keep (w := w0) (by repeat (first | with_reducible exact Ext.refl _ | with_reducible assumption | with_reducible refine Ext.alloc ?_ _ | with_reducible refine Ext.drew ?_ | (with_reducible refine Ext.setCell ?_ (by first | exact Nat.le_refl _ | (dsimp only; omega) | (simp; done) | (simp; omega)) _) | with_reducible refine Ext.trans ?_ (by with_reducible assumption))) ?_; with_reducible assumption)))
    (first
      | (go_at_call 89; (with_reducible refine (table_fillX k sp se sbu srk sk sa sb clock _ m1 m2 u1 u2 u3 u4 u5 u6 u7 u8 u9 u10 u11 u12 hn0 hn1).mono ?_); rw [HF.out]; rintro x w1 ⟨rfl, hx⟩))
  have hx1 : Ext w0 w1 := (by repeat (first | with_reducible exact Ext.refl _ | with_reducible assumption | with_reducible refine Ext.alloc ?_ _ | with_reducible refine Ext.drew ?_ | (with_reducible refine Ext.setCell ?_ (by first | exact Nat.le_refl _ | (dsimp only; omega) | (simp; done) | (simp; omega)) _) | with_reducible refine Ext.trans ?_ (by with_reducible assumption)))
  have mx := ms.ext hx1
  have bz1 := bz.ext hx1
  have bx1 := bx.ext hx1
  have bt1 := bs.ext hx1
  clear q0 q1 q2 q3 q4 q5 q6 q7 r1 r2 t1 t2 hxl
  obtain ⟨w2, hdel, hm2, hxB⟩ := run_sdel (P := Tryz.prog) Tryz.underlying106 Tryz.underlying9 mx hk k
  have bz2 := bz1.extB hxB (mx.ne bz1).symm
  have bx2 := bx1.extB hxB (mx.ne bx1).symm
  have bt2 := bt1.extB hxB (mx.ne bt1).symm
  have t2 : w1.cell? ⟨t, 2, none⟩ = some (.map (some mb)) := bt1.cell 2
  have hfz := bz2.free
  have hcz := bz2.cell
  have hcx := bx2.cell
  have hlx := bx2.lt
  go_wp2
  have hS := ((((((((bz2.set 0 (.string k)).set 1 (.string sp)).set 2 (.int .u64 se)).set 3 (.int .u64 sbu)).set 4 (.int .u8 srk)).set 5 (.int .u8 sk)).set 6 (.int .u64 sa)).set 7 (.int .u64 sb))
  have hx2 := hxw.trans hx1
  have ne1 : t ≠ w.heap.size + 1 := by omega
  have ne2 : mb ≠ w.heap.size + 1 := by omega
  have le1 : w.heap.size ≤ w.heap.size + 1 := by omega
  refine ret_cell_tmp Tryz.results57 rfl rfl hS Tryz.underlying65 rfl (by kernel_rfl) ⟨rfl, ?_, ?_⟩
  · refine ⟨?_, ?_⟩
    · exact ((((((((bt2.other (a := ⟨_, 0, none⟩) ne1 _).other (a := ⟨_, 1, none⟩) ne1 _).other (a := ⟨_, 2, none⟩) ne1 _).other (a := ⟨_, 3, none⟩) ne1 _).other (a := ⟨_, 4, none⟩) ne1 _).other (a := ⟨_, 5, none⟩) ne1 _).other (a := ⟨_, 6, none⟩) ne1 _).other (a := ⟨_, 7, none⟩) ne1 _)
    · exact ((((((((hm2.other (a := ⟨_, 0, none⟩) ne2 _).other (a := ⟨_, 1, none⟩) ne2 _).other (a := ⟨_, 2, none⟩) ne2 _).other (a := ⟨_, 3, none⟩) ne2 _).other (a := ⟨_, 4, none⟩) ne2 _).other (a := ⟨_, 5, none⟩) ne2 _).other (a := ⟨_, 6, none⟩) ne2 _).other (a := ⟨_, 7, none⟩) ne2 _)
  · exact ((((((((((hx2.toB mb).trans hxB).setNew (a := ⟨_, 0, none⟩) le1 _).setNew (a := ⟨_, 1, none⟩) le1 _).setNew (a := ⟨_, 2, none⟩) le1 _).setNew (a := ⟨_, 3, none⟩) le1 _).setNew (a := ⟨_, 4, none⟩) le1 _).setNew (a := ⟨_, 5, none⟩) le1 _).setNew (a := ⟨_, 6, none⟩) le1 _).setNew (a := ⟨_, 7, none⟩) le1 _)

set_option maxHeartbeats 4000000 in
set_option maxRecDepth 100000 in
theorem table_slot_every (t mb c : Nat) (k sp p : ByteArray) (se sbu srk sk sa sb most clock e b rk : Int) (l : SMap) (w : World) (h : TabAt w t mb most clock l c) (m1 : k.size ≤ maxLen) (m2 : sp.size ≤ maxLen) (u1 : 0 ≤ se) (u2 : se < 18446744073709551616) (u3 : 0 ≤ sbu) (u4 : sbu < 18446744073709551616) (u5 : 0 ≤ srk) (u6 : srk < 256) (u7 : 0 ≤ sk) (u8 : sk < 256) (u9 : 0 ≤ sa) (u10 : sa < 18446744073709551616) (u11 : 0 ≤ sb) (u12 : sb < 18446744073709551616) (hn0 : 0 ≤ clock) (hn1 : clock < 18446744073709551616)
    (hl : l.look k = some ⟨k, sp, se, sbu, srk, sk, sa, sb⟩) (hk : l.keys.Nodup) (hne : (se != e) = true) :
    Calls Tryz.prog 57 #[.pointer (some ⟨t, 0, none⟩), .string k, .agg #[.string p, .int .u64 e, .int .u64 b, .int .u8 rk]] w fun x w' => x = .returned (.tuple #[.agg #[.string k, .string sp, .int .u64 se, .int .u64 sbu, .int .u8 srk, .int .u8 sk, .int .u64 sa, .int .u64 sb], .bool false]) ∧ TabAt w' t mb most clock (l.del k) c ∧ ExtB mb w w' := by
  have hbc := h.blk.cell
  have c2 : w.cell? ⟨t, 2, none⟩ = some (.map (some mb)) := hbc 2
  have hlt := h.blk.lt
  have hmlt := h.map.lt
  have L := run_slook_yes (P := Tryz.prog) Tryz.underlying106 Tryz.underlying9 (((h.map).ext ((Ext.refl w).alloc (.cells #[.string p, .int .u64 e, .int .u64 b, .int .u8 rk] 29))).ext ((Ext.refl _).alloc (.cells slot0.cells 65))) hl
  simp only [slot0, Slot.val, Slot.cells] at L
  have HL := Lib.hid hl
  clear hbc hl
  go_enter Tryz.func57, Tryz.ntmps57
  go_wp2
  have bs := ((h.blk.alloc (.cells #[.string p, .int .u64 e, .int .u64 b, .int .u8 rk] 29)).alloc (.cells slot0.cells 65)).alloc (.cells #[.string k, .string sp, .int .u64 se, .int .u64 sbu, .int .u8 srk, .int .u8 sk, .int .u64 sa, .int .u64 sb] 65)
  have ms := h.map.ext ((((Ext.refl w).alloc (.cells #[.string p, .int .u64 e, .int .u64 b, .int .u8 rk] 29)).alloc (.cells slot0.cells 65)).alloc (.cells #[.string k, .string sp, .int .u64 se, .int .u64 sbu, .int .u8 srk, .int .u8 sk, .int .u64 sa, .int .u64 sb] 65))
  have br := ((Blk.new w #[.string p, .int .u64 e, .int .u64 b, .int .u8 rk] 29).alloc (.cells slot0.cells 65)).alloc (.cells #[.string k, .string sp, .int .u64 se, .int .u64 sbu, .int .u8 srk, .int .u8 sk, .int .u64 sa, .int .u64 sb] 65)
  have bz := (Blk.new' (w.alloc (.cells #[.string p, .int .u64 e, .int .u64 b, .int .u8 rk] 29)) slot0.cells 65 (b := w.heap.size + 1) (by simp)).alloc (.cells #[.string k, .string sp, .int .u64 se, .int .u64 sbu, .int .u8 srk, .int .u8 sk, .int .u64 sa, .int .u64 sb] 65)
  have bx := Blk.new' ((w.alloc (.cells #[.string p, .int .u64 e, .int .u64 b, .int .u8 rk] 29)).alloc (.cells slot0.cells 65)) #[.string k, .string sp, .int .u64 se, .int .u64 sbu, .int .u8 srk, .int .u8 sk, .int .u64 sa, .int .u64 sb] 65 (b := w.heap.size + 1 + 1) (by simp)
  have hxw := (((Ext.refl w).alloc (.cells #[.string p, .int .u64 e, .int .u64 b, .int .u8 rk] 29)).alloc (.cells slot0.cells 65)).alloc (.cells #[.string k, .string sp, .int .u64 se, .int .u64 sbu, .int .u8 srk, .int .u8 sk, .int .u64 sa, .int .u64 sb] 65)
  clear L c2
  simp only [slot0, Slot.cells] at bs ms br bz bx hxw
  generalize ((w.alloc (.cells #[.string p, .int .u64 e, .int .u64 b, .int .u8 rk] 29)).alloc (.cells #[.string ⟨#[]⟩, .string ⟨#[]⟩, .int .u64 0, .int .u64 0, .int .u8 0, .int .u8 0, .int .u64 0, .int .u64 0] 65)).alloc (.cells #[.string k, .string sp, .int .u64 se, .int .u64 sbu, .int .u8 srk, .int .u8 sk, .int .u64 sa, .int .u64 sb] 65) = w0 at *
  have q0 : w0.cell? ⟨w.heap.size + 1 + 1, 0, none⟩ = some (.string k) := bx.cell 0
  have q1 : w0.cell? ⟨w.heap.size + 1 + 1, 1, none⟩ = some (.string sp) := bx.cell 1
  have q2 : w0.cell? ⟨w.heap.size + 1 + 1, 2, none⟩ = some (.int .u64 se) := bx.cell 2
  have q3 : w0.cell? ⟨w.heap.size + 1 + 1, 3, none⟩ = some (.int .u64 sbu) := bx.cell 3
  have q4 : w0.cell? ⟨w.heap.size + 1 + 1, 4, none⟩ = some (.int .u8 srk) := bx.cell 4
  have q5 : w0.cell? ⟨w.heap.size + 1 + 1, 5, none⟩ = some (.int .u8 sk) := bx.cell 5
  have q6 : w0.cell? ⟨w.heap.size + 1 + 1, 6, none⟩ = some (.int .u64 sa) := bx.cell 6
  have q7 : w0.cell? ⟨w.heap.size + 1 + 1, 7, none⟩ = some (.int .u64 sb) := bx.cell 7
  have r1 : w0.cell? ⟨w.heap.size, 1, none⟩ = some (.int .u64 e) := br.cell 1
  have r2 : w0.cell? ⟨w.heap.size, 2, none⟩ = some (.int .u64 b) := br.cell 2
  have t1 : w0.cell? ⟨t, 1, none⟩ = some (.int .u64 clock) := bs.cell 1
  have t2 : w0.cell? ⟨t, 2, none⟩ = some (.map (some mb)) := bs.cell 2
  have hxl := bx.lt
  go_quiet (fail)
  have hx1 : Ext w0 (w0.drewN nq) := Ext.drewNs _ nq
  generalize w0.drewN nq = w1 at *
  have mx := ms.ext hx1
  have bz1 := bz.ext hx1
  have bx1 := bx.ext hx1
  have bt1 := bs.ext hx1
  clear q0 q1 q2 q3 q4 q5 q6 q7 r1 r2 t1 t2 hxl
  obtain ⟨w2, hdel, hm2, hxB⟩ := run_sdel (P := Tryz.prog) Tryz.underlying106 Tryz.underlying9 mx hk k
  have bz2 := bz1.extB hxB (mx.ne bz1).symm
  have bx2 := bx1.extB hxB (mx.ne bx1).symm
  have bt2 := bt1.extB hxB (mx.ne bt1).symm
  have t2 : w1.cell? ⟨t, 2, none⟩ = some (.map (some mb)) := bt1.cell 2
  have hfz := bz2.free
  have hcz := bz2.cell
  have hcx := bx2.cell
  have hlx := bx2.lt
  go_wp2
  have hS := ((((((((bz2.set 0 (.string k)).set 1 (.string sp)).set 2 (.int .u64 se)).set 3 (.int .u64 sbu)).set 4 (.int .u8 srk)).set 5 (.int .u8 sk)).set 6 (.int .u64 sa)).set 7 (.int .u64 sb))
  have hx2 := hxw.trans hx1
  have ne1 : t ≠ w.heap.size + 1 := by omega
  have ne2 : mb ≠ w.heap.size + 1 := by omega
  have le1 : w.heap.size ≤ w.heap.size + 1 := by omega
  refine ret_cell_tmp Tryz.results57 rfl rfl hS Tryz.underlying65 rfl (by kernel_rfl) ⟨rfl, ?_, ?_⟩
  · refine ⟨?_, ?_⟩
    · exact ((((((((bt2.other (a := ⟨_, 0, none⟩) ne1 _).other (a := ⟨_, 1, none⟩) ne1 _).other (a := ⟨_, 2, none⟩) ne1 _).other (a := ⟨_, 3, none⟩) ne1 _).other (a := ⟨_, 4, none⟩) ne1 _).other (a := ⟨_, 5, none⟩) ne1 _).other (a := ⟨_, 6, none⟩) ne1 _).other (a := ⟨_, 7, none⟩) ne1 _)
    · exact ((((((((hm2.other (a := ⟨_, 0, none⟩) ne2 _).other (a := ⟨_, 1, none⟩) ne2 _).other (a := ⟨_, 2, none⟩) ne2 _).other (a := ⟨_, 3, none⟩) ne2 _).other (a := ⟨_, 4, none⟩) ne2 _).other (a := ⟨_, 5, none⟩) ne2 _).other (a := ⟨_, 6, none⟩) ne2 _).other (a := ⟨_, 7, none⟩) ne2 _)
  · exact ((((((((((hx2.toB mb).trans hxB).setNew (a := ⟨_, 0, none⟩) le1 _).setNew (a := ⟨_, 1, none⟩) le1 _).setNew (a := ⟨_, 2, none⟩) le1 _).setNew (a := ⟨_, 3, none⟩) le1 _).setNew (a := ⟨_, 4, none⟩) le1 _).setNew (a := ⟨_, 5, none⟩) le1 _).setNew (a := ⟨_, 6, none⟩) le1 _).setNew (a := ⟨_, 7, none⟩) le1 _)

set_option maxHeartbeats 4000000 in
set_option maxRecDepth 100000 in
theorem table_slot_burst (t mb c : Nat) (k sp p : ByteArray) (se sbu srk sk sa sb most clock e b rk : Int) (l : SMap) (w : World) (h : TabAt w t mb most clock l c) (m1 : k.size ≤ maxLen) (m2 : sp.size ≤ maxLen) (u1 : 0 ≤ se) (u2 : se < 18446744073709551616) (u3 : 0 ≤ sbu) (u4 : sbu < 18446744073709551616) (u5 : 0 ≤ srk) (u6 : srk < 256) (u7 : 0 ≤ sk) (u8 : sk < 256) (u9 : 0 ≤ sa) (u10 : sa < 18446744073709551616) (u11 : 0 ≤ sb) (u12 : sb < 18446744073709551616) (hn0 : 0 ≤ clock) (hn1 : clock < 18446744073709551616)
    (hl : l.look k = some ⟨k, sp, se, sbu, srk, sk, sa, sb⟩) (hk : l.keys.Nodup) (hne : (se != e) = false) (hne2 : (sbu != b) = true) :
    Calls Tryz.prog 57 #[.pointer (some ⟨t, 0, none⟩), .string k, .agg #[.string p, .int .u64 e, .int .u64 b, .int .u8 rk]] w fun x w' => x = .returned (.tuple #[.agg #[.string k, .string sp, .int .u64 se, .int .u64 sbu, .int .u8 srk, .int .u8 sk, .int .u64 sa, .int .u64 sb], .bool false]) ∧ TabAt w' t mb most clock (l.del k) c ∧ ExtB mb w w' := by
  have hbc := h.blk.cell
  have c2 : w.cell? ⟨t, 2, none⟩ = some (.map (some mb)) := hbc 2
  have hlt := h.blk.lt
  have hmlt := h.map.lt
  have L := run_slook_yes (P := Tryz.prog) Tryz.underlying106 Tryz.underlying9 (((h.map).ext ((Ext.refl w).alloc (.cells #[.string p, .int .u64 e, .int .u64 b, .int .u8 rk] 29))).ext ((Ext.refl _).alloc (.cells slot0.cells 65))) hl
  simp only [slot0, Slot.val, Slot.cells] at L
  have HL := Lib.hid hl
  clear hbc hl
  go_enter Tryz.func57, Tryz.ntmps57
  go_wp2
  have bs := ((h.blk.alloc (.cells #[.string p, .int .u64 e, .int .u64 b, .int .u8 rk] 29)).alloc (.cells slot0.cells 65)).alloc (.cells #[.string k, .string sp, .int .u64 se, .int .u64 sbu, .int .u8 srk, .int .u8 sk, .int .u64 sa, .int .u64 sb] 65)
  have ms := h.map.ext ((((Ext.refl w).alloc (.cells #[.string p, .int .u64 e, .int .u64 b, .int .u8 rk] 29)).alloc (.cells slot0.cells 65)).alloc (.cells #[.string k, .string sp, .int .u64 se, .int .u64 sbu, .int .u8 srk, .int .u8 sk, .int .u64 sa, .int .u64 sb] 65))
  have br := ((Blk.new w #[.string p, .int .u64 e, .int .u64 b, .int .u8 rk] 29).alloc (.cells slot0.cells 65)).alloc (.cells #[.string k, .string sp, .int .u64 se, .int .u64 sbu, .int .u8 srk, .int .u8 sk, .int .u64 sa, .int .u64 sb] 65)
  have bz := (Blk.new' (w.alloc (.cells #[.string p, .int .u64 e, .int .u64 b, .int .u8 rk] 29)) slot0.cells 65 (b := w.heap.size + 1) (by simp)).alloc (.cells #[.string k, .string sp, .int .u64 se, .int .u64 sbu, .int .u8 srk, .int .u8 sk, .int .u64 sa, .int .u64 sb] 65)
  have bx := Blk.new' ((w.alloc (.cells #[.string p, .int .u64 e, .int .u64 b, .int .u8 rk] 29)).alloc (.cells slot0.cells 65)) #[.string k, .string sp, .int .u64 se, .int .u64 sbu, .int .u8 srk, .int .u8 sk, .int .u64 sa, .int .u64 sb] 65 (b := w.heap.size + 1 + 1) (by simp)
  have hxw := (((Ext.refl w).alloc (.cells #[.string p, .int .u64 e, .int .u64 b, .int .u8 rk] 29)).alloc (.cells slot0.cells 65)).alloc (.cells #[.string k, .string sp, .int .u64 se, .int .u64 sbu, .int .u8 srk, .int .u8 sk, .int .u64 sa, .int .u64 sb] 65)
  clear L c2
  simp only [slot0, Slot.cells] at bs ms br bz bx hxw
  generalize ((w.alloc (.cells #[.string p, .int .u64 e, .int .u64 b, .int .u8 rk] 29)).alloc (.cells #[.string ⟨#[]⟩, .string ⟨#[]⟩, .int .u64 0, .int .u64 0, .int .u8 0, .int .u8 0, .int .u64 0, .int .u64 0] 65)).alloc (.cells #[.string k, .string sp, .int .u64 se, .int .u64 sbu, .int .u8 srk, .int .u8 sk, .int .u64 sa, .int .u64 sb] 65) = w0 at *
  have q0 : w0.cell? ⟨w.heap.size + 1 + 1, 0, none⟩ = some (.string k) := bx.cell 0
  have q1 : w0.cell? ⟨w.heap.size + 1 + 1, 1, none⟩ = some (.string sp) := bx.cell 1
  have q2 : w0.cell? ⟨w.heap.size + 1 + 1, 2, none⟩ = some (.int .u64 se) := bx.cell 2
  have q3 : w0.cell? ⟨w.heap.size + 1 + 1, 3, none⟩ = some (.int .u64 sbu) := bx.cell 3
  have q4 : w0.cell? ⟨w.heap.size + 1 + 1, 4, none⟩ = some (.int .u8 srk) := bx.cell 4
  have q5 : w0.cell? ⟨w.heap.size + 1 + 1, 5, none⟩ = some (.int .u8 sk) := bx.cell 5
  have q6 : w0.cell? ⟨w.heap.size + 1 + 1, 6, none⟩ = some (.int .u64 sa) := bx.cell 6
  have q7 : w0.cell? ⟨w.heap.size + 1 + 1, 7, none⟩ = some (.int .u64 sb) := bx.cell 7
  have r1 : w0.cell? ⟨w.heap.size, 1, none⟩ = some (.int .u64 e) := br.cell 1
  have r2 : w0.cell? ⟨w.heap.size, 2, none⟩ = some (.int .u64 b) := br.cell 2
  have t1 : w0.cell? ⟨t, 1, none⟩ = some (.int .u64 clock) := bs.cell 1
  have t2 : w0.cell? ⟨t, 2, none⟩ = some (.map (some mb)) := bs.cell 2
  have hxl := bx.lt
  go_quiet (fail)
  have hx1 : Ext w0 (w0.drewN nq) := Ext.drewNs _ nq
  generalize w0.drewN nq = w1 at *
  have mx := ms.ext hx1
  have bz1 := bz.ext hx1
  have bx1 := bx.ext hx1
  have bt1 := bs.ext hx1
  clear q0 q1 q2 q3 q4 q5 q6 q7 r1 r2 t1 t2 hxl
  obtain ⟨w2, hdel, hm2, hxB⟩ := run_sdel (P := Tryz.prog) Tryz.underlying106 Tryz.underlying9 mx hk k
  have bz2 := bz1.extB hxB (mx.ne bz1).symm
  have bx2 := bx1.extB hxB (mx.ne bx1).symm
  have bt2 := bt1.extB hxB (mx.ne bt1).symm
  have t2 : w1.cell? ⟨t, 2, none⟩ = some (.map (some mb)) := bt1.cell 2
  have hfz := bz2.free
  have hcz := bz2.cell
  have hcx := bx2.cell
  have hlx := bx2.lt
  go_wp2
  have hS := ((((((((bz2.set 0 (.string k)).set 1 (.string sp)).set 2 (.int .u64 se)).set 3 (.int .u64 sbu)).set 4 (.int .u8 srk)).set 5 (.int .u8 sk)).set 6 (.int .u64 sa)).set 7 (.int .u64 sb))
  have hx2 := hxw.trans hx1
  have ne1 : t ≠ w.heap.size + 1 := by omega
  have ne2 : mb ≠ w.heap.size + 1 := by omega
  have le1 : w.heap.size ≤ w.heap.size + 1 := by omega
  refine ret_cell_tmp Tryz.results57 rfl rfl hS Tryz.underlying65 rfl (by kernel_rfl) ⟨rfl, ?_, ?_⟩
  · refine ⟨?_, ?_⟩
    · exact ((((((((bt2.other (a := ⟨_, 0, none⟩) ne1 _).other (a := ⟨_, 1, none⟩) ne1 _).other (a := ⟨_, 2, none⟩) ne1 _).other (a := ⟨_, 3, none⟩) ne1 _).other (a := ⟨_, 4, none⟩) ne1 _).other (a := ⟨_, 5, none⟩) ne1 _).other (a := ⟨_, 6, none⟩) ne1 _).other (a := ⟨_, 7, none⟩) ne1 _)
    · exact ((((((((hm2.other (a := ⟨_, 0, none⟩) ne2 _).other (a := ⟨_, 1, none⟩) ne2 _).other (a := ⟨_, 2, none⟩) ne2 _).other (a := ⟨_, 3, none⟩) ne2 _).other (a := ⟨_, 4, none⟩) ne2 _).other (a := ⟨_, 5, none⟩) ne2 _).other (a := ⟨_, 6, none⟩) ne2 _).other (a := ⟨_, 7, none⟩) ne2 _)
  · exact ((((((((((hx2.toB mb).trans hxB).setNew (a := ⟨_, 0, none⟩) le1 _).setNew (a := ⟨_, 1, none⟩) le1 _).setNew (a := ⟨_, 2, none⟩) le1 _).setNew (a := ⟨_, 3, none⟩) le1 _).setNew (a := ⟨_, 4, none⟩) le1 _).setNew (a := ⟨_, 5, none⟩) le1 _).setNew (a := ⟨_, 6, none⟩) le1 _).setNew (a := ⟨_, 7, none⟩) le1 _)
end Go.Proofs.YtfglpejbgfmojaaGreat
