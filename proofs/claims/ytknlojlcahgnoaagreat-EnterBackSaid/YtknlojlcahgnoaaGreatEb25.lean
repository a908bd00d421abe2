/- Walks: package table: a slot; table.fill. Walks: table.slot. -/
import Derived.Deep.QuietTactic
import Derived.BigQuiet
import Derived.Test.YtknlojlcahgnoaaGreatEb20
import Derived.Test.YtknlojlcahgnoaaGreatEb10
import Derived.Test.YtknlojlcahgnoaaGreatEb9

namespace Go.Proofs.YtknlojlcahgnoaaGreat
open Go.RowKit
set_option linter.unusedVariables false
set_option linter.unusedSimpArgs false

def Slot.cap (s : Slot) : Int := ruleCap s.p s.e s.b s.rk
def Slot.fill (s : Slot) (clock : Int) : Int := kFill s.sk s.sa s.sb clock s.cap

theorem ruleCap_u (p : ByteArray) (e b k : Int) (he0 : 0 ≤ e) (hb0 : 0 ≤ b) : 0 ≤ ruleCap p e b k ∧ ruleCap p e b k ≤ 4611686018427387904 := by
  unfold ruleCap
  split
  · rename_i h
    exact ⟨Int.mul_nonneg he0 hb0, capOk_lt (ruleErr_zero h).2.2.2.1⟩
  · omega

set_option maxHeartbeats 1000000 in
set_option maxRecDepth 100000 in
theorem table_fill (s : Slot) (clock : Int) (w : World) (hs : SlotOk s) (hn0 : 0 ≤ clock) (hn1 : clock < 18446744073709551616) :
    Calls Tryz.prog 151 #[s.val, .int .u64 clock] w fun e w' => e = .returned (.int .u64 (s.fill clock)) ∧ Ext w w' := by
  obtain ⟨key, p, e, b, rk, sk, sa, sb⟩ := s
  obtain ⟨h1, h2, h3, h4, h5, h6, h7, h8, h9, h10, h11, h12, h13, h14⟩ := hs
  simp only at h1 h2 h3 h4 h5 h6 h7 h8 h9 h10 h11 h12 h13 h14
  have hc := ruleCap_u p e b rk h3 h5
  show Calls _ _ #[.agg #[.string key, .string p, .int .u64 e, .int .u64 b, .int .u8 rk, .int .u8 sk, .int .u64 sa, .int .u64 sb], _] _ fun x w' => x = .returned (.int .u64 (kFill sk sa sb clock (ruleCap p e b rk))) ∧ Ext w w'
  generalize hcap : ruleCap p e b rk = cap at *
  have HC := Lib.hid hcap
  clear hcap
  obtain ⟨hc0, hc1⟩ := hc
  go_enter Tryz.func151, Tryz.ntmps151
  go_wp2_with fail
  have bq := Blk.new w #[.string key, .string p, .int .u64 e, .int .u64 b, .int .u8 rk, .int .u8 sk, .int .u64 sa, .int .u64 sb] 145
  have hx0 : Ext w (w.alloc (.cells #[.string key, .string p, .int .u64 e, .int .u64 b, .int .u8 rk, .int .u8 sk, .int .u64 sa, .int .u64 sb] 145)) := (Ext.refl w).alloc _
  generalize w.alloc (.cells #[.string key, .string p, .int .u64 e, .int .u64 b, .int .u8 rk, .int .u8 sk, .int .u64 sa, .int .u64 sb] 145) = w0 at *
  have q1 : w0.cell? ⟨w.heap.size, 1, none⟩ = some (.string p) := bq.cell 1
  have q2 : w0.cell? ⟨w.heap.size, 2, none⟩ = some (.int .u64 e) := bq.cell 2
  have q3 : w0.cell? ⟨w.heap.size, 3, none⟩ = some (.int .u64 b) := bq.cell 3
  have q4 : w0.cell? ⟨w.heap.size, 4, none⟩ = some (.int .u8 rk) := bq.cell 4
  have q5 : w0.cell? ⟨w.heap.size, 5, none⟩ = some (.int .u8 sk) := bq.cell 5
  have q6 : w0.cell? ⟨w.heap.size, 6, none⟩ = some (.int .u64 sa) := bq.cell 6
  have q7 : w0.cell? ⟨w.heap.size, 7, none⟩ = some (.int .u64 sb) := bq.cell 7
  go_region_held3 (fun w' => w'.cell? ⟨w.heap.size, 1, none⟩ = some (.string p) ∧ w'.cell? ⟨w.heap.size, 2, none⟩ = some (.int .u64 e) ∧ w'.cell? ⟨w.heap.size, 3, none⟩ = some (.int .u64 b) ∧ w'.cell? ⟨w.heap.size, 4, none⟩ = some (.int .u8 rk) ∧ w'.cell? ⟨w.heap.size, 5, none⟩ = some (.int .u8 sk) ∧ w'.cell? ⟨w.heap.size, 6, none⟩ = some (.int .u64 sa) ∧ w'.cell? ⟨w.heap.size, 7, none⟩ = some (.int .u64 sb) ∧ Ext w0 w')
    (((try go_split_ands); refine ⟨?_, ?_, ?_, ?_, ?_, ?_, ?_, ?_⟩ <;> first | with_reducible assumption | exact (Ext.refl _).drew | ((repeat (first | with_reducible exact Ext.refl _ | with_reducible assumption | with_reducible refine Ext.alloc ?_ _ | with_reducible refine Ext.drew ?_ | (with_reducible refine Ext.setCell ?_ (by first | exact Nat.le_refl _ | (dsimp only; omega) | (simp; done) | (simp; omega)) _) | with_reducible refine Ext.trans ?_ (by with_reducible assumption))); done) | (refine Ext.keep (w := w0) (by repeat (first | with_reducible exact Ext.refl _ | with_reducible assumption | with_reducible refine Ext.alloc ?_ _ | with_reducible refine Ext.drew ?_ | (with_reducible refine Ext.setCell ?_ (by first | exact Nat.le_refl _ | (dsimp only; omega) | (simp; done) | (simp; omega)) _) | with_reducible refine Ext.trans ?_ (by with_reducible assumption))) ?_; with_reducible assumption)))
    (first
      | (go_at_call 69; (with_reducible refine (rule_Cap p e b rk _ h2 h3 h4 h5 h6).mono ?_); rw [HC.out]; rintro x w1 ⟨rfl, hx⟩)
      | (go_at_call 110; (with_reducible refine (kernel_Fill sk sa sb clock cap _ h11 h12 h13 h14 hn0 hn1 hc0 (by omega)).mono ?_); rintro x w2 ⟨rfl, hx⟩))
  go_wp2
  go_ret
  exact ⟨rfl, (by repeat (first | with_reducible exact Ext.refl _ | with_reducible assumption | with_reducible refine Ext.alloc ?_ _ | with_reducible refine Ext.drew ?_ | (with_reducible refine Ext.setCell ?_ (by first | exact Nat.le_refl _ | (dsimp only; omega) | (simp; done) | (simp; omega)) _) | with_reducible refine Ext.trans ?_ (by with_reducible assumption)))⟩

/-- a table in memory -/
structure TabAt (w : World) (t mb : Nat) (most clock : Int) (l : SMap) (c : Nat) : Prop where
  blk : Blk w t #[.int .i64 most, .int .u64 clock, .map (some mb)] 130
  map : MapIs w mb l c
theorem TabAt.ext {w w' : World} {t mb c : Nat} {most clock : Int} {l : SMap} (h : TabAt w t mb most clock l c) (e : Ext w w') : TabAt w' t mb most clock l c := ⟨h.blk.ext e, h.map.ext e⟩
theorem TabAt.ne {w : World} {t mb c : Nat} {most clock : Int} {l : SMap} (h : TabAt w t mb most clock l c) : t ≠ mb := fun e => h.map.ne h.blk e.symm
theorem TabAt.swap {w w' : World} {t mb c c' : Nat} {most clock : Int} {l l' : SMap} (h : TabAt w t mb most clock l c) (e : ExtB mb w w') (m : MapIs w' mb l' c') : TabAt w' t mb most clock l' c' := ⟨h.blk.extB e h.ne, m⟩

theorem slot_zero (w : World) : (zeroValue 145).run Tryz.prog w = .ok slot0.val w := by kernel_rfl

set_option maxHeartbeats 1000000 in
set_option maxRecDepth 100000 in
theorem table_slot_none (t mb c : Nat) (k p : ByteArray) (most clock e b rk : Int) (l : SMap) (w : World) (h : TabAt w t mb most clock l c) (hl : l.look k = none) :
    Calls Tryz.prog 103 #[.pointer (some ⟨t, 0, none⟩), .string k, .agg #[.string p, .int .u64 e, .int .u64 b, .int .u8 rk]] w fun x w' => x = .returned (.tuple #[slot0.val, .bool false]) ∧ Ext w w' := by
  have hbc := h.blk.cell
  have c2 : w.cell? ⟨t, 2, none⟩ = some (.map (some mb)) := hbc 2
  have hlt := h.blk.lt
  have L := run_slook_no (P := Tryz.prog) Tryz.underlying128 Tryz.underlying9 (((h.map).ext ((Ext.refl w).alloc (.cells #[.string p, .int .u64 e, .int .u64 b, .int .u8 rk] 37))).ext ((Ext.refl _).alloc (.cells slot0.cells 145))) hl (slot_zero _)
  simp only [slot0, Slot.val, Slot.cells] at L
  clear hbc hl
  go_enter Tryz.func103, Tryz.ntmps103
  go_wp2
  go_quiet (fail)
  have hB := ((Blk.new' (w.alloc (.cells #[.string p, .int .u64 e, .int .u64 b, .int .u8 rk] 37)) slot0.cells 145 (b := w.heap.size + 1) (by simp)).alloc (.cells slot0.cells 145)).drewN nq
  go_wp2
  have hS := ((((((((hB.set 0 (.string ⟨#[]⟩)).set 1 (.string ⟨#[]⟩)).set 2 (.int .u64 0)).set 3 (.int .u64 0)).set 4 (.int .u8 0)).set 5 (.int .u8 0)).set 6 (.int .u64 0)).set 7 (.int .u64 0))
  have hx := (((((Ext.refl w).alloc (.cells #[.string p, .int .u64 e, .int .u64 b, .int .u8 rk] 37)).alloc (.cells slot0.cells 145)).alloc (.cells slot0.cells 145)).trans (Ext.drewNs _ nq))
  refine ret_cell_tmp Tryz.results103 rfl rfl hS Tryz.underlying145 rfl (by kernel_rfl) ⟨rfl, ?_⟩
  exact ((((((((hx.set (by omega) _ _).set (by omega) _ _).set (by omega) _ _).set (by omega) _ _).set (by omega) _ _).set (by omega) _ _).set (by omega) _ _).set (by omega) _ _)
end Go.Proofs.YtknlojlcahgnoaaGreat

namespace Go.Proofs.YtknlojlcahgnoaaGreat
open Go.RowKit
set_option linter.unusedVariables false
set_option linter.unusedSimpArgs false

theorem table_fillX (k sp : ByteArray) (se sbu srk sk sa sb clock : Int) (w : World) (m1 : k.size ≤ maxLen) (m2 : sp.size ≤ maxLen) (u1 : 0 ≤ se) (u2 : se < 18446744073709551616) (u3 : 0 ≤ sbu) (u4 : sbu < 18446744073709551616) (u5 : 0 ≤ srk) (u6 : srk < 256) (u7 : 0 ≤ sk) (u8 : sk < 256) (u9 : 0 ≤ sa) (u10 : sa < 18446744073709551616) (u11 : 0 ≤ sb) (u12 : sb < 18446744073709551616) (hn0 : 0 ≤ clock) (hn1 : clock < 18446744073709551616) :
    Calls Tryz.prog 151 #[.agg #[.string k, .string sp, .int .u64 se, .int .u64 sbu, .int .u8 srk, .int .u8 sk, .int .u64 sa, .int .u64 sb], .int .u64 clock] w fun e w' => e = .returned (.int .u64 (Slot.fill ⟨k, sp, se, sbu, srk, sk, sa, sb⟩ clock)) ∧ Ext w w' :=
  table_fill ⟨k, sp, se, sbu, srk, sk, sa, sb⟩ clock w ⟨m1, m2, u1, u2, u3, u4, u5, u6, u7, u8, u9, u10, u11, u12⟩ hn0 hn1

set_option maxHeartbeats 4000000 in
set_option maxRecDepth 100000 in
theorem table_slot_yes (t mb c : Nat) (k sp p : ByteArray) (se sbu srk sk sa sb most clock rk : Int) (l : SMap) (w : World) (h : TabAt w t mb most clock l c) (m1 : k.size ≤ maxLen) (m2 : sp.size ≤ maxLen) (u1 : 0 ≤ se) (u2 : se < 18446744073709551616) (u3 : 0 ≤ sbu) (u4 : sbu < 18446744073709551616) (u5 : 0 ≤ srk) (u6 : srk < 256) (u7 : 0 ≤ sk) (u8 : sk < 256) (u9 : 0 ≤ sa) (u10 : sa < 18446744073709551616) (u11 : 0 ≤ sb) (u12 : sb < 18446744073709551616) (hn0 : 0 ≤ clock) (hn1 : clock < 18446744073709551616)
    (hl : l.look k = some ⟨k, sp, se, sbu, srk, sk, sa, sb⟩) (F : Int) (hf : Slot.fill ⟨k, sp, se, sbu, srk, sk, sa, sb⟩ clock = F) (hf1 : (F == 0) = false) :
    Calls Tryz.prog 103 #[.pointer (some ⟨t, 0, none⟩), .string k, .agg #[.string p, .int .u64 se, .int .u64 sbu, .int .u8 rk]] w fun x w' => x = .returned (.tuple #[.agg #[.string k, .string sp, .int .u64 se, .int .u64 sbu, .int .u8 srk, .int .u8 sk, .int .u64 sa, .int .u64 sb], .bool true]) ∧ Ext w w' := by
  have hbc := h.blk.cell
  have c2 : w.cell? ⟨t, 2, none⟩ = some (.map (some mb)) := hbc 2
  have hlt := h.blk.lt
  have hmlt := h.map.lt
  have L := run_slook_yes (P := Tryz.prog) Tryz.underlying128 Tryz.underlying9 (((h.map).ext ((Ext.refl w).alloc (.cells #[.string p, .int .u64 se, .int .u64 sbu, .int .u8 rk] 37))).ext ((Ext.refl _).alloc (.cells slot0.cells 145))) hl
  simp only [slot0, Slot.val, Slot.cells] at L
  have HL := Lib.hid hl
  clear hbc hl
  go_enter Tryz.func103, Tryz.ntmps103
  go_wp2
  have bs := ((h.blk.alloc (.cells #[.string p, .int .u64 se, .int .u64 sbu, .int .u8 rk] 37)).alloc (.cells slot0.cells 145)).alloc (.cells #[.string k, .string sp, .int .u64 se, .int .u64 sbu, .int .u8 srk, .int .u8 sk, .int .u64 sa, .int .u64 sb] 145)
  have ms := h.map.ext ((((Ext.refl w).alloc (.cells #[.string p, .int .u64 se, .int .u64 sbu, .int .u8 rk] 37)).alloc (.cells slot0.cells 145)).alloc (.cells #[.string k, .string sp, .int .u64 se, .int .u64 sbu, .int .u8 srk, .int .u8 sk, .int .u64 sa, .int .u64 sb] 145))
  have br := ((Blk.new w #[.string p, .int .u64 se, .int .u64 sbu, .int .u8 rk] 37).alloc (.cells slot0.cells 145)).alloc (.cells #[.string k, .string sp, .int .u64 se, .int .u64 sbu, .int .u8 srk, .int .u8 sk, .int .u64 sa, .int .u64 sb] 145)
  have bz := (Blk.new' (w.alloc (.cells #[.string p, .int .u64 se, .int .u64 sbu, .int .u8 rk] 37)) slot0.cells 145 (b := w.heap.size + 1) (by simp)).alloc (.cells #[.string k, .string sp, .int .u64 se, .int .u64 sbu, .int .u8 srk, .int .u8 sk, .int .u64 sa, .int .u64 sb] 145)
  have bx := Blk.new' ((w.alloc (.cells #[.string p, .int .u64 se, .int .u64 sbu, .int .u8 rk] 37)).alloc (.cells slot0.cells 145)) #[.string k, .string sp, .int .u64 se, .int .u64 sbu, .int .u8 srk, .int .u8 sk, .int .u64 sa, .int .u64 sb] 145 (b := w.heap.size + 1 + 1) (by simp)
  have hxw := (((Ext.refl w).alloc (.cells #[.string p, .int .u64 se, .int .u64 sbu, .int .u8 rk] 37)).alloc (.cells slot0.cells 145)).alloc (.cells #[.string k, .string sp, .int .u64 se, .int .u64 sbu, .int .u8 srk, .int .u8 sk, .int .u64 sa, .int .u64 sb] 145)
  clear L c2
  simp only [slot0, Slot.cells] at bs ms br bz bx hxw
  generalize ((w.alloc (.cells #[.string p, .int .u64 se, .int .u64 sbu, .int .u8 rk] 37)).alloc (.cells #[.string ⟨#[]⟩, .string ⟨#[]⟩, .int .u64 0, .int .u64 0, .int .u8 0, .int .u8 0, .int .u64 0, .int .u64 0] 145)).alloc (.cells #[.string k, .string sp, .int .u64 se, .int .u64 sbu, .int .u8 srk, .int .u8 sk, .int .u64 sa, .int .u64 sb] 145) = w0 at *
  have q0 : w0.cell? ⟨w.heap.size + 1 + 1, 0, none⟩ = some (.string k) := bx.cell 0
  have q1 : w0.cell? ⟨w.heap.size + 1 + 1, 1, none⟩ = some (.string sp) := bx.cell 1
  have q2 : w0.cell? ⟨w.heap.size + 1 + 1, 2, none⟩ = some (.int .u64 se) := bx.cell 2
  have q3 : w0.cell? ⟨w.heap.size + 1 + 1, 3, none⟩ = some (.int .u64 sbu) := bx.cell 3
  have q4 : w0.cell? ⟨w.heap.size + 1 + 1, 4, none⟩ = some (.int .u8 srk) := bx.cell 4
  have q5 : w0.cell? ⟨w.heap.size + 1 + 1, 5, none⟩ = some (.int .u8 sk) := bx.cell 5
  have q6 : w0.cell? ⟨w.heap.size + 1 + 1, 6, none⟩ = some (.int .u64 sa) := bx.cell 6
  have q7 : w0.cell? ⟨w.heap.size + 1 + 1, 7, none⟩ = some (.int .u64 sb) := bx.cell 7
  have r1 : w0.cell? ⟨w.heap.size, 1, none⟩ = some (.int .u64 se) := br.cell 1
  have r2 : w0.cell? ⟨w.heap.size, 2, none⟩ = some (.int .u64 sbu) := br.cell 2
  have t1 : w0.cell? ⟨t, 1, none⟩ = some (.int .u64 clock) := bs.cell 1
  have t2 : w0.cell? ⟨t, 2, none⟩ = some (.map (some mb)) := bs.cell 2
  have hxl := bx.lt
  have HF := Lib.hid hf
  clear hf
  go_region_held3 (fun w' => w'.cell? ⟨w.heap.size + 1 + 1, 0, none⟩ = some (.string k) ∧ w'.cell? ⟨w.heap.size + 1 + 1, 1, none⟩ = some (.string sp) ∧ w'.cell? ⟨w.heap.size + 1 + 1, 2, none⟩ = some (.int .u64 se) ∧ w'.cell? ⟨w.heap.size + 1 + 1, 3, none⟩ = some (.int .u64 sbu) ∧ w'.cell? ⟨w.heap.size + 1 + 1, 4, none⟩ = some (.int .u8 srk) ∧ w'.cell? ⟨w.heap.size + 1 + 1, 5, none⟩ = some (.int .u8 sk) ∧ w'.cell? ⟨w.heap.size + 1 + 1, 6, none⟩ = some (.int .u64 sa) ∧ w'.cell? ⟨w.heap.size + 1 + 1, 7, none⟩ = some (.int .u64 sb) ∧ w'.cell? ⟨w.heap.size, 1, none⟩ = some (.int .u64 se) ∧ w'.cell? ⟨w.heap.size, 2, none⟩ = some (.int .u64 sbu) ∧ w'.cell? ⟨t, 1, none⟩ = some (.int .u64 clock) ∧ Ext w0 w')
    (((try go_split_ands); refine ⟨?_, ?_, ?_, ?_, ?_, ?_, ?_, ?_, ?_, ?_, ?_, ?_⟩ <;> first | with_reducible assumption | exact (Ext.refl _).drew | ((repeat (first | with_reducible exact Ext.refl _ | with_reducible assumption | with_reducible refine Ext.alloc ?_ _ | with_reducible refine Ext.drew ?_ | (with_reducible refine Ext.setCell ?_ (by first | exact Nat.le_refl _ | (dsimp only; omega) | (simp; done) | (simp; omega)) _) | with_reducible refine Ext.trans ?_ (by with_reducible assumption))); done) | (refine Ext.keep (w := w0) (by repeat (first | with_reducible exact Ext.refl _ | with_reducible assumption | with_reducible refine Ext.alloc ?_ _ | with_reducible refine Ext.drew ?_ | (with_reducible refine Ext.setCell ?_ (by first | exact Nat.le_refl _ | (dsimp only; omega) | (simp; done) | (simp; omega)) _) | with_reducible refine Ext.trans ?_ (by with_reducible assumption))) ?_; with_reducible assumption)))
    (first
      | (go_at_call 151; (with_reducible refine (table_fillX k sp se sbu srk sk sa sb clock _ m1 m2 u1 u2 u3 u4 u5 u6 u7 u8 u9 u10 u11 u12 hn0 hn1).mono ?_); rw [HF.out]; rintro x w1 ⟨rfl, hx⟩))
  have hx1 : Ext w0 w1 := (by repeat (first | with_reducible exact Ext.refl _ | with_reducible assumption | with_reducible refine Ext.alloc ?_ _ | with_reducible refine Ext.drew ?_ | (with_reducible refine Ext.setCell ?_ (by first | exact Nat.le_refl _ | (dsimp only; omega) | (simp; done) | (simp; omega)) _) | with_reducible refine Ext.trans ?_ (by with_reducible assumption)))
  have bz1 := bz.ext hx1
  have bx1 := bx.ext hx1
  clear q0 q1 q2 q3 q4 q5 q6 q7 r1 r2 t1 t2 hxl
  have hfz := bz1.free
  have hcz := bz1.cell
  have hcx := bx1.cell
  have hlx := bx1.lt
  go_wp2
  have hS := ((((((((bz1.set 0 (.string k)).set 1 (.string sp)).set 2 (.int .u64 se)).set 3 (.int .u64 sbu)).set 4 (.int .u8 srk)).set 5 (.int .u8 sk)).set 6 (.int .u64 sa)).set 7 (.int .u64 sb))
  have hx2 := hxw.trans hx1
  have ne1 : t ≠ w.heap.size + 1 := by omega
  have ne2 : mb ≠ w.heap.size + 1 := by omega
  have le1 : w.heap.size ≤ w.heap.size + 1 := by omega
  refine ret_cell_tmp Tryz.results103 rfl rfl hS Tryz.underlying145 rfl (by kernel_rfl) ⟨rfl, ?_⟩
  exact ((((((((hx2.set le1 _ _).set le1 _ _).set le1 _ _).set le1 _ _).set le1 _ _).set le1 _ _).set le1 _ _).set le1 _ _)

set_option maxHeartbeats 4000000 in
set_option maxRecDepth 100000 in
theorem table_slot_drained (t mb c : Nat) (k sp p : ByteArray) (se sbu srk sk sa sb most clock rk : Int) (l : SMap) (w : World) (h : TabAt w t mb most clock l c) (m1 : k.size ≤ maxLen) (m2 : sp.size ≤ maxLen) (u1 : 0 ≤ se) (u2 : se < 18446744073709551616) (u3 : 0 ≤ sbu) (u4 : sbu < 18446744073709551616) (u5 : 0 ≤ srk) (u6 : srk < 256) (u7 : 0 ≤ sk) (u8 : sk < 256) (u9 : 0 ≤ sa) (u10 : sa < 18446744073709551616) (u11 : 0 ≤ sb) (u12 : sb < 18446744073709551616) (hn0 : 0 ≤ clock) (hn1 : clock < 18446744073709551616)
    (hl : l.look k = some ⟨k, sp, se, sbu, srk, sk, sa, sb⟩) (hk : l.keys.Nodup) (F : Int) (hf : Slot.fill ⟨k, sp, se, sbu, srk, sk, sa, sb⟩ clock = F) (hf1 : (F == 0) = true) :
    Calls Tryz.prog 103 #[.pointer (some ⟨t, 0, none⟩), .string k, .agg #[.string p, .int .u64 se, .int .u64 sbu, .int .u8 rk]] w fun x w' => x = .returned (.tuple #[.agg #[.string k, .string sp, .int .u64 se, .int .u64 sbu, .int .u8 srk, .int .u8 sk, .int .u64 sa, .int .u64 sb], .bool false]) ∧ TabAt w' t mb most clock (l.del k) c ∧ ExtB mb w w' := by
  have hbc := h.blk.cell
  have c2 : w.cell? ⟨t, 2, none⟩ = some (.map (some mb)) := hbc 2
  have hlt := h.blk.lt
  have hmlt := h.map.lt
  have L := run_slook_yes (P := Tryz.prog) Tryz.underlying128 Tryz.underlying9 (((h.map).ext ((Ext.refl w).alloc (.cells #[.string p, .int .u64 se, .int .u64 sbu, .int .u8 rk] 37))).ext ((Ext.refl _).alloc (.cells slot0.cells 145))) hl
  simp only [slot0, Slot.val, Slot.cells] at L
  have HL := Lib.hid hl
  clear hbc hl
  go_enter Tryz.func103, Tryz.ntmps103
  go_wp2
  have bs := ((h.blk.alloc (.cells #[.string p, .int .u64 se, .int .u64 sbu, .int .u8 rk] 37)).alloc (.cells slot0.cells 145)).alloc (.cells #[.string k, .string sp, .int .u64 se, .int .u64 sbu, .int .u8 srk, .int .u8 sk, .int .u64 sa, .int .u64 sb] 145)
  have ms := h.map.ext ((((Ext.refl w).alloc (.cells #[.string p, .int .u64 se, .int .u64 sbu, .int .u8 rk] 37)).alloc (.cells slot0.cells 145)).alloc (.cells #[.string k, .string sp, .int .u64 se, .int .u64 sbu, .int .u8 srk, .int .u8 sk, .int .u64 sa, .int .u64 sb] 145))
  have br := ((Blk.new w #[.string p, .int .u64 se, .int .u64 sbu, .int .u8 rk] 37).alloc (.cells slot0.cells 145)).alloc (.cells #[.string k, .string sp, .int .u64 se, .int .u64 sbu, .int .u8 srk, .int .u8 sk, .int .u64 sa, .int .u64 sb] 145)
  have bz := (Blk.new' (w.alloc (.cells #[.string p, .int .u64 se, .int .u64 sbu, .int .u8 rk] 37)) slot0.cells 145 (b := w.heap.size + 1) (by simp)).alloc (.cells #[.string k, .string sp, .int .u64 se, .int .u64 sbu, .int .u8 srk, .int .u8 sk, .int .u64 sa, .int .u64 sb] 145)
  have bx := Blk.new' ((w.alloc (.cells #[.string p, .int .u64 se, .int .u64 sbu, .int .u8 rk] 37)).alloc (.cells slot0.cells 145)) #[.string k, .string sp, .int .u64 se, .int .u64 sbu, .int .u8 srk, .int .u8 sk, .int .u64 sa, .int .u64 sb] 145 (b := w.heap.size + 1 + 1) (by simp)
  have hxw := (((Ext.refl w).alloc (.cells #[.string p, .int .u64 se, .int .u64 sbu, .int .u8 rk] 37)).alloc (.cells slot0.cells 145)).alloc (.cells #[.string k, .string sp, .int .u64 se, .int .u64 sbu, .int .u8 srk, .int .u8 sk, .int .u64 sa, .int .u64 sb] 145)
  clear L c2
  simp only [slot0, Slot.cells] at bs ms br bz bx hxw
  generalize ((w.alloc (.cells #[.string p, .int .u64 se, .int .u64 sbu, .int .u8 rk] 37)).alloc (.cells #[.string ⟨#[]⟩, .string ⟨#[]⟩, .int .u64 0, .int .u64 0, .int .u8 0, .int .u8 0, .int .u64 0, .int .u64 0] 145)).alloc (.cells #[.string k, .string sp, .int .u64 se, .int .u64 sbu, .int .u8 srk, .int .u8 sk, .int .u64 sa, .int .u64 sb] 145) = w0 at *
  have q0 : w0.cell? ⟨w.heap.size + 1 + 1, 0, none⟩ = some (.string k) := bx.cell 0
  have q1 : w0.cell? ⟨w.heap.size + 1 + 1, 1, none⟩ = some (.string sp) := bx.cell 1
  have q2 : w0.cell? ⟨w.heap.size + 1 + 1, 2, none⟩ = some (.int .u64 se) := bx.cell 2
  have q3 : w0.cell? ⟨w.heap.size + 1 + 1, 3, none⟩ = some (.int .u64 sbu) := bx.cell 3
  have q4 : w0.cell? ⟨w.heap.size + 1 + 1, 4, none⟩ = some (.int .u8 srk) := bx.cell 4
  have q5 : w0.cell? ⟨w.heap.size + 1 + 1, 5, none⟩ = some (.int .u8 sk) := bx.cell 5
  have q6 : w0.cell? ⟨w.heap.size + 1 + 1, 6, none⟩ = some (.int .u64 sa) := bx.cell 6
  have q7 : w0.cell? ⟨w.heap.size + 1 + 1, 7, none⟩ = some (.int .u64 sb) := bx.cell 7
  have r1 : w0.cell? ⟨w.heap.size, 1, none⟩ = some (.int .u64 se) := br.cell 1
  have r2 : w0.cell? ⟨w.heap.size, 2, none⟩ = some (.int .u64 sbu) := br.cell 2
  have t1 : w0.cell? ⟨t, 1, none⟩ = some (.int .u64 clock) := bs.cell 1
  have t2 : w0.cell? ⟨t, 2, none⟩ = some (.map (some mb)) := bs.cell 2
  have hxl := bx.lt
  have HF := Lib.hid hf
  clear hf
  go_region_held3 (fun w' => w'.cell? ⟨w.heap.size + 1 + 1, 0, none⟩ = some (.string k) ∧ w'.cell? ⟨w.heap.size + 1 + 1, 1, none⟩ = some (.string sp) ∧ w'.cell? ⟨w.heap.size + 1 + 1, 2, none⟩ = some (.int .u64 se) ∧ w'.cell? ⟨w.heap.size + 1 + 1, 3, none⟩ = some (.int .u64 sbu) ∧ w'.cell? ⟨w.heap.size + 1 + 1, 4, none⟩ = some (.int .u8 srk) ∧ w'.cell? ⟨w.heap.size + 1 + 1, 5, none⟩ = some (.int .u8 sk) ∧ w'.cell? ⟨w.heap.size + 1 + 1, 6, none⟩ = some (.int .u64 sa) ∧ w'.cell? ⟨w.heap.size + 1 + 1, 7, none⟩ = some (.int .u64 sb) ∧ w'.cell? ⟨w.heap.size, 1, none⟩ = some (.int .u64 se) ∧ w'.cell? ⟨w.heap.size, 2, none⟩ = some (.int .u64 sbu) ∧ w'.cell? ⟨t, 1, none⟩ = some (.int .u64 clock) ∧ Ext w0 w')
    (((try go_split_ands); refine ⟨?_, ?_, ?_, ?_, ?_, ?_, ?_, ?_, ?_, ?_, ?_, ?_⟩ <;> first | with_reducible assumption | exact (Ext.refl _).drew | ((repeat (first | with_reducible exact Ext.refl _ | with_reducible assumption | with_reducible refine Ext.alloc ?_ _ | with_reducible refine Ext.drew ?_ | (with_reducible refine Ext.setCell ?_ (by first | exact Nat.le_refl _ | (dsimp only; omega) | (simp; done) | (simp; omega)) _) | with_reducible refine Ext.trans ?_ (by with_reducible assumption))); done) | (refine Ext.keep (w := w0) (by repeat (first | with_reducible exact Ext.refl _ | with_reducible assumption | with_reducible refine Ext.alloc ?_ _ | with_reducible refine Ext.drew ?_ | (with_reducible refine Ext.setCell ?_ (by first | exact Nat.le_refl _ | (dsimp only; omega) | (simp; done) | (simp; omega)) _) | with_reducible refine Ext.trans ?_ (by with_reducible assumption))) ?_; with_reducible assumption)))
    (first
      | (go_at_call 151; (with_reducible refine (table_fillX k sp se sbu srk sk sa sb clock _ m1 m2 u1 u2 u3 u4 u5 u6 u7 u8 u9 u10 u11 u12 hn0 hn1).mono ?_); rw [HF.out]; rintro x w1 ⟨rfl, hx⟩))
  have hx1 : Ext w0 w1 := (by repeat (first | with_reducible exact Ext.refl _ | with_reducible assumption | with_reducible refine Ext.alloc ?_ _ | with_reducible refine Ext.drew ?_ | (with_reducible refine Ext.setCell ?_ (by first | exact Nat.le_refl _ | (dsimp only; omega) | (simp; done) | (simp; omega)) _) | with_reducible refine Ext.trans ?_ (by with_reducible assumption)))
  have mx := ms.ext hx1
  have bz1 := bz.ext hx1
  have bx1 := bx.ext hx1
  have bt1 := bs.ext hx1
  clear q0 q1 q2 q3 q4 q5 q6 q7 r1 r2 t1 t2 hxl
  obtain ⟨w2, hdel, hm2, hxB⟩ := run_sdel (P := Tryz.prog) Tryz.underlying128 Tryz.underlying9 mx hk k
  have bz2 := bz1.extB hxB (mx.ne bz1).symm
  have bx2 := bx1.extB hxB (mx.ne bx1).symm
  have bt2 := bt1.extB hxB (mx.ne bt1).symm
  have t2 : w1.cell? ⟨t, 2, none⟩ = some (.map (some mb)) := bt1.cell 2
  have hfz := bz2.free
  have hcz := bz2.cell
  have hcx := bx2.cell
  have hlx := bx2.lt
  go_wp2
  have hS := ((((((((bz2.set 0 (.string k)).set 1 (.string sp)).set 2 (.int .u64 se)).set 3 (.int .u64 sbu)).set 4 (.int .u8 srk)).set 5 (.int .u8 sk)).set 6 (.int .u64 sa)).set 7 (.int .u64 sb))
  have hx2 := hxw.trans hx1
  have ne1 : t ≠ w.heap.size + 1 := by omega
  have ne2 : mb ≠ w.heap.size + 1 := by omega
  have le1 : w.heap.size ≤ w.heap.size + 1 := by omega
  refine ret_cell_tmp Tryz.results103 rfl rfl hS Tryz.underlying145 rfl (by kernel_rfl) ⟨rfl, ?_, ?_⟩
  · refine ⟨?_, ?_⟩
    · exact ((((((((bt2.other (a := ⟨_, 0, none⟩) ne1 _).other (a := ⟨_, 1, none⟩) ne1 _).other (a := ⟨_, 2, none⟩) ne1 _).other (a := ⟨_, 3, none⟩) ne1 _).other (a := ⟨_, 4, none⟩) ne1 _).other (a := ⟨_, 5, none⟩) ne1 _).other (a := ⟨_, 6, none⟩) ne1 _).other (a := ⟨_, 7, none⟩) ne1 _)
    · exact ((((((((hm2.other (a := ⟨_, 0, none⟩) ne2 _).other (a := ⟨_, 1, none⟩) ne2 _).other (a := ⟨_, 2, none⟩) ne2 _).other (a := ⟨_, 3, none⟩) ne2 _).other (a := ⟨_, 4, none⟩) ne2 _).other (a := ⟨_, 5, none⟩) ne2 _).other (a := ⟨_, 6, none⟩) ne2 _).other (a := ⟨_, 7, none⟩) ne2 _)
  · exact ((((((((((hx2.toB mb).trans hxB).setNew (a := ⟨_, 0, none⟩) le1 _).setNew (a := ⟨_, 1, none⟩) le1 _).setNew (a := ⟨_, 2, none⟩) le1 _).setNew (a := ⟨_, 3, none⟩) le1 _).setNew (a := ⟨_, 4, none⟩) le1 _).setNew (a := ⟨_, 5, none⟩) le1 _).setNew (a := ⟨_, 6, none⟩) le1 _).setNew (a := ⟨_, 7, none⟩) le1 _)

set_option maxHeartbeats 4000000 in
set_option maxRecDepth 100000 in
theorem table_slot_every (t mb c : Nat) (k sp p : ByteArray) (se sbu srk sk sa sb most clock e b rk : Int) (l : SMap) (w : World) (h : TabAt w t mb most clock l c) (m1 : k.size ≤ maxLen) (m2 : sp.size ≤ maxLen) (u1 : 0 ≤ se) (u2 : se < 18446744073709551616) (u3 : 0 ≤ sbu) (u4 : sbu < 18446744073709551616) (u5 : 0 ≤ srk) (u6 : srk < 256) (u7 : 0 ≤ sk) (u8 : sk < 256) (u9 : 0 ≤ sa) (u10 : sa < 18446744073709551616) (u11 : 0 ≤ sb) (u12 : sb < 18446744073709551616) (hn0 : 0 ≤ clock) (hn1 : clock < 18446744073709551616)
    (hl : l.look k = some ⟨k, sp, se, sbu, srk, sk, sa, sb⟩) (hk : l.keys.Nodup) (hne : (se != e) = true) :
    Calls Tryz.prog 103 #[.pointer (some ⟨t, 0, none⟩), .string k, .agg #[.string p, .int .u64 e, .int .u64 b, .int .u8 rk]] w fun x w' => x = .returned (.tuple #[.agg #[.string k, .string sp, .int .u64 se, .int .u64 sbu, .int .u8 srk, .int .u8 sk, .int .u64 sa, .int .u64 sb], .bool false]) ∧ TabAt w' t mb most clock (l.del k) c ∧ ExtB mb w w' := by
  have hbc := h.blk.cell
  have c2 : w.cell? ⟨t, 2, none⟩ = some (.map (some mb)) := hbc 2
  have hlt := h.blk.lt
  have hmlt := h.map.lt
  have L := run_slook_yes (P := Tryz.prog) Tryz.underlying128 Tryz.underlying9 (((h.map).ext ((Ext.refl w).alloc (.cells #[.string p, .int .u64 e, .int .u64 b, .int .u8 rk] 37))).ext ((Ext.refl _).alloc (.cells slot0.cells 145))) hl
  simp only [slot0, Slot.val, Slot.cells] at L
  have HL := Lib.hid hl
  clear hbc hl
  go_enter Tryz.func103, Tryz.ntmps103
  go_wp2
  have bs := ((h.blk.alloc (.cells #[.string p, .int .u64 e, .int .u64 b, .int .u8 rk] 37)).alloc (.cells slot0.cells 145)).alloc (.cells #[.string k, .string sp, .int .u64 se, .int .u64 sbu, .int .u8 srk, .int .u8 sk, .int .u64 sa, .int .u64 sb] 145)
  have ms := h.map.ext ((((Ext.refl w).alloc (.cells #[.string p, .int .u64 e, .int .u64 b, .int .u8 rk] 37)).alloc (.cells slot0.cells 145)).alloc (.cells #[.string k, .string sp, .int .u64 se, .int .u64 sbu, .int .u8 srk, .int .u8 sk, .int .u64 sa, .int .u64 sb] 145))
  have br := ((Blk.new w #[.string p, .int .u64 e, .int .u64 b, .int .u8 rk] 37).alloc (.cells slot0.cells 145)).alloc (.cells #[.string k, .string sp, .int .u64 se, .int .u64 sbu, .int .u8 srk, .int .u8 sk, .int .u64 sa, .int .u64 sb] 145)
  have bz := (Blk.new' (w.alloc (.cells #[.string p, .int .u64 e, .int .u64 b, .int .u8 rk] 37)) slot0.cells 145 (b := w.heap.size + 1) (by simp)).alloc (.cells #[.string k, .string sp, .int .u64 se, .int .u64 sbu, .int .u8 srk, .int .u8 sk, .int .u64 sa, .int .u64 sb] 145)
  have bx := Blk.new' ((w.alloc (.cells #[.string p, .int .u64 e, .int .u64 b, .int .u8 rk] 37)).alloc (.cells slot0.cells 145)) #[.string k, .string sp, .int .u64 se, .int .u64 sbu, .int .u8 srk, .int .u8 sk, .int .u64 sa, .int .u64 sb] 145 (b := w.heap.size + 1 + 1) (by simp)
  have hxw := (((Ext.refl w).alloc (.cells #[.string p, .int .u64 e, .int .u64 b, .int .u8 rk] 37)).alloc (.cells slot0.cells 145)).alloc (.cells #[.string k, .string sp, .int .u64 se, .int .u64 sbu, .int .u8 srk, .int .u8 sk, .int .u64 sa, .int .u64 sb] 145)
  clear L c2
  simp only [slot0, Slot.cells] at bs ms br bz bx hxw
  generalize ((w.alloc (.cells #[.string p, .int .u64 e, .int .u64 b, .int .u8 rk] 37)).alloc (.cells #[.string ⟨#[]⟩, .string ⟨#[]⟩, .int .u64 0, .int .u64 0, .int .u8 0, .int .u8 0, .int .u64 0, .int .u64 0] 145)).alloc (.cells #[.string k, .string sp, .int .u64 se, .int .u64 sbu, .int .u8 srk, .int .u8 sk, .int .u64 sa, .int .u64 sb] 145) = w0 at *
  have q0 : w0.cell? ⟨w.heap.size + 1 + 1, 0, none⟩ = some (.string k) := bx.cell 0
  have q1 : w0.cell? ⟨w.heap.size + 1 + 1, 1, none⟩ = some (.string sp) := bx.cell 1
  have q2 : w0.cell? ⟨w.heap.size + 1 + 1, 2, none⟩ = some (.int .u64 se) := bx.cell 2
  have q3 : w0.cell? ⟨w.heap.size + 1 + 1, 3, none⟩ = some (.int .u64 sbu) := bx.cell 3
  have q4 : w0.cell? ⟨w.heap.size + 1 + 1, 4, none⟩ = some (.int .u8 srk) := bx.cell 4
  have q5 : w0.cell? ⟨w.heap.size + 1 + 1, 5, none⟩ = some (.int .u8 sk) := bx.cell 5
  have q6 : w0.cell? ⟨w.heap.size + 1 + 1, 6, none⟩ = some (.int .u64 sa) := bx.cell 6
  have q7 : w0.cell? ⟨w.heap.size + 1 + 1, 7, none⟩ = some (.int .u64 sb) := bx.cell 7
  have r1 : w0.cell? ⟨w.heap.size, 1, none⟩ = some (.int .u64 e) := br.cell 1
  have r2 : w0.cell? ⟨w.heap.size, 2, none⟩ = some (.int .u64 b) := br.cell 2
  have t1 : w0.cell? ⟨t, 1, none⟩ = some (.int .u64 clock) := bs.cell 1
  have t2 : w0.cell? ⟨t, 2, none⟩ = some (.map (some mb)) := bs.cell 2
  have hxl := bx.lt
  go_quiet (fail)
  have hx1 : Ext w0 (w0.drewN nq) := Ext.drewNs _ nq
  generalize w0.drewN nq = w1 at *
  have mx := ms.ext hx1
  have bz1 := bz.ext hx1
  have bx1 := bx.ext hx1
  have bt1 := bs.ext hx1
  clear q0 q1 q2 q3 q4 q5 q6 q7 r1 r2 t1 t2 hxl
  obtain ⟨w2, hdel, hm2, hxB⟩ := run_sdel (P := Tryz.prog) Tryz.underlying128 Tryz.underlying9 mx hk k
  have bz2 := bz1.extB hxB (mx.ne bz1).symm
  have bx2 := bx1.extB hxB (mx.ne bx1).symm
  have bt2 := bt1.extB hxB (mx.ne bt1).symm
  have t2 : w1.cell? ⟨t, 2, none⟩ = some (.map (some mb)) := bt1.cell 2
  have hfz := bz2.free
  have hcz := bz2.cell
  have hcx := bx2.cell
  have hlx := bx2.lt
  go_wp2
  have hS := ((((((((bz2.set 0 (.string k)).set 1 (.string sp)).set 2 (.int .u64 se)).set 3 (.int .u64 sbu)).set 4 (.int .u8 srk)).set 5 (.int .u8 sk)).set 6 (.int .u64 sa)).set 7 (.int .u64 sb))
  have hx2 := hxw.trans hx1
  have ne1 : t ≠ w.heap.size + 1 := by omega
  have ne2 : mb ≠ w.heap.size + 1 := by omega
  have le1 : w.heap.size ≤ w.heap.size + 1 := by omega
  refine ret_cell_tmp Tryz.results103 rfl rfl hS Tryz.underlying145 rfl (by kernel_rfl) ⟨rfl, ?_, ?_⟩
  · refine ⟨?_, ?_⟩
    · exact ((((((((bt2.other (a := ⟨_, 0, none⟩) ne1 _).other (a := ⟨_, 1, none⟩) ne1 _).other (a := ⟨_, 2, none⟩) ne1 _).other (a := ⟨_, 3, none⟩) ne1 _).other (a := ⟨_, 4, none⟩) ne1 _).other (a := ⟨_, 5, none⟩) ne1 _).other (a := ⟨_, 6, none⟩) ne1 _).other (a := ⟨_, 7, none⟩) ne1 _)
    · exact ((((((((hm2.other (a := ⟨_, 0, none⟩) ne2 _).other (a := ⟨_, 1, none⟩) ne2 _).other (a := ⟨_, 2, none⟩) ne2 _).other (a := ⟨_, 3, none⟩) ne2 _).other (a := ⟨_, 4, none⟩) ne2 _).other (a := ⟨_, 5, none⟩) ne2 _).other (a := ⟨_, 6, none⟩) ne2 _).other (a := ⟨_, 7, none⟩) ne2 _)
  · exact ((((((((((hx2.toB mb).trans hxB).setNew (a := ⟨_, 0, none⟩) le1 _).setNew (a := ⟨_, 1, none⟩) le1 _).setNew (a := ⟨_, 2, none⟩) le1 _).setNew (a := ⟨_, 3, none⟩) le1 _).setNew (a := ⟨_, 4, none⟩) le1 _).setNew (a := ⟨_, 5, none⟩) le1 _).setNew (a := ⟨_, 6, none⟩) le1 _).setNew (a := ⟨_, 7, none⟩) le1 _)

set_option maxHeartbeats 4000000 in
set_option maxRecDepth 100000 in
theorem table_slot_burst (t mb c : Nat) (k sp p : ByteArray) (se sbu srk sk sa sb most clock e b rk : Int) (l : SMap) (w : World) (h : TabAt w t mb most clock l c) (m1 : k.size ≤ maxLen) (m2 : sp.size ≤ maxLen) (u1 : 0 ≤ se) (u2 : se < 18446744073709551616) (u3 : 0 ≤ sbu) (u4 : sbu < 18446744073709551616) (u5 : 0 ≤ srk) (u6 : srk < 256) (u7 : 0 ≤ sk) (u8 : sk < 256) (u9 : 0 ≤ sa) (u10 : sa < 18446744073709551616) (u11 : 0 ≤ sb) (u12 : sb < 18446744073709551616) (hn0 : 0 ≤ clock) (hn1 : clock < 18446744073709551616)
    (hl : l.look k = some ⟨k, sp, se, sbu, srk, sk, sa, sb⟩) (hk : l.keys.Nodup) (hne : (se != e) = false) (hne2 : (sbu != b) = true) :
    Calls Tryz.prog 103 #[.pointer (some ⟨t, 0, none⟩), .string k, .agg #[.string p, .int .u64 e, .int .u64 b, .int .u8 rk]] w fun x w' => x = .returned (.tuple #[.agg #[.string k, .string sp, .int .u64 se, .int .u64 sbu, .int .u8 srk, .int .u8 sk, .int .u64 sa, .int .u64 sb], .bool false]) ∧ TabAt w' t mb most clock (l.del k) c ∧ ExtB mb w w' := by
  have hbc := h.blk.cell
  have c2 : w.cell? ⟨t, 2, none⟩ = some (.map (some mb)) := hbc 2
  have hlt := h.blk.lt
  have hmlt := h.map.lt
  have L := run_slook_yes (P := Tryz.prog) Tryz.underlying128 Tryz.underlying9 (((h.map).ext ((Ext.refl w).alloc (.cells #[.string p, .int .u64 e, .int .u64 b, .int .u8 rk] 37))).ext ((Ext.refl _).alloc (.cells slot0.cells 145))) hl
  simp only [slot0, Slot.val, Slot.cells] at L
  have HL := Lib.hid hl
  clear hbc hl
  go_enter Tryz.func103, Tryz.ntmps103
  go_wp2
  have bs := ((h.blk.alloc (.cells #[.string p, .int .u64 e, .int .u64 b, .int .u8 rk] 37)).alloc (.cells slot0.cells 145)).alloc (.cells #[.string k, .string sp, .int .u64 se, .int .u64 sbu, .int .u8 srk, .int .u8 sk, .int .u64 sa, .int .u64 sb] 145)
  have ms := h.map.ext ((((Ext.refl w).alloc (.cells #[.string p, .int .u64 e, .int .u64 b, .int .u8 rk] 37)).alloc (.cells slot0.cells 145)).alloc (.cells #[.string k, .string sp, .int .u64 se, .int .u64 sbu, .int .u8 srk, .int .u8 sk, .int .u64 sa, .int .u64 sb] 145))
  have br := ((Blk.new w #[.string p, .int .u64 e, .int .u64 b, .int .u8 rk] 37).alloc (.cells slot0.cells 145)).alloc (.cells #[.string k, .string sp, .int .u64 se, .int .u64 sbu, .int .u8 srk, .int .u8 sk, .int .u64 sa, .int .u64 sb] 145)
  have bz := (Blk.new' (w.alloc (.cells #[.string p, .int .u64 e, .int .u64 b, .int .u8 rk] 37)) slot0.cells 145 (b := w.heap.size + 1) (by simp)).alloc (.cells #[.string k, .string sp, .int .u64 se, .int .u64 sbu, .int .u8 srk, .int .u8 sk, .int .u64 sa, .int .u64 sb] 145)
  have bx := Blk.new' ((w.alloc (.cells #[.string p, .int .u64 e, .int .u64 b, .int .u8 rk] 37)).alloc (.cells slot0.cells 145)) #[.string k, .string sp, .int .u64 se, .int .u64 sbu, .int .u8 srk, .int .u8 sk, .int .u64 sa, .int .u64 sb] 145 (b := w.heap.size + 1 + 1) (by simp)
  have hxw := (((Ext.refl w).alloc (.cells #[.string p, .int .u64 e, .int .u64 b, .int .u8 rk] 37)).alloc (.cells slot0.cells 145)).alloc (.cells #[.string k, .string sp, .int .u64 se, .int .u64 sbu, .int .u8 srk, .int .u8 sk, .int .u64 sa, .int .u64 sb] 145)
  clear L c2
  simp only [slot0, Slot.cells] at bs ms br bz bx hxw
  generalize ((w.alloc (.cells #[.string p, .int .u64 e, .int .u64 b, .int .u8 rk] 37)).alloc (.cells #[.string ⟨#[]⟩, .string ⟨#[]⟩, .int .u64 0, .int .u64 0, .int .u8 0, .int .u8 0, .int .u64 0, .int .u64 0] 145)).alloc (.cells #[.string k, .string sp, .int .u64 se, .int .u64 sbu, .int .u8 srk, .int .u8 sk, .int .u64 sa, .int .u64 sb] 145) = w0 at *
  have q0 : w0.cell? ⟨w.heap.size + 1 + 1, 0, none⟩ = some (.string k) := bx.cell 0
  have q1 : w0.cell? ⟨w.heap.size + 1 + 1, 1, none⟩ = some (.string sp) := bx.cell 1
  have q2 : w0.cell? ⟨w.heap.size + 1 + 1, 2, none⟩ = some (.int .u64 se) := bx.cell 2
  have q3 : w0.cell? ⟨w.heap.size + 1 + 1, 3, none⟩ = some (.int .u64 sbu) := bx.cell 3
  have q4 : w0.cell? ⟨w.heap.size + 1 + 1, 4, none⟩ = some (.int .u8 srk) := bx.cell 4
  have q5 : w0.cell? ⟨w.heap.size + 1 + 1, 5, none⟩ = some (.int .u8 sk) := bx.cell 5
  have q6 : w0.cell? ⟨w.heap.size + 1 + 1, 6, none⟩ = some (.int .u64 sa) := bx.cell 6
  have q7 : w0.cell? ⟨w.heap.size + 1 + 1, 7, none⟩ = some (.int .u64 sb) := bx.cell 7
  have r1 : w0.cell? ⟨w.heap.size, 1, none⟩ = some (.int .u64 e) := br.cell 1
  have r2 : w0.cell? ⟨w.heap.size, 2, none⟩ = some (.int .u64 b) := br.cell 2
  have t1 : w0.cell? ⟨t, 1, none⟩ = some (.int .u64 clock) := bs.cell 1
  have t2 : w0.cell? ⟨t, 2, none⟩ = some (.map (some mb)) := bs.cell 2
  have hxl := bx.lt
  go_quiet (fail)
  have hx1 : Ext w0 (w0.drewN nq) := Ext.drewNs _ nq
  generalize w0.drewN nq = w1 at *
  have mx := ms.ext hx1
  have bz1 := bz.ext hx1
  have bx1 := bx.ext hx1
  have bt1 := bs.ext hx1
  clear q0 q1 q2 q3 q4 q5 q6 q7 r1 r2 t1 t2 hxl
  obtain ⟨w2, hdel, hm2, hxB⟩ := run_sdel (P := Tryz.prog) Tryz.underlying128 Tryz.underlying9 mx hk k
  have bz2 := bz1.extB hxB (mx.ne bz1).symm
  have bx2 := bx1.extB hxB (mx.ne bx1).symm
  have bt2 := bt1.extB hxB (mx.ne bt1).symm
  have t2 : w1.cell? ⟨t, 2, none⟩ = some (.map (some mb)) := bt1.cell 2
  have hfz := bz2.free
  have hcz := bz2.cell
  have hcx := bx2.cell
  have hlx := bx2.lt
  go_wp2
  have hS := ((((((((bz2.set 0 (.string k)).set 1 (.string sp)).set 2 (.int .u64 se)).set 3 (.int .u64 sbu)).set 4 (.int .u8 srk)).set 5 (.int .u8 sk)).set 6 (.int .u64 sa)).set 7 (.int .u64 sb))
  have hx2 := hxw.trans hx1
  have ne1 : t ≠ w.heap.size + 1 := by omega
  have ne2 : mb ≠ w.heap.size + 1 := by omega
  have le1 : w.heap.size ≤ w.heap.size + 1 := by omega
  refine ret_cell_tmp Tryz.results103 rfl rfl hS Tryz.underlying145 rfl (by kernel_rfl) ⟨rfl, ?_, ?_⟩
  · refine ⟨?_, ?_⟩
    · exact ((((((((bt2.other (a := ⟨_, 0, none⟩) ne1 _).other (a := ⟨_, 1, none⟩) ne1 _).other (a := ⟨_, 2, none⟩) ne1 _).other (a := ⟨_, 3, none⟩) ne1 _).other (a := ⟨_, 4, none⟩) ne1 _).other (a := ⟨_, 5, none⟩) ne1 _).other (a := ⟨_, 6, none⟩) ne1 _).other (a := ⟨_, 7, none⟩) ne1 _)
    · exact ((((((((hm2.other (a := ⟨_, 0, none⟩) ne2 _).other (a := ⟨_, 1, none⟩) ne2 _).other (a := ⟨_, 2, none⟩) ne2 _).other (a := ⟨_, 3, none⟩) ne2 _).other (a := ⟨_, 4, none⟩) ne2 _).other (a := ⟨_, 5, none⟩) ne2 _).other (a := ⟨_, 6, none⟩) ne2 _).other (a := ⟨_, 7, none⟩) ne2 _)
  · exact ((((((((((hx2.toB mb).trans hxB).setNew (a := ⟨_, 0, none⟩) le1 _).setNew (a := ⟨_, 1, none⟩) le1 _).setNew (a := ⟨_, 2, none⟩) le1 _).setNew (a := ⟨_, 3, none⟩) le1 _).setNew (a := ⟨_, 4, none⟩) le1 _).setNew (a := ⟨_, 5, none⟩) le1 _).setNew (a := ⟨_, 6, none⟩) le1 _).setNew (a := ⟨_, 7, none⟩) le1 _)
end Go.Proofs.YtknlojlcahgnoaaGreat
