/- Walks: package table: a slot; table.fill. Plain: a slot that has gone over to a kernel. -/
import Derived.Deep.QuietTactic
import Derived.BigQuiet
import Derived.Test.YtfglpejbgfmojaaGreatG22
import Derived.Test.YtfglpejbgfmojaaGreatG9
import Derived.Test.YtfglpejbgfmojaaGreatG6

/- Walks: package table: a slot; table.fill. -/
namespace Go.Proofs.YtfglpejbgfmojaaGreat
open Go.RowKit
set_option linter.unusedVariables false
set_option linter.unusedSimpArgs false

def Slot.cap (s : Slot) : Int := ruleCap s.p s.e s.b s.rk
def Slot.fill (s : Slot) (clock : Int) : Int := kFill s.sk s.sa s.sb clock s.cap

theorem ruleCap_u (p : ByteArray) (e b k : Int) (he0 : 0 ≤ e) (hb0 : 0 ≤ b) : 0 ≤ ruleCap p e b k ∧ ruleCap p e b k ≤ 4611686018427387904 := by
  unfold ruleCap
  split
  · rename_i h
    exact ⟨Int.mul_nonneg he0 hb0, capOk_lt (ruleErr_zero h).2.2.2.1⟩
  · omega

set_option maxHeartbeats 1000000 in
set_option maxRecDepth 100000 in
theorem table_fill (s : Slot) (clock : Int) (w : World) (hs : SlotOk s) (hn0 : 0 ≤ clock) (hn1 : clock < 18446744073709551616) :
    Calls Tryz.prog 89 #[s.val, .int .u64 clock] w fun e w' => e = .returned (.int .u64 (s.fill clock)) ∧ Ext w w' := by
  obtain ⟨key, p, e, b, rk, sk, sa, sb⟩ := s
  obtain ⟨h1, h2, h3, h4, h5, h6, h7, h8, h9, h10, h11, h12, h13, h14⟩ := hs
  simp only at h1 h2 h3 h4 h5 h6 h7 h8 h9 h10 h11 h12 h13 h14
  have hc := ruleCap_u p e b rk h3 h5
  show Calls _ _ #[.agg #[.string key, .string p, .int .u64 e, .int .u64 b, .int .u8 rk, .int .u8 sk, .int .u64 sa, .int .u64 sb], _] _ fun x w' => x = .returned (.int .u64 (kFill sk sa sb clock (ruleCap p e b rk))) ∧ Ext w w'
  generalize hcap : ruleCap p e b rk = cap at *
  have HC := Lib.hid hcap
  clear hcap
  obtain ⟨hc0, hc1⟩ := hc
  go_enter Tryz.func89, Tryz.ntmps89
  go_wp2_with fail
  have bq := Blk.new w #[.string key, .string p, .int .u64 e, .int .u64 b, .int .u8 rk, .int .u8 sk, .int .u64 sa, .int .u64 sb] 65
  have hx0 : Ext w (w.alloc (.cells #[.string key, .string p, .int .u64 e, .int .u64 b, .int .u8 rk, .int .u8 sk, .int .u64 sa, .int .u64 sb] 65)) := (Ext.refl w).alloc _
  generalize w.alloc (.cells #[.string key, .string p, .int .u64 e, .int .u64 b, .int .u8 rk, .int .u8 sk, .int .u64 sa, .int .u64 sb] 65) = w0 at *
  have q1 : w0.cell? ⟨w.heap.size, 1, none⟩ = some (.string p) := bq.cell 1
  have q2 : w0.cell? ⟨w.heap.size, 2, none⟩ = some (.int .u64 e) := bq.cell 2
  have q3 : w0.cell? ⟨w.heap.size, 3, none⟩ = some (.int .u64 b) := bq.cell 3
  have q4 : w0.cell? ⟨w.heap.size, 4, none⟩ = some (.int .u8 rk) := bq.cell 4
  have q5 : w0.cell? ⟨w.heap.size, 5, none⟩ = some (.int .u8 sk) := bq.cell 5
  have q6 : w0.cell? ⟨w.heap.size, 6, none⟩ = some (.int .u64 sa) := bq.cell 6
  have q7 : w0.cell? ⟨w.heap.size, 7, none⟩ = some (.int .u64 sb) := bq.cell 7
  go_region_held3 (fun w' => w'.cell? ⟨w.heap.size, 1, none⟩ = some (.string p) ∧ w'.cell? ⟨w.heap.size, 2, none⟩ = some (.int .u64 e) ∧ w'.cell? ⟨w.heap.size, 3, none⟩ = some (.int .u64 b) ∧ w'.cell? ⟨w.heap.size, 4, none⟩ = some (.int .u8 rk) ∧ w'.cell? ⟨w.heap.size, 5, none⟩ = some (.int .u8 sk) ∧ w'.cell? ⟨w.heap.size, 6, none⟩ = some (.int .u64 sa) ∧ w'.cell? ⟨w.heap.size, 7, none⟩ = some (.int .u64 sb) ∧ Ext w0 w')
    (((try go_split_ands); refine ⟨?_, ?_, ?_, ?_, ?_, ?_, ?_, ?_⟩ <;> first | with_reducible assumption | exact (Ext.refl _).drew | ((repeat (first | with_reducible exact Ext.refl _ | with_reducible assumption | with_reducible refine Ext.alloc ?_ _ | with_reducible refine Ext.drew ?_ | (with_reducible refine Ext.setCell ?_ (by first | exact Nat.le_refl _ | (dsimp only; omega) | (simp; done) | (simp; omega)) _) | with_reducible refine Ext.trans ?_ (by with_reducible assumption))); done) | (refine Ext.keep (w := w0) (by repeat (first | with_reducible exact Ext.refl _ | with_reducible assumption | with_reducible refine Ext.alloc ?_ _ | with_reducible refine Ext.drew ?_ | (with_reducible refine Ext.setCell ?_ (by first | exact Nat.le_refl _ | (dsimp only; omega) | (simp; done) | (simp; omega)) _) | with_reducible refine Ext.trans ?_ (by with_reducible assumption))) ?_; with_reducible assumption)))
    (first
      | (go_at_call 51; (with_reducible refine (rule_Cap p e b rk _ h2 h3 h4 h5 h6).mono ?_); rw [HC.out]; rintro x w1 ⟨rfl, hx⟩)
      | (go_at_call 65; (with_reducible refine (kernel_Fill sk sa sb clock cap _ h11 h12 h13 h14 hn0 hn1 hc0 (by omega)).mono ?_); rintro x w2 ⟨rfl, hx⟩))
  go_wp2
  go_ret
  exact ⟨rfl, (by repeat (first | with_reducible exact Ext.refl _ | with_reducible assumption | with_reducible refine Ext.alloc ?_ _ | with_reducible refine Ext.drew ?_ | (with_reducible refine Ext.setCell ?_ (by first | exact Nat.le_refl _ | (dsimp only; omega) | (simp; done) | (simp; omega)) _) | with_reducible refine Ext.trans ?_ (by with_reducible assumption)))⟩

/-- a table in memory -/
structure TabAt (w : World) (t mb : Nat) (most clock : Int) (l : SMap) (c : Nat) : Prop where
  blk : Blk w t #[.int .i64 most, .int .u64 clock, .map (some mb)] 108
  map : MapIs w mb l c
theorem TabAt.ext {w w' : World} {t mb c : Nat} {most clock : Int} {l : SMap} (h : TabAt w t mb most clock l c) (e : Ext w w') : TabAt w' t mb most clock l c := ⟨h.blk.ext e, h.map.ext e⟩
theorem TabAt.ne {w : World} {t mb c : Nat} {most clock : Int} {l : SMap} (h : TabAt w t mb most clock l c) : t ≠ mb := fun e => h.map.ne h.blk e.symm
theorem TabAt.swap {w w' : World} {t mb c c' : Nat} {most clock : Int} {l l' : SMap} (h : TabAt w t mb most clock l c) (e : ExtB mb w w') (m : MapIs w' mb l' c') : TabAt w' t mb most clock l' c' := ⟨h.blk.extB e h.ne, m⟩

theorem slot_zero (w : World) : (zeroValue 65).run Tryz.prog w = .ok slot0.val w := by kernel_rfl

set_option maxHeartbeats 1000000 in
set_option maxRecDepth 100000 in
theorem table_slot_none (t mb c : Nat) (k p : ByteArray) (most clock e b rk : Int) (l : SMap) (w : World) (h : TabAt w t mb most clock l c) (hl : l.look k = none) :
    Calls Tryz.prog 57 #[.pointer (some ⟨t, 0, none⟩), .string k, .agg #[.string p, .int .u64 e, .int .u64 b, .int .u8 rk]] w fun x w' => x = .returned (.tuple #[slot0.val, .bool false]) ∧ Ext w w' := by
  have hbc := h.blk.cell
  have c2 : w.cell? ⟨t, 2, none⟩ = some (.map (some mb)) := hbc 2
  have hlt := h.blk.lt
  have L := run_slook_no (P := Tryz.prog) Tryz.underlying106 Tryz.underlying9 (((h.map).ext ((Ext.refl w).alloc (.cells #[.string p, .int .u64 e, .int .u64 b, .int .u8 rk] 29))).ext ((Ext.refl _).alloc (.cells slot0.cells 65))) hl (slot_zero _)
  simp only [slot0, Slot.val, Slot.cells] at L
  clear hbc hl
  go_enter Tryz.func57, Tryz.ntmps57
  go_wp2
  go_quiet (fail)
  have hB := ((Blk.new' (w.alloc (.cells #[.string p, .int .u64 e, .int .u64 b, .int .u8 rk] 29)) slot0.cells 65 (b := w.heap.size + 1) (by simp)).alloc (.cells slot0.cells 65)).drewN nq
  go_wp2
  have hS := ((((((((hB.set 0 (.string ⟨#[]⟩)).set 1 (.string ⟨#[]⟩)).set 2 (.int .u64 0)).set 3 (.int .u64 0)).set 4 (.int .u8 0)).set 5 (.int .u8 0)).set 6 (.int .u64 0)).set 7 (.int .u64 0))
  have hx := (((((Ext.refl w).alloc (.cells #[.string p, .int .u64 e, .int .u64 b, .int .u8 rk] 29)).alloc (.cells slot0.cells 65)).alloc (.cells slot0.cells 65)).trans (Ext.drewNs _ nq))
  refine ret_cell_tmp Tryz.results57 rfl rfl hS Tryz.underlying65 rfl (by kernel_rfl) ⟨rfl, ?_⟩
  exact ((((((((hx.set (by omega) _ _).set (by omega) _ _).set (by omega) _ _).set (by omega) _ _).set (by omega) _ _).set (by omega) _ _).set (by omega) _ _).set (by omega) _ _)
end Go.Proofs.YtfglpejbgfmojaaGreat

/- Plain: a slot that has gone over to a kernel. -/
namespace Go.Proofs.YtfglpejbgfmojaaGreat

def movedS (clock : Int) (s : Slot) (kind : Int) : Slot := ⟨s.key, s.p, s.e, s.b, s.rk, kind, kOfA kind clock s.cap (s.fill clock), kOfB kind clock⟩
end Go.Proofs.YtfglpejbgfmojaaGreat
