/- Walks: table.New, Tick, Clock. -/
import Derived.Test.YtnlmbmbalmkiiaaGreatChP
namespace Go.Proofs.YtnlmbmbalmkiiaaGreat
open Go.RowKit
set_option linter.unusedVariables false
set_option linter.unusedSimpArgs false

def mostOf (m : Int) : Int := max 1 (min m 1000000)

set_option maxHeartbeats 400000 in
set_option maxRecDepth 100000 in
theorem table_New (m : Int) (w : World) (hm0 : -9223372036854775808 ≤ m) (hm1 : m ≤ 9223372036854775807) :
    Calls Tryz.prog 10 #[.int .i64 m] w fun x w' => x = .returned (.pointer (some ⟨w.heap.size + 1, 0, none⟩)) ∧ TabAt w' (w.heap.size + 1) w.heap.size (mostOf m) 0 [] 0 ∧ Ext w w' := by
  generalize hq : mostOf m = q
  have HQ := Lib.hid (show max 1 (min m 1000000) = q from hq)
  clear hq
  have hmk : (Instr.makeMap 70 none).run Tryz.prog w = .ok (.map (some w.heap.size)) (w.alloc (.map #[] 0)) := by kernel_rfl
  go_enter Tryz.func10, Tryz.ntmps10
  go_wp2
  all_goals
    go_ret
    have hmp : MapIs (w.alloc (.map #[] 0)) w.heap.size [] 0 := map_new_at w _
    have hq1 := HQ.out
    clear HQ
    first
      | (rw [show q = 1000000 by omega]; exact ⟨rfl, ⟨Blk.new' (w.alloc (.map #[] 0)) _ 72 (b := w.heap.size + 1) (by simp), hmp.ext ((Ext.refl _).alloc _)⟩, ((Ext.refl w).alloc _).alloc _⟩)
      | (rw [show q = m by omega]; exact ⟨rfl, ⟨Blk.new' (w.alloc (.map #[] 0)) _ 72 (b := w.heap.size + 1) (by simp), hmp.ext ((Ext.refl _).alloc _)⟩, ((Ext.refl w).alloc _).alloc _⟩)
      | (rw [show q = 1 by omega]; exact ⟨rfl, ⟨Blk.new' (w.alloc (.map #[] 0)) _ 72 (b := w.heap.size + 1) (by simp), hmp.ext ((Ext.refl _).alloc _)⟩, ((Ext.refl w).alloc _).alloc _⟩)

set_option maxHeartbeats 400000 in
set_option maxRecDepth 100000 in
theorem table_Tick (t mb c : Nat) (most clock now : Int) (l : SMap) (w : World) (h : TabAt w t mb most clock l c) (hn0 : 0 ≤ clock) (hn1 : clock < 18446744073709551616) (hx0 : 0 ≤ now) (hx1 : now < 18446744073709551616) :
    Calls Tryz.prog 41 #[.pointer (some ⟨t, 0, none⟩), .int .u64 now] w fun x w' => x = .returned (.int .u64 (max clock now)) ∧ TabAt w' t mb most (max clock now) l c ∧ ExtB t w w' := by
  have hbc := h.blk.cell
  have hbf := h.blk.free
  have HT := Lib.hid h
  generalize hq : max clock now = q
  have HQ := Lib.hid hq
  clear h
  go_enter Tryz.func41, Tryz.ntmps41
  go_wp2
  all_goals
    go_ret
    refine ⟨ret_int (by omega), ⟨?_, HT.out.map.other (by simp only; exact HT.out.ne.symm) _⟩, (ExtB.refl t w).setCell _ _⟩
    have := HT.out.blk.set 1 (.int .u64 q)
    first
      | (rw [show clock = q by omega]; exact this)
      | (rw [show now = q by omega]; exact this)

theorem table_Clock (t mb c : Nat) (most clock : Int) (l : SMap) (w : World) (h : TabAt w t mb most clock l c) (hn0 : 0 ≤ clock) (hn1 : clock < 18446744073709551616) :
    Calls Tryz.prog 14 #[.pointer (some ⟨t, 0, none⟩)] w fun x w' => x = .returned (.int .u64 clock) ∧ TabAt w' t mb most clock l c ∧ ExtB t w w' := by
  have hq : max clock 0 = clock := by omega
  have HT := table_Tick t mb c most clock 0 l w h hn0 hn1 (by omega) (by omega)
  rw [hq] at HT
  have HH := Lib.hid HT
  clear h HT
  go_enter Tryz.func14, Tryz.ntmps14
  go_wp2_with fail
  refine HH.out.mono ?_
  rintro x w' ⟨rfl, ht, hx⟩
  go_wp2
  go_ret
  exact ⟨rfl, ht, hx⟩
end Go.Proofs.YtnlmbmbalmkiiaaGreat
