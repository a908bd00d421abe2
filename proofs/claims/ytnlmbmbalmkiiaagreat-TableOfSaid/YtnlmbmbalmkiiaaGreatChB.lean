/- Walks: Charge: a wrong key, a wrong rule. -/
import Derived.Test.YtnlmbmbalmkiiaaGreatChP
import Derived.Deep.QuietTactic
import Derived.BigQuiet
namespace Go.Proofs.YtnlmbmbalmkiiaaGreat
open Go.RowKit
set_option linter.unusedVariables false
set_option linter.unusedSimpArgs false

/-- an answer's cells: those that a table tells -/
def ansC (code err limit left reset after nanos : Int) (retry : Bool) : Array Value :=
  #[.int .u8 code, .int .u16 err, .int .u64 limit, .int .u64 left, .int .u64 reset, .int .u64 after, .int .u64 nanos, .bool retry, .int .i64 0, .slice none 0 0]
def ansV (code err limit left reset after nanos : Int) (retry : Bool) : Value := .agg (ansC code err limit left reset after nanos retry)

/-- ten cells written, one behind another -/
theorem Blk.set10 {w : World} {b : Nat} {a0 a1 a2 a3 a4 a5 a6 a7 a8 a9 : Value} {t : TypeId} (h : Blk w b #[a0, a1, a2, a3, a4, a5, a6, a7, a8, a9] t) (v0 v1 v2 v3 v4 v5 v6 v7 v8 v9 : Value) :
    Blk ((((((((((w.setCell ⟨b, 0, none⟩ v0).setCell ⟨b, 1, none⟩ v1).setCell ⟨b, 2, none⟩ v2).setCell ⟨b, 3, none⟩ v3).setCell ⟨b, 4, none⟩ v4).setCell ⟨b, 5, none⟩ v5).setCell ⟨b, 6, none⟩ v6).setCell ⟨b, 7, none⟩ v7).setCell ⟨b, 8, none⟩ v8).setCell ⟨b, 9, none⟩ v9) b #[v0, v1, v2, v3, v4, v5, v6, v7, v8, v9] t := by
  have h0 : Blk _ b #[v0, a1, a2, a3, a4, a5, a6, a7, a8, a9] t := h.set 0 v0
  have h1 : Blk _ b #[v0, v1, a2, a3, a4, a5, a6, a7, a8, a9] t := h0.set 1 v1
  have h2 : Blk _ b #[v0, v1, v2, a3, a4, a5, a6, a7, a8, a9] t := h1.set 2 v2
  have h3 : Blk _ b #[v0, v1, v2, v3, a4, a5, a6, a7, a8, a9] t := h2.set 3 v3
  have h4 : Blk _ b #[v0, v1, v2, v3, v4, a5, a6, a7, a8, a9] t := h3.set 4 v4
  have h5 : Blk _ b #[v0, v1, v2, v3, v4, v5, a6, a7, a8, a9] t := h4.set 5 v5
  have h6 : Blk _ b #[v0, v1, v2, v3, v4, v5, v6, a7, a8, a9] t := h5.set 6 v6
  have h7 : Blk _ b #[v0, v1, v2, v3, v4, v5, v6, v7, a8, a9] t := h6.set 7 v7
  have h8 : Blk _ b #[v0, v1, v2, v3, v4, v5, v6, v7, v8, a9] t := h7.set 8 v8
  have h9 : Blk _ b #[v0, v1, v2, v3, v4, v5, v6, v7, v8, v9] t := h8.set 9 v9
  exact h9
theorem Blk.oth10 {w : World} {g b : Nat} {C : Array Value} {t : TypeId} (h : Blk w g C t) (ne : g ≠ b) (v0 v1 v2 v3 v4 v5 v6 v7 v8 v9 : Value) : Blk ((((((((((w.setCell ⟨b, 0, none⟩ v0).setCell ⟨b, 1, none⟩ v1).setCell ⟨b, 2, none⟩ v2).setCell ⟨b, 3, none⟩ v3).setCell ⟨b, 4, none⟩ v4).setCell ⟨b, 5, none⟩ v5).setCell ⟨b, 6, none⟩ v6).setCell ⟨b, 7, none⟩ v7).setCell ⟨b, 8, none⟩ v8).setCell ⟨b, 9, none⟩ v9) g C t := ((((((((((h.other (a := ⟨_, 0, none⟩) ne _).other (a := ⟨_, 1, none⟩) ne _).other (a := ⟨_, 2, none⟩) ne _).other (a := ⟨_, 3, none⟩) ne _).other (a := ⟨_, 4, none⟩) ne _).other (a := ⟨_, 5, none⟩) ne _).other (a := ⟨_, 6, none⟩) ne _).other (a := ⟨_, 7, none⟩) ne _).other (a := ⟨_, 8, none⟩) ne _).other (a := ⟨_, 9, none⟩) ne _)
theorem MapIs.oth10 {w : World} {g b c : Nat} {l : SMap} (h : MapIs w g l c) (ne : g ≠ b) (v0 v1 v2 v3 v4 v5 v6 v7 v8 v9 : Value) : MapIs ((((((((((w.setCell ⟨b, 0, none⟩ v0).setCell ⟨b, 1, none⟩ v1).setCell ⟨b, 2, none⟩ v2).setCell ⟨b, 3, none⟩ v3).setCell ⟨b, 4, none⟩ v4).setCell ⟨b, 5, none⟩ v5).setCell ⟨b, 6, none⟩ v6).setCell ⟨b, 7, none⟩ v7).setCell ⟨b, 8, none⟩ v8).setCell ⟨b, 9, none⟩ v9) g l c := ((((((((((h.other (a := ⟨_, 0, none⟩) ne _).other (a := ⟨_, 1, none⟩) ne _).other (a := ⟨_, 2, none⟩) ne _).other (a := ⟨_, 3, none⟩) ne _).other (a := ⟨_, 4, none⟩) ne _).other (a := ⟨_, 5, none⟩) ne _).other (a := ⟨_, 6, none⟩) ne _).other (a := ⟨_, 7, none⟩) ne _).other (a := ⟨_, 8, none⟩) ne _).other (a := ⟨_, 9, none⟩) ne _)
theorem ExtB.new10 {x w : World} {g b : Nat} (h : ExtB g x w) (le : x.heap.size ≤ b) (v0 v1 v2 v3 v4 v5 v6 v7 v8 v9 : Value) : ExtB g x ((((((((((w.setCell ⟨b, 0, none⟩ v0).setCell ⟨b, 1, none⟩ v1).setCell ⟨b, 2, none⟩ v2).setCell ⟨b, 3, none⟩ v3).setCell ⟨b, 4, none⟩ v4).setCell ⟨b, 5, none⟩ v5).setCell ⟨b, 6, none⟩ v6).setCell ⟨b, 7, none⟩ v7).setCell ⟨b, 8, none⟩ v8).setCell ⟨b, 9, none⟩ v9) := ((((((((((h.setNew (a := ⟨_, 0, none⟩) le _).setNew (a := ⟨_, 1, none⟩) le _).setNew (a := ⟨_, 2, none⟩) le _).setNew (a := ⟨_, 3, none⟩) le _).setNew (a := ⟨_, 4, none⟩) le _).setNew (a := ⟨_, 5, none⟩) le _).setNew (a := ⟨_, 6, none⟩) le _).setNew (a := ⟨_, 7, none⟩) le _).setNew (a := ⟨_, 8, none⟩) le _).setNew (a := ⟨_, 9, none⟩) le _)
theorem Ext.new10 {x w : World} {b : Nat} (h : Ext x w) (le : x.heap.size ≤ b) (v0 v1 v2 v3 v4 v5 v6 v7 v8 v9 : Value) : Ext x ((((((((((w.setCell ⟨b, 0, none⟩ v0).setCell ⟨b, 1, none⟩ v1).setCell ⟨b, 2, none⟩ v2).setCell ⟨b, 3, none⟩ v3).setCell ⟨b, 4, none⟩ v4).setCell ⟨b, 5, none⟩ v5).setCell ⟨b, 6, none⟩ v6).setCell ⟨b, 7, none⟩ v7).setCell ⟨b, 8, none⟩ v8).setCell ⟨b, 9, none⟩ v9) := ((((((((((h.set le _ _).set le _ _).set le _ _).set le _ _).set le _ _).set le _ _).set le _ _).set le _ _).set le _ _).set le _ _)

set_option maxHeartbeats 1000000 in
set_option maxRecDepth 100000 in
theorem charge_key (t : Nat) (k p : ByteArray) (e b rk n : Int) (w : World) (hk : k.size ≤ maxLen) (H : Hid (keyOk k = false)) :
    Calls Tryz.prog 11 #[.pointer (some ⟨t, 0, none⟩), .string k, .agg #[.string p, .int .u64 e, .int .u64 b, .int .u8 rk], .int .u64 n] w fun x w' => x = .returned (ansV 5 12 0 0 0 0 0 false) ∧ Ext w w' := by
  go_enter Tryz.func11, Tryz.ntmps11
  go_wp2_with fail
  refine (key_Right k _ hk).mono ?_
  rw [H.out]
  rintro x w1 ⟨rfl, hx⟩
  have bz := (Blk.new' (w.alloc (.cells #[.string p, .int .u64 e, .int .u64 b, .int .u8 rk] 41)) (ansC 0 0 0 0 0 0 0 false) 44 (b := w.heap.size + 1) (by simp)).ext hx
  have hxw := (((Ext.refl w).alloc (.cells #[.string p, .int .u64 e, .int .u64 b, .int .u8 rk] 41)).alloc (.cells (ansC 0 0 0 0 0 0 0 false) 44)).trans hx
  simp only [ansC] at bz
  have hfz := bz.free
  have hcz := bz.cell
  go_wp2
  have hS := bz.set10 (.int .u8 5) (.int .u16 12) (.int .u64 0) (.int .u64 0) (.int .u64 0) (.int .u64 0) (.int .u64 0) (.bool false) (.int .i64 0) (.slice none 0 0)
  refine ret_cell Tryz.results11 rfl hS Tryz.underlying44 rfl (by kernel_rfl) ⟨rfl, ?_⟩
  exact hxw.new10 (by omega) _ _ _ _ _ _ _ _ _ _ 
end Go.Proofs.YtnlmbmbalmkiiaaGreat
