/- Rows read and written whole: results that lie in memory; stores of whole structs. No program in sight. -/
import Derived.Test.YtnlmbmbalmkiiaaGreatBase
import Derived.Laws.Rows
import Derived.Laws.Tables
namespace Go.Proofs.YtnlmbmbalmkiiaaGreat
open Go.RowKit
set_option linter.unusedVariables false
set_option linter.unusedSimpArgs false

section
variable {P : Program}

def aggKind : TypeDesc → Bool
  | .struct _ | .array _ _ => true
  | _ => false

theorem run_loadVar_blk {w : World} {g : Nat} {t ty : TypeId} {C : Array Value} {d : TypeDesc} (hB : Blk w g C t) (hu : P.underlying ty = some d) (hd : aggKind d = true) (hi : (P.info? ty).map (·.size) = some C.size) :
    (loadVar ty ⟨g, 0, none⟩).run P w = .ok (.agg C) w := run_loadVar_row w g t ty C (0, 0) d hB hu (by cases d <;> first | rfl | exact hd) hi

theorem ret_cell {fn : Func} {R : Ending → World → Prop} {tmps : Array Value} {w : World} {p : Tmp} {ty t : TypeId} {g : Nat} {C : Array Value} {d : TypeDesc} (h : fn.results = #[.cell p ty])
    (hp : tmps.getD p undef = .pointer (some ⟨g, 0, none⟩)) (hB : Blk w g C t) (hu : P.underlying ty = some d) (hd : aggKind d = true) (hi : (P.info? ty).map (·.size) = some C.size)
    (hR : R (.returned (.agg C)) w) : bodyPost P fn R .ret { tmps := tmps, defers := [] } w :=
  bodyPost_ret (results_cell_row h _ w g t C (0, 0) d hp hB hu (by cases d <;> first | rfl | exact hd) hi) rfl hR

theorem ret_cell_tmp {fn : Func} {R : Ending → World → Prop} {tmps : Array Value} {w : World} {p q : Tmp} {ty t : TypeId} {g : Nat} {C : Array Value} {d : TypeDesc} {v : Value} (h : fn.results = #[.cell p ty, .tmp q])
    (hp : tmps.getD p undef = .pointer (some ⟨g, 0, none⟩)) (hq : tmps.getD q undef = v) (hB : Blk w g C t) (hu : P.underlying ty = some d) (hd : aggKind d = true) (hi : (P.info? ty).map (·.size) = some C.size)
    (hR : R (.returned (.tuple #[.agg C, v])) w) : bodyPost P fn R .ret { tmps := tmps, defers := [] } w := by
  refine bodyPost_ret (v := .tuple #[.agg C, v]) ?_ rfl hR
  have hp' : tmps[p]?.getD undef = .pointer (some ⟨g, 0, none⟩) := by simpa using hp
  have hq' : tmps[q]?.getD undef = v := by simpa using hq
  simp [results, h, hp', hq', asAddr, run_loadVar_blk hB hu hd hi]

theorem Ext.set {x y : World} (h : Ext x y) {b : Nat} (hb : x.heap.size ≤ b) (o : Nat) (v : Value) : Ext x (y.setCell ⟨b, o, none⟩ v) := h.setCell hb v
theorem setRow_size (w : World) (g : Nat) (C : Array Value) : (w.setRow g C).heap.size = w.heap.size := by simp [World.setRow]
theorem setRow_other (w : World) (g k : Nat) (C : Array Value) (h : k ≠ g) : (w.setRow g C).heap[k]? = w.heap[k]? := by
  simp [World.setRow, Array.getElem?_modify, Ne.symm h]
theorem Ext.setRow {x y : World} (h : Ext x y) {b : Nat} (hb : x.heap.size ≤ b) (C : Array Value) : Ext x (y.setRow b C) :=
  by
  have hos := Below.os h
  have ht := Below.tape h
  have ho := Below.output h
  exact ⟨hos, ht, ho, by rw [setRow_size]; exact h.sz, fun k hk => (setRow_other _ _ _ _ (by omega)).trans (Below.block h k hk)⟩
theorem ExtB.setRow {b : Nat} {x y : World} (h : ExtB b x y) (C : Array Value) : ExtB b x (y.setRow b C) :=
  ⟨h.os, h.tape, h.output, by rw [setRow_size]; exact h.size, fun k hk hb => (setRow_other _ _ _ _ hb).trans (h.block k hk hb)⟩
theorem Blk.setRow {w : World} {b : Nat} {C : Array Value} {t : TypeId} (h : Blk w b C t) (D : Array Value) : Blk (w.setRow b D) b D t := setRow_heap w b C D t (0, 0) h
theorem Blk.otherRow {w : World} {b g : Nat} {C : Array Value} {t : TypeId} (h : Blk w b C t) (ne : b ≠ g) (D : Array Value) : Blk (w.setRow g D) b C t := (setRow_other _ _ _ _ ne).trans h
end
end Go.Proofs.YtnlmbmbalmkiiaaGreat
