/- Walks: (*node).split. Walks: (*node).grow. -/
import Derived.Deep.RegionHeld3
import Derived.Deep.QuietTactic
import Derived.BigQuiet
import Derived.Test.YtknlojlcahgnoaaG29

/- Walks: (*node).split. -/
namespace Go.Proofs.Ytknlojlcahgnoaa
open Go.RowKit
set_option linter.unusedVariables false
set_option linter.unusedSimpArgs false

theorem part_get {x : Nd} {i : Nat} (h : i < x.part.size) : x.path[x.plen + i]? = some x.part[i] := by
  have e : (x.path.drop x.plen)[i]? = some x.part[i] := by rw [← part_list, List.getElem?_eq_getElem (by rw [data_len]; exact h), data_get x.part i h]
  rw [List.getElem?_drop] at e
  exact e

theorem cell_other {w : World} {b c i j : Nat} {v : Value} (h : b ≠ c) : (w.setCell ⟨c, j, none⟩ v).cell? ⟨b, i, none⟩ = w.cell? ⟨b, i, none⟩ := by
  unfold World.cell?
  rw [Below.heap_setCell _ _ _ _ (show b ≠ c from h)]
theorem extB_cell {w w' : World} {b c i : Nat} {v : Value} (h : ExtB b w.drew w') (e : w.cell? ⟨c, i, none⟩ = some v) (ne : c ≠ b) : w'.cell? ⟨c, i, none⟩ = some v := by
  have hlt := cell_lt e
  have hb := h.block c hlt ne
  unfold World.cell? at e ⊢
  simp only at hb ⊢
  rw [hb]
  exact e
theorem below_extB {lo b : Nat} {x y z : World} (h : Below lo x y) (e : ExtB b y z) (hb : lo ≤ b) (hs : lo ≤ y.heap.size) : Below lo x z :=
  ⟨e.os.trans (Below.os h), e.tape.trans (Below.tape h), e.output.trans (Below.output h), Nat.le_trans (Below.size h) e.size, fun k hk => (e.block k (by omega) (by omega)).trans (Below.block h k hk)⟩
theorem rest_part (o : Nd) (i : Nat) (h : i ≤ o.part.size) : (restOf o i).part = o.part.extract i o.part.size := by
  rw [str_eq_iff, Lib.extract_to_end, part_list, part_list]
  show o.path.drop (o.plen + i) = _
  rw [List.drop_drop]
theorem half_part (o : Nd) (a mb i : Nat) (d : UInt8) : (halfOf o a mb i d).part = o.part.extract 0 i := by
  rw [str_eq_iff, Lib.extract_data, part_list, part_list]
  show (o.path.take (o.plen + i)).drop o.plen = _
  rw [List.drop_zero, Nat.sub_zero, List.drop_take]
  congr 1
  omega

/-- blocks of rules lie as they lay -/
def RulesKept (w w' : World) : Prop := ∀ k C, Blk w k C 34 → Blk w' k C 34
theorem RulesKept.refl (w : World) : RulesKept w w := fun _ _ h => h
theorem RulesKept.trans {x y z : World} (h : RulesKept x y) (k : RulesKept y z) : RulesKept x z := fun b C q => k b C (h b C q)
theorem Ext.rk {x y : World} (h : Ext x y) : RulesKept x y := fun b C q => q.ext h

end Go.Proofs.Ytknlojlcahgnoaa

/- Walks: (*node).grow. -/
namespace Go.Proofs.Ytknlojlcahgnoaa
open Go.RowKit
set_option linter.unusedVariables false
set_option linter.unusedSimpArgs false

theorem comm_self : ∀ a : List UInt8, comm a a = a.length
  | [] => rfl
  | x :: xs => by simp [comm, comm_self xs]
theorem comm_take : ∀ (a b : List UInt8), a.take (comm a b) = b.take (comm a b)
  | [], b => by cases b <;> simp [comm]
  | x :: xs, [] => by simp [comm]
  | x :: xs, y :: ys => by
    by_cases h : x = y
    · simp [comm, h, comm_take xs ys]
    · simp [comm, h]
theorem comm_pos {a b : List UInt8} {c : UInt8} (h1 : a[0]? = some c) (h2 : b[0]? = some c) : 0 < comm a b := by
  cases a with
  | nil => simp at h1
  | cons x xs =>
    cases b with
    | nil => simp at h2
    | cons y ys =>
      simp at h1 h2
      simp [comm, h1, h2]
def strLen : Value → Nat
  | .string s => s.size
  | _ => 0
end Go.Proofs.Ytknlojlcahgnoaa
