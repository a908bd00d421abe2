/- Walks: the reference 07. -/
import Derived.Test.YtknlojlcahgnoaaG22
import Derived.Test.YtknlojlcahgnoaaG8
import Derived.Test.YtknlojlcahgnoaaG15

/- Walks: the reference 07. -/
namespace Go.Proofs.Ytknlojlcahgnoaa
open Go.RowKit
set_option linter.unusedVariables false
set_option linter.unusedSimpArgs false

def ofR (k now cap fill : Int) : Value := .tuple #[stV (if rightKind k then k else 0) (kOfA k now cap fill) (kOfB k now), .int .i64 (if rightKind k then 0 else 27)]
theorem Blk.oth3 {w : World} {g b : Nat} {C : Array Value} {t : TypeId} (h : Blk w g C t) (ne : g ≠ b) (v0 v1 v2 : Value) : Blk (((w.setCell ⟨b, 0, none⟩ v0).setCell ⟨b, 1, none⟩ v1).setCell ⟨b, 2, none⟩ v2) g C t := ((h.other ne _).other ne _).other ne _
theorem Ext.set3 {x y : World} (h : Ext x y) {b : Nat} (hb : x.heap.size ≤ b) (v0 v1 v2 : Value) : Ext x (((y.setCell ⟨b, 0, none⟩ v0).setCell ⟨b, 1, none⟩ v1).setCell ⟨b, 2, none⟩ v2) := ((h.set hb _ _).set hb _ _).set hb _ _
theorem not_kind {k : Int} (h : ¬ (1 ≤ k ∧ k ≤ 3)) : k ≠ 1 ∧ k ≠ 2 ∧ k ≠ 3 ∧ (k == 1) = false ∧ (k == 2) = false ∧ (k == 3) = false ∧ rightKind k = false :=
  ⟨by omega, by omega, by omega, by simp; omega, by simp; omega, by simp; omega, by simp [rightKind]; omega⟩

end Go.Proofs.Ytknlojlcahgnoaa
