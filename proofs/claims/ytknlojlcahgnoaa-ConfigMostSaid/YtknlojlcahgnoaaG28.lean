/- Walks: cmp.Compare of texts; the order of slots; slices.SortFunc of slots. -/
import Derived.Shelf.SlSortCmp.WholeK
import Derived.Test.YtknlojlcahgnoaaG23
import Derived.Test.YtknlojlcahgnoaaG1

/- Walks: cmp.Compare of texts; the order of slots; slices.SortFunc of slots. -/
namespace Go.Proofs.Ytknlojlcahgnoaa
open Go.RowKit Go.Shelf Go.Sort
set_option linter.unusedVariables false
set_option linter.unusedSimpArgs false

def cmpB (a b : ByteArray) : Int := if Op.bytesLess a.toList b.toList then -1 else if a.toList == b.toList then 0 else 1

set_option maxHeartbeats 1000000 in
set_option maxRecDepth 100000 in
theorem cmp_Compare (a b : ByteArray) (w : World) : Calls Try.prog 27 #[.string a, .string b] w fun x w' => x = .returned (.int .i64 (cmpB a b)) ∧ w' = w := by
  cases h1 : Op.bytesLess a.toList b.toList with
  | true =>
    have hv : cmpB a b = -1 := by unfold cmpB; rw [h1]; rfl
    rw [hv]
    go_enter Try.func27, Try.ntmps27
    go_wp2
    go_ret
    exact ⟨rfl, rfl⟩
  | false =>
    cases h2 : a.toList == b.toList with
    | true =>
      have hv : cmpB a b = 0 := by unfold cmpB; rw [h1, h2]; rfl
      rw [hv]
      go_enter Try.func27, Try.ntmps27
      go_wp2
      go_ret
      exact ⟨rfl, rfl⟩
    | false =>
      have hv : cmpB a b = 1 := by unfold cmpB; rw [h1, h2]; rfl
      rw [hv]
      go_enter Try.func27, Try.ntmps27
      go_wp2
      go_ret
      exact ⟨rfl, rfl⟩

def slotCmp (x y : Slot) : Int := cmpB x.key y.key
def slotEnc (x : Slot) : List Value := x.cells.toList
instance : Inhabited Slot := ⟨slot0⟩

theorem ltKey (x y : Slot) : ltOf slotCmp x y = decide (x.key.toList < y.key.toList) := by
  unfold ltOf slotCmp cmpB
  rw [bytesLess_eq]
  by_cases h : x.key.toList < y.key.toList
  · simp [h]
  · simp only [h, decide_false, Bool.false_eq_true, if_false]
    split <;> simp
theorem swoKey : SWO (ltOf slotCmp) where
  irrefl x := by rw [ltKey]; simp [List.lt_irrefl]
  trans x y z h1 h2 := by
    rw [ltKey] at *
    simp only [decide_eq_true_eq] at *
    exact List.lt_trans h1 h2
  ntrans x y z h1 h2 := by
    rw [ltKey] at *
    simp only [decide_eq_false_iff_not, List.not_lt] at *
    exact List.le_trans h2 h1

theorem grownBy_sortedK {w : World} {g n : Nat} {os : Array Obj} (d : Array Slot) : w.grownBy (sortWorldK slotEnc 8 w g 0 n d os) (some g) := by
  refine ⟨rfl, rfl, rfl, size_sortWorldK_c slotEnc 8 w g 0 n d os, fun k hk hne => ?_⟩
  have hk2 : k < (putRowK slotEnc 8 (Sort.ahead w n) g 0 d).heap.size := by simpa [putRowK, Sort.putRow, mapBlock, Sort.ahead] using hk
  unfold sortWorldK
  rw [heap_grow_old _ _ hk2]
  have : g ≠ k := fun e => hne (by rw [e])
  simp [putRowK, Sort.putRow, mapBlock, Sort.ahead, Array.getElem?_modify, this]

end Go.Proofs.Ytknlojlcahgnoaa
