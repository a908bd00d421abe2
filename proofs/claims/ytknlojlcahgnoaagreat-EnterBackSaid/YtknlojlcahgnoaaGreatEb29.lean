/- Walks: cmp.Compare of texts; the order of slots; slices.SortFunc of slots. -/
import Derived.Shelf.SlSortCmp.WholeK
import Derived.Test.YtknlojlcahgnoaaGreatEb27
import Derived.Test.YtknlojlcahgnoaaGreatEb2

namespace Go.Proofs.YtknlojlcahgnoaaGreat
open Go.RowKit Go.Shelf Go.Sort
set_option linter.unusedVariables false
set_option linter.unusedSimpArgs false

def cmpB (a b : ByteArray) : Int := if Op.bytesLess a.toList b.toList then -1 else if a.toList == b.toList then 0 else 1

set_option maxHeartbeats 1000000 in
set_option maxRecDepth 100000 in
theorem cmp_Compare (a b : ByteArray) (w : World) : Calls Tryz.prog 52 #[.string a, .string b] w fun x w' => x = .returned (.int .i64 (cmpB a b)) ∧ w' = w := by
  cases h1 : Op.bytesLess a.toList b.toList with
  | true =>
    have hv : cmpB a b = -1 := by unfold cmpB; rw [h1]; rfl
    rw [hv]
    go_enter Tryz.func52, Tryz.ntmps52
    go_wp2
    go_ret
    exact ⟨rfl, rfl⟩
  | false =>
    cases h2 : a.toList == b.toList with
    | true =>
      have hv : cmpB a b = 0 := by unfold cmpB; rw [h1, h2]; rfl
      rw [hv]
      go_enter Tryz.func52, Tryz.ntmps52
      go_wp2
      go_ret
      exact ⟨rfl, rfl⟩
    | false =>
      have hv : cmpB a b = 1 := by unfold cmpB; rw [h1, h2]; rfl
      rw [hv]
      go_enter Tryz.func52, Tryz.ntmps52
      go_wp2
      go_ret
      exact ⟨rfl, rfl⟩

def slotCmp (x y : Slot) : Int := cmpB x.key y.key
def slotEnc (x : Slot) : List Value := x.cells.toList
instance : Inhabited Slot := ⟨slot0⟩

set_option maxHeartbeats 1000000 in
set_option maxRecDepth 100000 in
theorem slots_1 (x y : Slot) (W : World) : Calls Tryz.prog 120 #[x.val, y.val] W fun e w' => e = .returned (.int .i64 (slotCmp x y)) ∧ ∃ q os', w' = grow (W.drewN q) os' := by
  obtain ⟨k, sp, se, sbu, srk, sk, sa, sb⟩ := x
  obtain ⟨k2, sp2, se2, sbu2, srk2, sk2, sa2, sb2⟩ := y
  simp only [slotCmp, Slot.val, Slot.cells]
  generalize hr : cmpB k k2 = r
  have HR := Lib.hid hr
  clear hr
  go_enter Tryz.func120, Tryz.ntmps120
  go_wp2_with (go_at_call 52; (with_reducible refine (cmp_Compare k k2 _).mono ?_); rw [HR.out]; rintro e w' ⟨rfl, rfl⟩)
  go_ret
  exact ⟨rfl, 0, _, by rw [alloc_eq_grow, alloc_eq_grow, grow_grow]; rfl⟩

theorem ltKey (x y : Slot) : ltOf slotCmp x y = decide (x.key.toList < y.key.toList) := by
  unfold ltOf slotCmp cmpB
  rw [bytesLess_eq]
  by_cases h : x.key.toList < y.key.toList
  · simp [h]
  · simp only [h, decide_false, Bool.false_eq_true, if_false]
    split <;> simp
theorem swoKey : SWO (ltOf slotCmp) where
  irrefl x := by rw [ltKey]; simp [List.lt_irrefl]
  trans x y z h1 h2 := by
    rw [ltKey] at *
    simp only [decide_eq_true_eq] at *
    exact List.lt_trans h1 h2
  ntrans x y z h1 h2 := by
    rw [ltKey] at *
    simp only [decide_eq_false_iff_not, List.not_lt] at *
    exact List.le_trans h2 h1

theorem grownBy_sortedK {w : World} {g n : Nat} {os : Array Obj} (d : Array Slot) : w.grownBy (sortWorldK slotEnc 8 w g 0 n d os) (some g) := by
  refine ⟨rfl, rfl, rfl, size_sortWorldK_c slotEnc 8 w g 0 n d os, fun k hk hne => ?_⟩
  have hk2 : k < (putRowK slotEnc 8 (Sort.ahead w n) g 0 d).heap.size := by simpa [putRowK, Sort.putRow, mapBlock, Sort.ahead] using hk
  unfold sortWorldK
  rw [heap_grow_old _ _ hk2]
  have : g ≠ k := fun e => hne (by rw [e])
  simp [putRowK, Sort.putRow, mapBlock, Sort.ahead, Array.getElem?_modify, this]

theorem sort_slots (blk cap : Nat) (d : Array Slot) (w : World) (hH : HoldsK slotEnc 8 w blk 0 d) (hblk : blk < w.heap.size) (hsz : d.size < 4611686018427387904) :
    Calls Tryz.prog 164 #[.slice (some ⟨blk, 0, none⟩) d.size cap, .func (.func 120) #[] #[]] w fun e w' =>
      e = .returned (.tuple #[]) ∧ ∃ d', d'.size = d.size ∧ d'.toList.Perm d.toList ∧ (∀ i j, i < j → j < d.size → ¬ (d'[j]!).key.toList < (d'[i]!).key.toList) ∧ HoldsK slotEnc 8 w' blk 0 d' ∧ ExtB blk w w' := by
  have eg : ∀ args w, (callFunc 120 args).run Tryz.prog w = .ok (.enter 120 args) w := enters_of Tryz.func120 (by kernel_rfl) rfl
  have hcon := AnyQ.slices_SortFunc Tryz.sortSlots 8 Tryz.isAgg145 Tryz.sizeOf145 slotEnc (fun x => rfl) (fun x v hv => by simp [slotEnc, Slot.cells] at hv; rcases hv with rfl | rfl | rfl | rfl | rfl | rfl | rfl | rfl <;> rfl) slotCmp swoKey 120 #[] blk 0 cap d w eg (fun _ _ _ _ x y => slots_1 x y _) hH hblk hsz
  change Calls Tryz.prog 164 _ _ _ at hcon
  refine hcon.mono ?_
  rintro e w' ⟨rfl, d', n, os, hp, hs, rfl⟩
  refine ⟨rfl, d', hp.1, ?_, fun i j hij hj => ?_, holdsK_sortWorldK_c slotEnc 8 w blk 0 d d' n os hH hblk hp.1, ?_⟩
  · have h3 := hp.2.2
    have e1 : d'.extract 0 d.size = d' := by rw [← hp.1]; simp
    have e2 : d.extract 0 d.size = d := by simp
    rw [e1, e2] at h3
    exact h3
  · have := hs i j (Nat.zero_le _) hij hj
    rw [ltKey] at this
    simpa using this
  · have hg := grownBy_sortedK (w := w) (g := blk) (n := n) (os := os) d'
    exact ⟨hg.os, hg.tape, hg.output, hg.size, fun k hk hne => hg.block k hk (fun e => hne (by cases e; rfl))⟩
end Go.Proofs.YtknlojlcahgnoaaGreat
