/- Walks: key.Has, key.Common. Walks: the reference 07. Walks: cmp.Compare of texts; the order of slots; slices.SortFunc of slots. Walks: (*node).way: the nodes that a key leads along. Walks: Charge. The iterator of a table's active slots: what it hands out, in whatever order, to whatever loop body. -/
import Derived.Lib.Strings
import Derived.Lib.IndexBytes
import Derived.Shelf.SlSortCmp.WholeK
import Derived.Sort.CutIn
import Derived.Deep.DeepCutAuto
import Derived.Deep.CutRange
import Derived.RangeFuncBox
import Derived.RangeFuncNested
import Derived.RangeFuncBound
import Derived.RangeFuncCalls
import Derived.RangeFuncLeaves
import Derived.Shelf.Abstract
import Derived.Shelf.RegionOpen
import Derived.WalkKit
import Derived.OwnWalkIn
import Derived.TacticsInMore
import Derived.LoopNIn
import Derived.LoopIn
import Derived.Maps.OwnIn
import Derived.Deep.QuietTactic
import Derived.BigQuiet
import Derived.Maps.AppendAt
import Derived.Test.YtknlojlcahgnoaaGreatCf18
import Derived.Test.YtknlojlcahgnoaaGreatCf14
import Derived.Test.YtknlojlcahgnoaaGreatCf10
import Derived.Test.YtknlojlcahgnoaaGreatCf13
import Derived.Test.YtknlojlcahgnoaaGreatCf2
import Derived.Test.YtknlojlcahgnoaaGreatCf8
import Derived.Test.YtknlojlcahgnoaaGreatCf23
import Derived.Test.YtknlojlcahgnoaaGreatCf1

namespace Go.Proofs.YtknlojlcahgnoaaGreat
open Go.RowKit
attribute [local go_sem] Oper.semAt_some
set_option linter.unusedVariables false
set_option linter.unusedSimpArgs false

/-- of the blocks below n₀ all but g lie as they lay -/
def KeptBut (n₀ g : Nat) (X Y : World) : Prop := ∀ b, b < n₀ → b ≠ g → Y.heap[b]? = X.heap[b]?
theorem KeptBut.refl (n₀ g : Nat) (X : World) : KeptBut n₀ g X X := fun _ _ _ => rfl
theorem KeptBut.trans {n₀ g : Nat} {X Y Z : World} (h : KeptBut n₀ g X Y) (k : KeptBut n₀ g Y Z) : KeptBut n₀ g X Z := fun b h1 h2 => (k b h1 h2).trans (h b h1 h2)
theorem KeptBut.put {n₀ g : Nat} (W : World) {l : Nat} (o : Obj) (h : n₀ ≤ l) : KeptBut n₀ g W (W.putObj l o) := fun b h1 _ => World.putObj_heap_other (by omega)
theorem KeptBut.setCell {n₀ g : Nat} {X Y : World} (h : KeptBut n₀ g X Y) (o : Nat) (v : Value) : KeptBut n₀ g X (Y.setCell ⟨g, o, none⟩ v) := fun b h1 h2 => (Below.heap_setCell _ _ _ _ h2).trans (h b h1 h2)
theorem KeptBut.cell {n₀ g : Nat} {X Y : World} (h : KeptBut n₀ g X Y) {b o : Nat} (h1 : b < n₀) (h2 : b ≠ g) {v : Value} (c : X.cell? ⟨b, o, none⟩ = some v) : Y.cell? ⟨b, o, none⟩ = some v := by
  unfold World.cell? at c ⊢
  simp only [h b h1 h2]
  exact c
theorem Ext.kept {n₀ g : Nat} {X Y : World} (h : Ext X Y) (hn : n₀ ≤ X.heap.size) : KeptBut n₀ g X Y := fun b h1 _ => Ext.block h (Nat.lt_of_lt_of_le h1 hn)

end Go.Proofs.YtknlojlcahgnoaaGreat

namespace Go.Proofs.YtknlojlcahgnoaaGreat
open Go.RowKit
set_option linter.unusedVariables false
set_option linter.unusedSimpArgs false

theorem Blk.oth3 {w : World} {g b : Nat} {C : Array Value} {t : TypeId} (h : Blk w g C t) (ne : g ≠ b) (v0 v1 v2 : Value) : Blk (((w.setCell ⟨b, 0, none⟩ v0).setCell ⟨b, 1, none⟩ v1).setCell ⟨b, 2, none⟩ v2) g C t := ((h.other ne _).other ne _).other ne _
theorem Ext.set3 {x y : World} (h : Ext x y) {b : Nat} (hb : x.heap.size ≤ b) (v0 v1 v2 : Value) : Ext x (((y.setCell ⟨b, 0, none⟩ v0).setCell ⟨b, 1, none⟩ v1).setCell ⟨b, 2, none⟩ v2) := ((h.set hb _ _).set hb _ _).set hb _ _
end Go.Proofs.YtknlojlcahgnoaaGreat

namespace Go.Proofs.YtknlojlcahgnoaaGreat
open Go.RowKit Go.Shelf Go.Sort
set_option linter.unusedVariables false
set_option linter.unusedSimpArgs false

def cmpB (a b : ByteArray) : Int := if Op.bytesLess a.toList b.toList then -1 else if a.toList == b.toList then 0 else 1

set_option maxHeartbeats 1000000 in
set_option maxRecDepth 100000 in
theorem cmp_Compare (a b : ByteArray) (w : World) : Calls Tryz.prog 52 #[.string a, .string b] w fun x w' => x = .returned (.int .i64 (cmpB a b)) ∧ w' = w := by
  cases h1 : Op.bytesLess a.toList b.toList with
  | true =>
    have hv : cmpB a b = -1 := by unfold cmpB; rw [h1]; rfl
    rw [hv]
    go_enter Tryz.func52, Tryz.ntmps52
    go_wp2
    go_ret
    exact ⟨rfl, rfl⟩
  | false =>
    cases h2 : a.toList == b.toList with
    | true =>
      have hv : cmpB a b = 0 := by unfold cmpB; rw [h1, h2]; rfl
      rw [hv]
      go_enter Tryz.func52, Tryz.ntmps52
      go_wp2
      go_ret
      exact ⟨rfl, rfl⟩
    | false =>
      have hv : cmpB a b = 1 := by unfold cmpB; rw [h1, h2]; rfl
      rw [hv]
      go_enter Tryz.func52, Tryz.ntmps52
      go_wp2
      go_ret
      exact ⟨rfl, rfl⟩

instance : Inhabited Slot := ⟨slot0⟩

end Go.Proofs.YtknlojlcahgnoaaGreat

namespace Go.Proofs.YtknlojlcahgnoaaGreat
open Go.RowKit
attribute [local go_sem] Oper.semAt_some
set_option linter.unusedVariables false
set_option linter.unusedSimpArgs false

/-- what lay in w0 lies as it lay -/
def Sees (w0 W : World) : Prop := ∀ b, b < w0.heap.size → W.heap[b]? = w0.heap[b]?
theorem Sees.blk {w0 W : World} (h : Sees w0 W) {g : Nat} {C : Array Value} {t : TypeId} (k : Blk w0 g C t) : Blk W g C t := (h g k.lt).trans k
theorem Sees.kept {w0 X Y : World} (h : Sees w0 X) {n₀ g : Nat} (k : KeptBut n₀ g X Y) (h1 : w0.heap.size ≤ n₀) (h2 : w0.heap.size ≤ g) : Sees w0 Y := fun b hb => (k b (by omega) (by omega)).trans (h b hb)
theorem Sees.set {w0 W : World} (h : Sees w0 W) {g : Nat} (hg : w0.heap.size ≤ g) (o : Nat) (v : Value) : Sees w0 (W.setCell ⟨g, o, none⟩ v) := fun b hb => (Below.heap_setCell _ _ _ _ (by show b ≠ g; omega)).trans (h b hb)
theorem Sees.drew {w0 W : World} (h : Sees w0 W) : Sees w0 W.drew := h
end Go.Proofs.YtknlojlcahgnoaaGreat

namespace Go.Proofs.YtknlojlcahgnoaaGreat
open Go.RowKit
set_option linter.unusedVariables false
set_option linter.unusedSimpArgs false

/-- the memory of a Charge under way: the table, the rule's box, the answer's cell, the slot -/
structure ChAt (w0 w : World) (t mb c : Nat) (most clock : Int) (l : SMap) (p : ByteArray) (e b rk : Int) (bs : Nat) (S : Array Value) : Prop where
  tab : TabAt w t mb most clock l c
  ok : TabOk l c
  rule : Blk w w0.heap.size (ruleBox p e b rk) 37
  res : Blk w (w0.heap.size + 1) (ansC 0 0 0 0 0 0 0 false) 66
  slot : Blk w bs S 145
  ext : ExtB mb w0 w
theorem ChAt.up {w0 w w' : World} {t mb c : Nat} {most clock : Int} {l : SMap} {p : ByteArray} {e b rk : Int} {bs : Nat} {S : Array Value} (h : ChAt w0 w t mb c most clock l p e b rk bs S) (x : Ext w w') : ChAt w0 w' t mb c most clock l p e b rk bs S :=
  ⟨h.tab.ext x, h.ok, h.rule.ext x, h.res.ext x, h.slot.ext x, h.ext.trans (x.toB mb)⟩
theorem ChAt.swap {w0 w w' : World} {t mb c c' : Nat} {most clock : Int} {l l' : SMap} {p : ByteArray} {e b rk : Int} {bs : Nat} {S : Array Value} (h : ChAt w0 w t mb c most clock l p e b rk bs S) (x : ExtB mb w w') (m : TabAt w' t mb most clock l' c') (k : TabOk l' c') : ChAt w0 w' t mb c' most clock l' p e b rk bs S :=
  ⟨m, k, h.rule.extB x (h.tab.map.ne h.rule).symm, h.res.extB x (h.tab.map.ne h.res).symm, h.slot.extB x (h.tab.map.ne h.slot).symm, h.ext.trans x⟩

/-- what is left behind the first sweep -/
def roomed (clock : Int) (l : SMap) (is : Bool) (most : Int) : SMap := if is = false ∧ most ≤ l.length then l.filter (fun x => !drained clock x.1) else l

def full (clock : Int) (l : SMap) (is : Bool) (most : Int) : Bool := !is && decide (most ≤ ((roomed clock l is most).length : Int))
end Go.Proofs.YtknlojlcahgnoaaGreat

namespace Go.Proofs.YtknlojlcahgnoaaGreat
open Go.RowKit
attribute [local go_sem] Oper.semAt_some
set_option linter.unusedVariables false
set_option linter.unusedSimpArgs false

/-- those of them that have come -/
def came (clock : Int) (l : SMap) (seen : Array Nat) : List Slot := (l.filter fun x => seen.contains x.2 && !drained clock x.1).map (·.1)

end Go.Proofs.YtknlojlcahgnoaaGreat
