/- Rows of elements of any make, in memory of the call's own. -/
import Derived.Test.YtnlmbmbalmkiiaaGreatRets
import Derived.OwnWalk
import Derived.Laws.AppendOwn
namespace Go.Proofs.YtnlmbmbalmkiiaaGreat
open Go.RowKit
set_option linter.unusedVariables false
set_option linter.unusedSimpArgs false

/-- the cells of a list of elements -/
def flatE {α : Type} (enc : α → Array Value) (l : List α) : List Value := l.flatMap fun x => (enc x).toList
theorem flatE_nil {α : Type} (enc : α → Array Value) : flatE enc [] = [] := rfl
theorem flatE_snoc {α : Type} (enc : α → Array Value) (l : List α) (x : α) : flatE enc (l ++ [x]) = flatE enc l ++ (enc x).toList := by unfold flatE; rw [List.flatMap_append]; simp
theorem flatE_len {α : Type} {enc : α → Array Value} {k : Nat} (hk : ∀ x, (enc x).size = k) (l : List α) : (flatE enc l).length = l.length * k := by
  induction l with
  | nil => simp [flatE]
  | cons s l ih =>
    show ((enc s).toList ++ flatE enc l).length = _
    rw [List.length_append, ih, List.length_cons, Array.length_toList, hk, Nat.add_mul]
    omega
theorem flatE_get {α : Type} {enc : α → Array Value} {k : Nat} (hk : ∀ x, (enc x).size = k) : ∀ (l : List α) (j i : Nat) (h : j < l.length), i < k → (flatE enc l)[j * k + i]? = (enc l[j])[i]?
  | [], j, i, h, _ => by simp at h
  | x :: l, 0, i, h, hi => by
    show ((enc x).toList ++ flatE enc l)[0 * k + i]? = _
    rw [List.getElem?_append_left (by rw [Array.length_toList, hk]; omega)]
    simp
  | x :: l, j + 1, i, h, hi => by
    show ((enc x).toList ++ flatE enc l)[(j + 1) * k + i]? = _
    have e : (j + 1) * k + i = j * k + i + k := by rw [Nat.add_mul]; omega
    rw [List.getElem?_append_right (by rw [Array.length_toList, hk, e]; omega), Array.length_toList, hk, e, Nat.add_sub_cancel]
    have := flatE_get hk l j i (by simpa using h) hi
    simpa using this

theorem own_ext {w w' : World} {base k n : Nat} {E : TypeId} {v : Value} {xs : List Value} (h : w.ownsRow base E k v n xs) (e : Ext w w') : w'.ownsRow base E k v n xs := by
  obtain ⟨h0, h | ⟨g, cap, cur, h1, h2, h3, h4, h5, h6, h7⟩⟩ := h
  · exact ⟨h0, Or.inl h⟩
  · exact ⟨h0, Or.inr ⟨g, cap, cur, h1, h2, (e.block (lt_of_block h3)).trans h3, h4, h5, h6, h7⟩⟩
theorem own_extB {w w' : World} {base k n b : Nat} {E : TypeId} {v : Value} {xs : List Value} (h : w.ownsRow base E k v n xs) (e : ExtB b w w') (hb : b < base) : w'.ownsRow base E k v n xs := by
  obtain ⟨h0, h | ⟨g, cap, cur, h1, h2, h3, h4, h5, h6, h7⟩⟩ := h
  · exact ⟨h0, Or.inl h⟩
  · exact ⟨h0, Or.inr ⟨g, cap, cur, h1, h2, (e.block _ (lt_of_block h3) (by omega)).trans h3, h4, h5, h6, h7⟩⟩

/-- a slice of its own that reads as a list -/
structure RowOf {α : Type} (enc : α → Array Value) (k : Nat) (E : TypeId) (base : Nat) (w : World) (v : Value) (l : List α) : Prop where
  own : w.ownsRow base E k v l.length (flatE enc l)
  nil : v = .slice none 0 0 ↔ l = []
section
variable {α : Type} {enc : α → Array Value} {k : Nat} {E : TypeId} {base : Nat} {w w' : World} {v : Value} {l : List α}
theorem RowOf.empty (enc : α → Array Value) (k : Nat) (E : TypeId) (base : Nat) (w : World) : RowOf enc k E base w (.slice none 0 0) [] := ⟨World.ownsRow_nil _ _ _ _, by simp⟩
theorem RowOf.ext (h : RowOf enc k E base w v l) (e : Ext w w') : RowOf enc k E base w' v l := ⟨own_ext h.own e, h.nil⟩
theorem RowOf.extB {b : Nat} (h : RowOf enc k E base w v l) (e : ExtB b w w') (hb : b < base) : RowOf enc k E base w' v l := ⟨own_extB h.own e hb, h.nil⟩
theorem RowOf.low {b : Nat} (h : RowOf enc k E base w v l) (hb : b ≤ base) : RowOf enc k E b w v l := by
  obtain ⟨⟨h0, h | ⟨g, cap, cur, h1, h2, h3⟩⟩, hn⟩ := h
  · exact ⟨⟨h0, Or.inl h⟩, hn⟩
  · exact ⟨⟨h0, Or.inr ⟨g, cap, cur, h1, Nat.le_trans hb h2, h3⟩⟩, hn⟩
theorem RowOf.size (h : RowOf enc k E base w v l) : ∃ a c, v = .slice a l.length c := by
  obtain ⟨⟨-, ⟨rfl, h0⟩ | ⟨g, cap, cur, h1, -⟩⟩, -⟩ := h
  · exact ⟨none, 0, by rw [h0]⟩
  · exact ⟨_, cap, h1⟩
theorem RowOf.len (h : RowOf enc k E base w v l) : l.length ≤ maxLen := by
  obtain ⟨⟨-, ⟨-, h0⟩ | ⟨g, cap, cur, h1, h2, h3, h4, h5, -⟩⟩, -⟩ := h
  · omega
  · omega
theorem RowOf.cells (hk : ∀ x, (enc x).size = k) (h : RowOf enc k E base w v l) (j : Nat) (hj : j < l.length) : ∃ b c, v = .slice (some ⟨b, 0, none⟩) l.length c ∧ base ≤ b ∧ b < w.heap.size ∧ ∀ i, i < k → w.cell? ⟨b, j * k + i, none⟩ = (enc l[j])[i]? := by
  obtain ⟨⟨-, ⟨-, h0⟩ | ⟨g, cap, cur, h1, h2, h3, h4, h5, h6, h7⟩⟩, -⟩ := h
  · omega
  · refine ⟨g, cap, h1, h2, lt_of_block h3, fun i hi => ?_⟩
    rw [Blk.cell (t := E) (show Blk w g cur E from h3), ← flatE_get hk l j i hj hi, ← h7]
    have : j * k + i < l.length * k := by
      have : (j + 1) * k ≤ l.length * k := Nat.mul_le_mul_right k (by omega)
      rw [Nat.add_mul] at this
      omega
    rw [List.getElem?_take_of_lt this, Array.getElem?_toList]
end
/-- what has been appended to -/
theorem RowOf.mk' {α : Type} {enc : α → Array Value} {k : Nat} {E : TypeId} {base n : Nat} {w : World} {v : Value} {l : List α} {xs : List Value} (h : w.ownsRow base E k v n xs) (hn : n = l.length) (hx : xs = flatE enc l) (hne : v = .slice none 0 0 ↔ l = []) : RowOf enc k E base w v l := by
  subst hn; subst hx; exact ⟨h, hne⟩
theorem Ext.grownAt {x y z : World} {base k n : Nat} {e : TypeId} {v : Value} {xs : List Value} (h : Ext x y) (o : y.ownsRow base e k v n xs) (hb : x.heap.size ≤ base) (g : y.grownBy z v.ownBlock) : Ext x z := by
  refine Below.grown h g h.sz fun r hr => ?_
  obtain ⟨-, ⟨rfl, -⟩ | ⟨g', cap, cur, rfl, h2, -⟩⟩ := o
  · cases hr
  · cases hr; exact Nat.le_trans hb h2
/-- new cells, where a law looks for them -/
theorem blk_news {w : World} {b : Nat} {C : Array Value} {t : TypeId} (h : Blk w b C t) : ∀ j u, C.toList[j]? = some u → w.cell? ((⟨b, 0, none⟩ : Addr).add j) = some u := by
  intro j u hu
  have e : ((⟨b, 0, none⟩ : Addr).add j) = ⟨b, 0 + j, none⟩ := by unfold Addr.add; split <;> simp_all
  rw [e, Nat.zero_add, h.cell]
  simpa using hu
end Go.Proofs.YtnlmbmbalmkiiaaGreat
