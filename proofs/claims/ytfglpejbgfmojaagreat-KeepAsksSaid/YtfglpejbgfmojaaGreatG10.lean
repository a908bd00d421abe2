/- A range over a map of slots, whose round may delete the slot that came. Rows of elements of any make, in memory of the call's own. Slices whose elements are known, wherever they lie. A region that draws its order, whose operations read and whose callees make memory, but for one store, to a block that is read by none of them: one walk. An api.Rule that comes in as an argument, opened. -/
import Derived.Maps.RangeWalk
import Derived.OwnWalk
import Derived.Laws.AppendOwn
import Derived.StillTail
import Derived.Deep.MidRow
import Derived.Test.YtfglpejbgfmojaaGreatProg
import Derived.Lib.SmallJoins
import Derived.Test.YtfglpejbgfmojaaGreatG6
import Derived.Test.YtfglpejbgfmojaaGreatG2
import Derived.Test.YtfglpejbgfmojaaGreatG4

/- A range over a map of slots, whose round may delete the slot that came. -/
namespace Go.Proofs.YtfglpejbgfmojaaGreat
open Go.RowKit
set_option linter.unusedVariables false
set_option linter.unusedSimpArgs false

theorem mem_ents {l : SMap} {e : MapEntry} (h : e ∈ (ents l).toList) : ∃ x ∈ l, e = ent x := by
  simp [ents] at h
  obtain ⟨a, b, h1, h2⟩ := h
  exact ⟨(a, b), h1, h2.symm⟩
theorem ents_mem {l : SMap} {x : Slot × Nat} (h : x ∈ l) : ent x ∈ (ents l).toList := by
  simp [ents]
  exact ⟨x.1, x.2, h, rfl⟩

/-- an iterator over a map of slots: nothing was laid into it since the loop began -/
structure IterAt (w : World) (r b : Nat) (l : SMap) (c : Nat) (seen : Array Nat) : Prop where
  map : MapIs w b l c
  it : ∃ c0, w.heap[r]? = some (.mapIter (some b) c seen c0) ∧ c ≤ c0
  old : ∀ x ∈ l, x.2 < c
  born : (l.map (·.2)).Nodup
theorem IterAt.ne {w : World} {r b c : Nat} {l : SMap} {seen : Array Nat} (h : IterAt w r b l c seen) : b ≠ r := fun e => by
  subst e
  obtain ⟨c0, h1, -⟩ := h.it
  have := (show w.heap[b]? = some (.map (ents l) c) from h.map).symm.trans h1
  cases this
theorem IterAt.lt {w : World} {r b c : Nat} {l : SMap} {seen : Array Nat} (h : IterAt w r b l c seen) : r < w.heap.size := by
  obtain ⟨c0, h1, -⟩ := h.it
  exact lt_of_block h1
theorem IterAt.ext {w w' : World} {r b c : Nat} {l : SMap} {seen : Array Nat} (h : IterAt w r b l c seen) (e : Ext w w') : IterAt w' r b l c seen := by
  obtain ⟨c0, h1, h2⟩ := h.it
  exact ⟨h.map.ext e, ⟨c0, (e.block h.lt).trans h1, h2⟩, h.old, h.born⟩

/-- how many are to come -/
def toCome (l : SMap) (seen : Array Nat) : Nat := (l.filter fun x => !seen.contains x.2).length
theorem leftOf_ents (l : SMap) (seen : Array Nat) : leftOf (ents l) seen = ents (l.filter fun x => !seen.contains x.2) := by
  unfold leftOf ents
  rw [List.filter_toArray, List.filter_map]
  rfl
theorem leftOf_size (l : SMap) (seen : Array Nat) : (leftOf (ents l) seen).size = toCome l seen := by
  rw [leftOf_ents]; simp [ents, toCome]
theorem IterAt.left {w : World} {r b c : Nat} {l : SMap} {seen : Array Nat} (h : IterAt w r b l c seen) : w.rangeLeft b r = toCome l seen := by
  obtain ⟨c0, h1, h2⟩ := h.it
  unfold World.rangeLeft
  rw [show w.heap[b]? = some (.map (ents l) c) from h.map, h1]
  exact leftOf_size l seen

theorem toCome_zero {l : SMap} {seen : Array Nat} (h : toCome l seen = 0) : ∀ x ∈ l, seen.contains x.2 = true := by
  intro x hx
  have h1 : (l.filter fun x => !seen.contains x.2) = [] := List.length_eq_zero_iff.1 h
  have h2 := List.filter_eq_nil_iff.1 h1 x hx
  simpa using h2
theorem toCome_push {l : SMap} {seen : Array Nat} {s : Slot} {n : Nat} (h : (s, n) ∈ l) (hs : seen.contains n = false) : toCome l (seen.push n) < toCome l seen := by
  unfold toCome
  refine filter_length_lt ?_ (s, n) h (by simpa using hs) (by simp)
  intro x hx
  simp only [Array.contains_push] at hx
  simp at hx ⊢
  exact hx.1
where filter_length_lt {α : Type} {p q : α → Bool} {l : List α} (hpq : ∀ x, q x = true → p x = true) (e : α) (he : e ∈ l) (hp : p e = true) (hq : q e = false) : (l.filter q).length < (l.filter p).length := filter_lt p q hpq e hp hq l he
theorem toCome_del {l : SMap} {seen : Array Nat} (k : ByteArray) : toCome (l.del k) seen ≤ toCome l seen := by
  unfold toCome SMap.del
  rw [List.filter_filter]
  refine List.Sublist.length_le ?_
  rw [← List.filter_filter, List.filter_filter]
  have : (List.filter (fun a => (!seen.contains a.2) && decide (a.1.key ≠ k)) l) = List.filter (fun x => decide (x.1.key ≠ k)) (List.filter (fun x => !seen.contains x.2) l) := by
    rw [List.filter_filter]
    congr 1
    funext a
    exact Bool.and_comm _ _
  rw [this]
  exact List.filter_sublist

section
variable {P : Program} {t k e : TypeId}
theorem run_srange (ht : P.underlying t = some (.map k e)) {w : World} {b c : Nat} {l : SMap} (h : MapIs w b l c) (ho : ∀ x ∈ l, x.2 < c) (hb : (l.map (·.2)).Nodup) :
    (Instr.range t (.map (some b))).run P w = .ok (.pointer (some ⟨w.heap.size, 0, none⟩)) (w.alloc (.mapIter (some b) c #[] c)) ∧ IterAt (w.alloc (.mapIter (some b) c #[] c)) w.heap.size b l c #[] :=
  ⟨run_range_map w t k e b (ents l) c ht h, h.ext ((Ext.refl w).alloc _), ⟨c, map_new_at w _, Nat.le_refl _⟩, ho, hb⟩

theorem run_snext {w : World} {r b c : Nat} {l : SMap} {seen : Array Nat} (h : IterAt w r b l c seen) :
    (toCome l seen = 0 ∧ ∀ ty, (Instr.next (.pointer (some ⟨r, 0, none⟩)) false ty).run P w = .ok (.tuple #[.bool false]) w) ∨
    ∃ s n w', (s, n) ∈ l ∧ seen.contains n = false ∧ (∀ ty, (Instr.next (.pointer (some ⟨r, 0, none⟩)) false ty).run P w = .ok (.tuple #[.bool true, .string s.key, s.val]) w') ∧
      IterAt w' r b l c (seen.push n) ∧ ExtB r w w' ∧ (Instr.entry (.pointer (some ⟨r, 0, none⟩))).run P w' = .ok (.tuple #[.string s.key, s.val]) w' := by
  have hne := h.ne
  obtain ⟨hm, ⟨c0, hr, hc⟩, ho, hbn⟩ := h
  have hold : ∀ x ∈ (ents l).toList, x.born < c := fun x hx => by
    obtain ⟨y, hy, rfl⟩ := mem_ents hx
    exact ho y hy
  have hbn' : ((ents l).toList.map (·.born)).Nodup := by
    simpa [ents, ent, Function.comp_def] using hbn
  by_cases hz : (leftOf (ents l) seen).size = 0
  · refine Or.inl ⟨by rw [← leftOf_size]; exact hz, fun ty => ?_⟩
    rcases run_next_at (P := P) w ty r b c c0 seen (ents l) c hr hm hold hc with ⟨h0, hrun⟩ | ⟨e, he, w1, hal, hrun⟩
    · exact hrun
    · exfalso
      have : leftOf (ents l) seen = #[] := Array.eq_empty_of_size_eq_zero hz
      rw [this] at he
      simp at he
  · rcases run_next_at (P := P) w 0 r b c c0 seen (ents l) c hr hm hold hc with ⟨h0, hrun⟩ | ⟨e, he, w1, hal, hrun⟩
    · exact absurd h0 hz
    · obtain ⟨hem, hes⟩ := mem_left he
      obtain ⟨⟨s, n⟩, hx, rfl⟩ := mem_ents hem
      have hset := MapKept.heap_set (o' := .mapIter (some b) c (seen.push n) c) (show w1.heap[r]? = some (.mapIter (some b) c seen c0) by rcases hal with rfl | rfl <;> exact hr)
      have hb1 : w1.heap[b]? = some (.map (ents l) c) := by rcases hal with rfl | rfl <;> exact hm
      refine Or.inr ⟨s, n, ChangeMaps.setBlock w1 r (.mapIter (some b) c (seen.push n) c), hx, hes, fun ty => ?_, ⟨(hset.2 b hne).trans hb1, ⟨c, hset.1, Nat.le_refl _⟩, ho, hbn⟩, ?_, ?_⟩
      · exact hrun
      · rcases hal with rfl | rfl <;> exact ⟨rfl, rfl, rfl, by simp [ChangeMaps.setBlock], fun i _ hi => hset.2 i hi⟩
      · exact run_entry_at _ r b c seen (ents l) c _ hset.1 ((hset.2 b hne).trans hb1) (ents_mem hx) hbn'
end

/-- what is left of a map, when those that came and are of p are gone -/
def swept (p : Slot → Bool) (l : SMap) (seen : Array Nat) : SMap := l.filter fun x => !(seen.contains x.2 && p x.1)
theorem swept_start (p : Slot → Bool) (l : SMap) : swept p l #[] = l := by
  unfold swept
  rw [List.filter_eq_self]
  intro x _
  simp
theorem swept_end {p : Slot → Bool} {l : SMap} {seen : Array Nat} (h : toCome (swept p l seen) seen = 0) : swept p l seen = l.filter fun x => !p x.1 := by
  have h1 := toCome_zero h
  unfold swept at h1 ⊢
  refine List.filter_congr fun x hx => ?_
  cases hp : p x.1 with
  | false => simp
  | true =>
    cases hs : seen.contains x.2 with
    | true => simp
    | false =>
      have := h1 x (List.mem_filter.2 ⟨hx, by rw [hs]; rfl⟩)
      rw [hs] at this
      cases this
theorem map_inj {α β : Type} (f : α → β) : ∀ {l : List α}, (l.map f).Nodup → ∀ {x y : α}, x ∈ l → y ∈ l → f x = f y → x = y
  | [], _, _, _, hx, _, _ => by cases hx
  | a :: l, hn, x, y, hx, hy, h => by
    have hn' : f a ∉ l.map f ∧ (l.map f).Nodup := List.nodup_cons.1 hn
    rcases List.mem_cons.1 hx with e1 | hx'
    · rcases List.mem_cons.1 hy with e2 | hy'
      · rw [e1, e2]
      · exact absurd (List.mem_map.2 ⟨y, hy', by rw [← h, e1]⟩) hn'.1
    · rcases List.mem_cons.1 hy with e2 | hy'
      · exact absurd (List.mem_map.2 ⟨x, hx', by rw [h, e2]⟩) hn'.1
      · exact map_inj f hn'.2 hx' hy' h
theorem born_eq {l : SMap} (hn : (l.map (·.2)).Nodup) {x y : Slot × Nat} (hx : x ∈ l) (hy : y ∈ l) (h : x.2 = y.2) : x = y := map_inj (·.2) hn hx hy h
theorem key_eq {l : SMap} (hn : l.keys.Nodup) {x y : Slot × Nat} (hx : x ∈ l) (hy : y ∈ l) (h : x.1.key = y.1.key) : x = y := map_inj (fun x : Slot × Nat => x.1.key) (l := l) hn hx hy h
theorem swept_stays {p : Slot → Bool} {l : SMap} {seen : Array Nat} (hn : (l.map (·.2)).Nodup) {s : Slot} {n : Nat} (h : (s, n) ∈ swept p l seen) (hp : p s = false) : swept p l (seen.push n) = swept p l seen := by
  have hl : (s, n) ∈ l := (List.mem_filter.1 h).1
  refine List.filter_congr fun x hx => ?_
  by_cases e : x.2 = n
  · have := born_eq hn hx hl e
    subst this
    simp [hp]
  · have e' : (x.2 == n) = false := by simpa using e
    rw [Array.contains_push, e', Bool.or_false]
theorem swept_struck {p : Slot → Bool} {l : SMap} {seen : Array Nat} (hn : (l.map (·.2)).Nodup) (hk : l.keys.Nodup) {s : Slot} {n : Nat} (h : (s, n) ∈ swept p l seen) (hp : p s = true) : swept p l (seen.push n) = (swept p l seen).del s.key := by
  have hl : (s, n) ∈ l := (List.mem_filter.1 h).1
  unfold swept SMap.del
  rw [List.filter_filter]
  refine List.filter_congr fun x hx => ?_
  rw [Array.contains_push]
  by_cases e : x.2 = n
  · have := born_eq hn hx hl e
    subst this
    simp [hp]
  · have hkk : x.1.key ≠ s.key := fun q => e (by have := key_eq hk hx hl q; subst this; rfl)
    have e' : (x.2 == n) = false := by simpa using e
    rw [e', Bool.or_false, decide_eq_true hkk, Bool.true_and]
theorem swept_born {p : Slot → Bool} {l : SMap} {seen : Array Nat} (hn : (l.map (·.2)).Nodup) : ((swept p l seen).map (·.2)).Nodup := hn.sublist (List.filter_sublist.map _)
theorem swept_keys {p : Slot → Bool} {l : SMap} {seen : Array Nat} (hn : l.keys.Nodup) : (swept p l seen).keys.Nodup := hn.sublist (List.filter_sublist.map _)
theorem swept_mem {p : Slot → Bool} {l : SMap} {seen : Array Nat} {x : Slot × Nat} (h : x ∈ swept p l seen) : x ∈ l := (List.mem_filter.1 h).1
end Go.Proofs.YtfglpejbgfmojaaGreat

/- Rows of elements of any make, in memory of the call's own. -/
namespace Go.Proofs.YtfglpejbgfmojaaGreat
open Go.RowKit
set_option linter.unusedVariables false
set_option linter.unusedSimpArgs false

/-- the cells of a list of elements -/
def flatE {α : Type} (enc : α → Array Value) (l : List α) : List Value := l.flatMap fun x => (enc x).toList
theorem flatE_nil {α : Type} (enc : α → Array Value) : flatE enc [] = [] := rfl
theorem flatE_snoc {α : Type} (enc : α → Array Value) (l : List α) (x : α) : flatE enc (l ++ [x]) = flatE enc l ++ (enc x).toList := by unfold flatE; rw [List.flatMap_append]; simp
theorem flatE_len {α : Type} {enc : α → Array Value} {k : Nat} (hk : ∀ x, (enc x).size = k) (l : List α) : (flatE enc l).length = l.length * k := by
  induction l with
  | nil => simp [flatE]
  | cons s l ih =>
    show ((enc s).toList ++ flatE enc l).length = _
    rw [List.length_append, ih, List.length_cons, Array.length_toList, hk, Nat.add_mul]
    omega
theorem flatE_get {α : Type} {enc : α → Array Value} {k : Nat} (hk : ∀ x, (enc x).size = k) : ∀ (l : List α) (j i : Nat) (h : j < l.length), i < k → (flatE enc l)[j * k + i]? = (enc l[j])[i]?
  | [], j, i, h, _ => by simp at h
  | x :: l, 0, i, h, hi => by
    show ((enc x).toList ++ flatE enc l)[0 * k + i]? = _
    rw [List.getElem?_append_left (by rw [Array.length_toList, hk]; omega)]
    simp
  | x :: l, j + 1, i, h, hi => by
    show ((enc x).toList ++ flatE enc l)[(j + 1) * k + i]? = _
    have e : (j + 1) * k + i = j * k + i + k := by rw [Nat.add_mul]; omega
    rw [List.getElem?_append_right (by rw [Array.length_toList, hk, e]; omega), Array.length_toList, hk, e, Nat.add_sub_cancel]
    have := flatE_get hk l j i (by simpa using h) hi
    simpa using this

theorem own_ext {w w' : World} {base k n : Nat} {E : TypeId} {v : Value} {xs : List Value} (h : w.ownsRow base E k v n xs) (e : Ext w w') : w'.ownsRow base E k v n xs := by
  obtain ⟨h0, h | ⟨g, cap, cur, h1, h2, h3, h4, h5, h6, h7⟩⟩ := h
  · exact ⟨h0, Or.inl h⟩
  · exact ⟨h0, Or.inr ⟨g, cap, cur, h1, h2, (e.block (lt_of_block h3)).trans h3, h4, h5, h6, h7⟩⟩
theorem own_extB {w w' : World} {base k n b : Nat} {E : TypeId} {v : Value} {xs : List Value} (h : w.ownsRow base E k v n xs) (e : ExtB b w w') (hb : b < base) : w'.ownsRow base E k v n xs := by
  obtain ⟨h0, h | ⟨g, cap, cur, h1, h2, h3, h4, h5, h6, h7⟩⟩ := h
  · exact ⟨h0, Or.inl h⟩
  · exact ⟨h0, Or.inr ⟨g, cap, cur, h1, h2, (e.block _ (lt_of_block h3) (by omega)).trans h3, h4, h5, h6, h7⟩⟩

/-- a slice of its own that reads as a list -/
structure RowOf {α : Type} (enc : α → Array Value) (k : Nat) (E : TypeId) (base : Nat) (w : World) (v : Value) (l : List α) : Prop where
  own : w.ownsRow base E k v l.length (flatE enc l)
  nil : v = .slice none 0 0 ↔ l = []
section
variable {α : Type} {enc : α → Array Value} {k : Nat} {E : TypeId} {base : Nat} {w w' : World} {v : Value} {l : List α}
theorem RowOf.empty (enc : α → Array Value) (k : Nat) (E : TypeId) (base : Nat) (w : World) : RowOf enc k E base w (.slice none 0 0) [] := ⟨World.ownsRow_nil _ _ _ _, by simp⟩
theorem RowOf.ext (h : RowOf enc k E base w v l) (e : Ext w w') : RowOf enc k E base w' v l := ⟨own_ext h.own e, h.nil⟩
theorem RowOf.extB {b : Nat} (h : RowOf enc k E base w v l) (e : ExtB b w w') (hb : b < base) : RowOf enc k E base w' v l := ⟨own_extB h.own e hb, h.nil⟩
theorem RowOf.low {b : Nat} (h : RowOf enc k E base w v l) (hb : b ≤ base) : RowOf enc k E b w v l := by
  obtain ⟨⟨h0, h | ⟨g, cap, cur, h1, h2, h3⟩⟩, hn⟩ := h
  · exact ⟨⟨h0, Or.inl h⟩, hn⟩
  · exact ⟨⟨h0, Or.inr ⟨g, cap, cur, h1, Nat.le_trans hb h2, h3⟩⟩, hn⟩
theorem RowOf.size (h : RowOf enc k E base w v l) : ∃ a c, v = .slice a l.length c := by
  obtain ⟨⟨-, ⟨rfl, h0⟩ | ⟨g, cap, cur, h1, -⟩⟩, -⟩ := h
  · exact ⟨none, 0, by rw [h0]⟩
  · exact ⟨_, cap, h1⟩
theorem RowOf.len (h : RowOf enc k E base w v l) : l.length ≤ maxLen := by
  obtain ⟨⟨-, ⟨-, h0⟩ | ⟨g, cap, cur, h1, h2, h3, h4, h5, -⟩⟩, -⟩ := h
  · omega
  · omega
theorem RowOf.cells (hk : ∀ x, (enc x).size = k) (h : RowOf enc k E base w v l) (j : Nat) (hj : j < l.length) : ∃ b c, v = .slice (some ⟨b, 0, none⟩) l.length c ∧ base ≤ b ∧ b < w.heap.size ∧ ∀ i, i < k → w.cell? ⟨b, j * k + i, none⟩ = (enc l[j])[i]? := by
  obtain ⟨⟨-, ⟨-, h0⟩ | ⟨g, cap, cur, h1, h2, h3, h4, h5, h6, h7⟩⟩, -⟩ := h
  · omega
  · refine ⟨g, cap, h1, h2, lt_of_block h3, fun i hi => ?_⟩
    rw [Blk.cell (t := E) (show Blk w g cur E from h3), ← flatE_get hk l j i hj hi, ← h7]
    have : j * k + i < l.length * k := by
      have : (j + 1) * k ≤ l.length * k := Nat.mul_le_mul_right k (by omega)
      rw [Nat.add_mul] at this
      omega
    rw [List.getElem?_take_of_lt this, Array.getElem?_toList]
end
/-- what has been appended to -/
theorem RowOf.mk' {α : Type} {enc : α → Array Value} {k : Nat} {E : TypeId} {base n : Nat} {w : World} {v : Value} {l : List α} {xs : List Value} (h : w.ownsRow base E k v n xs) (hn : n = l.length) (hx : xs = flatE enc l) (hne : v = .slice none 0 0 ↔ l = []) : RowOf enc k E base w v l := by
  subst hn; subst hx; exact ⟨h, hne⟩
theorem Ext.grownAt {x y z : World} {base k n : Nat} {e : TypeId} {v : Value} {xs : List Value} (h : Ext x y) (o : y.ownsRow base e k v n xs) (hb : x.heap.size ≤ base) (g : y.grownBy z v.ownBlock) : Ext x z := by
  refine Below.grown h g h.sz fun r hr => ?_
  obtain ⟨-, ⟨rfl, -⟩ | ⟨g', cap, cur, rfl, h2, -⟩⟩ := o
  · cases hr
  · cases hr; exact Nat.le_trans hb h2
/-- new cells, where a law looks for them -/
theorem blk_news {w : World} {b : Nat} {C : Array Value} {t : TypeId} (h : Blk w b C t) : ∀ j u, C.toList[j]? = some u → w.cell? ((⟨b, 0, none⟩ : Addr).add j) = some u := by
  intro j u hu
  have e : ((⟨b, 0, none⟩ : Addr).add j) = ⟨b, 0 + j, none⟩ := by unfold Addr.add; split <;> simp_all
  rw [e, Nat.zero_add, h.cell]
  simpa using hu
end Go.Proofs.YtfglpejbgfmojaaGreat

/- Slices whose elements are known, wherever they lie. -/
namespace Go.Proofs.YtfglpejbgfmojaaGreat
open Go.RowKit
set_option linter.unusedVariables false
set_option linter.unusedSimpArgs false

section
variable {α : Type} {enc : α → Array Value} {k : Nat} {w w' : World} {v : Value} {l : List α}
/-- a slice whose elements are these -/
def ElemsAt (enc : α → Array Value) (k : Nat) (w : World) (v : Value) (l : List α) : Prop :=
  ∃ a c, v = .slice a l.length c ∧ (l ≠ [] → ∃ b o, a = some ⟨b, o, none⟩ ∧ ∀ j (h : j < l.length) i, i < k → w.cell? ⟨b, o + (j * k + i), none⟩ = (enc l[j])[i]?)
theorem ElemsAt.ext (hk : ∀ x, (enc x).size = k) (h : ElemsAt enc k w v l) (e : Ext w w') : ElemsAt enc k w' v l := by
  obtain ⟨a, c, hv, hl⟩ := h
  refine ⟨a, c, hv, fun hne => ?_⟩
  obtain ⟨b, o, ha, hc⟩ := hl hne
  refine ⟨b, o, ha, fun j hj i hi => ?_⟩
  have := hc j hj i hi
  rw [Array.getElem?_eq_getElem (by rw [hk]; exact hi)] at this ⊢
  exact e.keep this
theorem ElemsAt.size (h : ElemsAt enc k w v l) : ∃ a c, v = .slice a l.length c := by
  obtain ⟨a, c, hv, -⟩ := h
  exact ⟨a, c, hv⟩
theorem ElemsAt.nil (enc : α → Array Value) (k : Nat) (w : World) : ElemsAt enc k w (.slice none 0 0) [] := ⟨_, _, rfl, fun h => absurd rfl h⟩
theorem ElemsAt.cells (hk : ∀ x, (enc x).size = k) (hk0 : 0 < k) {a : Option Addr} {n c : Nat} (h : ElemsAt enc k w (.slice a n c) l) (j : Nat) (hj : j < l.length) :
    ∃ b o, a = some ⟨b, o, none⟩ ∧ b < w.heap.size ∧ ∀ i, i < k → w.cell? ⟨b, o + (j * k + i), none⟩ = (enc l[j])[i]? := by
  obtain ⟨a', c', hv, hl⟩ := h
  simp at hv
  obtain ⟨rfl, -, -⟩ := hv
  obtain ⟨b, o, ha, hc⟩ := hl (by intro e; rw [e] at hj; simp at hj)
  refine ⟨b, o, ha, ?_, fun i hi => hc j hj i hi⟩
  have := hc j hj 0 hk0
  rw [Array.getElem?_eq_getElem (by rw [hk]; exact hk0)] at this
  exact cell_lt this
theorem RowOf.elems (hk : ∀ x, (enc x).size = k) {E : TypeId} {base : Nat} (h : RowOf enc k E base w v l) : ElemsAt enc k w v l := by
  obtain ⟨a, c, rfl⟩ := h.size
  refine ⟨a, c, rfl, fun hne => ?_⟩
  have h0 : 0 < l.length := List.length_pos_iff.2 hne
  obtain ⟨b, c', hv, -, -, -⟩ := h.cells hk 0 h0
  simp at hv
  refine ⟨b, 0, hv.1, fun j hj i hi => ?_⟩
  obtain ⟨b', c'', hv', -, -, hc⟩ := h.cells hk j hj
  simp at hv'
  have : b' = b := by
    have := hv.1.symm.trans hv'.1
    simp at this
    exact this.symm
  subst this
  rw [Nat.zero_add]
  exact hc i hi
end
end Go.Proofs.YtfglpejbgfmojaaGreat

/- A region that draws its order, whose operations read and whose callees make memory, but for one store, to a block that is read by none of them: one walk. -/
namespace Go.Proofs.YtfglpejbgfmojaaGreat
open Go.RowKit
set_option linter.unusedVariables false

section
variable {P : Program} {ops : Array Oper} {md : Region.Mode} {C : Bool → World → Prop}

/-- the store's step: from the one class into the other -/
def StoreOk (P : Program) (ops : Array Oper) (C : Bool → World → Prop) (o : Oper) (a : Act) : Prop :=
  o.dst = none ∧ Region.wanted o (yielded ops a.tmps) = true ∧ ∀ w, C false w → ∃ w', (execOp a.eval o).run P w = .ok .skip w' ∧ C true w'
/-- an operation yields a value in both classes -/
def YieldsB (P : Program) (ops : Array Oper) (C : Bool → World → Prop) (o : Oper) (v : Value) (a : Act) : Prop := ∀ b, YieldsIn P ops (C b) o v a

/-- .. but for those that always come ahead of the store, in the first class alone -/
def YieldsE (P : Program) (ops : Array Oper) (C : Bool → World → Prop) (E : Nat → Bool) (i : Nat) (o : Oper) (v : Value) (a : Act) : Prop :=
  YieldsIn P ops (C false) o v a ∧ (E i = false → YieldsIn P ops (C true) o v a)
/-- what an operation waits for has come, if it has -/
def InvW (md : Region.Mode) (ops : Array Oper) (listed : Array Bool) : Prop := ∀ j, listed.getD j true = true → ∀ i, Region.waitsFor md ops j i = true → listed.getD i true = true

/-- whatever order is picked -/
def anyB (P : Program) (md : Region.Mode) (ops : Array Oper) (C : Bool → World → Prop) (E : Nat → Bool) (n : Nat) (K : Act → Prop) : Nat → Array Bool → Act → Prop
  | 0, listed, a => Region.ready md ops listed = [] ∧ listed.getD n true = true ∧ K a
  | f + 1, listed, a => (Region.ready md ops listed = [] → listed.getD n true = true ∧ K a) ∧ ∀ i ∈ Region.ready md ops listed,
    (i ≠ n → ∃ o v, ops[i]? = some o ∧ YieldsE P ops C E i o v a ∧ anyB P md ops C E n K f (listed.setIfInBounds i true) (a.put o.dst v)) ∧
    (i = n → ∃ o, ops[n]? = some o ∧ StoreOk P ops C o a ∧ anyB P md ops C E n K f (listed.setIfInBounds n true) a)

theorem invW_set {listed : Array Bool} (h : InvW md ops listed) {i : Nat} (hi : i ∈ Region.ready md ops listed) : InvW md ops (listed.setIfInBounds i true) := by
  have put : ∀ k, listed.getD k true = true → (listed.setIfInBounds i true).getD k true = true := fun k hk => by
    by_cases hki : i = k
    · subst hki
      rw [(mem_ready.1 hi).1] at hk; cases hk
    · rw [getD_set_ne true hki]; exact hk
  intro j hj k hk
  by_cases hij : i = j
  · subst hij
    obtain ⟨on, hon, e, he, hb, hej⟩ := Region.waitsFor_spec hk
    obtain ⟨_, oo, hoo, hall⟩ := mem_ready.1 hi
    have e2 : on = oo := Option.some.inj (hon.symm.trans hoo)
    subst e2
    have h3 := hall e he hb
    rw [hej] at h3
    have h4 := getD_set_true (i := i) h3
    rcases Nat.lt_or_ge k (listed.setIfInBounds i true).size with q | q
    · simp only [Array.getD_eq_getD_getElem?, Array.getElem?_eq_getElem q, Option.getD_some] at h4 ⊢
      exact h4
    · simp [Array.getElem?_eq_none q] at h4
  · rw [getD_set_ne true hij] at hj
    exact put k (h j hj k hk)
theorem anyB_wp {E : Nat → Bool} {n : Nat} {K : Act → Prop} {Q : Exit → Act → World → Prop} (hQ : ∀ a w, C true w → K a → Q .normal a w) (hE : ∀ listed, InvW md ops listed → listed.getD n true = true → ∀ i, E i = true → listed.getD i true = true) :
    ∀ (f : Nat) (listed : Array Bool) (a : Act) (w : World), listed.size = ops.size → InvW md ops listed → C (listed.getD n true) w → anyB P md ops C E n K f listed a → wpAny P md ops Q f listed a w
  | 0, listed, a, w, hs, hcl, hw, h => by
    rw [h.2.1] at hw
    exact ⟨h.1, hQ _ _ hw h.2.2⟩
  | f + 1, listed, a, w, hs, hcl, hw, h => by
    refine ⟨fun h0 => ?_, fun i hi => ?_⟩
    · obtain ⟨h1, h2⟩ := h.1 h0
      rw [h1] at hw
      exact hQ _ _ hw h2
    · by_cases hin : i = n
      · subst hin
        obtain ⟨o, ho, ⟨hd, hwt, hst⟩, hn⟩ := (h.2 i hi).2 rfl
        have hun := (mem_ready.1 hi).1
        rw [hun] at hw
        obtain ⟨w', hr, hw'⟩ := hst w hw
        have hlt : i < listed.size := by rw [hs]; exact (Array.getElem?_eq_some_iff.1 ho).1
        unfold wpOp
        simp only [ho, hwt, if_true, Oper.wp, hr, Oper.upon]
        refine .inl ?_
        rw [hd]
        exact anyB_wp hQ hE f _ a w' (by simpa using hs) (invW_set hcl hi) (by simpa [hlt] using hw') hn
      · obtain ⟨o, v, ho, hy, hn⟩ := (h.2 i hi).1 hin
        have hlis : (listed.setIfInBounds i true).getD n true = listed.getD n true := getD_set_ne true hin
        refine wpOp_of_qOp hw (fun a' w' hw' (h' : anyB P md ops C E n K f (listed.setIfInBounds i true) a') => anyB_wp hQ hE f _ a' w' (by simpa using hs) (invW_set hcl hi) (by rw [hlis]; exact hw') h') ?_
        cases hst : listed.getD n true with
        | false => exact hy.1.qOp ho hn
        | true =>
          refine (hy.2 ?_).qOp ho hn
          cases hwf : E i with
          | false => rfl
          | true =>
            have := hE listed hcl hst i hwf
            rw [(mem_ready.1 hi).1] at this; cases this

/-- all that an operation waits for, in the end -/
def early (md : Region.Mode) (ops : Array Oper) : List Nat → List Nat → List Nat
  | [], S => S
  | i :: r, S => early md ops r (if S.any (fun j => Region.waitsFor md ops j i) then i :: S else S)
theorem early_ok {listed : Array Bool} (h : InvW md ops listed) : ∀ (r S : List Nat), (∀ x ∈ S, listed.getD x true = true) → ∀ x ∈ early md ops r S, listed.getD x true = true
  | [], S, hS, x, hx => hS x hx
  | i :: r, S, hS, x, hx => by
    unfold early at hx
    refine early_ok h r _ ?_ x hx
    by_cases hc : S.any (fun j => Region.waitsFor md ops j i) = true
    · rw [if_pos hc]
      obtain ⟨j, hj, hw⟩ := List.any_eq_true.1 hc
      intro y hy
      rcases List.mem_cons.1 hy with rfl | q
      · exact h j (hS j hj) _ hw
      · exact hS y q
    · rw [if_neg hc]; exact hS
def earlyB (md : Region.Mode) (ops : Array Oper) (n i : Nat) : Bool := (early md ops (List.range n).reverse [n]).contains i
theorem earlyB_ok {n : Nat} (listed : Array Bool) (h : InvW md ops listed) (hn : listed.getD n true = true) (i : Nat) (hi : earlyB md ops n i = true) : listed.getD i true = true :=
  early_ok h _ [n] (fun x hx => by rw [List.mem_singleton.1 hx]; exact hn) i (by simpa [earlyB] using hi)

theorem yieldsB_put {oi oj : Oper} {v u : Value} {a : Act} (hap : oi.apart ops oj = true) (hsi : ∀ cs b, oi.op ≠ .select cs b) (hy : YieldsB P ops C oi v a) : YieldsB P ops C oi v (a.put oj.dst u) := by
  obtain ⟨h1, h2, h3⟩ := Oper.apart_spec hap
  exact fun b => (hy b).of_same (execOp_put oi hsi a oj.dst u h3) (wanted_put oi a oj.dst u h3)
theorem yieldsB_back {oi oj : Oper} {v u : Value} {a : Act} (hap : oi.apart ops oj = true) (hsj : ∀ cs b, oj.op ≠ .select cs b) (hy : YieldsB P ops C oj u (a.put oi.dst v)) : YieldsB P ops C oj u a := by
  obtain ⟨h1, h2, h3⟩ := Oper.apart_spec hap
  exact fun b => (hy b).of_same (execOp_put oj hsj a oi.dst v h1).symm (wanted_put oj a oi.dst v h1).symm

theorem yieldsE_put {E : Nat → Bool} {i : Nat} {oi oj : Oper} {v u : Value} {a : Act} (hap : oi.apart ops oj = true) (hsi : ∀ cs b, oi.op ≠ .select cs b) (hy : YieldsE P ops C E i oi v a) : YieldsE P ops C E i oi v (a.put oj.dst u) := by
  obtain ⟨h1, h2, h3⟩ := Oper.apart_spec hap
  exact ⟨hy.1.of_same (execOp_put oi hsi a oj.dst u h3) (wanted_put oi a oj.dst u h3), fun q => (hy.2 q).of_same (execOp_put oi hsi a oj.dst u h3) (wanted_put oi a oj.dst u h3)⟩
theorem yieldsE_back {E : Nat → Bool} {j : Nat} {oi oj : Oper} {v u : Value} {a : Act} (hap : oi.apart ops oj = true) (hsj : ∀ cs b, oj.op ≠ .select cs b) (hy : YieldsE P ops C E j oj u (a.put oi.dst v)) : YieldsE P ops C E j oj u a := by
  obtain ⟨h1, h2, h3⟩ := Oper.apart_spec hap
  exact ⟨hy.1.of_same (execOp_put oj hsj a oi.dst v h1).symm (wanted_put oj a oi.dst v h1).symm, fun q => (hy.2 q).of_same (execOp_put oj hsj a oi.dst v h1).symm (wanted_put oj a oi.dst v h1).symm⟩

/-- an operation that may come up now may be taken first -/
theorem anyB_first {E : Nat → Bool} {n i : Nat} {K : Act → Prop} {oi : Oper} {v : Value} (hi : ops[i]? = some oi) (hin : i ≠ n) (hsel : ∀ (j : Nat) (o : Oper) cs b, ops[j]? = some o → o.op ≠ .select cs b) :
    ∀ (f : Nat) (listed : Array Bool) (a : Act),
      (∀ j oj, ops[j]? = some oj → j ≠ i → listed.getD j true = false → (∀ e ∈ oj.after, Region.binds md e = true → e.on ≠ i) → oi.apart ops oj = true) →
      i ∈ Region.ready md ops listed → YieldsE P ops C E i oi v a → anyB P md ops C E n K f (listed.setIfInBounds i true) (a.put oi.dst v) → anyB P md ops C E n K (f + 1) listed a := by
  intro f
  induction f with
  | zero =>
    intro listed a hfree hr hy H
    refine ⟨fun h => (by rw [h] at hr; cases hr), fun j hj => ?_⟩
    by_cases hji : j = i
    · subst hji; exact ⟨fun _ => ⟨oi, v, hi, hy, H⟩, fun e => absurd e hin⟩
    · have := ready_mono hj hji
      rw [H.1] at this
      cases this
  | succ f ih =>
    intro listed a hfree hr hy H
    refine ⟨fun h => (by rw [h] at hr; cases hr), fun j hj => ?_⟩
    by_cases hji : j = i
    · subst hji; exact ⟨fun _ => ⟨oi, v, hi, hy, H⟩, fun e => absurd e hin⟩
    have h1 := H.2 j (ready_mono hj hji)
    obtain ⟨hjun, oj, hoj, hall⟩ := mem_ready.1 hj
    have hnot : ∀ e ∈ oj.after, Region.binds md e = true → e.on ≠ i := fun e he hb heq => by
      have h1 := hall e he hb
      have h0 := (mem_ready.1 hr).1
      rw [heq] at h1
      rcases Nat.lt_or_ge i listed.size with h' | h'
      · simp [h'] at h0 h1; rw [h0] at h1; cases h1
      · simp [Array.getElem?_eq_none h'] at h1
    have hap := hfree j oj hoj hji hjun hnot
    have hfree' : ∀ k ok, ops[k]? = some ok → k ≠ i → (listed.setIfInBounds j true).getD k true = false →
        (∀ e ∈ ok.after, Region.binds md e = true → e.on ≠ i) → oi.apart ops ok = true := fun k ok hk hki hun hno => by
      refine hfree k ok hk hki ?_ hno
      by_cases hjk : j = k
      · subst hjk; exact hjun
      · rw [getD_set_ne true hjk] at hun; exact hun
    obtain ⟨p1, p2, p3⟩ := Oper.apart_spec hap
    refine ⟨fun hjn => ?_, fun hjn => ?_⟩
    · obtain ⟨o, u, ho, hyo, hn⟩ := h1.1 hjn
      have e : o = oj := Option.some.inj (ho.symm.trans hoj)
      subst e
      refine ⟨o, u, hoj, yieldsE_back hap (fun cs b => hsel j o cs b hoj) hyo, ih _ _ hfree' (ready_mono hr (Ne.symm hji)) (yieldsE_put hap (fun cs b => hsel i oi cs b hi) hy) ?_⟩
      rw [Array.setIfInBounds_comm _ _ hji, ← Act.put_comm a v u p2]
      exact hn
    · subst hjn
      obtain ⟨o, ho, ⟨hd, hwt, hst⟩, hn⟩ := h1.2 rfl
      have e : o = oj := Option.some.inj (ho.symm.trans hoj)
      subst e
      refine ⟨o, hoj, ⟨hd, by rw [← wanted_put o a oi.dst v p1]; exact hwt, fun w hw => ?_⟩, ih _ _ hfree' (ready_mono hr (Ne.symm hji)) hy ?_⟩
      · rw [← execOp_put o (fun cs b => hsel j o cs b hoj) a oi.dst v p1]
        exact hst w hw
      · rw [Array.setIfInBounds_comm _ _ hji]
        exact hn
/-- the store may be taken first -/
theorem anyB_store {E : Nat → Bool} {n : Nat} {K : Act → Prop} {on : Oper} (hi : ops[n]? = some on) (hsel : ∀ (j : Nat) (o : Oper) cs b, ops[j]? = some o → o.op ≠ .select cs b) :
    ∀ (f : Nat) (listed : Array Bool) (a : Act),
      (∀ j oj, ops[j]? = some oj → j ≠ n → listed.getD j true = false → (∀ e ∈ oj.after, Region.binds md e = true → e.on ≠ n) → on.apart ops oj = true) →
      n ∈ Region.ready md ops listed → StoreOk P ops C on a → anyB P md ops C E n K f (listed.setIfInBounds n true) a → anyB P md ops C E n K (f + 1) listed a := by
  intro f
  induction f with
  | zero =>
    intro listed a hfree hr hy H
    refine ⟨fun h => (by rw [h] at hr; cases hr), fun j hj => ?_⟩
    by_cases hji : j = n
    · subst hji; exact ⟨fun e => absurd rfl e, fun _ => ⟨on, hi, hy, H⟩⟩
    · have := ready_mono hj hji
      rw [H.1] at this
      cases this
  | succ f ih =>
    intro listed a hfree hr hy H
    refine ⟨fun h => (by rw [h] at hr; cases hr), fun j hj => ?_⟩
    by_cases hji : j = n
    · subst hji; exact ⟨fun e => absurd rfl e, fun _ => ⟨on, hi, hy, H⟩⟩
    have h1 := H.2 j (ready_mono hj hji)
    obtain ⟨hjun, oj, hoj, hall⟩ := mem_ready.1 hj
    have hnot : ∀ e ∈ oj.after, Region.binds md e = true → e.on ≠ n := fun e he hb heq => by
      have h1 := hall e he hb
      have h0 := (mem_ready.1 hr).1
      rw [heq] at h1
      rcases Nat.lt_or_ge n listed.size with h' | h'
      · simp [h'] at h0 h1; rw [h0] at h1; cases h1
      · simp [Array.getElem?_eq_none h'] at h1
    have hap := hfree j oj hoj hji hjun hnot
    have hfree' : ∀ k ok, ops[k]? = some ok → k ≠ n → (listed.setIfInBounds j true).getD k true = false →
        (∀ e ∈ ok.after, Region.binds md e = true → e.on ≠ n) → on.apart ops ok = true := fun k ok hk hki hun hno => by
      refine hfree k ok hk hki ?_ hno
      by_cases hjk : j = k
      · subst hjk; exact hjun
      · rw [getD_set_ne true hjk] at hun; exact hun
    obtain ⟨p1, p2, p3⟩ := Oper.apart_spec hap
    refine ⟨fun hjn => ?_, fun hjn => absurd hjn hji⟩
    obtain ⟨o, u, ho, hyo, hn⟩ := h1.1 hjn
    have e : o = oj := Option.some.inj (ho.symm.trans hoj)
    subst e
    obtain ⟨hd, hwt, hst⟩ := hy
    refine ⟨o, u, hoj, hyo, ih _ _ hfree' (ready_mono hr (Ne.symm hji)) ⟨hd, by rw [wanted_put on a o.dst u p3]; exact hwt, fun w hw => ?_⟩ ?_⟩
    · rw [execOp_put on (fun cs b => hsel n on cs b hi) a o.dst u p3]
      exact hst w hw
    · rw [Array.setIfInBounds_comm _ _ hji]
      exact hn

/-- an order that may be: each may come up, and is apart from what comes behind it -/
def ordB (md : Region.Mode) (ops : Array Oper) : List Nat → Array Bool → Bool
  | [], listed => (Region.ready md ops listed).isEmpty
  | i :: l, listed => (Region.ready md ops listed).contains i && Region.free md ops listed i && ordB md ops l (listed.setIfInBounds i true)
/-- the walk in that order -/
def lexQ (P : Program) (md : Region.Mode) (ops : Array Oper) (C : Bool → World → Prop) (E : Nat → Bool) (n : Nat) (K : Act → Prop) : List Nat → Act → Prop
  | [], a => K a
  | i :: l, a => (i = n → ∃ o, ops[n]? = some o ∧ StoreOk P ops C o a ∧ lexQ P md ops C E n K l a) ∧ (i ≠ n → ∃ o v, ops[i]? = some o ∧ YieldsE P ops C E i o v a ∧ lexQ P md ops C E n K l (a.put o.dst v))
theorem anyB_lex {E : Nat → Bool} {n : Nat} {K : Act → Prop} (hs : Region.noSelect ops = true) : ∀ (l : List Nat) (listed : Array Bool) (a : Act), n < listed.size → (n ∈ l ∨ listed.getD n true = true) →
    ordB md ops l listed = true → lexQ P md ops C E n K l a → anyB P md ops C E n K l.length listed a
  | [], listed, a, hsz, hl, hB, h => ⟨by simpa [ordB] using hB, hl.resolve_left (by simp), h⟩
  | k :: l, listed, a, hsz, hl, hB, h => by
    simp only [ordB, Bool.and_eq_true] at hB
    obtain ⟨⟨hr, hf⟩, hB'⟩ := hB
    by_cases hk : k = n
    · subst hk
      obtain ⟨o, h0, hso, hn2⟩ := h.1 rfl
      exact anyB_store h0 (Region.noSelect_spec hs) l.length listed a (Region.free_spec h0 hf) (by simpa using hr) hso
        (anyB_lex hs l _ _ (by simpa using hsz) (Or.inr (by simp [hsz])) hB' hn2)
    · obtain ⟨o, v, h0, hy, hn2⟩ := h.2 hk
      refine anyB_first h0 hk (Region.noSelect_spec hs) l.length listed a (Region.free_spec h0 hf) (by simpa using hr) hy
        (anyB_lex hs l _ _ (by simpa using hsz) ?_ hB' hn2)
      rcases hl with q | q
      · rcases List.mem_cons.1 q with q | q
        · exact absurd q.symm hk
        · exact Or.inl q
      · exact Or.inr (by rw [getD_set_ne true hk]; exact q)

theorem put_get {a : Act} {d : Nat} {v : Value} (hd : d < a.tmps.size) : (a.put (some d) v).tmps[d]? = some v := by simp [Act.put, hd]
theorem put_ne {a : Act} {o : Option Tmp} {d : Nat} {v : Value} (h : o ≠ some d) : (a.put o v).tmps[d]? = a.tmps[d]? := by
  cases o with
  | none => rfl
  | some e =>
    have : e ≠ d := fun q => h (by rw [q])
    simp [Act.put, this]
theorem put_size (a : Act) (o : Option Tmp) (v : Value) : (a.put o v).tmps.size = a.tmps.size := by
  cases o <;> simp [Act.put]
theorem quiet_keeps {C : World → Prop} {A : Act} : ∀ (l : List Oper) (a : Act) (d : Nat), wpQuiet P ops C (fun a' => a' = A) l a → (∀ o ∈ l, o.dst ≠ some d) → A.tmps[d]? = a.tmps[d]?
  | [], a, d, h, _ => by rw [show a = A from h]
  | o :: l, a, d, h, hd => by
    unfold wpQuiet at h
    split at h
    · obtain ⟨v, -, h2⟩ := h
      rw [quiet_keeps l _ d h2 (fun o ho => hd o (List.mem_cons_of_mem _ ho)), put_ne (hd o List.mem_cons_self)]
    · rw [quiet_keeps l _ d h (fun o ho => hd o (List.mem_cons_of_mem _ ho)), put_ne (hd o List.mem_cons_self)]
/-- each operation has a temporary of its own -/
def ownDsts : List Oper → Nat → Bool
  | [], _ => true
  | o :: l, m => (match o.dst with | some d => decide (d < m) && l.all (fun q => q.dst != some d) | none => false) && ownDsts l m
/-- those that come ahead of the store: in the first class -/
theorem lexQ_early {E : Nat → Bool} {n : Nat} {K : Act → Prop} {A : Act} : ∀ (is : List Nat) (l : List Oper) (a : Act) (r : List Nat), is.map (fun i => ops[i]?) = l.map some → (∀ i ∈ is, E i = true ∧ i ≠ n) → wpQuiet P ops (C false) (fun a' => a' = A) l a →
    lexQ P md ops C E n K r A → lexQ P md ops C E n K (is ++ r) a
  | [], [], a, r, _, _, h, hr => by rw [show a = A from h]; exact hr
  | [], _ :: _, a, r, e, _, h, hr => by simp at e
  | _ :: _, [], a, r, e, _, h, hr => by simp at e
  | i :: is, o :: l, a, r, e, hw, h, hr => by
    simp only [List.map_cons, List.cons.injEq] at e
    obtain ⟨e1, e2⟩ := e
    obtain ⟨w1, w2⟩ := hw i List.mem_cons_self
    have hst : qOp P ops (C false) i (wpQuiet P ops (C false) (fun a' => a' = A) l) a := by unfold qOp; simp only [e1]; exact h
    obtain ⟨v, hy, hK⟩ := yieldsIn_of_qOp e1 hst
    exact ⟨fun q => absurd q w2, fun _ => ⟨o, v, e1, ⟨hy, fun q => by rw [w1] at q; cases q⟩, lexQ_early is l _ r e2 (fun j hj => hw j (List.mem_cons_of_mem _ hj)) hK hr⟩⟩
/-- the others: in both -/
theorem lexQ_of {E : Nat → Bool} {n : Nat} {K : Act → Prop} {A : Act} : ∀ (is : List Nat) (l : List Oper) (a : Act) (r : List Nat), is.map (fun i => ops[i]?) = l.map some → (∀ i ∈ is, i ≠ n) → ownDsts l a.tmps.size = true → (∀ b, wpQuiet P ops (C b) (fun a' => a' = A) l a) →
    lexQ P md ops C E n K r A → lexQ P md ops C E n K (is ++ r) a
  | [], [], a, r, _, _, _, h, hr => by rw [show a = A from h true]; exact hr
  | [], _ :: _, a, r, e, _, _, h, hr => by simp at e
  | _ :: _, [], a, r, e, _, _, h, hr => by simp at e
  | i :: is, o :: l, a, r, e, hw, hd, h, hr => by
    simp only [List.map_cons, List.cons.injEq] at e
    obtain ⟨e1, e2⟩ := e
    have w2 := hw i List.mem_cons_self
    simp only [ownDsts, Bool.and_eq_true] at hd
    obtain ⟨hd1, hd2⟩ := hd
    cases hdst : o.dst with
    | none => rw [hdst] at hd1; cases hd1
    | some d =>
      rw [hdst] at hd1
      simp only [Bool.and_eq_true, decide_eq_true_eq, List.all_eq_true, bne_iff_ne] at hd1
      obtain ⟨hlt, hall⟩ := hd1
      have key : ∀ b, ∃ v, YieldsIn P ops (C b) o v a ∧ wpQuiet P ops (C b) (fun a' => a' = A) l (a.put o.dst v) ∧ A.tmps[d]? = some v := by
        intro b
        have hb := h b
        unfold wpQuiet at hb
        by_cases hw : Region.wanted o (yielded ops a.tmps) = true
        · rw [if_pos hw] at hb
          obtain ⟨v, h1, h2⟩ := hb
          refine ⟨v, .inl ⟨hw, h1⟩, h2, ?_⟩
          rw [quiet_keeps l _ d h2 hall, hdst, put_get hlt]
        · rw [if_neg hw] at hb
          refine ⟨undef, .inr ⟨by simpa using hw, rfl⟩, hb, ?_⟩
          rw [quiet_keeps l _ d hb hall, hdst, put_get hlt]
      obtain ⟨v, y1, q1, e1'⟩ := key true
      obtain ⟨v', y2, q2, e2'⟩ := key false
      have : v = v' := Option.some.inj (e1'.symm.trans e2')
      subst this
      refine ⟨fun e => absurd e w2, fun _ => ⟨o, v, e1, ⟨y2, fun _ => y1⟩, ?_⟩⟩
      exact lexQ_of is l _ r e2 (fun j hj => hw j (List.mem_cons_of_mem _ hj)) (by rw [put_size]; exact hd2) (fun b => by cases b <;> assumption) hr
end

/-- the law: a block apart that is stored to once -/
structure LateB (w : World) (g : Nat) (X : Option Obj) where
  at' : World
  ext : ExtB g w at'
  blk : at'.heap[g]? = X
def lateB {w : World} {g : Nat} {X : Option Obj} (s : LateB w g X) : World := s.at'
theorem lateB_cell {w : World} {g : Nat} {X : Option Obj} {b i : Nat} {v : Value} (h : w.cell? ⟨b, i, none⟩ = some v) (hne : b ≠ g) (s : LateB w g X) : (lateB s).cell? ⟨b, i, none⟩ = some v := by
  have hb := s.ext.block b (cell_lt h) hne
  unfold World.cell? at h ⊢
  simp only at hb ⊢
  rw [show (lateB s).heap[b]? = w.heap[b]? from hb]
  exact h
theorem late_call {P : Program} {f : FuncId} {args : Array Value} {w : World} {g : Nat} {X : Option Obj} {s : LateB w g X} {v : Value} (hg : g < w.heap.size)
    (h : Calls P f args (lateB s) fun e w' => e = .returned v ∧ Ext (lateB s) w') : Calls P f args (lateB s) fun e w'' => e = .returned v ∧ ∃ s' : LateB w g X, w'' = lateB s' :=
  h.mono fun _ W ⟨he, hm⟩ => ⟨he, ⟨W, s.ext.trans (hm.toB g), (Ext.block hm (Nat.lt_of_lt_of_le hg s.ext.size)).trans s.blk⟩, rfl⟩

/-- cells put one behind another -/
def putRow (C : Array Value) : Nat → List Value → Array Value
  | _, [] => C
  | o, v :: l => putRow (C.setIfInBounds o v) (o + 1) l
theorem blk_setCells {b : Nat} {t : TypeId} : ∀ (l : List Value) (o : Nat) {w : World} {C : Array Value}, Blk w b C t → Blk (w.setCells b o l) b (putRow C o l) t
  | [], _, _, _, h => h
  | v :: l, o, w, C, h => blk_setCells l (o + 1) (h.set o v)
theorem extB_setCells {b : Nat} {x : World} : ∀ (l : List Value) (o : Nat) {w : World}, ExtB b x w → ExtB b x (w.setCells b o l)
  | [], _, _, h => h
  | v :: l, o, w, h => extB_setCells l (o + 1) (h.setCell o v)
theorem late_store {P : Program} {ops : Array Oper} {a : Act} {os : Oper} {w : World} {g : Nat} {C : Array Value} {t : TypeId} {o : Nat} {cells : Array Value} {ty : TypeId} {x y : Operand} (ho : os.op = .store ty x y) (hd : os.dst = none) (hw : Region.wanted os (yielded ops a.tmps) = true)
    (hx : a.eval x = .pointer (some ⟨g, o, none⟩)) (hy : a.eval y = .agg cells) (hle : o + cells.size ≤ C.size) (hi : (P.info? ty).map (·.size) = some cells.size) (h1 : cells.all (·.oneCell') = true) :
    StoreOk P ops (fun b w' => ∃ s : LateB w g (if b then some (.cells (putRow C o cells.toList) t) else some (.cells C t)), w' = lateB s) os a := by
  refine ⟨hd, hw, ?_⟩
  rintro _ ⟨s, rfl⟩
  have hb : Blk (lateB s) g C t := s.blk
  have ht : (lateB s).there g o cells.size := fun j hj => ⟨by rw [hb.cell]; rw [Array.getElem?_eq_getElem (by omega)]; rfl, hb.free _⟩
  refine ⟨(lateB s).setCells g o cells.toList, ?_, ⟨_, extB_setCells _ _ s.ext, blk_setCells _ _ hb⟩, rfl⟩
  unfold execOp
  simp only [ho, hx, hy, Instr.storeAt, Instr.sureAddr, Sem.run_bind, Sem.run_pure, Result.andThen_ok, run_storeVar_mid (lateB s) g o ty cells ht hi h1]

/-- the operations of some numbers -/
def pick (l : List Oper) : List Nat → List Oper
  | [] => []
  | i :: is => (l[i]?).toList ++ pick l is
theorem pick_one (o : Oper) (r : List Oper) : (some o).toList ++ r = o :: r := rfl
theorem wp_region_late {P : Program} {id : Nat} {Q : Exit → Act → World → Prop} {a : Act} {w : World} {l : List Oper} {os : Oper} {g : Nat} {X Y : Option Obj} (i1 : List Nat) (n : Nat) (i2 : List Nat) {A1 A2 : Act}
    (hm : P.follows .mixedOrders = true) (hns : Region.noSelect l.toArray = true) (hB : ordB .any l.toArray (i1 ++ n :: i2) (Array.replicate l.length false) = true) (hlen : (i1 ++ n :: i2).length = l.length) (hn : l[n]? = some os)
    (he1 : (i1.all fun i => earlyB .any l.toArray n i && i != n) = true) (he2 : (i2.all fun i => i != n) = true)
    (hp1 : i1.map (fun i => l.toArray[i]?) = (pick l i1).map some) (hp2 : i2.map (fun i => l.toArray[i]?) = (pick l i2).map some) (d2 : ownDsts (pick l i2) a.tmps.size = true)
    (hX : w.heap[g]? = X)
    (h1 : Nonempty (LateB w g X) → wpQuiet P l.toArray (fun w' => ∃ s : LateB w g X, w' = lateB s) (fun a' => a' = A1) (pick l i1) a) (hA : A1.tmps.size = a.tmps.size)
    (hs : StoreOk P l.toArray (fun b w' => ∃ s : LateB w g (if b then Y else X), w' = lateB s) os A1)
    (h2 : ∀ Z, Nonempty (LateB w g Z) → wpQuiet P l.toArray (fun w' => ∃ s : LateB w g Z, w' = lateB s) (fun a' => a' = A2) (pick l i2) A1)
    (h : ∀ s : LateB w g Y, Q .normal A2 (lateB s)) : (Code.region id l.toArray true).wp P Q a w := by
  simp only [List.all_eq_true, Bool.and_eq_true, bne_iff_ne] at he1 he2
  refine wp_region_any hm ?_
  have nX : Nonempty (LateB w g X) := ⟨⟨w, ExtB.refl g w, hX⟩⟩
  have nY : ∀ b : Bool, Nonempty (LateB w g (if b then Y else X)) := fun b => by
    cases b with
    | false => exact nX
    | true =>
      obtain ⟨s⟩ := nX
      obtain ⟨w', -, s', -⟩ := hs.2.2 (lateB s) ⟨s, rfl⟩
      exact ⟨s'⟩
  have hnl : n < l.length := (List.getElem?_eq_some_iff.1 hn).1
  have hlex : lexQ P .any l.toArray (fun b w' => ∃ s : LateB w g (if b then Y else X), w' = lateB s) (earlyB .any l.toArray n) n (fun a' => a' = A2) (i1 ++ n :: i2) a := by
    refine lexQ_early i1 (pick l i1) a (n :: i2) hp1 (fun i hi => he1 i hi) (h1 nX) ?_
    refine ⟨fun _ => ⟨os, by simpa using hn, hs, ?_⟩, fun e => absurd rfl e⟩
    have := lexQ_of (E := earlyB .any l.toArray n) (md := .any) (C := fun b w' => ∃ s : LateB w g (if b then Y else X), w' = lateB s) (P := P) (ops := l.toArray) (K := fun a' => a' = A2) (n := n) i2 (pick l i2) A1 [] hp2 he2 (by rw [hA]; exact d2) (fun b => h2 _ (nY b)) rfl
    rwa [List.append_nil] at this
  have hany := anyB_lex (E := earlyB .any l.toArray n) (md := .any) (P := P) (C := fun b w' => ∃ s : LateB w g (if b then Y else X), w' = lateB s) (K := fun a' => a' = A2) (n := n) hns (i1 ++ n :: i2) (Array.replicate l.length false) a (by simpa using hnl) (Or.inl (by simp)) hB hlex
  have hnf : (Array.replicate l.length false).getD n true = false := by simp [hnl]
  rw [hlen] at hany
  refine anyB_wp (E := earlyB .any l.toArray n) (P := P) (ops := l.toArray) (md := .any) (C := fun b w' => ∃ s : LateB w g (if b then Y else X), w' = lateB s) (n := n) (K := fun a' => a' = A2) (Q := Q) (fun a' w' hw' hK => ?_) earlyB_ok l.length (Array.replicate l.length false) a _ (by simp) (fun j hj i hi => ?_) ?_ hany
  · obtain ⟨s, rfl⟩ := hw'
    subst hK
    exact h s
  · exfalso
    obtain ⟨oj, hoj, -⟩ := Region.waitsFor_spec hi
    have hjl : j < l.length := by simpa using (Array.getElem?_eq_some_iff.1 hoj).1
    simp [hjl] at hj
  · rw [hnf]
    exact ⟨⟨w.drew, (ExtB.refl g w).drew, hX⟩, rfl⟩
end Go.Proofs.YtfglpejbgfmojaaGreat

/- An api.Rule that comes in as an argument, opened. -/
namespace Go.Proofs.YtfglpejbgfmojaaGreat
open Go.RowKit
set_option linter.unusedVariables false
set_option linter.unusedSimpArgs false

set_option maxRecDepth 100000 in
theorem open_rule {H : Type} {enc : TypeId × Value → H} {W : World} {r : Reach} {b0 base : Nat} {spare : Nat → Bool} {held : Bool} {v : Value} {d : DataW H} {ps : List MemPlace}
    (hv : Value.okWide Tryz.prog W r b0 29 v) (h : DataW.Trod enc Tryz.prog W base spare held 29 v d ps) :
    ∃ (p : ByteArray) (e b k : Int), v = .agg #[.string p, .int .u64 e, .int .u64 b, .int .u8 k] ∧ p.size ≤ maxLen ∧ (Lit.int .u64 e).wf = true ∧ (Lit.int .u64 b).wf = true ∧ (Lit.int .u8 k).wf = true := by
  obtain ⟨c0, c1, c2, c3, y0, y1, y2, y3, m, rfl, -, -, h0, h1, h2, h3⟩ := Joins.open_agg4 Tryz.underlying29 (by kernel_rfl) (by kernel_rfl) hv h
  obtain ⟨p, e0, -, w0⟩ := DataW.trod_string Tryz.underlying9 h0
  obtain ⟨e, e1, -, w1⟩ := DataW.trod_int Tryz.underlying27 h1
  obtain ⟨b, e2, -, w2⟩ := DataW.trod_int Tryz.underlying27 h2
  obtain ⟨k, e3, -, w3⟩ := DataW.trod_int Tryz.underlying5 h3
  simp at e0 e1 e2 e3
  subst e0 e1 e2 e3
  exact ⟨p, e, b, k, rfl, w0, w1, w2, w3⟩
end Go.Proofs.YtfglpejbgfmojaaGreat
