/- A range over a map of slots, whose round may delete the slot that came. Rows of elements of any make, in memory of the call's own. Slices whose elements are known, wherever they lie. How a slice of deeds comes out of an argument's reading. -/
import Derived.Maps.RangeWalk
import Derived.OwnWalk
import Derived.Laws.AppendOwn
import Derived.Deep.Slices
import Derived.Deep.Fields
import Derived.ChangeSame
import Derived.Test.YtknlojlcahgnoaaGreatEb9
import Derived.Test.YtknlojlcahgnoaaGreatEb5
import Derived.Test.YtknlojlcahgnoaaGreatEb11

namespace Go.Proofs.YtknlojlcahgnoaaGreat
open Go.RowKit
set_option linter.unusedVariables false
set_option linter.unusedSimpArgs false

theorem mem_ents {l : SMap} {e : MapEntry} (h : e ∈ (ents l).toList) : ∃ x ∈ l, e = ent x := by
  simp [ents] at h
  obtain ⟨a, b, h1, h2⟩ := h
  exact ⟨(a, b), h1, h2.symm⟩
theorem ents_mem {l : SMap} {x : Slot × Nat} (h : x ∈ l) : ent x ∈ (ents l).toList := by
  simp [ents]
  exact ⟨x.1, x.2, h, rfl⟩

/-- an iterator over a map of slots: nothing was laid into it since the loop began -/
structure IterAt (w : World) (r b : Nat) (l : SMap) (c : Nat) (seen : Array Nat) : Prop where
  map : MapIs w b l c
  it : ∃ c0, w.heap[r]? = some (.mapIter (some b) c seen c0) ∧ c ≤ c0
  old : ∀ x ∈ l, x.2 < c
  born : (l.map (·.2)).Nodup
theorem IterAt.ne {w : World} {r b c : Nat} {l : SMap} {seen : Array Nat} (h : IterAt w r b l c seen) : b ≠ r := fun e => by
  subst e
  obtain ⟨c0, h1, -⟩ := h.it
  have := (show w.heap[b]? = some (.map (ents l) c) from h.map).symm.trans h1
  cases this
theorem IterAt.lt {w : World} {r b c : Nat} {l : SMap} {seen : Array Nat} (h : IterAt w r b l c seen) : r < w.heap.size := by
  obtain ⟨c0, h1, -⟩ := h.it
  exact lt_of_block h1
theorem IterAt.ext {w w' : World} {r b c : Nat} {l : SMap} {seen : Array Nat} (h : IterAt w r b l c seen) (e : Ext w w') : IterAt w' r b l c seen := by
  obtain ⟨c0, h1, h2⟩ := h.it
  exact ⟨h.map.ext e, ⟨c0, (e.block h.lt).trans h1, h2⟩, h.old, h.born⟩

/-- how many are to come -/
def toCome (l : SMap) (seen : Array Nat) : Nat := (l.filter fun x => !seen.contains x.2).length
theorem leftOf_ents (l : SMap) (seen : Array Nat) : leftOf (ents l) seen = ents (l.filter fun x => !seen.contains x.2) := by
  unfold leftOf ents
  rw [List.filter_toArray, List.filter_map]
  rfl
theorem leftOf_size (l : SMap) (seen : Array Nat) : (leftOf (ents l) seen).size = toCome l seen := by
  rw [leftOf_ents]; simp [ents, toCome]
theorem IterAt.left {w : World} {r b c : Nat} {l : SMap} {seen : Array Nat} (h : IterAt w r b l c seen) : w.rangeLeft b r = toCome l seen := by
  obtain ⟨c0, h1, h2⟩ := h.it
  unfold World.rangeLeft
  rw [show w.heap[b]? = some (.map (ents l) c) from h.map, h1]
  exact leftOf_size l seen

theorem toCome_zero {l : SMap} {seen : Array Nat} (h : toCome l seen = 0) : ∀ x ∈ l, seen.contains x.2 = true := by
  intro x hx
  have h1 : (l.filter fun x => !seen.contains x.2) = [] := List.length_eq_zero_iff.1 h
  have h2 := List.filter_eq_nil_iff.1 h1 x hx
  simpa using h2
theorem toCome_push {l : SMap} {seen : Array Nat} {s : Slot} {n : Nat} (h : (s, n) ∈ l) (hs : seen.contains n = false) : toCome l (seen.push n) < toCome l seen := by
  unfold toCome
  refine filter_length_lt ?_ (s, n) h (by simpa using hs) (by simp)
  intro x hx
  simp only [Array.contains_push] at hx
  simp at hx ⊢
  exact hx.1
  where filter_length_lt {α : Type} {p q : α → Bool} {l : List α} (hpq : ∀ x, q x = true → p x = true) (e : α) (he : e ∈ l) (hp : p e = true) (hq : q e = false) : (l.filter q).length < (l.filter p).length := filter_lt p q hpq e hp hq l he
theorem toCome_del {l : SMap} {seen : Array Nat} (k : ByteArray) : toCome (l.del k) seen ≤ toCome l seen := by
  unfold toCome SMap.del
  rw [List.filter_filter]
  refine List.Sublist.length_le ?_
  rw [← List.filter_filter, List.filter_filter]
  have : (List.filter (fun a => (!seen.contains a.2) && decide (a.1.key ≠ k)) l) = List.filter (fun x => decide (x.1.key ≠ k)) (List.filter (fun x => !seen.contains x.2) l) := by
    rw [List.filter_filter]
    congr 1
    funext a
    exact Bool.and_comm _ _
  rw [this]
  exact List.filter_sublist

section
variable {P : Program} {t k e : TypeId}
theorem run_srange (ht : P.underlying t = some (.map k e)) {w : World} {b c : Nat} {l : SMap} (h : MapIs w b l c) (ho : ∀ x ∈ l, x.2 < c) (hb : (l.map (·.2)).Nodup) :
    (Instr.range t (.map (some b))).run P w = .ok (.pointer (some ⟨w.heap.size, 0, none⟩)) (w.alloc (.mapIter (some b) c #[] c)) ∧ IterAt (w.alloc (.mapIter (some b) c #[] c)) w.heap.size b l c #[] :=
  ⟨run_range_map w t k e b (ents l) c ht h, h.ext ((Ext.refl w).alloc _), ⟨c, map_new_at w _, Nat.le_refl _⟩, ho, hb⟩

theorem run_snext {w : World} {r b c : Nat} {l : SMap} {seen : Array Nat} (h : IterAt w r b l c seen) :
    (toCome l seen = 0 ∧ ∀ ty, (Instr.next (.pointer (some ⟨r, 0, none⟩)) false ty).run P w = .ok (.tuple #[.bool false]) w) ∨
    ∃ s n w', (s, n) ∈ l ∧ seen.contains n = false ∧ (∀ ty, (Instr.next (.pointer (some ⟨r, 0, none⟩)) false ty).run P w = .ok (.tuple #[.bool true, .string s.key, s.val]) w') ∧
      IterAt w' r b l c (seen.push n) ∧ ExtB r w w' ∧ (Instr.entry (.pointer (some ⟨r, 0, none⟩))).run P w' = .ok (.tuple #[.string s.key, s.val]) w' := by
  have hne := h.ne
  obtain ⟨hm, ⟨c0, hr, hc⟩, ho, hbn⟩ := h
  have hold : ∀ x ∈ (ents l).toList, x.born < c := fun x hx => by
    obtain ⟨y, hy, rfl⟩ := mem_ents hx
    exact ho y hy
  have hbn' : ((ents l).toList.map (·.born)).Nodup := by
    simpa [ents, ent, Function.comp_def] using hbn
  by_cases hz : (leftOf (ents l) seen).size = 0
  · refine Or.inl ⟨by rw [← leftOf_size]; exact hz, fun ty => ?_⟩
    rcases run_next_at (P := P) w ty r b c c0 seen (ents l) c hr hm hold hc with ⟨h0, hrun⟩ | ⟨e, he, w1, hal, hrun⟩
    · exact hrun
    · exfalso
      have : leftOf (ents l) seen = #[] := Array.eq_empty_of_size_eq_zero hz
      rw [this] at he
      simp at he
  · rcases run_next_at (P := P) w 0 r b c c0 seen (ents l) c hr hm hold hc with ⟨h0, hrun⟩ | ⟨e, he, w1, hal, hrun⟩
    · exact absurd h0 hz
    · obtain ⟨hem, hes⟩ := mem_left he
      obtain ⟨⟨s, n⟩, hx, rfl⟩ := mem_ents hem
      have hset := MapKept.heap_set (o' := .mapIter (some b) c (seen.push n) c) (show w1.heap[r]? = some (.mapIter (some b) c seen c0) by rcases hal with rfl | rfl <;> exact hr)
      have hb1 : w1.heap[b]? = some (.map (ents l) c) := by rcases hal with rfl | rfl <;> exact hm
      refine Or.inr ⟨s, n, ChangeMaps.setBlock w1 r (.mapIter (some b) c (seen.push n) c), hx, hes, fun ty => ?_, ⟨(hset.2 b hne).trans hb1, ⟨c, hset.1, Nat.le_refl _⟩, ho, hbn⟩, ?_, ?_⟩
      · exact hrun
      · rcases hal with rfl | rfl <;> exact ⟨rfl, rfl, rfl, by simp [ChangeMaps.setBlock], fun i _ hi => hset.2 i hi⟩
      · exact run_entry_at _ r b c seen (ents l) c _ hset.1 ((hset.2 b hne).trans hb1) (ents_mem hx) hbn'
end

/-- what is left of a map, when those that came and are of p are gone -/
def swept (p : Slot → Bool) (l : SMap) (seen : Array Nat) : SMap := l.filter fun x => !(seen.contains x.2 && p x.1)
theorem swept_start (p : Slot → Bool) (l : SMap) : swept p l #[] = l := by
  unfold swept
  rw [List.filter_eq_self]
  intro x _
  simp
theorem swept_end {p : Slot → Bool} {l : SMap} {seen : Array Nat} (h : toCome (swept p l seen) seen = 0) : swept p l seen = l.filter fun x => !p x.1 := by
  have h1 := toCome_zero h
  unfold swept at h1 ⊢
  refine List.filter_congr fun x hx => ?_
  cases hp : p x.1 with
  | false => simp
  | true =>
    cases hs : seen.contains x.2 with
    | true => simp
    | false =>
      have := h1 x (List.mem_filter.2 ⟨hx, by rw [hs]; rfl⟩)
      rw [hs] at this
      cases this
theorem map_inj {α β : Type} (f : α → β) : ∀ {l : List α}, (l.map f).Nodup → ∀ {x y : α}, x ∈ l → y ∈ l → f x = f y → x = y
  | [], _, _, _, hx, _, _ => by cases hx
  | a :: l, hn, x, y, hx, hy, h => by
    have hn' : f a ∉ l.map f ∧ (l.map f).Nodup := List.nodup_cons.1 hn
    rcases List.mem_cons.1 hx with e1 | hx'
    · rcases List.mem_cons.1 hy with e2 | hy'
      · rw [e1, e2]
      · exact absurd (List.mem_map.2 ⟨y, hy', by rw [← h, e1]⟩) hn'.1
    · rcases List.mem_cons.1 hy with e2 | hy'
      · exact absurd (List.mem_map.2 ⟨x, hx', by rw [h, e2]⟩) hn'.1
      · exact map_inj f hn'.2 hx' hy' h
theorem born_eq {l : SMap} (hn : (l.map (·.2)).Nodup) {x y : Slot × Nat} (hx : x ∈ l) (hy : y ∈ l) (h : x.2 = y.2) : x = y := map_inj (·.2) hn hx hy h
theorem key_eq {l : SMap} (hn : l.keys.Nodup) {x y : Slot × Nat} (hx : x ∈ l) (hy : y ∈ l) (h : x.1.key = y.1.key) : x = y := map_inj (fun x : Slot × Nat => x.1.key) (l := l) hn hx hy h
theorem swept_stays {p : Slot → Bool} {l : SMap} {seen : Array Nat} (hn : (l.map (·.2)).Nodup) {s : Slot} {n : Nat} (h : (s, n) ∈ swept p l seen) (hp : p s = false) : swept p l (seen.push n) = swept p l seen := by
  have hl : (s, n) ∈ l := (List.mem_filter.1 h).1
  refine List.filter_congr fun x hx => ?_
  by_cases e : x.2 = n
  · have := born_eq hn hx hl e
    subst this
    simp [hp]
  · have e' : (x.2 == n) = false := by simpa using e
    rw [Array.contains_push, e', Bool.or_false]
theorem swept_struck {p : Slot → Bool} {l : SMap} {seen : Array Nat} (hn : (l.map (·.2)).Nodup) (hk : l.keys.Nodup) {s : Slot} {n : Nat} (h : (s, n) ∈ swept p l seen) (hp : p s = true) : swept p l (seen.push n) = (swept p l seen).del s.key := by
  have hl : (s, n) ∈ l := (List.mem_filter.1 h).1
  unfold swept SMap.del
  rw [List.filter_filter]
  refine List.filter_congr fun x hx => ?_
  rw [Array.contains_push]
  by_cases e : x.2 = n
  · have := born_eq hn hx hl e
    subst this
    simp [hp]
  · have hkk : x.1.key ≠ s.key := fun q => e (by have := key_eq hk hx hl q; subst this; rfl)
    have e' : (x.2 == n) = false := by simpa using e
    rw [e', Bool.or_false, decide_eq_true hkk, Bool.true_and]
theorem swept_keys {p : Slot → Bool} {l : SMap} {seen : Array Nat} (hn : l.keys.Nodup) : (swept p l seen).keys.Nodup := hn.sublist (List.filter_sublist.map _)
theorem swept_mem {p : Slot → Bool} {l : SMap} {seen : Array Nat} {x : Slot × Nat} (h : x ∈ swept p l seen) : x ∈ l := (List.mem_filter.1 h).1
end Go.Proofs.YtknlojlcahgnoaaGreat

namespace Go.Proofs.YtknlojlcahgnoaaGreat
open Go.RowKit
set_option linter.unusedVariables false
set_option linter.unusedSimpArgs false

/-- the cells of a list of elements -/
def flatE {α : Type} (enc : α → Array Value) (l : List α) : List Value := l.flatMap fun x => (enc x).toList
theorem flatE_snoc {α : Type} (enc : α → Array Value) (l : List α) (x : α) : flatE enc (l ++ [x]) = flatE enc l ++ (enc x).toList := by unfold flatE; rw [List.flatMap_append]; simp
theorem flatE_len {α : Type} {enc : α → Array Value} {k : Nat} (hk : ∀ x, (enc x).size = k) (l : List α) : (flatE enc l).length = l.length * k := by
  induction l with
  | nil => simp [flatE]
  | cons s l ih =>
    show ((enc s).toList ++ flatE enc l).length = _
    rw [List.length_append, ih, List.length_cons, Array.length_toList, hk, Nat.add_mul]
    omega
theorem flatE_get {α : Type} {enc : α → Array Value} {k : Nat} (hk : ∀ x, (enc x).size = k) : ∀ (l : List α) (j i : Nat) (h : j < l.length), i < k → (flatE enc l)[j * k + i]? = (enc l[j])[i]?
  | [], j, i, h, _ => by simp at h
  | x :: l, 0, i, h, hi => by
    show ((enc x).toList ++ flatE enc l)[0 * k + i]? = _
    rw [List.getElem?_append_left (by rw [Array.length_toList, hk]; omega)]
    simp
  | x :: l, j + 1, i, h, hi => by
    show ((enc x).toList ++ flatE enc l)[(j + 1) * k + i]? = _
    have e : (j + 1) * k + i = j * k + i + k := by rw [Nat.add_mul]; omega
    rw [List.getElem?_append_right (by rw [Array.length_toList, hk, e]; omega), Array.length_toList, hk, e, Nat.add_sub_cancel]
    have := flatE_get hk l j i (by simpa using h) hi
    simpa using this

theorem own_ext {w w' : World} {base k n : Nat} {E : TypeId} {v : Value} {xs : List Value} (h : w.ownsRow base E k v n xs) (e : Ext w w') : w'.ownsRow base E k v n xs := by
  obtain ⟨h0, h | ⟨g, cap, cur, h1, h2, h3, h4, h5, h6, h7⟩⟩ := h
  · exact ⟨h0, Or.inl h⟩
  · exact ⟨h0, Or.inr ⟨g, cap, cur, h1, h2, (e.block (lt_of_block h3)).trans h3, h4, h5, h6, h7⟩⟩
theorem own_extB {w w' : World} {base k n b : Nat} {E : TypeId} {v : Value} {xs : List Value} (h : w.ownsRow base E k v n xs) (e : ExtB b w w') (hb : b < base) : w'.ownsRow base E k v n xs := by
  obtain ⟨h0, h | ⟨g, cap, cur, h1, h2, h3, h4, h5, h6, h7⟩⟩ := h
  · exact ⟨h0, Or.inl h⟩
  · exact ⟨h0, Or.inr ⟨g, cap, cur, h1, h2, (e.block _ (lt_of_block h3) (by omega)).trans h3, h4, h5, h6, h7⟩⟩

/-- a slice of its own that reads as a list -/
structure RowOf {α : Type} (enc : α → Array Value) (k : Nat) (E : TypeId) (base : Nat) (w : World) (v : Value) (l : List α) : Prop where
  own : w.ownsRow base E k v l.length (flatE enc l)
  nil : v = .slice none 0 0 ↔ l = []
section
variable {α : Type} {enc : α → Array Value} {k : Nat} {E : TypeId} {base : Nat} {w w' : World} {v : Value} {l : List α}
theorem RowOf.empty (enc : α → Array Value) (k : Nat) (E : TypeId) (base : Nat) (w : World) : RowOf enc k E base w (.slice none 0 0) [] := ⟨World.ownsRow_nil _ _ _ _, by simp⟩
theorem RowOf.ext (h : RowOf enc k E base w v l) (e : Ext w w') : RowOf enc k E base w' v l := ⟨own_ext h.own e, h.nil⟩
theorem RowOf.extB {b : Nat} (h : RowOf enc k E base w v l) (e : ExtB b w w') (hb : b < base) : RowOf enc k E base w' v l := ⟨own_extB h.own e hb, h.nil⟩
theorem RowOf.low {b : Nat} (h : RowOf enc k E base w v l) (hb : b ≤ base) : RowOf enc k E b w v l := by
  obtain ⟨⟨h0, h | ⟨g, cap, cur, h1, h2, h3⟩⟩, hn⟩ := h
  · exact ⟨⟨h0, Or.inl h⟩, hn⟩
  · exact ⟨⟨h0, Or.inr ⟨g, cap, cur, h1, Nat.le_trans hb h2, h3⟩⟩, hn⟩
theorem RowOf.size (h : RowOf enc k E base w v l) : ∃ a c, v = .slice a l.length c := by
  obtain ⟨⟨-, ⟨rfl, h0⟩ | ⟨g, cap, cur, h1, -⟩⟩, -⟩ := h
  · exact ⟨none, 0, by rw [h0]⟩
  · exact ⟨_, cap, h1⟩
theorem RowOf.len (h : RowOf enc k E base w v l) : l.length ≤ maxLen := by
  obtain ⟨⟨-, ⟨-, h0⟩ | ⟨g, cap, cur, h1, h2, h3, h4, h5, -⟩⟩, -⟩ := h
  · omega
  · omega
theorem RowOf.cells (hk : ∀ x, (enc x).size = k) (h : RowOf enc k E base w v l) (j : Nat) (hj : j < l.length) : ∃ b c, v = .slice (some ⟨b, 0, none⟩) l.length c ∧ base ≤ b ∧ b < w.heap.size ∧ ∀ i, i < k → w.cell? ⟨b, j * k + i, none⟩ = (enc l[j])[i]? := by
  obtain ⟨⟨-, ⟨-, h0⟩ | ⟨g, cap, cur, h1, h2, h3, h4, h5, h6, h7⟩⟩, -⟩ := h
  · omega
  · refine ⟨g, cap, h1, h2, lt_of_block h3, fun i hi => ?_⟩
    rw [Blk.cell (t := E) (show Blk w g cur E from h3), ← flatE_get hk l j i hj hi, ← h7]
    have : j * k + i < l.length * k := by
      have : (j + 1) * k ≤ l.length * k := Nat.mul_le_mul_right k (by omega)
      rw [Nat.add_mul] at this
      omega
    rw [List.getElem?_take_of_lt this, Array.getElem?_toList]
end
/-- what has been appended to -/
theorem RowOf.mk' {α : Type} {enc : α → Array Value} {k : Nat} {E : TypeId} {base n : Nat} {w : World} {v : Value} {l : List α} {xs : List Value} (h : w.ownsRow base E k v n xs) (hn : n = l.length) (hx : xs = flatE enc l) (hne : v = .slice none 0 0 ↔ l = []) : RowOf enc k E base w v l := by
  subst hn; subst hx; exact ⟨h, hne⟩
theorem Ext.grownAt {x y z : World} {base k n : Nat} {e : TypeId} {v : Value} {xs : List Value} (h : Ext x y) (o : y.ownsRow base e k v n xs) (hb : x.heap.size ≤ base) (g : y.grownBy z v.ownBlock) : Ext x z := by
  refine Below.grown h g h.sz fun r hr => ?_
  obtain ⟨-, ⟨rfl, -⟩ | ⟨g', cap, cur, rfl, h2, -⟩⟩ := o
  · cases hr
  · cases hr; exact Nat.le_trans hb h2
/-- new cells, where a law looks for them -/
theorem blk_news {w : World} {b : Nat} {C : Array Value} {t : TypeId} (h : Blk w b C t) : ∀ j u, C.toList[j]? = some u → w.cell? ((⟨b, 0, none⟩ : Addr).add j) = some u := by
  intro j u hu
  have e : ((⟨b, 0, none⟩ : Addr).add j) = ⟨b, 0 + j, none⟩ := by unfold Addr.add; split <;> simp_all
  rw [e, Nat.zero_add, h.cell]
  simpa using hu
end Go.Proofs.YtknlojlcahgnoaaGreat

namespace Go.Proofs.YtknlojlcahgnoaaGreat
open Go.RowKit
set_option linter.unusedVariables false
set_option linter.unusedSimpArgs false

section
variable {α : Type} {enc : α → Array Value} {k : Nat} {w w' : World} {v : Value} {l : List α}
/-- a slice whose elements are these -/
def ElemsAt (enc : α → Array Value) (k : Nat) (w : World) (v : Value) (l : List α) : Prop :=
  ∃ a c, v = .slice a l.length c ∧ (l ≠ [] → ∃ b o, a = some ⟨b, o, none⟩ ∧ ∀ j (h : j < l.length) i, i < k → w.cell? ⟨b, o + (j * k + i), none⟩ = (enc l[j])[i]?)
theorem ElemsAt.ext (hk : ∀ x, (enc x).size = k) (h : ElemsAt enc k w v l) (e : Ext w w') : ElemsAt enc k w' v l := by
  obtain ⟨a, c, hv, hl⟩ := h
  refine ⟨a, c, hv, fun hne => ?_⟩
  obtain ⟨b, o, ha, hc⟩ := hl hne
  refine ⟨b, o, ha, fun j hj i hi => ?_⟩
  have := hc j hj i hi
  rw [Array.getElem?_eq_getElem (by rw [hk]; exact hi)] at this ⊢
  exact e.keep this
theorem ElemsAt.size (h : ElemsAt enc k w v l) : ∃ a c, v = .slice a l.length c := by
  obtain ⟨a, c, hv, -⟩ := h
  exact ⟨a, c, hv⟩
theorem ElemsAt.nil (enc : α → Array Value) (k : Nat) (w : World) : ElemsAt enc k w (.slice none 0 0) [] := ⟨_, _, rfl, fun h => absurd rfl h⟩
theorem ElemsAt.cells (hk : ∀ x, (enc x).size = k) (hk0 : 0 < k) {a : Option Addr} {n c : Nat} (h : ElemsAt enc k w (.slice a n c) l) (j : Nat) (hj : j < l.length) :
    ∃ b o, a = some ⟨b, o, none⟩ ∧ b < w.heap.size ∧ ∀ i, i < k → w.cell? ⟨b, o + (j * k + i), none⟩ = (enc l[j])[i]? := by
  obtain ⟨a', c', hv, hl⟩ := h
  simp at hv
  obtain ⟨rfl, -, -⟩ := hv
  obtain ⟨b, o, ha, hc⟩ := hl (by intro e; rw [e] at hj; simp at hj)
  refine ⟨b, o, ha, ?_, fun i hi => hc j hj i hi⟩
  have := hc j hj 0 hk0
  rw [Array.getElem?_eq_getElem (by rw [hk]; exact hk0)] at this
  exact cell_lt this
theorem RowOf.elems (hk : ∀ x, (enc x).size = k) {E : TypeId} {base : Nat} (h : RowOf enc k E base w v l) : ElemsAt enc k w v l := by
  obtain ⟨a, c, rfl⟩ := h.size
  refine ⟨a, c, rfl, fun hne => ?_⟩
  have h0 : 0 < l.length := List.length_pos_iff.2 hne
  obtain ⟨b, c', hv, -, -, -⟩ := h.cells hk 0 h0
  simp at hv
  refine ⟨b, 0, hv.1, fun j hj i hi => ?_⟩
  obtain ⟨b', c'', hv', -, -, hc⟩ := h.cells hk j hj
  simp at hv'
  have : b' = b := by
    have := hv.1.symm.trans hv'.1
    simp at this
    exact this.symm
  subst this
  rw [Nat.zero_add]
  exact hc i hi
end
end Go.Proofs.YtknlojlcahgnoaaGreat

namespace Go.Proofs.YtknlojlcahgnoaaGreat
open Go.ChangeShapes Go.WideShapes Go.ChangeAt Go.RowKit Go.Deep
set_option linter.unusedVariables false
set_option linter.unusedSimpArgs false

section
variable {H : Type} {enc : TypeId × Value → H} {P : Program} {w : World} {base : Nat} {held : Bool}

/-- one element's fields, a cell each -/
theorem field_cells {e : TypeId} {fs : Array Field} {fuel : Nat} {a : Addr} {cs : List Value} {x : DataW H × List MemPlace} {sp : Nat → Bool} (he : P.underlying e = some (.struct fs)) (hone : oneCellFields P fs = true) (hC : P.cellsOf e = fs.size)
    (hc : w.cells? base a (P.cellsOf e) = some cs) (ht : DataW.trod enc P w base sp held fuel e cs = some x) :
    ∀ (j : Nat) (f : Field), fs[j]? = some f → ∃ (v : Value) (y : DataW H × List MemPlace) (n : Nat), w.cell? (a.add j) = some v ∧ DataW.trod enc P w base sp held n f.type [v] = some y := by
  obtain ⟨xs, n, -, -, -, hlen, hf⟩ := DataW.trod_struct he ht
  obtain ⟨-, hcl, hat⟩ := World.cells?_some hc
  intro j f hj
  obtain ⟨ho, hk⟩ := hone_of hone j f hj
  have hjl : j < fs.size := (Array.getElem?_eq_some_iff.1 hj).1
  have hjc : j < cs.length := by rw [hcl, hC]; exact hjl
  have h1 := hf j f hj
  rw [ho, hk] at h1
  have e1 : (cs.drop j).take 1 = [cs[j]] := by rw [List.drop_eq_getElem_cons hjc]; rfl
  rw [e1] at h1
  refine ⟨cs[j], xs[j]'(by omega), n, ?_, h1.trans (List.getElem?_eq_getElem (by omega))⟩
  rw [hat j (by rw [hC]; exact hjl), List.getElem?_eq_getElem hjc]

theorem field_int {t : TypeId} {k : IntKind} {v : Value} {n : Nat} {sp : Nat → Bool} {y : DataW H × List MemPlace} (ht : P.underlying t = some (.int k)) (h : DataW.trod enc P w base sp held n t [v] = some y) : ∃ x, v = .int k x ∧ (Lit.int k x).wf = true := by
  obtain ⟨x, hv, -, hw⟩ := DataW.trod_int ht h
  simp only [List.cons.injEq, and_true] at hv
  exact ⟨x, hv, hw⟩

theorem field_bytes {t e : TypeId} {v : Value} {n : Nat} {y : DataW H × List MemPlace} (ht : P.underlying t = some (.slice e)) (he : P.underlying e = some (.int .u8)) (hc : P.cellsOf e = 1) (h : DataW.trod enc P w base (fun _ => true) held n t [v] = some y) : ∃ l, ByteSlice w v l := by
  rcases open_ints ht he hc h with ⟨hcs, _⟩ | ⟨x, len', cap', zs, hcs, _, hl, hm, hz, _, hcell, hwz⟩
  · simp only [List.cons.injEq, and_true] at hcs
    subst hcs
    exact ⟨[], ⟨_, _, rfl, fun h => absurd rfl h⟩, by simp⟩
  · simp only [List.cons.injEq, and_true] at hcs
    subst hcs
    simp only [if_true] at hz
    have hlen : ((zs.take len').map fun n => UInt8.ofNat n.toNat).length = len' := by rw [List.length_map, List.length_take, hz]; omega
    refine ⟨(zs.take len').map fun n => UInt8.ofNat n.toNat, ⟨some x, cap', by rw [hlen], fun hne => ?_⟩, by rw [hlen]; omega⟩
    have h0 : 0 < len' := by
      rcases Nat.eq_zero_or_pos len' with e | e
      · subst e; simp at hne
      · exact e
    have ex := plain_addr (hcell 0 (by omega))
    refine ⟨x.block, x.off, by rw [← ex], fun j hj => ?_⟩
    rw [hlen] at hj
    have hw := hwz (zs[j]'(by omega)) (List.getElem_mem _)
    have hb : 0 ≤ zs[j]'(by omega) ∧ zs[j]'(by omega) ≤ 255 := by simpa [Lit.wf, IntKind.min, IntKind.max, IntKind.signed, IntKind.bits] using hw
    rw [← addr_add, ← ex, hcell j (by omega)]
    simp only [List.getElem_map, List.getElem_take]
    simp [List.getD, List.getElem?_eq_getElem (show j < zs.length by omega)]
    omega
end

section
variable {H : Type} {enc : TypeId × Value → H} {W : World} {r : Reach} {b0 base : Nat} {held : Bool} {v : Value} {d : DataW H} {p : List MemPlace}

set_option maxRecDepth 100000 in
theorem open_deeds (hv : Value.okWide Tryz.prog W r b0 60 v) (h : DataW.Trod enc Tryz.prog W base (fun _ => true) held 60 v d p) : ∃ l, DeedSlice W v l := by
  obtain ⟨a0, len, cap, rfl⟩ := okWide_slice Tryz.underlying60 hv
  obtain ⟨fuel, hf⟩ := h
  rcases Go.Deep.open_slice Tryz.underlying60 hf with ⟨hcs, _⟩ | ⟨x, len', cap', m, n, D, Pl, hcs, hb, hl, hm, hmm, _, hi⟩
  · simp [Value.cells] at hcs
    obtain ⟨rfl, rfl, rfl⟩ := hcs
    exact ⟨[], ⟨_, _, rfl, fun h => absurd rfl h⟩, by simp, fun d hd => (by cases hd)⟩
  · simp [Value.cells] at hcs
    obtain ⟨rfl, rfl, rfl⟩ := hcs
    simp only [if_true] at hmm
    have hC : Tryz.prog.cellsOf 69 = 7 := by kernel_rfl
    have each : ∀ i : Fin len, ∃ q : Deed, DeedOk W q ∧ ∀ j, j < 7 → W.cell? ((x.add (i.1 * 7)).add j) = q.cells[j]? := by
      intro i
      obtain ⟨cs', hc', ht'⟩ := hi i.1 (by omega)
      rw [hC] at hc'
      have hF := field_cells (fs := _) Tryz.underlying69 (by kernel_rfl) (by kernel_rfl) (by rw [hC]; exact hc') ht'
      obtain ⟨v0, y0, n0, c0, t0⟩ := hF 0 _ rfl
      obtain ⟨v1, y1, n1, c1, t1⟩ := hF 1 _ rfl
      obtain ⟨v2, y2, n2, c2, t2⟩ := hF 2 _ rfl
      obtain ⟨v3, y3, n3, c3, t3⟩ := hF 3 _ rfl
      obtain ⟨v4, y4, n4, c4, t4⟩ := hF 4 _ rfl
      obtain ⟨v5, y5, n5, c5, t5⟩ := hF 5 _ rfl
      obtain ⟨v6, y6, n6, c6, t6⟩ := hF 6 _ rfl
      obtain ⟨x0, rfl, w0⟩ := field_int Tryz.underlying5 t0
      obtain ⟨x1, rfl, w1⟩ := field_int Tryz.underlying61 t1
      obtain ⟨x2, rfl, w2⟩ := field_int Tryz.underlying5 t2
      obtain ⟨l3, w3⟩ := field_bytes Tryz.underlying22 Tryz.underlying5 (by kernel_rfl) t3
      obtain ⟨x4, rfl, w4⟩ := field_int Tryz.underlying5 t4
      obtain ⟨x5, rfl, w5⟩ := field_int Tryz.underlying23 t5
      obtain ⟨x6, rfl, w6⟩ := field_int Tryz.underlying5 t6
      refine ⟨⟨x0, x1, x2, v3, l3, x4, x5, x6⟩, ⟨(wfu8 w0).1, (wfu8 w0).2, (wfu32 w1).1, (wfu32 w1).2, (wfu8 w2).1, (wfu8 w2).2, w3, (wfu8 w4).1, (wfu8 w4).2, (wfu16 w5).1, (wfu16 w5).2, (wfu8 w6).1, (wfu8 w6).2⟩, ?_⟩
      intro j hj
      rcases (by omega : j = 0 ∨ j = 1 ∨ j = 2 ∨ j = 3 ∨ j = 4 ∨ j = 5 ∨ j = 6) with rfl | rfl | rfl | rfl | rfl | rfl | rfl
      · exact c0
      · exact c1
      · exact c2
      · exact c3
      · exact c4
      · exact c5
      · exact c6
    have hlen : (List.ofFn fun i => Classical.choose (each i)).length = len := List.length_ofFn
    refine ⟨List.ofFn fun i => Classical.choose (each i), ⟨some x, cap, by rw [hlen], fun hne => ?_⟩, by rw [hlen]; omega, fun q hq => ?_⟩
    · have h0 : 0 < len := by
        rcases Nat.eq_zero_or_pos len with e | e
        · subst e; simp at hne
        · exact e
      have hx0 := (Classical.choose_spec (each ⟨0, h0⟩)).2 0 (by omega)
      have ex : x = ⟨x.block, x.off, none⟩ := by
        have e1 : (x.add (0 * 7)).add 0 = x.add 0 := by simp [Addr.add]
        rw [e1] at hx0
        exact plain_addr (v := (Classical.choose (each ⟨0, h0⟩)).cells[0]'(by simp [Deed.cells])) (by rw [hx0]; rfl)
      refine ⟨x.block, x.off, by rw [← ex], fun j hj i hi7 => ?_⟩
      rw [hlen] at hj
      have := (Classical.choose_spec (each ⟨j, hj⟩)).2 i hi7
      rw [List.getElem_ofFn, ← this, ex]
      simp only [addr_add]
    · obtain ⟨i, rfl⟩ := (List.mem_ofFn.1 hq)
      exact (Classical.choose_spec (each i)).1
end
end Go.Proofs.YtknlojlcahgnoaaGreat
