/- A range over a map of slots, whose round may delete the slot that came. -/
import Derived.Test.YtnlmbmbalmkiiaaGreatSMap
import Derived.Maps.RangeWalk
namespace Go.Proofs.YtnlmbmbalmkiiaaGreat
open Go.RowKit
set_option linter.unusedVariables false
set_option linter.unusedSimpArgs false

theorem mem_ents {l : SMap} {e : MapEntry} (h : e ∈ (ents l).toList) : ∃ x ∈ l, e = ent x := by
  simp [ents] at h
  obtain ⟨a, b, h1, h2⟩ := h
  exact ⟨(a, b), h1, h2.symm⟩
theorem ents_mem {l : SMap} {x : Slot × Nat} (h : x ∈ l) : ent x ∈ (ents l).toList := by
  simp [ents]
  exact ⟨x.1, x.2, h, rfl⟩

/-- an iterator over a map of slots: nothing was laid into it since the loop began -/
structure IterAt (w : World) (r b : Nat) (l : SMap) (c : Nat) (seen : Array Nat) : Prop where
  map : MapIs w b l c
  it : ∃ c0, w.heap[r]? = some (.mapIter (some b) c seen c0) ∧ c ≤ c0
  old : ∀ x ∈ l, x.2 < c
  born : (l.map (·.2)).Nodup
theorem IterAt.ne {w : World} {r b c : Nat} {l : SMap} {seen : Array Nat} (h : IterAt w r b l c seen) : b ≠ r := fun e => by
  subst e
  obtain ⟨c0, h1, -⟩ := h.it
  have := (show w.heap[b]? = some (.map (ents l) c) from h.map).symm.trans h1
  cases this
theorem IterAt.lt {w : World} {r b c : Nat} {l : SMap} {seen : Array Nat} (h : IterAt w r b l c seen) : r < w.heap.size := by
  obtain ⟨c0, h1, -⟩ := h.it
  exact lt_of_block h1
theorem IterAt.ext {w w' : World} {r b c : Nat} {l : SMap} {seen : Array Nat} (h : IterAt w r b l c seen) (e : Ext w w') : IterAt w' r b l c seen := by
  obtain ⟨c0, h1, h2⟩ := h.it
  exact ⟨h.map.ext e, ⟨c0, (e.block h.lt).trans h1, h2⟩, h.old, h.born⟩

/-- how many are to come -/
def toCome (l : SMap) (seen : Array Nat) : Nat := (l.filter fun x => !seen.contains x.2).length
theorem leftOf_ents (l : SMap) (seen : Array Nat) : leftOf (ents l) seen = ents (l.filter fun x => !seen.contains x.2) := by
  unfold leftOf ents
  rw [List.filter_toArray, List.filter_map]
  rfl
theorem leftOf_size (l : SMap) (seen : Array Nat) : (leftOf (ents l) seen).size = toCome l seen := by
  rw [leftOf_ents]; simp [ents, toCome]
theorem IterAt.left {w : World} {r b c : Nat} {l : SMap} {seen : Array Nat} (h : IterAt w r b l c seen) : w.rangeLeft b r = toCome l seen := by
  obtain ⟨c0, h1, h2⟩ := h.it
  unfold World.rangeLeft
  rw [show w.heap[b]? = some (.map (ents l) c) from h.map, h1]
  exact leftOf_size l seen

theorem toCome_zero {l : SMap} {seen : Array Nat} (h : toCome l seen = 0) : ∀ x ∈ l, seen.contains x.2 = true := by
  intro x hx
  have h1 : (l.filter fun x => !seen.contains x.2) = [] := List.length_eq_zero_iff.1 h
  have h2 := List.filter_eq_nil_iff.1 h1 x hx
  simpa using h2
theorem toCome_push {l : SMap} {seen : Array Nat} {s : Slot} {n : Nat} (h : (s, n) ∈ l) (hs : seen.contains n = false) : toCome l (seen.push n) < toCome l seen := by
  unfold toCome
  refine filter_length_lt ?_ (s, n) h (by simpa using hs) (by simp)
  intro x hx
  simp only [Array.contains_push] at hx
  simp at hx ⊢
  exact hx.1
where filter_length_lt {α : Type} {p q : α → Bool} {l : List α} (hpq : ∀ x, q x = true → p x = true) (e : α) (he : e ∈ l) (hp : p e = true) (hq : q e = false) : (l.filter q).length < (l.filter p).length := filter_lt p q hpq e hp hq l he
theorem toCome_del {l : SMap} {seen : Array Nat} (k : ByteArray) : toCome (l.del k) seen ≤ toCome l seen := by
  unfold toCome SMap.del
  rw [List.filter_filter]
  refine List.Sublist.length_le ?_
  rw [← List.filter_filter, List.filter_filter]
  have : (List.filter (fun a => (!seen.contains a.2) && decide (a.1.key ≠ k)) l) = List.filter (fun x => decide (x.1.key ≠ k)) (List.filter (fun x => !seen.contains x.2) l) := by
    rw [List.filter_filter]
    congr 1
    funext a
    exact Bool.and_comm _ _
  rw [this]
  exact List.filter_sublist

section
variable {P : Program} {t k e : TypeId}
theorem run_srange (ht : P.underlying t = some (.map k e)) {w : World} {b c : Nat} {l : SMap} (h : MapIs w b l c) (ho : ∀ x ∈ l, x.2 < c) (hb : (l.map (·.2)).Nodup) :
    (Instr.range t (.map (some b))).run P w = .ok (.pointer (some ⟨w.heap.size, 0, none⟩)) (w.alloc (.mapIter (some b) c #[] c)) ∧ IterAt (w.alloc (.mapIter (some b) c #[] c)) w.heap.size b l c #[] :=
  ⟨run_range_map w t k e b (ents l) c ht h, h.ext ((Ext.refl w).alloc _), ⟨c, map_new_at w _, Nat.le_refl _⟩, ho, hb⟩

theorem run_snext {w : World} {r b c : Nat} {l : SMap} {seen : Array Nat} (h : IterAt w r b l c seen) :
    (toCome l seen = 0 ∧ ∀ ty, (Instr.next (.pointer (some ⟨r, 0, none⟩)) false ty).run P w = .ok (.tuple #[.bool false]) w) ∨
    ∃ s n w', (s, n) ∈ l ∧ seen.contains n = false ∧ (∀ ty, (Instr.next (.pointer (some ⟨r, 0, none⟩)) false ty).run P w = .ok (.tuple #[.bool true, .string s.key, s.val]) w') ∧
      IterAt w' r b l c (seen.push n) ∧ ExtB r w w' ∧ (Instr.entry (.pointer (some ⟨r, 0, none⟩))).run P w' = .ok (.tuple #[.string s.key, s.val]) w' := by
  have hne := h.ne
  obtain ⟨hm, ⟨c0, hr, hc⟩, ho, hbn⟩ := h
  have hold : ∀ x ∈ (ents l).toList, x.born < c := fun x hx => by
    obtain ⟨y, hy, rfl⟩ := mem_ents hx
    exact ho y hy
  have hbn' : ((ents l).toList.map (·.born)).Nodup := by
    simpa [ents, ent, Function.comp_def] using hbn
  by_cases hz : (leftOf (ents l) seen).size = 0
  · refine Or.inl ⟨by rw [← leftOf_size]; exact hz, fun ty => ?_⟩
    rcases run_next_at (P := P) w ty r b c c0 seen (ents l) c hr hm hold hc with ⟨h0, hrun⟩ | ⟨e, he, w1, hal, hrun⟩
    · exact hrun
    · exfalso
      have : leftOf (ents l) seen = #[] := Array.eq_empty_of_size_eq_zero hz
      rw [this] at he
      simp at he
  · rcases run_next_at (P := P) w 0 r b c c0 seen (ents l) c hr hm hold hc with ⟨h0, hrun⟩ | ⟨e, he, w1, hal, hrun⟩
    · exact absurd h0 hz
    · obtain ⟨hem, hes⟩ := mem_left he
      obtain ⟨⟨s, n⟩, hx, rfl⟩ := mem_ents hem
      have hset := MapKept.heap_set (o' := .mapIter (some b) c (seen.push n) c) (show w1.heap[r]? = some (.mapIter (some b) c seen c0) by rcases hal with rfl | rfl <;> exact hr)
      have hb1 : w1.heap[b]? = some (.map (ents l) c) := by rcases hal with rfl | rfl <;> exact hm
      refine Or.inr ⟨s, n, ChangeMaps.setBlock w1 r (.mapIter (some b) c (seen.push n) c), hx, hes, fun ty => ?_, ⟨(hset.2 b hne).trans hb1, ⟨c, hset.1, Nat.le_refl _⟩, ho, hbn⟩, ?_, ?_⟩
      · exact hrun
      · rcases hal with rfl | rfl <;> exact ⟨rfl, rfl, rfl, by simp [ChangeMaps.setBlock], fun i _ hi => hset.2 i hi⟩
      · exact run_entry_at _ r b c seen (ents l) c _ hset.1 ((hset.2 b hne).trans hb1) (ents_mem hx) hbn'
end

/-- what is left of a map, when those that came and are of p are gone -/
def swept (p : Slot → Bool) (l : SMap) (seen : Array Nat) : SMap := l.filter fun x => !(seen.contains x.2 && p x.1)
theorem swept_start (p : Slot → Bool) (l : SMap) : swept p l #[] = l := by
  unfold swept
  rw [List.filter_eq_self]
  intro x _
  simp
theorem swept_end {p : Slot → Bool} {l : SMap} {seen : Array Nat} (h : toCome (swept p l seen) seen = 0) : swept p l seen = l.filter fun x => !p x.1 := by
  have h1 := toCome_zero h
  unfold swept at h1 ⊢
  refine List.filter_congr fun x hx => ?_
  cases hp : p x.1 with
  | false => simp
  | true =>
    cases hs : seen.contains x.2 with
    | true => simp
    | false =>
      have := h1 x (List.mem_filter.2 ⟨hx, by rw [hs]; rfl⟩)
      rw [hs] at this
      cases this
theorem map_inj {α β : Type} (f : α → β) : ∀ {l : List α}, (l.map f).Nodup → ∀ {x y : α}, x ∈ l → y ∈ l → f x = f y → x = y
  | [], _, _, _, hx, _, _ => by cases hx
  | a :: l, hn, x, y, hx, hy, h => by
    have hn' : f a ∉ l.map f ∧ (l.map f).Nodup := List.nodup_cons.1 hn
    rcases List.mem_cons.1 hx with e1 | hx'
    · rcases List.mem_cons.1 hy with e2 | hy'
      · rw [e1, e2]
      · exact absurd (List.mem_map.2 ⟨y, hy', by rw [← h, e1]⟩) hn'.1
    · rcases List.mem_cons.1 hy with e2 | hy'
      · exact absurd (List.mem_map.2 ⟨x, hx', by rw [h, e2]⟩) hn'.1
      · exact map_inj f hn'.2 hx' hy' h
theorem born_eq {l : SMap} (hn : (l.map (·.2)).Nodup) {x y : Slot × Nat} (hx : x ∈ l) (hy : y ∈ l) (h : x.2 = y.2) : x = y := map_inj (·.2) hn hx hy h
theorem key_eq {l : SMap} (hn : l.keys.Nodup) {x y : Slot × Nat} (hx : x ∈ l) (hy : y ∈ l) (h : x.1.key = y.1.key) : x = y := map_inj (fun x : Slot × Nat => x.1.key) (l := l) hn hx hy h
theorem swept_stays {p : Slot → Bool} {l : SMap} {seen : Array Nat} (hn : (l.map (·.2)).Nodup) {s : Slot} {n : Nat} (h : (s, n) ∈ swept p l seen) (hp : p s = false) : swept p l (seen.push n) = swept p l seen := by
  have hl : (s, n) ∈ l := (List.mem_filter.1 h).1
  refine List.filter_congr fun x hx => ?_
  by_cases e : x.2 = n
  · have := born_eq hn hx hl e
    subst this
    simp [hp]
  · have e' : (x.2 == n) = false := by simpa using e
    rw [Array.contains_push, e', Bool.or_false]
theorem swept_struck {p : Slot → Bool} {l : SMap} {seen : Array Nat} (hn : (l.map (·.2)).Nodup) (hk : l.keys.Nodup) {s : Slot} {n : Nat} (h : (s, n) ∈ swept p l seen) (hp : p s = true) : swept p l (seen.push n) = (swept p l seen).del s.key := by
  have hl : (s, n) ∈ l := (List.mem_filter.1 h).1
  unfold swept SMap.del
  rw [List.filter_filter]
  refine List.filter_congr fun x hx => ?_
  rw [Array.contains_push]
  by_cases e : x.2 = n
  · have := born_eq hn hx hl e
    subst this
    simp [hp]
  · have hkk : x.1.key ≠ s.key := fun q => e (by have := key_eq hk hx hl q; subst this; rfl)
    have e' : (x.2 == n) = false := by simpa using e
    rw [e', Bool.or_false, decide_eq_true hkk, Bool.true_and]
theorem swept_born {p : Slot → Bool} {l : SMap} {seen : Array Nat} (hn : (l.map (·.2)).Nodup) : ((swept p l seen).map (·.2)).Nodup := hn.sublist (List.filter_sublist.map _)
theorem swept_keys {p : Slot → Bool} {l : SMap} {seen : Array Nat} (hn : l.keys.Nodup) : (swept p l seen).keys.Nodup := hn.sublist (List.filter_sublist.map _)
theorem swept_mem {p : Slot → Bool} {l : SMap} {seen : Array Nat} {x : Slot × Nat} (h : x ∈ swept p l seen) : x ∈ l := (List.mem_filter.1 h).1
end Go.Proofs.YtnlmbmbalmkiiaaGreat
