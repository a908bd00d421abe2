/- Walks: Slots, Active: the active slots, in the order of their keys. Plain laws: how many keys a table has; who is active. -/
import Derived.Shelf.SlSortCmp.NoneTotal
import Derived.Test.YtknlojlcahgnoaaG31
import Derived.Test.YtknlojlcahgnoaaG28
import Derived.Test.YtknlojlcahgnoaaG36

/- Walks: Slots, Active: the active slots, in the order of their keys. -/
namespace Go.Proofs.Ytknlojlcahgnoaa
open Go.RowKit Go.Shelf Go.Sort
set_option linter.unusedVariables false
set_option linter.unusedSimpArgs false

/-- the active slots in the order of their keys -/
def slotsOf (clock : Int) (l : SMap) : List Slot := (actives clock l).mergeSort fun x y => decide (x.key.toList ≤ y.key.toList)
theorem slotsOf_perm (clock : Int) (l : SMap) : (slotsOf clock l).Perm (actives clock l) := List.mergeSort_perm _ _
theorem slotsOf_len (clock : Int) (l : SMap) : (slotsOf clock l).length = (actives clock l).length := (slotsOf_perm clock l).length_eq
theorem actives_len (clock : Int) (l : SMap) : (actives clock l).length ≤ l.length := by
  unfold actives; rw [List.length_map]; exact List.length_filter_le _ _
theorem actives_mem {clock : Int} {l : SMap} {s : Slot} (h : s ∈ actives clock l) : ∃ n, (s, n) ∈ l := by
  unfold actives at h
  obtain ⟨⟨a, b⟩, h1, rfl⟩ := List.mem_map.1 h
  exact ⟨b, (List.mem_filter.1 h1).1⟩
theorem actives_key {clock : Int} {l : SMap} (hk : l.keys.Nodup) {x y : Slot} (hx : x ∈ actives clock l) (hy : y ∈ actives clock l) (h : x.key = y.key) : x = y := by
  obtain ⟨n, hn⟩ := actives_mem hx
  obtain ⟨m, hm⟩ := actives_mem hy
  have := key_eq hk hn hm h
  cases this
  rfl
theorem toList_inj {a b : ByteArray} (h : a.toList = b.toList) : a = b := by
  rw [ByteArray.toList_eq, ByteArray.toList_eq] at h
  cases a; cases b
  simp at h
  subst h
  rfl
theorem slotsOf_unique {clock : Int} {l : SMap} (hk : l.keys.Nodup) {xs : List Slot} (hp : xs.Perm (actives clock l)) (hs : xs.Pairwise fun x y => x.key.toList ≤ y.key.toList) : xs = slotsOf clock l := by
  refine List.Perm.eq_of_pairwise (le := fun x y : Slot => x.key.toList ≤ y.key.toList) ?_ hs ?_ (hp.trans (slotsOf_perm clock l).symm)
  · intro a b ha hb h1 h2
    exact actives_key hk (hp.mem_iff.1 ha) ((slotsOf_perm clock l).mem_iff.1 hb) (toList_inj (List.le_antisymm h1 h2))
  · have := List.pairwise_mergeSort (le := fun x y : Slot => decide (x.key.toList ≤ y.key.toList)) (fun a b c h1 h2 => by simp only [decide_eq_true_eq] at *; exact List.le_trans h1 h2) (fun a b => by simp only [Bool.or_eq_true, decide_eq_true_eq]; exact List.le_total _ _) (actives clock l)
    exact this.imp (fun h => by simpa using h)

/-- a slice of slots in memory of its own -/
structure SlotSlice (base : Nat) (w : World) (v : Value) (l : List Slot) : Prop where
  form : ∃ a c, v = .slice a l.length c ∧ (l ≠ [] → ∃ b, a = some ⟨b, 0, none⟩ ∧ base ≤ b ∧ (∀ j (h : j < l.length) i, i < 8 → w.cell? ⟨b, j * 8 + i, none⟩ = (l[j].cells)[i]?) ∧ ∀ o, o < l.length * 8 → w.frozen? ⟨b, o, none⟩ = false)
  nil : v = .slice none 0 0 ↔ l = []

theorem flatS_get : ∀ (xs : List Slot) (t : Nat), t < xs.length * 8 → (flatS xs)[t]? = some ((slotEnc xs.toArray[t / 8]!)[t % 8]!)
  | [], t, h => by simp at h
  | x :: xs, t, h => by
    show (x.cells.toList ++ flatS xs)[t]? = _
    have hl : x.cells.toList.length = 8 := by simp [Slot.cells]
    by_cases h8 : t < 8
    · rw [List.getElem?_append_left (by omega), show t / 8 = 0 by omega, show t % 8 = t by omega]
      have e : (x :: xs).toArray[0]! = x := by simp
      rw [e]
      unfold slotEnc
      rw [List.getElem?_eq_getElem (by omega), getElem!_pos _ _ (by omega)]
    · rw [List.getElem?_append_right (by omega), hl]
      have ih := flatS_get xs (t - 8) (by simp at h; omega)
      rw [ih, show (t - 8) % 8 = t % 8 by omega]
      have e : (x :: xs).toArray[t / 8]! = xs.toArray[(t - 8) / 8]! := by
        have h1 : t / 8 = (t - 8) / 8 + 1 := by omega
        rw [h1]
        simp
      rw [e]

theorem holds_slice {w : World} {base g cap n : Nat} {d : Array Slot} {l : List Slot} (hl : d.toList = l) (hn : n = l.length) (hb : base ≤ g) (hH : HoldsK slotEnc 8 w g 0 d) (hne : l ≠ []) : SlotSlice base w (.slice (some ⟨g, 0, none⟩) n cap) l := by
  subst hl
  subst hn
  refine ⟨⟨_, cap, rfl, fun _ => ⟨g, rfl, hb, fun j hj i hi => ?_, fun o ho => ?_⟩⟩, ⟨fun h => (by cases h), fun h => absurd h hne⟩⟩
  · have hs : j < d.size := by simpa using hj
    have := (hH (j * 8 + i) (by simp; omega)).1
    rw [Nat.zero_add, get_flatK _ _ _ _ (by omega)] at this
    rw [this, show (j * 8 + i) / 8 = j by omega, show (j * 8 + i) % 8 = i by omega]
    have e : d[j]! = d.toList[j] := by rw [getElem!_pos d j hs]; simp
    rw [e]
    unfold slotEnc
    have hi8 : i < (d.toList[j].cells.toList).length := by simp [Slot.cells]; omega
    show some ((d.toList[j].cells.toList)[i]!) = _
    rw [show ((d.toList[j].cells.toList)[i]!) = (d.toList[j].cells.toList)[i]'hi8 from getElem!_pos (d.toList[j].cells.toList) i hi8]
    simp
  · have := (hH o (by simp; simpa using ho)).2
    rwa [Nat.zero_add] at this

end Go.Proofs.Ytknlojlcahgnoaa

/- Plain laws: how many keys a table has; who is active. -/
namespace Go.Proofs.Ytknlojlcahgnoaa
set_option linter.unusedVariables false
set_option linter.unusedSimpArgs false

structure MostInv (l : SMap) (c : Nat) (n : Nat) (clock : Int) : Prop where
  ok : TabOk l c
  len : l.length ≤ n
  all : ∀ x ∈ l, ruleErr x.1.p x.1.e x.1.b x.1.rk = 0 ∧ x.1.e * x.1.b ≤ 2000 ∧ Sane x.1.sk x.1.sa x.1.sb clock (x.1.e * x.1.b)
theorem MostInv.nil (c n : Nat) (clock : Int) : MostInv [] c n clock := ⟨TabOk.nil c, by simp, fun x h => (by cases h)⟩
theorem MostInv.later {l : SMap} {c n : Nat} {clock now : Int} (h : MostInv l c n clock) (hn : clock ≤ now) : MostInv l c n now :=
  ⟨h.ok, h.len, fun x hx => by obtain ⟨a1, a2, a3⟩ := h.all x hx; exact ⟨a1, a2, a3.later hn⟩⟩

theorem hit_look {l : SMap} {k : ByteArray} {e b clock : Int} {s : Slot} (h : slotHit l k e b clock = some s) : l.look k = some s ∧ s.e = e ∧ s.b = b ∧ drained clock s = false := by
  unfold slotHit at h
  cases hl : l.look k with
  | none => rw [hl] at h; cases h
  | some s' =>
    rw [hl] at h
    simp only [Option.filter] at h
    split at h
    · rename_i q
      cases h
      simp at q
      exact ⟨rfl, q.1.1, q.1.2, by unfold drained; simpa using q.2⟩
    · cases h
theorem hit_of {l : SMap} {k : ByteArray} {e b clock : Int} {s : Slot} (hl : l.look k = some s) (he : s.e = e) (hb : s.b = b) (hd : drained clock s = false) : slotHit l k e b clock = some s := by
  unfold slotHit
  rw [hl]
  unfold drained at hd
  exact if_pos (by show (s.e == e && s.b == b && !(s.fill clock == 0)) = true; rw [hd, he, hb]; simp)

/-- was it active by these numbers -/
def wasIn (s : List Slot) (k : ByteArray) (e b : Int) : Bool := s.any fun x => decide (x.key = k) && decide (x.e = e) && decide (x.b = b)
def holdsK (s : List Slot) (k : ByteArray) : Bool := s.any fun x => decide (x.key = k)
theorem slotsOf_mem {clock : Int} {l : SMap} {s : Slot} : s ∈ slotsOf clock l ↔ s ∈ actives clock l := (slotsOf_perm clock l).mem_iff
theorem actives_iff {clock : Int} {l : SMap} {s : Slot} : s ∈ actives clock l ↔ (∃ n, (s, n) ∈ l) ∧ drained clock s = false := by
  unfold actives
  constructor
  · intro h
    obtain ⟨⟨a, b⟩, h1, rfl⟩ := List.mem_map.1 h
    have := List.mem_filter.1 h1
    exact ⟨⟨b, this.1⟩, by simpa using this.2⟩
  · rintro ⟨⟨n, hn⟩, hd⟩
    exact List.mem_map.2 ⟨(s, n), List.mem_filter.2 ⟨hn, by rw [hd]; rfl⟩, rfl⟩
theorem mem_look {l : SMap} (hk : l.keys.Nodup) {s : Slot} {n : Nat} (h : (s, n) ∈ l) : l.look s.key = some s := by
  cases hl : l.look s.key with
  | none => exact absurd rfl (look_none.1 hl _ h)
  | some s' =>
    obtain ⟨m, hm⟩ := look_mem hl
    have := key_eq hk hm h (look_key hl)
    cases this
    rfl
theorem was_iff {l : SMap} {c : Nat} (hok : TabOk l c) (k : ByteArray) (e b clock : Int) : wasIn (slotsOf clock l) k e b = (slotHit l k e b clock).isSome := by
  rw [Bool.eq_iff_iff]
  unfold wasIn
  rw [List.any_eq_true, Option.isSome_iff_exists]
  constructor
  · rintro ⟨s, hs, h⟩
    simp at h
    obtain ⟨⟨n, hn⟩, hd⟩ := actives_iff.1 (slotsOf_mem.1 hs)
    have := mem_look hok.keys hn
    rw [h.1.1] at this
    exact ⟨s, hit_of this h.1.2 h.2 hd⟩
  · rintro ⟨s, hs⟩
    obtain ⟨h1, h2, h3, h4⟩ := hit_look hs
    obtain ⟨n, hn⟩ := look_mem h1
    exact ⟨s, slotsOf_mem.2 (actives_iff.2 ⟨⟨n, hn⟩, h4⟩), by simp [look_key h1, h2, h3]⟩
theorem holds_iff {l : SMap} {c : Nat} (hok : TabOk l c) (k : ByteArray) (clock : Int) : holdsK (slotsOf clock l) k = true ↔ ∃ s, l.look k = some s ∧ drained clock s = false := by
  unfold holdsK
  rw [List.any_eq_true]
  constructor
  · rintro ⟨s, hs, h⟩
    simp at h
    obtain ⟨⟨n, hn⟩, hd⟩ := actives_iff.1 (slotsOf_mem.1 hs)
    have := mem_look hok.keys hn
    rw [h] at this
    exact ⟨s, this, hd⟩
  · rintro ⟨s, h1, h2⟩
    obtain ⟨n, hn⟩ := look_mem h1
    exact ⟨s, slotsOf_mem.2 (actives_iff.2 ⟨⟨n, hn⟩, h2⟩), by simp [look_key h1]⟩

theorem filter_len (clock : Int) (l : SMap) : (l.filter fun x => !drained clock x.1).length = (slotsOf clock l).length := by
  rw [slotsOf_len]; unfold actives; rw [List.length_map]
theorem del_len {l : SMap} (k : ByteArray) {s : Slot} (h : l.look k = some s) : (l.del k).length < l.length := by
  obtain ⟨n, hn⟩ := look_mem h
  have hkk := look_key h
  have := filter_lt (fun _ => true) (fun x : Slot × Nat => decide (x.1.key ≠ k)) (fun _ _ => rfl) (s, n) rfl (by simp [hkk]) l hn
  have e : (l.filter fun _ => true).length = l.length := by simp
  rw [e] at this
  exact this

/-- no room: just if all that may be are active, and the key is none of them -/
theorem full_iff {l : SMap} {c n : Nat} {clock : Int} (h : MostInv l c n clock) (k : ByteArray) (e b : Int) :
    chFull n clock l k e b = (!wasIn (slotsOf clock l) k e b && decide ((n : Int) ≤ ((slotsOf clock l).length : Int)) && !holdsK (slotsOf clock l) k) := by
  rw [was_iff h.ok]
  unfold chFull full
  cases hh : slotHit l k e b clock with
  | some s => rfl
  | none =>
    have hsl : slotLeft l k e b clock = l.del k := by unfold slotLeft; rw [hh]; rfl
    rw [hsl]
    simp only [Option.isSome_none, Bool.not_false, Bool.true_and]
    have hle : (slotsOf clock l).length ≤ l.length := by rw [slotsOf_len]; exact actives_len clock l
    have hn := h.len
    cases hl : l.look k with
    | some s =>
      have hd := del_len k hl
      have hr := room_small (clock := clock) (most := (n : Int)) (is := false) (l := l.del k) (by omega)
      have hr1 := hr.1
      simp only [hr1]
      rw [decide_eq_false (by omega : ¬ (n : Int) ≤ ((l.del k).length : Int))]
      cases hdr : drained clock s with
      | false => rw [(holds_iff h.ok k clock).2 ⟨s, hl, hdr⟩]; simp
      | true =>
        have : (slotsOf clock l).length < l.length := by
          rw [← filter_len]
          obtain ⟨m, hm⟩ := look_mem hl
          have := filter_lt (fun _ => true) (fun x : Slot × Nat => !drained clock x.1) (fun _ _ => rfl) (s, m) rfl (by simp [hdr]) l hm
          have e : (l.filter fun _ => true).length = l.length := by simp
          rw [e] at this
          exact this
        rw [decide_eq_false (by omega : ¬ (n : Int) ≤ ((slotsOf clock l).length : Int))]
        rfl
    | none =>
      have hd : l.del k = l := del_none (look_none.1 hl)
      have hho : holdsK (slotsOf clock l) k = false := by
        rw [Bool.eq_false_iff]
        intro q
        obtain ⟨s, h1, -⟩ := (holds_iff h.ok k clock).1 q
        rw [hl] at h1; cases h1
      rw [hd, hho]
      simp only [Bool.not_false, Bool.and_true]
      rw [decide_eq_decide]
      unfold roomed
      by_cases hc : (n : Int) ≤ (l.length : Int)
      · rw [if_pos ⟨rfl, hc⟩, filter_len]
      · rw [if_neg (fun q => hc q.2)]
        omega
end Go.Proofs.Ytknlojlcahgnoaa
