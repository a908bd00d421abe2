/- Plain laws: how many keys a table has; who is active. -/
import Derived.Test.YtnlmbmbalmkiiaaTwo
import Derived.Test.YtnlmbmbalmkiiaaSlots
namespace Go.Proofs.Ytnlmbmbalmkiiaa
set_option linter.unusedVariables false
set_option linter.unusedSimpArgs false

structure MostInv (l : SMap) (c : Nat) (n : Nat) (clock : Int) : Prop where
  ok : TabOk l c
  len : l.length ≤ n
  all : ∀ x ∈ l, ruleErr x.1.p x.1.e x.1.b x.1.rk = 0 ∧ x.1.e * x.1.b ≤ 2000 ∧ Sane x.1.sk x.1.sa x.1.sb clock (x.1.e * x.1.b)
theorem MostInv.nil (c n : Nat) (clock : Int) : MostInv [] c n clock := ⟨TabOk.nil c, by simp, fun x h => (by cases h)⟩
theorem MostInv.later {l : SMap} {c n : Nat} {clock now : Int} (h : MostInv l c n clock) (hn : clock ≤ now) : MostInv l c n now :=
  ⟨h.ok, h.len, fun x hx => by obtain ⟨a1, a2, a3⟩ := h.all x hx; exact ⟨a1, a2, a3.later hn⟩⟩

theorem hit_look {l : SMap} {k : ByteArray} {e b clock : Int} {s : Slot} (h : slotHit l k e b clock = some s) : l.look k = some s ∧ s.e = e ∧ s.b = b ∧ drained clock s = false := by
  unfold slotHit at h
  cases hl : l.look k with
  | none => rw [hl] at h; cases h
  | some s' =>
    rw [hl] at h
    simp only [Option.filter] at h
    split at h
    · rename_i q
      cases h
      simp at q
      exact ⟨rfl, q.1.1, q.1.2, by unfold drained; simpa using q.2⟩
    · cases h
theorem hit_of {l : SMap} {k : ByteArray} {e b clock : Int} {s : Slot} (hl : l.look k = some s) (he : s.e = e) (hb : s.b = b) (hd : drained clock s = false) : slotHit l k e b clock = some s := by
  unfold slotHit
  rw [hl]
  unfold drained at hd
  exact if_pos (by show (s.e == e && s.b == b && !(s.fill clock == 0)) = true; rw [hd, he, hb]; simp)

/-- was it active by these numbers -/
def wasIn (s : List Slot) (k : ByteArray) (e b : Int) : Bool := s.any fun x => decide (x.key = k) && decide (x.e = e) && decide (x.b = b)
def holdsK (s : List Slot) (k : ByteArray) : Bool := s.any fun x => decide (x.key = k)
theorem slotsOf_mem {clock : Int} {l : SMap} {s : Slot} : s ∈ slotsOf clock l ↔ s ∈ actives clock l := (slotsOf_perm clock l).mem_iff
theorem actives_iff {clock : Int} {l : SMap} {s : Slot} : s ∈ actives clock l ↔ (∃ n, (s, n) ∈ l) ∧ drained clock s = false := by
  unfold actives
  constructor
  · intro h
    obtain ⟨⟨a, b⟩, h1, rfl⟩ := List.mem_map.1 h
    have := List.mem_filter.1 h1
    exact ⟨⟨b, this.1⟩, by simpa using this.2⟩
  · rintro ⟨⟨n, hn⟩, hd⟩
    exact List.mem_map.2 ⟨(s, n), List.mem_filter.2 ⟨hn, by rw [hd]; rfl⟩, rfl⟩
theorem mem_look {l : SMap} (hk : l.keys.Nodup) {s : Slot} {n : Nat} (h : (s, n) ∈ l) : l.look s.key = some s := by
  cases hl : l.look s.key with
  | none => exact absurd rfl (look_none.1 hl _ h)
  | some s' =>
    obtain ⟨m, hm⟩ := look_mem hl
    have := key_eq hk hm h (look_key hl)
    cases this
    rfl
theorem was_iff {l : SMap} {c : Nat} (hok : TabOk l c) (k : ByteArray) (e b clock : Int) : wasIn (slotsOf clock l) k e b = (slotHit l k e b clock).isSome := by
  rw [Bool.eq_iff_iff]
  unfold wasIn
  rw [List.any_eq_true, Option.isSome_iff_exists]
  constructor
  · rintro ⟨s, hs, h⟩
    simp at h
    obtain ⟨⟨n, hn⟩, hd⟩ := actives_iff.1 (slotsOf_mem.1 hs)
    have := mem_look hok.keys hn
    rw [h.1.1] at this
    exact ⟨s, hit_of this h.1.2 h.2 hd⟩
  · rintro ⟨s, hs⟩
    obtain ⟨h1, h2, h3, h4⟩ := hit_look hs
    obtain ⟨n, hn⟩ := look_mem h1
    exact ⟨s, slotsOf_mem.2 (actives_iff.2 ⟨⟨n, hn⟩, h4⟩), by simp [look_key h1, h2, h3]⟩
theorem holds_iff {l : SMap} {c : Nat} (hok : TabOk l c) (k : ByteArray) (clock : Int) : holdsK (slotsOf clock l) k = true ↔ ∃ s, l.look k = some s ∧ drained clock s = false := by
  unfold holdsK
  rw [List.any_eq_true]
  constructor
  · rintro ⟨s, hs, h⟩
    simp at h
    obtain ⟨⟨n, hn⟩, hd⟩ := actives_iff.1 (slotsOf_mem.1 hs)
    have := mem_look hok.keys hn
    rw [h] at this
    exact ⟨s, this, hd⟩
  · rintro ⟨s, h1, h2⟩
    obtain ⟨n, hn⟩ := look_mem h1
    exact ⟨s, slotsOf_mem.2 (actives_iff.2 ⟨⟨n, hn⟩, h2⟩), by simp [look_key h1]⟩

theorem filter_len (clock : Int) (l : SMap) : (l.filter fun x => !drained clock x.1).length = (slotsOf clock l).length := by
  rw [slotsOf_len]; unfold actives; rw [List.length_map]
theorem del_len {l : SMap} (k : ByteArray) {s : Slot} (h : l.look k = some s) : (l.del k).length < l.length := by
  obtain ⟨n, hn⟩ := look_mem h
  have hkk := look_key h
  have := filter_lt (fun _ => true) (fun x : Slot × Nat => decide (x.1.key ≠ k)) (fun _ _ => rfl) (s, n) rfl (by simp [hkk]) l hn
  have e : (l.filter fun _ => true).length = l.length := by simp
  rw [e] at this
  exact this

/-- no room: just if all that may be are active, and the key is none of them -/
theorem full_iff {l : SMap} {c n : Nat} {clock : Int} (h : MostInv l c n clock) (k : ByteArray) (e b : Int) :
    chFull n clock l k e b = (!wasIn (slotsOf clock l) k e b && decide ((n : Int) ≤ ((slotsOf clock l).length : Int)) && !holdsK (slotsOf clock l) k) := by
  rw [was_iff h.ok]
  unfold chFull full
  cases hh : slotHit l k e b clock with
  | some s => rfl
  | none =>
    have hsl : slotLeft l k e b clock = l.del k := by unfold slotLeft; rw [hh]; rfl
    rw [hsl]
    simp only [Option.isSome_none, Bool.not_false, Bool.true_and]
    have hle : (slotsOf clock l).length ≤ l.length := by rw [slotsOf_len]; exact actives_len clock l
    have hn := h.len
    cases hl : l.look k with
    | some s =>
      have hd := del_len k hl
      have hr := room_small (clock := clock) (most := (n : Int)) (is := false) (l := l.del k) (by omega)
      have hr1 := hr.1
      simp only [hr1]
      rw [decide_eq_false (by omega : ¬ (n : Int) ≤ ((l.del k).length : Int))]
      cases hdr : drained clock s with
      | false => rw [(holds_iff h.ok k clock).2 ⟨s, hl, hdr⟩]; simp
      | true =>
        have : (slotsOf clock l).length < l.length := by
          rw [← filter_len]
          obtain ⟨m, hm⟩ := look_mem hl
          have := filter_lt (fun _ => true) (fun x : Slot × Nat => !drained clock x.1) (fun _ _ => rfl) (s, m) rfl (by simp [hdr]) l hm
          have e : (l.filter fun _ => true).length = l.length := by simp
          rw [e] at this
          exact this
        rw [decide_eq_false (by omega : ¬ (n : Int) ≤ ((slotsOf clock l).length : Int))]
        rfl
    | none =>
      have hd : l.del k = l := del_none (look_none.1 hl)
      have hho : holdsK (slotsOf clock l) k = false := by
        rw [Bool.eq_false_iff]
        intro q
        obtain ⟨s, h1, -⟩ := (holds_iff h.ok k clock).1 q
        rw [hl] at h1; cases h1
      rw [hd, hho]
      simp only [Bool.not_false, Bool.and_true]
      rw [decide_eq_decide]
      unfold roomed
      by_cases hc : (n : Int) ≤ (l.length : Int)
      · rw [if_pos ⟨rfl, hc⟩, filter_len]
      · rw [if_neg (fun q => hc q.2)]
        omega
end Go.Proofs.Ytnlmbmbalmkiiaa
