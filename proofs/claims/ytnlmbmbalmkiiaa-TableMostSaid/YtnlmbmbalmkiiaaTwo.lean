/- Plain laws: what one key does changes nothing of another one; tables that are alike in a key tell the same of it. -/
import Derived.Test.YtnlmbmbalmkiiaaOne
namespace Go.Proofs.Ytnlmbmbalmkiiaa
set_option linter.unusedVariables false
set_option linter.unusedSimpArgs false

theorem look_del_ne (l : SMap) {k q : ByteArray} (h : k ≠ q) : (l.del k).look q = l.look q := by
  induction l with
  | nil => rfl
  | cons x l ih =>
    show SMap.look (List.filter _ (x :: l)) q = _
    rw [List.filter_cons]
    by_cases hx : x.1.key = k
    · rw [if_neg (by simpa using hx), look_cons, if_neg (by rw [hx]; exact h)]; exact ih
    · rw [if_pos (by simpa using hx), look_cons, look_cons]
      split
      · rfl
      · exact ih
theorem look_rep_ne (l : SMap) {s : Slot} {q : ByteArray} (h : s.key ≠ q) : (l.rep s).look q = l.look q := by
  induction l with
  | nil => rfl
  | cons x l ih =>
    show SMap.look ((if x.1.key = s.key then (s, x.2) else x) :: SMap.rep l s) q = _
    by_cases hx : x.1.key = s.key
    · rw [if_pos hx, look_cons, if_neg h, look_cons, if_neg (by rw [hx]; exact h)]; exact ih
    · rw [if_neg hx, look_cons, look_cons]
      split
      · rfl
      · exact ih
theorem look_append_ne (l : SMap) {s : Slot} {c : Nat} {q : ByteArray} (h : s.key ≠ q) : SMap.look (l ++ [(s, c)]) q = l.look q := by
  induction l with
  | nil => rw [List.nil_append, look_cons, if_neg h]
  | cons x l ih =>
    rw [List.cons_append, look_cons, look_cons]
    split
    · rfl
    · exact ih
theorem look_put_ne (l : SMap) {s : Slot} (c : Nat) {q : ByteArray} (h : s.key ≠ q) : (l.put s c).look q = l.look q := by
  unfold SMap.put
  split
  · exact look_rep_ne l h
  · exact look_append_ne l h
theorem put_len (l : SMap) (s : Slot) (c : Nat) : (l.put s c).length ≤ l.length + 1 := by
  unfold SMap.put
  split
  · unfold SMap.rep; rw [List.length_map]; omega
  · rw [List.length_append]; simp
theorem slotLeft_ne (l : SMap) {k q : ByteArray} (e b clock : Int) (h : k ≠ q) : (slotLeft l k e b clock).look q = l.look q := by
  unfold slotLeft
  split
  · rfl
  · exact look_del_ne l h

/-- there is room -/
theorem ch_room {most clock : Int} {l : SMap} {k : ByteArray} {e b : Int} (h : (l.length : Int) < most) : chRoom most clock l k e b = slotLeft l k e b clock ∧ ¬ chFull most clock l k e b = true := by
  have hsl := slotLeft_len l k e b clock
  have := room_small (clock := clock) (most := most) (is := (slotHit l k e b clock).isSome) (l := slotLeft l k e b clock) (by omega)
  refine ⟨this.1, ?_⟩
  unfold chFull
  rw [this.2]
  decide
theorem cgL_len {most clock : Int} {l : SMap} (c : Nat) (k p : ByteArray) (e b rk n : Int) (h : (l.length : Int) < most) : (cgL most clock l c k p e b rk n).length ≤ l.length + 1 := by
  obtain ⟨h1, h2⟩ := ch_room (clock := clock) (k := k) (e := e) (b := b) h
  have hsl := slotLeft_len l k e b clock
  unfold cgL
  split
  · omega
  · split
    · omega
    · unfold chargeL
      rw [if_neg h2, h1]
      unfold chL
      split
      · have := put_len (slotLeft l k e b clock) (chgS clock (slotHit l k e b clock) k p e b rk n) c
        omega
      · omega
/-- another key -/
theorem cgL_ne {most clock : Int} {l : SMap} (c : Nat) (k p : ByteArray) (e b rk n : Int) {q : ByteArray} (hq : k ≠ q) (h : (l.length : Int) < most) : (cgL most clock l c k p e b rk n).look q = l.look q := by
  obtain ⟨h1, h2⟩ := ch_room (clock := clock) (k := k) (e := e) (b := b) h
  unfold cgL
  split
  · rfl
  · split
    · rfl
    · unfold chargeL
      rw [if_neg h2, h1]
      unfold chL
      split
      · rw [look_put_ne _ _ (show (chgS clock (slotHit l k e b clock) k p e b rk n).key ≠ q from hq)]
        exact slotLeft_ne l e b clock hq
      · exact slotLeft_ne l e b clock hq
/-- the same key of two tables -/
theorem cg_same {most clock : Int} {l l' : SMap} (c c' : Nat) (k p : ByteArray) (e b rk n : Int) (hq : l.look k = l'.look k) (h : (l.length : Int) < most) (h' : (l'.length : Int) < most) :
    cgV most clock l' k p e b rk n = cgV most clock l k p e b rk n ∧ (cgL most clock l c k p e b rk n).look k = (cgL most clock l' c' k p e b rk n).look k := by
  obtain ⟨h1, h2⟩ := ch_room (clock := clock) (k := k) (e := e) (b := b) h
  obtain ⟨h3, h4⟩ := ch_room (clock := clock) (k := k) (e := e) (b := b) h'
  have hh : slotHit l k e b clock = slotHit l' k e b clock := by unfold slotHit; rw [hq]
  unfold cgV cgL
  constructor
  · split
    · rfl
    · split
      · rfl
      · unfold chargeV; rw [if_neg h2, if_neg h4, hh]
  · split
    · exact hq
    · split
      · exact hq
      · unfold chargeL
        rw [if_neg h2, if_neg h4, h1, h3, hh]
        unfold chL
        split
        · have hk : (chgS clock (slotHit l' k e b clock) k p e b rk n).key = k := rfl
          have a1 := look_put (slotLeft l k e b clock) (chgS clock (slotHit l' k e b clock) k p e b rk n) c
          have a2 := look_put (slotLeft l' k e b clock) (chgS clock (slotHit l' k e b clock) k p e b rk n) c'
          rw [hk] at a1 a2
          rw [a1, a2]
        · unfold slotLeft
          rw [hh]
          split
          · exact hq
          · rw [look_del, look_del]
/-- an answer's shape -/
theorem cgV_form (most clock : Int) (l : SMap) (k p : ByteArray) (e b rk n : Int) : ∃ (code err limit left reset aft nan : Int) (ret : Bool), cgV most clock l k p e b rk n = ansV code err limit left reset aft nan ret := by
  unfold cgV
  split
  · exact ⟨_, _, _, _, _, _, _, _, rfl⟩
  · split
    · exact ⟨_, _, _, _, _, _, _, _, rfl⟩
    · unfold chargeV
      split
      · exact ⟨_, _, _, _, _, _, _, _, rfl⟩
      · exact ⟨_, _, _, _, _, _, _, _, rfl⟩
theorem xkey_ne (s : ByteArray) : (⟨#[120]⟩ : ByteArray) ++ s ≠ ⟨#[121]⟩ := by
  intro h
  have := congrArg (fun x : ByteArray => x.data.toList) h
  simp [ByteArray.data_append] at this
end Go.Proofs.Ytnlmbmbalmkiiaa
