/- Walks: prefix.New. Walks: Slots, Active: the active slots, in the order of their keys. Plain laws: how many keys a table has; who is active. -/
import Derived.Shelf.SlSortCmp.NoneTotal
import Derived.Test.YtknlojlcahgnoaaGreatCf28
import Derived.Test.YtknlojlcahgnoaaGreatCf12
import Derived.Test.YtknlojlcahgnoaaGreatCf24
import Derived.Test.YtknlojlcahgnoaaGreatCf29

namespace Go.Proofs.YtknlojlcahgnoaaGreat
open Go.RowKit
set_option linter.unusedVariables false
set_option linter.unusedSimpArgs false

def RlOk (r : Rl) : Prop := r.p.size ≤ maxLen ∧ 0 ≤ r.e ∧ r.e < 18446744073709551616 ∧ 0 ≤ r.b ∧ r.b < 18446744073709551616 ∧ 0 ≤ r.k ∧ r.k < 256
theorem Rl.size4 (r : Rl) : r.cells.size = 4 := rfl
abbrev RulesAt (w : World) (v : Value) (l : List Rl) : Prop := ElemsAt Rl.cells 4 w v l

end Go.Proofs.YtknlojlcahgnoaaGreat

namespace Go.Proofs.YtknlojlcahgnoaaGreat
open Go.RowKit Go.Shelf Go.Sort
set_option linter.unusedVariables false
set_option linter.unusedSimpArgs false

theorem toList_inj {a b : ByteArray} (h : a.toList = b.toList) : a = b := by
  rw [ByteArray.toList_eq, ByteArray.toList_eq] at h
  cases a; cases b
  simp at h
  subst h
  rfl
/-- a slice of slots in memory of its own -/
structure SlotSlice (base : Nat) (w : World) (v : Value) (l : List Slot) : Prop where
  form : ∃ a c, v = .slice a l.length c ∧ (l ≠ [] → ∃ b, a = some ⟨b, 0, none⟩ ∧ base ≤ b ∧ (∀ j (h : j < l.length) i, i < 8 → w.cell? ⟨b, j * 8 + i, none⟩ = (l[j].cells)[i]?) ∧ ∀ o, o < l.length * 8 → w.frozen? ⟨b, o, none⟩ = false)
  nil : v = .slice none 0 0 ↔ l = []

end Go.Proofs.YtknlojlcahgnoaaGreat

namespace Go.Proofs.YtknlojlcahgnoaaGreat
set_option linter.unusedVariables false
set_option linter.unusedSimpArgs false

structure MostInv (l : SMap) (c : Nat) (n : Nat) (clock : Int) : Prop where
  ok : TabOk l c
  len : l.length ≤ n
  all : ∀ x ∈ l, ruleErr x.1.p x.1.e x.1.b x.1.rk = 0 ∧ x.1.e * x.1.b ≤ 2000 ∧ Sane x.1.sk x.1.sa x.1.sb clock (x.1.e * x.1.b)
theorem MostInv.nil (c n : Nat) (clock : Int) : MostInv [] c n clock := ⟨TabOk.nil c, by simp, fun x h => (by cases h)⟩
theorem hit_look {l : SMap} {k : ByteArray} {e b clock : Int} {s : Slot} (h : slotHit l k e b clock = some s) : l.look k = some s ∧ s.e = e ∧ s.b = b ∧ drained clock s = false := by
  unfold slotHit at h
  cases hl : l.look k with
  | none => rw [hl] at h; cases h
  | some s' =>
    rw [hl] at h
    simp only [Option.filter] at h
    split at h
    · rename_i q
      cases h
      simp at q
      exact ⟨rfl, q.1.1, q.1.2, by unfold drained; simpa using q.2⟩
    · cases h
theorem hit_of {l : SMap} {k : ByteArray} {e b clock : Int} {s : Slot} (hl : l.look k = some s) (he : s.e = e) (hb : s.b = b) (hd : drained clock s = false) : slotHit l k e b clock = some s := by
  unfold slotHit
  rw [hl]
  unfold drained at hd
  exact if_pos (by show (s.e == e && s.b == b && !(s.fill clock == 0)) = true; rw [hd, he, hb]; simp)

theorem mem_look {l : SMap} (hk : l.keys.Nodup) {s : Slot} {n : Nat} (h : (s, n) ∈ l) : l.look s.key = some s := by
  cases hl : l.look s.key with
  | none => exact absurd rfl (look_none.1 hl _ h)
  | some s' =>
    obtain ⟨m, hm⟩ := look_mem hl
    have := key_eq hk hm h (look_key hl)
    cases this
    rfl
end Go.Proofs.YtknlojlcahgnoaaGreat
