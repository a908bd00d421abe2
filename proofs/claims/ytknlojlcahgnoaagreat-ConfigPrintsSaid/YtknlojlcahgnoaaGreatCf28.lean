/- Walks: (*node).split. Walks: tollerref14's lists of slots: fill, Slots, find, without. Walks: tollerref14: with, Same, Tick, New. Walks: tollerref14.Move. What the reference's Charge tells and leaves: plain. -/
import Derived.Deep.RegionHeld3
import Derived.Deep.QuietTactic
import Derived.BigQuiet
import Derived.Laws.AppendOwn
import Derived.Laws.AppendOwnNone
import Derived.RangeFuncBox
import Derived.Test.YtknlojlcahgnoaaGreatCf24
import Derived.Test.YtknlojlcahgnoaaGreatCf7
import Derived.Test.YtknlojlcahgnoaaGreatCf12
import Derived.Test.YtknlojlcahgnoaaGreatCf17
import Derived.Test.YtknlojlcahgnoaaGreatCf2
import Derived.Test.YtknlojlcahgnoaaGreatCf23

namespace Go.Proofs.YtknlojlcahgnoaaGreat
open Go.RowKit
set_option linter.unusedVariables false
set_option linter.unusedSimpArgs false

/-- blocks of rules lie as they lay -/
def RulesKept (w w' : World) : Prop := ∀ k C, Blk w k C 37 → Blk w' k C 37
theorem RulesKept.refl (w : World) : RulesKept w w := fun _ _ h => h
theorem RulesKept.trans {x y z : World} (h : RulesKept x y) (k : RulesKept y z) : RulesKept x z := fun b C q => k b C (h b C q)
theorem Ext.rk {x y : World} (h : Ext x y) : RulesKept x y := fun b C q => q.ext h

end Go.Proofs.YtknlojlcahgnoaaGreat

namespace Go.Proofs.YtknlojlcahgnoaaGreat
open Go.RowKit
set_option linter.unusedVariables false
set_option linter.unusedSimpArgs false

theorem slot_size (x : Slot) : x.cells.size = 8 := rfl
/-- a slice of slots, in memory of its own -/
abbrev SlotRow (base : Nat) (w : World) (v : Value) (l : List Slot) : Prop := RowOf Slot.cells 8 145 base w v l
/-- a slice that reads as slots -/
def SlotsAt (w : World) (v : Value) (l : List Slot) : Prop := ∃ a c, v = .slice a l.length c ∧ (l ≠ [] → ∃ b o, a = some ⟨b, o, none⟩ ∧ ∀ j (h : j < l.length) i, i < 8 → w.cell? ⟨b, o + (j * 8 + i), none⟩ = (l[j].cells)[i]?)
theorem SlotsAt.ext {w w' : World} {v : Value} {l : List Slot} (h : SlotsAt w v l) (e : Ext w w') : SlotsAt w' v l := by
  obtain ⟨a, c, hv, hf⟩ := h
  refine ⟨a, c, hv, fun hl => ?_⟩
  obtain ⟨b, o, ha, hc⟩ := hf hl
  refine ⟨b, o, ha, fun j hj i hi => ?_⟩
  have h8 : (l[j].cells)[i]? = some ((l[j].cells)[i]'(by rw [slot_size]; exact hi)) := Array.getElem?_eq_getElem _
  rw [h8]
  exact e.keep ((hc j hj i hi).trans h8)
theorem SlotsAt.size {w : World} {v : Value} {l : List Slot} (h : SlotsAt w v l) : ∃ a c, v = .slice a l.length c := by
  obtain ⟨a, c, hv, -⟩ := h
  exact ⟨a, c, hv⟩
theorem SlotsAt.cells {w : World} {a : Option Addr} {n c : Nat} {l : List Slot} (h : SlotsAt w (.slice a n c) l) (j : Nat) (hj : j < l.length) : ∃ b o, a = some ⟨b, o, none⟩ ∧ b < w.heap.size ∧
    w.cell? ⟨b, o + j * 8, none⟩ = some (.string l[j].key) ∧ w.cell? ⟨b, o + j * 8 + 1, none⟩ = some (.string l[j].p) ∧ w.cell? ⟨b, o + j * 8 + 2, none⟩ = some (.int .u64 l[j].e) ∧ w.cell? ⟨b, o + j * 8 + 3, none⟩ = some (.int .u64 l[j].b) ∧
    w.cell? ⟨b, o + j * 8 + 4, none⟩ = some (.int .u8 l[j].rk) ∧ w.cell? ⟨b, o + j * 8 + 5, none⟩ = some (.int .u8 l[j].sk) ∧ w.cell? ⟨b, o + j * 8 + 6, none⟩ = some (.int .u64 l[j].sa) ∧ w.cell? ⟨b, o + j * 8 + 7, none⟩ = some (.int .u64 l[j].sb) := by
  obtain ⟨a', c', hv, hf⟩ := h
  cases hv
  obtain ⟨b, o, ha, hc⟩ := hf (fun q => by rw [q] at hj; simp at hj)
  have c0 : w.cell? ⟨b, o + j * 8, none⟩ = some (.string l[j].key) := hc j hj 0 (by omega)
  exact ⟨b, o, ha, cell_lt c0, c0, hc j hj 1 (by omega), hc j hj 2 (by omega), hc j hj 3 (by omega), hc j hj 4 (by omega), hc j hj 5 (by omega), hc j hj 6 (by omega), hc j hj 7 (by omega)⟩
/-- those that are active -/
def rSlots (clock : Int) (l : List Slot) : List Slot := l.filter fun s => decide (0 < s.fill clock)
/-- those of other keys -/
def rWithout (l : List Slot) (k : ByteArray) : List Slot := l.filter fun s => decide (s.key ≠ k)
end Go.Proofs.YtknlojlcahgnoaaGreat

namespace Go.Proofs.YtknlojlcahgnoaaGreat
open Go.RowKit
set_option linter.unusedVariables false
set_option linter.unusedSimpArgs false

/-- where a key would stand -/
def rAt (x : List Slot) (k : ByteArray) : Nat := (x.takeWhile fun y => keyLt y.key k).length
/-- a slot, in its place -/
def rWith (l : List Slot) (s : Slot) : List Slot := (rWithout l s.key).take (rAt (rWithout l s.key) s.key) ++ s :: (rWithout l s.key).drop (rAt (rWithout l s.key) s.key)
theorem RowOf.cap {α : Type} {enc : α → Array Value} {k : Nat} {E : TypeId} {base : Nat} {w : World} {a : Option Addr} {n c : Nat} {l : List α} (h : RowOf enc k E base w (.slice a n c) l) : l.length ≤ c := by
  obtain ⟨⟨-, ⟨hv, h0⟩ | ⟨g, cap, cur, h1, h2, h3, h4, -⟩⟩, -⟩ := h
  · cases hv; omega
  · cases h1; exact h4
end Go.Proofs.YtknlojlcahgnoaaGreat

namespace Go.Proofs.YtknlojlcahgnoaaGreat
open Go.RowKit
set_option linter.unusedVariables false
set_option linter.unusedSimpArgs false

theorem Blk.set3 {w : World} {b : Nat} {a0 a1 a2 : Value} {t : TypeId} (h : Blk w b #[a0, a1, a2] t) (v0 v1 v2 : Value) : Blk (((w.setCell ⟨b, 0, none⟩ v0).setCell ⟨b, 1, none⟩ v1).setCell ⟨b, 2, none⟩ v2) b #[v0, v1, v2] t := by
  have h0 : Blk _ b #[v0, a1, a2] t := h.set 0 v0
  have h1 : Blk _ b #[v0, v1, a2] t := h0.set 1 v1
  have h2 : Blk _ b #[v0, v1, v2] t := h1.set 2 v2
  exact h2
theorem RowOf.set1 {α : Type} {enc : α → Array Value} {k : Nat} {E : TypeId} {base b : Nat} {w : World} {v : Value} {l : List α} (h : RowOf enc k E base w v l) (hb : b < base) (o : Nat) (x : Value) : RowOf enc k E base (w.setCell ⟨b, o, none⟩ x) v l := h.extB ((ExtB.refl _ _).setCell _ _) hb
theorem cap_u {s : Slot} (h : SlotOk s) : 0 ≤ s.cap ∧ s.cap < 18446744073709551616 := by
  have := ruleCap_u s.p s.e s.b s.rk h.e0 h.b0
  show 0 ≤ ruleCap s.p s.e s.b s.rk ∧ ruleCap s.p s.e s.b s.rk < 18446744073709551616
  omega
theorem fill_u {clock : Int} {s : Slot} (h : SlotOk s) (hn0 : 0 ≤ clock) (hn1 : clock < 18446744073709551616) : 0 ≤ s.fill clock ∧ s.fill clock < 18446744073709551616 := by
  have hc := cap_u h
  exact kFill_u s.sk s.sa s.sb clock s.cap h.sa0 h.sa1 h.sb0 hn0 hn1 hc.1 hc.2
end Go.Proofs.YtknlojlcahgnoaaGreat

namespace Go.Proofs.YtknlojlcahgnoaaGreat
open Go.RowKit
set_option linter.unusedVariables false
set_option linter.unusedSimpArgs false

def rFind (xs : List Slot) (k : ByteArray) : Option Slot := xs.find? fun s => decide (s.key = k)
def rIdx (xs : List Slot) (k : ByteArray) : Int := match xs.findIdx? (fun s => decide (s.key = k)) with | some i => (i : Int) | none => -1
/-- the slot of a key, if its numbers are the rule's -/
def rHit (xs : List Slot) (k : ByteArray) (e b : Int) : Option Slot := (rFind xs k).filter fun s => s.e == e && s.b == b
/-- is there one by other numbers -/
def rOth (xs : List Slot) (k : ByteArray) (e b : Int) : Bool := (rFind xs k).isSome && !(rHit xs k e b).isSome
def rLeft (xs : List Slot) (k : ByteArray) (e b : Int) : List Slot := if rOth xs k e b then rWithout xs k else xs
theorem rIdx_cases (xs : List Slot) (k : ByteArray) : (rIdx xs k = -1 ∧ rFind xs k = none ∧ ∀ x ∈ xs, x.key ≠ k) ∨
    ∃ m, ∃ h : m < xs.length, rIdx xs k = (m : Int) ∧ rFind xs k = some xs[m] ∧ xs[m].key = k ∧ ∀ i (hi : i < m), (xs[i]'(by omega)).key ≠ k := by
  unfold rIdx rFind
  cases hf : xs.findIdx? (fun s => decide (s.key = k)) with
  | none =>
    left
    rw [List.findIdx?_eq_none_iff] at hf
    have hf' : ∀ x ∈ xs, x.key ≠ k := fun x hx => by simpa using hf x hx
    refine ⟨rfl, ?_, hf'⟩
    rw [List.find?_eq_none]
    intro x hx
    simpa using hf' x hx
  | some m =>
    right
    rw [List.findIdx?_eq_some_iff_getElem] at hf
    obtain ⟨h, h1, h2⟩ := hf
    have h1' : xs[m].key = k := by simpa using h1
    refine ⟨m, h, rfl, ?_, h1', fun i hi => by simpa using h2 i hi⟩
    rw [List.find?_eq_some_iff_getElem]
    exact ⟨by simpa using h1', m, h, rfl, fun j hj => by simpa using h2 j hj⟩
theorem rLeft_mem {xs : List Slot} {k : ByteArray} {e b : Int} {s : Slot} (h : s ∈ rLeft xs k e b) : s ∈ xs := by
  unfold rLeft at h
  split at h
  · exact (List.mem_filter.1 h).1
  · exact h
theorem rHit_mem {xs : List Slot} {k : ByteArray} {e b : Int} {s : Slot} (h : rHit xs k e b = some s) : s ∈ xs ∧ s.key = k ∧ s.e = e ∧ s.b = b := by
  unfold rHit at h
  obtain ⟨h1, h2⟩ := Option.filter_eq_some_iff.1 h
  have h3 := List.find?_some h1
  have h4 := List.mem_of_find?_eq_some h1
  simp at h2 h3
  exact ⟨h4, h3, h2.1, h2.2⟩
end Go.Proofs.YtknlojlcahgnoaaGreat
