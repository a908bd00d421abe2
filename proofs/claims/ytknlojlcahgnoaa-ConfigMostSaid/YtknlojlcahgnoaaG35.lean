/- Walks: tollerref14's lists of slots: fill, Slots, find, without. Walks: tollerref14: with, Same, Tick, New. Walks: tollerref14: Same, Tick, New, told. Walks: tollerref14: moved. Walks: tollerref14.Move. What the reference's Charge tells and leaves: plain. -/
import Derived.Laws.AppendOwn
import Derived.Laws.AppendOwnNone
import Derived.RangeFuncBox
import Derived.Test.YtknlojlcahgnoaaG25
import Derived.Test.YtknlojlcahgnoaaG7
import Derived.Test.YtknlojlcahgnoaaG11
import Derived.Test.YtknlojlcahgnoaaG20
import Derived.Test.YtknlojlcahgnoaaG2
import Derived.Test.YtknlojlcahgnoaaG23
import Derived.Test.YtknlojlcahgnoaaG30

/- Walks: tollerref14's lists of slots: fill, Slots, find, without. -/
namespace Go.Proofs.Ytknlojlcahgnoaa
open Go.RowKit
set_option linter.unusedVariables false
set_option linter.unusedSimpArgs false

theorem slot_size (x : Slot) : x.cells.size = 8 := rfl
/-- a slice that reads as slots -/
def SlotsAt (w : World) (v : Value) (l : List Slot) : Prop := ∃ a c, v = .slice a l.length c ∧ (l ≠ [] → ∃ b o, a = some ⟨b, o, none⟩ ∧ ∀ j (h : j < l.length) i, i < 8 → w.cell? ⟨b, o + (j * 8 + i), none⟩ = (l[j].cells)[i]?)
theorem SlotsAt.ext {w w' : World} {v : Value} {l : List Slot} (h : SlotsAt w v l) (e : Ext w w') : SlotsAt w' v l := by
  obtain ⟨a, c, hv, hf⟩ := h
  refine ⟨a, c, hv, fun hl => ?_⟩
  obtain ⟨b, o, ha, hc⟩ := hf hl
  refine ⟨b, o, ha, fun j hj i hi => ?_⟩
  have h8 : (l[j].cells)[i]? = some ((l[j].cells)[i]'(by rw [slot_size]; exact hi)) := Array.getElem?_eq_getElem _
  rw [h8]
  exact e.keep ((hc j hj i hi).trans h8)
theorem SlotsAt.size {w : World} {v : Value} {l : List Slot} (h : SlotsAt w v l) : ∃ a c, v = .slice a l.length c := by
  obtain ⟨a, c, hv, -⟩ := h
  exact ⟨a, c, hv⟩
theorem SlotsAt.cells {w : World} {a : Option Addr} {n c : Nat} {l : List Slot} (h : SlotsAt w (.slice a n c) l) (j : Nat) (hj : j < l.length) : ∃ b o, a = some ⟨b, o, none⟩ ∧ b < w.heap.size ∧
    w.cell? ⟨b, o + j * 8, none⟩ = some (.string l[j].key) ∧ w.cell? ⟨b, o + j * 8 + 1, none⟩ = some (.string l[j].p) ∧ w.cell? ⟨b, o + j * 8 + 2, none⟩ = some (.int .u64 l[j].e) ∧ w.cell? ⟨b, o + j * 8 + 3, none⟩ = some (.int .u64 l[j].b) ∧
    w.cell? ⟨b, o + j * 8 + 4, none⟩ = some (.int .u8 l[j].rk) ∧ w.cell? ⟨b, o + j * 8 + 5, none⟩ = some (.int .u8 l[j].sk) ∧ w.cell? ⟨b, o + j * 8 + 6, none⟩ = some (.int .u64 l[j].sa) ∧ w.cell? ⟨b, o + j * 8 + 7, none⟩ = some (.int .u64 l[j].sb) := by
  obtain ⟨a', c', hv, hf⟩ := h
  cases hv
  obtain ⟨b, o, ha, hc⟩ := hf (fun q => by rw [q] at hj; simp at hj)
  have c0 : w.cell? ⟨b, o + j * 8, none⟩ = some (.string l[j].key) := hc j hj 0 (by omega)
  exact ⟨b, o, ha, cell_lt c0, c0, hc j hj 1 (by omega), hc j hj 2 (by omega), hc j hj 3 (by omega), hc j hj 4 (by omega), hc j hj 5 (by omega), hc j hj 6 (by omega), hc j hj 7 (by omega)⟩
/-- those that are active -/
def rSlots (clock : Int) (l : List Slot) : List Slot := l.filter fun s => decide (0 < s.fill clock)
/-- those of other keys -/
def rWithout (l : List Slot) (k : ByteArray) : List Slot := l.filter fun s => decide (s.key ≠ k)
end Go.Proofs.Ytknlojlcahgnoaa

/- Walks: tollerref14: with, Same, Tick, New. -/
namespace Go.Proofs.Ytknlojlcahgnoaa
open Go.RowKit
set_option linter.unusedVariables false
set_option linter.unusedSimpArgs false

/-- where a key would stand -/
def rAt (x : List Slot) (k : ByteArray) : Nat := (x.takeWhile fun y => keyLt y.key k).length
/-- a slot, in its place -/
def rWith (l : List Slot) (s : Slot) : List Slot := (rWithout l s.key).take (rAt (rWithout l s.key) s.key) ++ s :: (rWithout l s.key).drop (rAt (rWithout l s.key) s.key)
theorem rAt_le (x : List Slot) (k : ByteArray) : rAt x k ≤ x.length := List.Sublist.length_le (List.takeWhile_sublist _)
theorem rAt_step : ∀ (x : List Slot) (k : ByteArray) (j : Nat) (h : j < x.length), j ≤ rAt x k → keyLt x[j].key k = true → j + 1 ≤ rAt x k
  | y :: x, k, 0, h, hj, e => by
    simp at e
    simp [rAt, List.takeWhile_cons, e]
  | y :: x, k, j + 1, h, hj, e => by
    unfold rAt at hj ⊢
    rw [List.takeWhile_cons] at hj ⊢
    split at hj
    · rename_i q
      rw [if_pos q]
      rw [List.length_cons] at hj ⊢
      have := rAt_step x k j (by simpa using h) (by unfold rAt; omega) (by simpa using e)
      unfold rAt at this
      omega
    · simp at hj
theorem rAt_stop : ∀ (x : List Slot) (k : ByteArray) (j : Nat) (h : j < x.length), j ≤ rAt x k → keyLt x[j].key k = false → rAt x k = j
  | y :: x, k, 0, h, hj, e => by
    simp at e
    simp [rAt, List.takeWhile_cons, e]
  | y :: x, k, j + 1, h, hj, e => by
    unfold rAt at hj ⊢
    rw [List.takeWhile_cons] at hj ⊢
    split at hj
    · rename_i q
      rw [if_pos q]
      rw [List.length_cons] at hj ⊢
      have := rAt_stop x k j (by simpa using h) (by unfold rAt; omega) (by simpa using e)
      unfold rAt at this
      omega
    · simp at hj
theorem RowOf.cap {α : Type} {enc : α → Array Value} {k : Nat} {E : TypeId} {base : Nat} {w : World} {a : Option Addr} {n c : Nat} {l : List α} (h : RowOf enc k E base w (.slice a n c) l) : l.length ≤ c := by
  obtain ⟨⟨-, ⟨hv, h0⟩ | ⟨g, cap, cur, h1, h2, h3, h4, -⟩⟩, -⟩ := h
  · cases hv; omega
  · cases h1; exact h4
theorem flat_one {l : List Slot} : ∀ u ∈ flatE Slot.cells l, u.oneCell' = true := by
  intro u hu
  unfold flatE at hu
  rw [List.mem_flatMap] at hu
  obtain ⟨s, -, hs⟩ := hu
  simp [Slot.cells] at hs
  rcases hs with rfl | rfl | rfl | rfl | rfl | rfl | rfl | rfl <;> rfl
theorem flatE_append {l l' : List Slot} : flatE Slot.cells (l ++ l') = flatE Slot.cells l ++ flatE Slot.cells l' := by unfold flatE; rw [List.flatMap_append]

end Go.Proofs.Ytknlojlcahgnoaa

/- Walks: tollerref14: Same, Tick, New, told. -/
namespace Go.Proofs.Ytknlojlcahgnoaa
open Go.RowKit
set_option linter.unusedVariables false
set_option linter.unusedSimpArgs false

/-- what is told of a state -/
def rTold (clock : Int) (p : ByteArray) (e b rk sk sa sb : Int) : Int × Int := (divS (satSub (ruleCap p e b rk) (kFill sk sa sb clock (ruleCap p e b rk))) e, ceilS (kFill sk sa sb clock (ruleCap p e b rk)) 1000000000)
end Go.Proofs.Ytknlojlcahgnoaa

/- Walks: tollerref14: moved. -/
namespace Go.Proofs.Ytknlojlcahgnoaa
open Go.RowKit
set_option linter.unusedVariables false
set_option linter.unusedSimpArgs false

theorem Blk.set8 {w : World} {b : Nat} {a0 a1 a2 a3 a4 a5 a6 a7 : Value} {t : TypeId} (h : Blk w b #[a0, a1, a2, a3, a4, a5, a6, a7] t) (v0 v1 v2 v3 v4 v5 v6 v7 : Value) : Blk ((((((((w.setCell ⟨b, 0, none⟩ v0).setCell ⟨b, 1, none⟩ v1).setCell ⟨b, 2, none⟩ v2).setCell ⟨b, 3, none⟩ v3).setCell ⟨b, 4, none⟩ v4).setCell ⟨b, 5, none⟩ v5).setCell ⟨b, 6, none⟩ v6).setCell ⟨b, 7, none⟩ v7) b #[v0, v1, v2, v3, v4, v5, v6, v7] t := by
  have h0 : Blk _ b #[v0, a1, a2, a3, a4, a5, a6, a7] t := h.set 0 v0
  have h1 : Blk _ b #[v0, v1, a2, a3, a4, a5, a6, a7] t := h0.set 1 v1
  have h2 : Blk _ b #[v0, v1, v2, a3, a4, a5, a6, a7] t := h1.set 2 v2
  have h3 : Blk _ b #[v0, v1, v2, v3, a4, a5, a6, a7] t := h2.set 3 v3
  have h4 : Blk _ b #[v0, v1, v2, v3, v4, a5, a6, a7] t := h3.set 4 v4
  have h5 : Blk _ b #[v0, v1, v2, v3, v4, v5, a6, a7] t := h4.set 5 v5
  have h6 : Blk _ b #[v0, v1, v2, v3, v4, v5, v6, a7] t := h5.set 6 v6
  have h7 : Blk _ b #[v0, v1, v2, v3, v4, v5, v6, v7] t := h6.set 7 v7
  exact h7
theorem Ext.set8 {x y : World} (h : Ext x y) {b : Nat} (hb : x.heap.size ≤ b) (v0 v1 v2 v3 v4 v5 v6 v7 : Value) : Ext x ((((((((y.setCell ⟨b, 0, none⟩ v0).setCell ⟨b, 1, none⟩ v1).setCell ⟨b, 2, none⟩ v2).setCell ⟨b, 3, none⟩ v3).setCell ⟨b, 4, none⟩ v4).setCell ⟨b, 5, none⟩ v5).setCell ⟨b, 6, none⟩ v6).setCell ⟨b, 7, none⟩ v7) :=
  (((((((h.set hb _ _).set hb _ _).set hb _ _).set hb _ _).set hb _ _).set hb _ _).set hb _ _).set hb _ _

end Go.Proofs.Ytknlojlcahgnoaa

/- Walks: tollerref14.Move. -/
namespace Go.Proofs.Ytknlojlcahgnoaa
open Go.RowKit
set_option linter.unusedVariables false
set_option linter.unusedSimpArgs false

theorem Blk.set3 {w : World} {b : Nat} {a0 a1 a2 : Value} {t : TypeId} (h : Blk w b #[a0, a1, a2] t) (v0 v1 v2 : Value) : Blk (((w.setCell ⟨b, 0, none⟩ v0).setCell ⟨b, 1, none⟩ v1).setCell ⟨b, 2, none⟩ v2) b #[v0, v1, v2] t := by
  have h0 : Blk _ b #[v0, a1, a2] t := h.set 0 v0
  have h1 : Blk _ b #[v0, v1, a2] t := h0.set 1 v1
  have h2 : Blk _ b #[v0, v1, v2] t := h1.set 2 v2
  exact h2
theorem RowOf.set1 {α : Type} {enc : α → Array Value} {k : Nat} {E : TypeId} {base b : Nat} {w : World} {v : Value} {l : List α} (h : RowOf enc k E base w v l) (hb : b < base) (o : Nat) (x : Value) : RowOf enc k E base (w.setCell ⟨b, o, none⟩ x) v l := h.extB ((ExtB.refl _ _).setCell _ _) hb
theorem fill_right {clock : Int} {s : Slot} (h : 0 < s.fill clock) : rightKind s.sk = true := by
  unfold Slot.fill kFill at h
  unfold rightKind
  by_cases q1 : s.sk = 1
  · rw [q1]; rfl
  by_cases q2 : s.sk = 2
  · rw [q2]; rfl
  by_cases q3 : s.sk = 3
  · rw [q3]; rfl
  simp [q1, q2, q3] at h
theorem rSlots_mem {clock : Int} {l : List Slot} {s : Slot} (h : s ∈ rSlots clock l) : s ∈ l ∧ 0 < s.fill clock := by
  unfold rSlots at h
  simpa using List.mem_filter.1 h
theorem cap_u {s : Slot} (h : SlotOk s) : 0 ≤ s.cap ∧ s.cap < 18446744073709551616 := by
  have := ruleCap_u s.p s.e s.b s.rk h.e0 h.b0
  show 0 ≤ ruleCap s.p s.e s.b s.rk ∧ ruleCap s.p s.e s.b s.rk < 18446744073709551616
  omega
theorem fill_u {clock : Int} {s : Slot} (h : SlotOk s) (hn0 : 0 ≤ clock) (hn1 : clock < 18446744073709551616) : 0 ≤ s.fill clock ∧ s.fill clock < 18446744073709551616 := by
  have hc := cap_u h
  exact kFill_u s.sk s.sa s.sb clock s.cap h.sa0 h.sa1 h.sb0 hn0 hn1 hc.1 hc.2
theorem movedS_ok {clock kind : Int} {s : Slot} (hso : SlotOk s) (hq : rightKind kind = true) (hn0 : 0 ≤ clock) (hn1 : clock < 18446744073709551616) : SlotOk (movedS clock s kind) := by
  have hkind : 0 ≤ kind ∧ kind < 256 := by unfold rightKind at hq; simp at hq; omega
  have hc := cap_u hso
  have hf := fill_u hso hn0 hn1
  have hnum := kOf_u kind clock s.cap (s.fill clock) hn0 hn1 hc.1 hc.2 hf.1 hf.2
  exact ⟨hso.key, hso.p, hso.e0, hso.e1, hso.b0, hso.b1, hso.rk0, hso.rk1, hkind.1, hkind.2, hnum.1, hnum.2.1, hnum.2.2.1, hnum.2.2.2⟩

end Go.Proofs.Ytknlojlcahgnoaa

/- What the reference's Charge tells and leaves: plain. -/
namespace Go.Proofs.Ytknlojlcahgnoaa
open Go.RowKit
set_option linter.unusedVariables false
set_option linter.unusedSimpArgs false

def rFind (xs : List Slot) (k : ByteArray) : Option Slot := xs.find? fun s => decide (s.key = k)
def rIdx (xs : List Slot) (k : ByteArray) : Int := match xs.findIdx? (fun s => decide (s.key = k)) with | some i => (i : Int) | none => -1
/-- the slot of a key, if its numbers are the rule's -/
def rHit (xs : List Slot) (k : ByteArray) (e b : Int) : Option Slot := (rFind xs k).filter fun s => s.e == e && s.b == b
/-- is there one by other numbers -/
def rOth (xs : List Slot) (k : ByteArray) (e b : Int) : Bool := (rFind xs k).isSome && !(rHit xs k e b).isSome
def rLeft (xs : List Slot) (k : ByteArray) (e b : Int) : List Slot := if rOth xs k e b then rWithout xs k else xs
def rAt1 (xs : List Slot) (k : ByteArray) (e b : Int) : Int := if rOth xs k e b then -1 else rIdx xs k
def rFull (most : Int) (xs : List Slot) (k : ByteArray) (e b : Int) : Bool := !(rHit xs k e b).isSome && decide (most ≤ ((rLeft xs k e b).length : Int))
def rChgV (most clock : Int) (xs : List Slot) (k : ByteArray) (e b rk n : Int) : Value :=
  if rFull most xs k e b then ansV 3 0 b 0 0 0 0 false else chgV clock (rHit xs k e b) e b rk n
def rChgL (most clock : Int) (xs : List Slot) (k p : ByteArray) (e b rk n : Int) : List Slot :=
  if rFull most xs k e b then rLeft xs k e b else if chgOk clock (rHit xs k e b) e b rk n then rWith (rLeft xs k e b) (chgS clock (rHit xs k e b) k p e b rk n) else rLeft xs k e b

theorem rIdx_cases (xs : List Slot) (k : ByteArray) : (rIdx xs k = -1 ∧ rFind xs k = none ∧ ∀ x ∈ xs, x.key ≠ k) ∨
    ∃ m, ∃ h : m < xs.length, rIdx xs k = (m : Int) ∧ rFind xs k = some xs[m] ∧ xs[m].key = k ∧ ∀ i (hi : i < m), (xs[i]'(by omega)).key ≠ k := by
  unfold rIdx rFind
  cases hf : xs.findIdx? (fun s => decide (s.key = k)) with
  | none =>
    left
    rw [List.findIdx?_eq_none_iff] at hf
    have hf' : ∀ x ∈ xs, x.key ≠ k := fun x hx => by simpa using hf x hx
    refine ⟨rfl, ?_, hf'⟩
    rw [List.find?_eq_none]
    intro x hx
    simpa using hf' x hx
  | some m =>
    right
    rw [List.findIdx?_eq_some_iff_getElem] at hf
    obtain ⟨h, h1, h2⟩ := hf
    have h1' : xs[m].key = k := by simpa using h1
    refine ⟨m, h, rfl, ?_, h1', fun i hi => by simpa using h2 i hi⟩
    rw [List.find?_eq_some_iff_getElem]
    exact ⟨by simpa using h1', m, h, rfl, fun j hj => by simpa using h2 j hj⟩
theorem rWithout_no {xs : List Slot} {k : ByteArray} (h : ∀ x ∈ xs, x.key ≠ k) : rWithout xs k = xs := by
  unfold rWithout
  exact List.filter_eq_self.2 fun x hx => by simpa using h x hx
theorem rLeft_mem {xs : List Slot} {k : ByteArray} {e b : Int} {s : Slot} (h : s ∈ rLeft xs k e b) : s ∈ xs := by
  unfold rLeft at h
  split at h
  · exact (List.mem_filter.1 h).1
  · exact h
theorem rLeft_len (xs : List Slot) (k : ByteArray) (e b : Int) : (rLeft xs k e b).length ≤ xs.length := by
  unfold rLeft
  split
  · exact List.length_filter_le _ _
  · exact Nat.le_refl _
/-- where the key is, then -/
theorem rAt1_cases (xs : List Slot) (k : ByteArray) (e b : Int) : (rAt1 xs k e b = -1 ∧ rHit xs k e b = none) ∨
    ∃ m, ∃ h : m < (rLeft xs k e b).length, rAt1 xs k e b = (m : Int) ∧ rHit xs k e b = some (rLeft xs k e b)[m] := by
  have hc := rIdx_cases xs k
  unfold rAt1 rLeft
  cases ho : rOth xs k e b
  · rcases hc with ⟨h1, h2, -⟩ | ⟨m, h, h1, h2, -⟩
    · left
      exact ⟨h1, by unfold rHit; rw [h2]; rfl⟩
    · right
      refine ⟨m, h, h1, ?_⟩
      unfold rOth at ho
      rw [h2] at ho
      unfold rHit at ho ⊢
      rw [h2] at ho ⊢
      simp only [Option.isSome_some, Bool.true_and, Bool.not_eq_false'] at ho
      rw [Option.filter_some] at ho ⊢
      split at ho
      · rename_i hq; rw [if_pos hq]; rfl
      · simp at ho
  · left
    refine ⟨rfl, ?_⟩
    unfold rOth at ho
    simp only [Bool.and_eq_true, Bool.not_eq_true'] at ho
    simpa using ho.2
theorem rHit_mem {xs : List Slot} {k : ByteArray} {e b : Int} {s : Slot} (h : rHit xs k e b = some s) : s ∈ xs ∧ s.key = k ∧ s.e = e ∧ s.b = b := by
  unfold rHit at h
  obtain ⟨h1, h2⟩ := Option.filter_eq_some_iff.1 h
  have h3 := List.find?_some h1
  have h4 := List.mem_of_find?_eq_some h1
  simp at h2 h3
  exact ⟨h4, h3, h2.1, h2.2⟩
end Go.Proofs.Ytknlojlcahgnoaa
