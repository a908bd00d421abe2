/- Walks: tollerref14.Of. -/
import Derived.Laws.AppendOwnNone
import Derived.Test.YtknlojlcahgnoaaGreatG42
import Derived.Test.YtknlojlcahgnoaaGreatG37
import Derived.Test.YtknlojlcahgnoaaGreatG32

/- Walks: tollerref14.Of. -/
namespace Go.Proofs.YtknlojlcahgnoaaGreat
open Go.RowKit
set_option linter.unusedVariables false
set_option linter.unusedSimpArgs false
attribute [local go_sem ↓] Go.wp_at_zero Go.wp_at_succ

/-- a slice of slots, as news -/
theorem SlotsAt.news {w : World} {ad : Addr} {n c : Nat} {l : List Slot} (h : SlotsAt w (.slice (some ad) n c) l) : ∀ j u, (flatE Slot.cells l)[j]? = some u → w.cell? (ad.add j) = some u := by
  intro j u hu
  obtain ⟨a', c', hv, hf⟩ := h
  have hj : j < l.length * 8 := by
    rcases Nat.lt_or_ge j (flatE Slot.cells l).length with q | q
    · rwa [flatE_len slot_size] at q
    · rw [List.getElem?_eq_none q] at hu; cases hu
  obtain ⟨b, o, ha, hc⟩ := hf (fun e => by rw [e] at hj; simp at hj)
  have hjd : j / 8 < l.length := by omega
  have hjm : j % 8 < 8 := by omega
  have e1 : j = j / 8 * 8 + j % 8 := by omega
  rw [e1, flatE_get slot_size _ (j / 8) (j % 8) hjd hjm] at hu
  have h1 := hc (j / 8) hjd (j % 8) hjm
  rw [← e1, hu] at h1
  have hcx : a' = some ad := by cases hv; rfl
  rw [hcx] at ha
  cases ha
  have e2 : ((⟨b, o, none⟩ : Addr).add j) = ⟨b, o + j, none⟩ := by
    unfold Addr.add
    split
    · rename_i q
      have q' : j = 0 := by simpa using q
      rw [q']
      rfl
    · rfl
  rw [e2]
  exact h1

/-- what tollerref14.Of hands back -/
def RofIs (w : World) (most clock : Int) (xs : List Slot) (x : Ending) (w' : World) : Prop :=
  ∃ M C v', x = .returned (.tuple #[.agg #[.int .i64 M, .int .u64 C, v'], .int .i64 (ofErr most clock xs)]) ∧ Ext w w' ∧ (∃ a n c, v' = .slice a n c) ∧
    (ofErr most clock xs = 0 → M = most ∧ C = clock ∧ SlotRow w.heap.size w' v' xs)
theorem RofIs.bad {w w' : World} {most clock E : Int} {xs : List Slot} (hE : ofErr most clock xs = E) (h0 : E ≠ 0) (hx : Ext w w') : RofIs w most clock xs (.returned (.tuple #[.agg #[.int .i64 0, .int .u64 0, .slice none 0 0], .int .i64 E])) w' :=
  ⟨0, 0, .slice none 0 0, by rw [hE], hx, ⟨_, _, _, rfl⟩, fun h => absurd (hE.symm.trans h) h0⟩

theorem RofIs.good {w w' : World} {most clock : Int} {xs : List Slot} {va : Option Addr} {n vc : Nat} (hE : ofErr most clock xs = 0) (hx : Ext w w') (hr : SlotRow w.heap.size w' (.slice va n vc) xs) :
    RofIs w most clock xs (.returned (.tuple #[.agg #[.int .i64 most, .int .u64 clock, .slice va n vc], .int .i64 0])) w' :=
  ⟨most, clock, .slice va n vc, by rw [hE], hx, ⟨_, _, _, rfl⟩, fun _ => ⟨rfl, rfl, hr⟩⟩

end Go.Proofs.YtknlojlcahgnoaaGreat
