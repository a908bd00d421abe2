/- Walks: table.sweep, maps.DeleteFunc. A table's slots, plainly; table.slot by one contract. Walks: Charge: a wrong key, a wrong rule. -/
import Derived.Deep.QuietTactic
import Derived.BigQuiet
import Derived.Test.YtknlojlcahgnoaaGreatCf17
import Derived.Test.YtknlojlcahgnoaaGreatCf12

namespace Go.Proofs.YtknlojlcahgnoaaGreat
open Go.RowKit
set_option linter.unusedVariables false
set_option linter.unusedSimpArgs false

theorem ExtB.keep {b : Nat} {w w' : World} (h : ExtB b w w') {a : Addr} {v : Value} (c : w.cell? a = some v) (ne : a.block ≠ b) : w'.cell? a = some v := by
  have hlt : a.block < w.heap.size := by
    unfold World.cell? at c
    rcases Nat.lt_or_ge a.block w.heap.size with h | h
    · exact h
    · rw [Array.getElem?_eq_none h] at c; cases c
  unfold World.cell? at c ⊢
  rw [h.block a.block hlt ne]; exact c

theorem IterAt.del {w w' : World} {r b c : Nat} {l : SMap} {seen : Array Nat} {k : ByteArray} (h : IterAt w r b l c seen) (e : ExtB b w w') (m : MapIs w' b (l.del k) c) : IterAt w' r b (l.del k) c seen := by
  have hne := h.ne
  have hlt := h.lt
  obtain ⟨_, ⟨c0, h1, h2⟩, ho, hb⟩ := h
  exact ⟨m, ⟨c0, (e.block r hlt (fun q => hne q.symm)).trans h1, h2⟩, fun x hx => ho x (List.mem_filter.1 hx).1, hb.sublist (List.filter_sublist.map _)⟩

def drained (clock : Int) (s : Slot) : Bool := s.fill clock == 0

end Go.Proofs.YtknlojlcahgnoaaGreat

namespace Go.Proofs.YtknlojlcahgnoaaGreat
open Go.RowKit
set_option linter.unusedVariables false
set_option linter.unusedSimpArgs false

/-- what a table's map is at any time -/
structure TabOk (l : SMap) (c : Nat) : Prop where
  old : ∀ x ∈ l, x.2 < c
  born : (l.map (·.2)).Nodup
  keys : l.keys.Nodup
  ok : ∀ x ∈ l, SlotOk x.1
theorem TabOk.nil (c : Nat) : TabOk [] c := ⟨fun x h => (by cases h), List.nodup_nil, List.nodup_nil, fun x h => (by cases h)⟩
theorem TabOk.filter {l : SMap} {c : Nat} (h : TabOk l c) (p : Slot × Nat → Bool) : TabOk (l.filter p) c :=
  ⟨fun x hx => h.old x (List.mem_filter.1 hx).1, h.born.sublist (List.filter_sublist.map _), h.keys.sublist (List.filter_sublist.map _), fun x hx => h.ok x (List.mem_filter.1 hx).1⟩
theorem TabOk.del {l : SMap} {c : Nat} (h : TabOk l c) (k : ByteArray) : TabOk (l.del k) c := h.filter _
theorem rep_keys (l : SMap) (s : Slot) : (l.rep s).keys = l.keys := by
  unfold SMap.rep SMap.keys
  rw [List.map_map]
  refine List.map_congr_left fun x _ => ?_
  simp only [Function.comp]
  split
  · rename_i h; exact h.symm
  · rfl
theorem rep_born (l : SMap) (s : Slot) : (l.rep s).map (·.2) = l.map (·.2) := by
  unfold SMap.rep
  rw [List.map_map]
  refine List.map_congr_left fun x _ => ?_
  simp only [Function.comp]
  split <;> rfl
theorem TabOk.put {l : SMap} {c : Nat} (h : TabOk l c) {s : Slot} (hs : SlotOk s) : TabOk (l.put s c) (l.putC s c) := by
  unfold SMap.put SMap.putC
  split
  · refine ⟨?_, by rw [rep_born]; exact h.born, by rw [rep_keys]; exact h.keys, ?_⟩
    · intro x hx
      obtain ⟨y, hy, rfl⟩ := List.mem_map.1 hx
      have := h.old y hy
      split <;> exact this
    · intro x hx
      obtain ⟨y, hy, rfl⟩ := List.mem_map.1 hx
      have := h.ok y hy
      split
      · exact hs
      · exact this
  · rename_i hl
    have hn : l.look s.key = none := by
      cases e : l.look s.key with
      | none => rfl
      | some _ => rw [e] at hl; exact absurd rfl hl
    have hnk := look_none.1 hn
    refine ⟨?_, ?_, ?_, ?_⟩
    · intro x hx
      rcases List.mem_append.1 hx with hx | hx
      · have := h.old x hx; omega
      · obtain rfl := List.mem_singleton.1 hx; exact Nat.lt_succ_self _
    · rw [List.map_append, List.nodup_append]
      refine ⟨h.born, by simp, ?_⟩
      intro a ha b hb
      obtain ⟨y, hy, rfl⟩ := List.mem_map.1 ha
      have := h.old y hy
      simp at hb
      omega
    · unfold SMap.keys
      rw [List.map_append, List.nodup_append]
      refine ⟨h.keys, by simp, ?_⟩
      intro a ha b hb
      obtain ⟨y, hy, rfl⟩ := List.mem_map.1 ha
      have := hnk y hy
      simp at hb
      subst hb
      exact this
    · intro x hx
      rcases List.mem_append.1 hx with hx | hx
      · exact h.ok x hx
      · obtain rfl := List.mem_singleton.1 hx; exact hs

/-- the slot of a key, if it is active by these numbers -/
def slotHit (l : SMap) (k : ByteArray) (e b clock : Int) : Option Slot := (l.look k).filter fun s => s.e == e && s.b == b && !(s.fill clock == 0)
/-- what is left then -/
def slotLeft (l : SMap) (k : ByteArray) (e b clock : Int) : SMap := if (slotHit l k e b clock).isSome then l else l.del k

end Go.Proofs.YtknlojlcahgnoaaGreat

namespace Go.Proofs.YtknlojlcahgnoaaGreat
open Go.RowKit
set_option linter.unusedVariables false
set_option linter.unusedSimpArgs false

/-- an answer's cells: those that a table tells -/
def ansC (code err limit left reset after nanos : Int) (retry : Bool) : Array Value :=
  #[.int .u8 code, .int .u16 err, .int .u64 limit, .int .u64 left, .int .u64 reset, .int .u64 after, .int .u64 nanos, .bool retry, .int .i64 0, .slice none 0 0]
/-- ten cells written, one behind another -/
theorem Blk.set10 {w : World} {b : Nat} {a0 a1 a2 a3 a4 a5 a6 a7 a8 a9 : Value} {t : TypeId} (h : Blk w b #[a0, a1, a2, a3, a4, a5, a6, a7, a8, a9] t) (v0 v1 v2 v3 v4 v5 v6 v7 v8 v9 : Value) :
    Blk ((((((((((w.setCell ⟨b, 0, none⟩ v0).setCell ⟨b, 1, none⟩ v1).setCell ⟨b, 2, none⟩ v2).setCell ⟨b, 3, none⟩ v3).setCell ⟨b, 4, none⟩ v4).setCell ⟨b, 5, none⟩ v5).setCell ⟨b, 6, none⟩ v6).setCell ⟨b, 7, none⟩ v7).setCell ⟨b, 8, none⟩ v8).setCell ⟨b, 9, none⟩ v9) b #[v0, v1, v2, v3, v4, v5, v6, v7, v8, v9] t := by
  have h0 : Blk _ b #[v0, a1, a2, a3, a4, a5, a6, a7, a8, a9] t := h.set 0 v0
  have h1 : Blk _ b #[v0, v1, a2, a3, a4, a5, a6, a7, a8, a9] t := h0.set 1 v1
  have h2 : Blk _ b #[v0, v1, v2, a3, a4, a5, a6, a7, a8, a9] t := h1.set 2 v2
  have h3 : Blk _ b #[v0, v1, v2, v3, a4, a5, a6, a7, a8, a9] t := h2.set 3 v3
  have h4 : Blk _ b #[v0, v1, v2, v3, v4, a5, a6, a7, a8, a9] t := h3.set 4 v4
  have h5 : Blk _ b #[v0, v1, v2, v3, v4, v5, a6, a7, a8, a9] t := h4.set 5 v5
  have h6 : Blk _ b #[v0, v1, v2, v3, v4, v5, v6, a7, a8, a9] t := h5.set 6 v6
  have h7 : Blk _ b #[v0, v1, v2, v3, v4, v5, v6, v7, a8, a9] t := h6.set 7 v7
  have h8 : Blk _ b #[v0, v1, v2, v3, v4, v5, v6, v7, v8, a9] t := h7.set 8 v8
  have h9 : Blk _ b #[v0, v1, v2, v3, v4, v5, v6, v7, v8, v9] t := h8.set 9 v9
  exact h9
theorem Blk.oth10 {w : World} {g b : Nat} {C : Array Value} {t : TypeId} (h : Blk w g C t) (ne : g ≠ b) (v0 v1 v2 v3 v4 v5 v6 v7 v8 v9 : Value) : Blk ((((((((((w.setCell ⟨b, 0, none⟩ v0).setCell ⟨b, 1, none⟩ v1).setCell ⟨b, 2, none⟩ v2).setCell ⟨b, 3, none⟩ v3).setCell ⟨b, 4, none⟩ v4).setCell ⟨b, 5, none⟩ v5).setCell ⟨b, 6, none⟩ v6).setCell ⟨b, 7, none⟩ v7).setCell ⟨b, 8, none⟩ v8).setCell ⟨b, 9, none⟩ v9) g C t := ((((((((((h.other (a := ⟨_, 0, none⟩) ne _).other (a := ⟨_, 1, none⟩) ne _).other (a := ⟨_, 2, none⟩) ne _).other (a := ⟨_, 3, none⟩) ne _).other (a := ⟨_, 4, none⟩) ne _).other (a := ⟨_, 5, none⟩) ne _).other (a := ⟨_, 6, none⟩) ne _).other (a := ⟨_, 7, none⟩) ne _).other (a := ⟨_, 8, none⟩) ne _).other (a := ⟨_, 9, none⟩) ne _)
theorem MapIs.oth10 {w : World} {g b c : Nat} {l : SMap} (h : MapIs w g l c) (ne : g ≠ b) (v0 v1 v2 v3 v4 v5 v6 v7 v8 v9 : Value) : MapIs ((((((((((w.setCell ⟨b, 0, none⟩ v0).setCell ⟨b, 1, none⟩ v1).setCell ⟨b, 2, none⟩ v2).setCell ⟨b, 3, none⟩ v3).setCell ⟨b, 4, none⟩ v4).setCell ⟨b, 5, none⟩ v5).setCell ⟨b, 6, none⟩ v6).setCell ⟨b, 7, none⟩ v7).setCell ⟨b, 8, none⟩ v8).setCell ⟨b, 9, none⟩ v9) g l c := ((((((((((h.other (a := ⟨_, 0, none⟩) ne _).other (a := ⟨_, 1, none⟩) ne _).other (a := ⟨_, 2, none⟩) ne _).other (a := ⟨_, 3, none⟩) ne _).other (a := ⟨_, 4, none⟩) ne _).other (a := ⟨_, 5, none⟩) ne _).other (a := ⟨_, 6, none⟩) ne _).other (a := ⟨_, 7, none⟩) ne _).other (a := ⟨_, 8, none⟩) ne _).other (a := ⟨_, 9, none⟩) ne _)
end Go.Proofs.YtknlojlcahgnoaaGreat
