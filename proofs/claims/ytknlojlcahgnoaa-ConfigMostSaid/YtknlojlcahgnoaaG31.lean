/- The iterator of a table's active slots: what it hands out, in whatever order, to whatever loop body. Walks: slices.AppendSeq and Collect over the active slots. -/
import Derived.RangeFuncBox
import Derived.RangeFuncNested
import Derived.RangeFuncBound
import Derived.RangeFuncCalls
import Derived.RangeFuncLeaves
import Derived.Shelf.Abstract
import Derived.Shelf.RegionOpen
import Derived.WalkKit
import Derived.OwnWalkIn
import Derived.TacticsInMore
import Derived.LoopNIn
import Derived.LoopIn
import Derived.Maps.OwnIn
import Derived.Deep.QuietTactic
import Derived.BigQuiet
import Derived.Maps.AppendAt
import Derived.Test.YtknlojlcahgnoaaG23

/- The iterator of a table's active slots: what it hands out, in whatever order, to whatever loop body. -/
namespace Go.Proofs.Ytknlojlcahgnoaa
open Go.RowKit
attribute [local go_sem] Oper.semAt_some
set_option linter.unusedVariables false
set_option linter.unusedSimpArgs false

/-- slots that are active -/
def actives (clock : Int) (l : SMap) : List Slot := (l.filter fun x => !drained clock x.1).map (·.1)
/-- those of them that have come -/
def came (clock : Int) (l : SMap) (seen : Array Nat) : List Slot := (l.filter fun x => seen.contains x.2 && !drained clock x.1).map (·.1)

def KpT (n₀ : Nat) (W W' : World) : Prop := Below n₀ W W' ∧ KeepsWalks W W'

theorem filter_or_perm {α : Type} (A B : α → Bool) : ∀ (l : List α), (∀ x ∈ l, A x = true → B x = false) → (l.filter fun x => A x || B x).Perm (l.filter A ++ l.filter B)
  | [], _ => List.Perm.refl _
  | x :: l, h => by
    have ih := filter_or_perm A B l (fun y hy => h y (List.mem_cons_of_mem _ hy))
    have hx := h x (List.mem_cons_self ..)
    simp only [List.filter_cons]
    cases hA : A x with
    | true =>
      rw [hx hA]
      simp only [Bool.true_or, if_true, Bool.false_eq_true, if_false, List.cons_append]
      exact ih.cons x
    | false =>
      cases hB : B x with
      | false => simpa using ih
      | true =>
        simp only [Bool.false_or, if_true, Bool.false_eq_true, if_false]
        exact (ih.cons x).trans List.perm_middle.symm
theorem filter_one {α : Type} (f : α → Nat) (q : α → Bool) : ∀ {l : List α}, (l.map f).Nodup → ∀ {a : α}, a ∈ l → q a = true → l.filter (fun x => f x == f a && q x) = [a]
  | [], _, _, h, _ => by cases h
  | x :: l, hn, a, h, hq => by
    have hn' : f x ∉ l.map f ∧ (l.map f).Nodup := List.nodup_cons.1 hn
    rw [List.filter_cons]
    rcases List.mem_cons.1 h with e | h'
    · subst e
      rw [if_pos (by simp [hq])]
      congr 1
      rw [List.filter_eq_nil_iff]
      intro y hy
      have : f y ≠ f a := fun e => hn'.1 (List.mem_map.2 ⟨y, hy, e⟩)
      simp [this]
    · have : f x ≠ f a := fun e => hn'.1 (List.mem_map.2 ⟨a, h', e.symm⟩)
      rw [if_neg (by simp [this])]
      exact filter_one f q hn'.2 h' hq
theorem came_start (clock : Int) (l : SMap) : came clock l #[] = [] := by
  unfold came
  rw [List.filter_eq_nil_iff.2 (fun x _ => by simp)]
  rfl
theorem came_end {clock : Int} {l : SMap} {seen : Array Nat} (h : toCome l seen = 0) : came clock l seen = actives clock l := by
  unfold came actives
  congr 1
  exact List.filter_congr fun x hx => by rw [toCome_zero h x hx, Bool.true_and]
theorem came_not {clock : Int} {l : SMap} {seen : Array Nat} (hn : (l.map (·.2)).Nodup) {s : Slot} {n : Nat} (h : (s, n) ∈ l) (hd : drained clock s = true) : came clock l (seen.push n) = came clock l seen := by
  unfold came
  congr 1
  refine List.filter_congr fun x hx => ?_
  rw [Array.contains_push]
  by_cases e : x.2 = n
  · have := born_eq hn hx h e
    subst this
    rw [hd]; simp
  · have e' : (x.2 == n) = false := by simpa using e
    rw [e', Bool.or_false]
theorem came_step {clock : Int} {l : SMap} {seen : Array Nat} (hn : (l.map (·.2)).Nodup) {s : Slot} {n : Nat} (h : (s, n) ∈ l) (hs : seen.contains n = false) (hd : drained clock s = false) : (came clock l (seen.push n)).Perm (came clock l seen ++ [s]) := by
  unfold came
  have e1 : (l.filter fun x => (seen.push n).contains x.2 && !drained clock x.1) = l.filter fun x => (seen.contains x.2 && !drained clock x.1) || (x.2 == n && !drained clock x.1) := by
    refine List.filter_congr fun x hx => ?_
    rw [Array.contains_push]
    cases seen.contains x.2 <;> cases (x.2 == n) <;> cases drained clock x.1 <;> rfl
  have e2 := filter_or_perm (fun x : Slot × Nat => seen.contains x.2 && !drained clock x.1) (fun x : Slot × Nat => x.2 == n && !drained clock x.1) l (fun x hx hA => by
    by_cases e : x.2 = n
    · have := born_eq hn hx h e
      subst this
      rw [hs] at hA; cases hA
    · have e' : (x.2 == n) = false := by simpa using e
      rw [e', Bool.false_and])
  have e3 := filter_one (fun x : Slot × Nat => x.2) (fun x : Slot × Nat => !drained clock x.1) hn h (by simp [hd])
  have e3' : l.filter (fun x : Slot × Nat => x.2 == n && !drained clock x.1) = [(s, n)] := e3
  rw [e1]
  rw [e3'] at e2
  have := e2.map (fun x : Slot × Nat => x.1)
  rw [List.map_append] at this
  exact this
theorem came_sub (clock : Int) (l : SMap) (seen : Array Nat) : ∃ rest, (came clock l seen ++ rest).Perm (actives clock l) := by
  refine ⟨(l.filter fun x => !seen.contains x.2 && !drained clock x.1).map (·.1), ?_⟩
  unfold came actives
  rw [← List.map_append]
  refine List.Perm.map _ ?_
  have e2 := filter_or_perm (fun x : Slot × Nat => seen.contains x.2 && !drained clock x.1) (fun x : Slot × Nat => !seen.contains x.2 && !drained clock x.1) l (fun x _ hA => by
    cases hc : seen.contains x.2 with
    | true => rfl
    | false => rw [hc] at hA; cases hA)
  refine e2.symm.trans (List.Perm.of_eq (List.filter_congr fun x _ => ?_))
  cases seen.contains x.2 <;> cases drained clock x.1 <;> rfl
theorem came_len (clock : Int) (l : SMap) (seen : Array Nat) : (came clock l seen).length ≤ (actives clock l).length := by
  obtain ⟨rest, h⟩ := came_sub clock l seen
  have := h.length_eq
  rw [List.length_append] at this
  omega

theorem IterAt.walks {w w' : World} {r b c : Nat} {l : SMap} {seen : Array Nat} (h : IterAt w r b l c seen) (hk : KeepsWalks w w') : IterAt w' r b l c seen := by
  obtain ⟨hm, ⟨c0, hr, hc⟩, ho, hbn⟩ := h
  exact ⟨hk.same b _ hm rfl, ⟨c0, hk.same r _ hr rfl, hc⟩, ho, hbn⟩
theorem ext_grown {w w' : World} (h : Ext w w') : w.grownBy w' none := ⟨Below.os h, Below.tape h, Below.output h, h.sz, fun i hi _ => Below.block h i hi⟩
theorem extB_grown {b : Nat} {w w' : World} (h : ExtB b w w') : w.grownBy w' (some b) := ⟨h.os, h.tape, h.output, h.size, fun i hi hb => h.block i hi (fun e => hb (by rw [e]))⟩

theorem yield_bool {F : Fence} {m : Nat} {P : Program} {L : Nat} {args : Array Value} {W : World} {A B : World → Prop}
    (h : YieldAt F m P L args W fun e W' => (e = .returned (.bool true) ∧ A W') ∨ (e = .returned (.bool false) ∧ B W')) :
    YieldAt F m P L args W fun e W' => ∃ bo : Bool, e = .returned (.bool bo) ∧ Hid ((bo = true ∧ A W') ∨ (bo = false ∧ B W')) := by
  obtain ⟨fn, tmps, assign, body, hy, hR⟩ := h
  refine ⟨fn, tmps, assign, body, hy, hR.mono ?_⟩
  rintro e W' (⟨rfl, hA⟩ | ⟨rfl, hB⟩)
  · exact ⟨true, rfl, Lib.hid (Or.inl ⟨rfl, hA⟩)⟩
  · exact ⟨false, rfl, Lib.hid (Or.inr ⟨rfl, hB⟩)⟩

end Go.Proofs.Ytknlojlcahgnoaa

/- Walks: slices.AppendSeq and Collect over the active slots. -/
namespace Go.Proofs.Ytknlojlcahgnoaa
open Go.RowKit
attribute [local go_sem] Oper.semAt_some
set_option linter.unusedVariables false
set_option linter.unusedSimpArgs false

def flatS (l : List Slot) : List Value := l.flatMap fun s => s.cells.toList
theorem flatS_snoc (l : List Slot) (s : Slot) : flatS (l ++ [s]) = flatS l ++ s.cells.toList := by unfold flatS; rw [List.flatMap_append]; simp
theorem flatS_len (l : List Slot) : (flatS l).length = l.length * 8 := by
  induction l with
  | nil => rfl
  | cons s l ih =>
    show (s.cells.toList ++ flatS l).length = _
    rw [List.length_append, ih, List.length_cons]
    simp [Slot.cells]
    omega
theorem cells_new (w : World) (C : Array Value) (t : TypeId) : ∀ j u, C.toList[j]? = some u → (w.alloc (.cells C t)).cell? ((⟨w.heap.size, 0, none⟩ : Addr).add j) = some u := by
  intro j u h
  rw [addr_add', Nat.zero_add, (Blk.new w C t).cell]
  simpa using h
  where addr_add' : ∀ {b o j : Nat}, (⟨b, o, none⟩ : Addr).add j = ⟨b, o + j, none⟩ := by intro b o j; unfold Addr.add; split <;> simp_all

end Go.Proofs.Ytknlojlcahgnoaa
