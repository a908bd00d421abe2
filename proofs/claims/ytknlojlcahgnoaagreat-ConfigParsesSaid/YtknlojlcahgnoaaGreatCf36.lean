/- Plain laws: a charge of a table that has few keys; all are drained later. Plain laws: tables that differ in the kernels of their slots alone: whoever goes over to whatever kernel, all is told the same. -/
import Derived.Test.YtknlojlcahgnoaaGreatCf31
import Derived.Test.YtknlojlcahgnoaaGreatCf29
import Derived.Test.YtknlojlcahgnoaaGreatCf33

namespace Go.Proofs.YtknlojlcahgnoaaGreat
set_option linter.unusedVariables false
set_option linter.unusedSimpArgs false

theorem put_mem {l : SMap} {s : Slot} {c : Nat} {x : Slot × Nat} (h : x ∈ l.put s c) : x ∈ l ∨ x.1 = s := by
  unfold SMap.put at h
  split at h
  · obtain ⟨y, hy, rfl⟩ := List.mem_map.1 h
    split
    · exact Or.inr rfl
    · exact Or.inl hy
  · rcases List.mem_append.1 h with h | h
    · exact Or.inl h
    · obtain rfl := List.mem_singleton.1 h; exact Or.inr rfl
end Go.Proofs.YtknlojlcahgnoaaGreat

namespace Go.Proofs.YtknlojlcahgnoaaGreat
set_option linter.unusedVariables false
set_option linter.unusedSimpArgs false

/-- what is seen of a slot -/
abbrev Sig := ByteArray × Int × Int × Int
def sg (clock : Int) (s : Slot) : Sig := (s.key, s.e, s.b, kFill s.sk s.sa s.sb clock (s.e * s.b))
def sgs (clock : Int) (l : SMap) : List Sig := l.map fun x => sg clock x.1
/-- a slot that came of a right rule -/
structure Good (clock : Int) (s : Slot) : Prop where
  rule : ruleErr s.p s.e s.b s.rk = 0
  sane : Sane s.sk s.sa s.sb clock (s.e * s.b)
theorem Good.cap {clock : Int} {s : Slot} (h : Good clock s) : s.cap = s.e * s.b ∧ 0 ≤ s.e * s.b ∧ s.e * s.b ≤ 4611686018427387904 := by
  obtain ⟨-, he, hb, hc, -⟩ := ruleErr_zero h.rule
  refine ⟨by unfold Slot.cap ruleCap; rw [if_pos h.rule], Int.mul_nonneg (by omega) (by omega), capOk_lt hc⟩
theorem Good.fill {clock : Int} {s : Slot} (h : Good clock s) : s.fill clock = (sg clock s).2.2.2 := by
  unfold Slot.fill sg; rw [h.cap.1]
def Goods (clock : Int) (l : SMap) : Prop := ∀ x ∈ l, Good clock x.1
theorem look_sg (clock : Int) (l : SMap) (k : ByteArray) : (l.look k).map (sg clock) = (sgs clock l).find? fun y => decide (y.1 = k) := by
  unfold SMap.look sgs
  rw [List.find?_map, Option.map_map]
  rfl
theorem del_sg (clock : Int) (l : SMap) (k : ByteArray) : sgs clock (l.del k) = (sgs clock l).filter fun y => decide (y.1 ≠ k) := by
  unfold SMap.del sgs
  rw [List.filter_map]
  rfl
theorem rep_sg (clock : Int) (l : SMap) (s : Slot) : sgs clock (l.rep s) = (sgs clock l).map fun y => if y.1 = s.key then sg clock s else y := by
  unfold SMap.rep sgs
  rw [List.map_map, List.map_map]
  refine List.map_congr_left fun x _ => ?_
  show sg clock (if x.1.key = s.key then (s, x.2) else x).1 = if x.1.key = s.key then sg clock s else sg clock x.1
  split <;> rfl
theorem put_sg (clock : Int) (l : SMap) (s : Slot) (c : Nat) : sgs clock (l.put s c) =
    if ((sgs clock l).find? fun y => decide (y.1 = s.key)).isSome then (sgs clock l).map fun y => if y.1 = s.key then sg clock s else y else sgs clock l ++ [sg clock s] := by
  rw [← look_sg]
  unfold SMap.put
  rw [Option.isSome_map]
  split
  · rw [rep_sg]
  · unfold sgs; rw [List.map_append]; rfl
theorem sgs_len (clock : Int) (l : SMap) : (sgs clock l).length = l.length := by unfold sgs; rw [List.length_map]

/-- two tables that look alike -/
structure Al (clock : Int) (l l' : SMap) : Prop where
  sig : sgs clock l = sgs clock l'
  a : Goods clock l
  b : Goods clock l'
theorem Al.nil (clock : Int) : Al clock [] [] := ⟨rfl, fun x h => (by cases h), fun x h => (by cases h)⟩
theorem Al.len {clock : Int} {l l' : SMap} (h : Al clock l l') : l.length = l'.length := by rw [← sgs_len clock l, h.sig, sgs_len]

/-- of a slot that is hit -/
theorem hit_sg {clock : Int} {l : SMap} (h : Goods clock l) (k : ByteArray) (e b : Int) : (slotHit l k e b clock).map (sg clock) = ((sgs clock l).find? fun y => decide (y.1 = k)).filter fun y => y.2.1 == e && y.2.2.1 == b && !(y.2.2.2 == 0) := by
  rw [← look_sg]
  unfold slotHit
  cases hl : l.look k with
  | none => rfl
  | some s =>
    obtain ⟨n, hn⟩ := look_mem hl
    have hg := h _ hn
    have e1 : (s.e == e && s.b == b && !(s.fill clock == 0)) = ((sg clock s).2.1 == e && (sg clock s).2.2.1 == b && !((sg clock s).2.2.2 == 0)) := by
      rw [hg.fill]; rfl
    show Option.map (sg clock) (if (s.e == e && s.b == b && !(s.fill clock == 0)) = true then some s else none) = if ((sg clock s).2.1 == e && (sg clock s).2.2.1 == b && !((sg clock s).2.2.2 == 0)) = true then some (sg clock s) else none
    by_cases q : (s.e == e && s.b == b && !(s.fill clock == 0)) = true
    · rw [if_pos q, if_pos (e1.symm.trans q)]; rfl
    · rw [if_neg q, if_neg (fun r => q (e1.trans r))]; rfl
theorem Al.hit {clock : Int} {l l' : SMap} (h : Al clock l l') (k : ByteArray) (e b : Int) : (slotHit l k e b clock).map (sg clock) = (slotHit l' k e b clock).map (sg clock) := by
  rw [hit_sg h.a, hit_sg h.b, h.sig]
theorem Al.some {clock : Int} {l l' : SMap} (h : Al clock l l') (k : ByteArray) (e b : Int) : (slotHit l k e b clock).isSome = (slotHit l' k e b clock).isSome := by
  have := congrArg Option.isSome (h.hit k e b)
  rwa [Option.isSome_map, Option.isSome_map] at this
theorem Goods.sub {clock : Int} {l m : SMap} (h : Goods clock l) (hs : ∀ x ∈ m, x ∈ l) : Goods clock m := fun x hx => h x (hs x hx)
theorem slotLeft_sub (l : SMap) (k : ByteArray) (e b clock : Int) : ∀ x ∈ slotLeft l k e b clock, x ∈ l := by
  unfold slotLeft
  split
  · exact fun x hx => hx
  · exact fun x hx => (List.mem_filter.1 hx).1
theorem Al.left {clock : Int} {l l' : SMap} (h : Al clock l l') (k : ByteArray) (e b : Int) : Al clock (slotLeft l k e b clock) (slotLeft l' k e b clock) := by
  refine ⟨?_, h.a.sub (slotLeft_sub l k e b clock), h.b.sub (slotLeft_sub l' k e b clock)⟩
  unfold slotLeft
  rw [h.some k e b]
  split
  · exact h.sig
  · rw [del_sg, del_sg, h.sig]
theorem Al.put {clock : Int} {l l' : SMap} (h : Al clock l l') {s s' : Slot} (hs : sg clock s = sg clock s') (g : Good clock s) (g' : Good clock s') (c c' : Nat) : Al clock (l.put s c) (l'.put s' c') := by
  have hk : s.key = s'.key := congrArg (·.1) hs
  refine ⟨by rw [put_sg, put_sg, h.sig, hs, hk], fun x hx => ?_, fun x hx => ?_⟩
  · rcases put_mem hx with q | q
    · exact h.a x q
    · rw [q]; exact g
  · rcases put_mem hx with q | q
    · exact h.b x q
    · rw [q]; exact g'

end Go.Proofs.YtknlojlcahgnoaaGreat
