/- The table and the document's: what they hold is the same. Plain. Walks: tollerref14.MoveAll. Walk: tollerref14.Charge. Walk: tollerref14.Charge of what is not right. Walks: tollerref14: Entries. What each kind of deed does to the table, and to the document's. Stores into blocks that a call of step has made. -/
import Derived.Deep.AppendLies
import Derived.Deep.DeepCutAuto
import Derived.Deep.CutRange
import Derived.Deep.CutBlock
import Derived.Test.YtknlojlcahgnoaaG35
import Derived.Test.YtknlojlcahgnoaaG38
import Derived.Test.YtknlojlcahgnoaaG40
import Derived.Test.YtknlojlcahgnoaaG36
import Derived.Test.YtknlojlcahgnoaaG43
import Derived.Test.YtknlojlcahgnoaaG23

/- The table and the document's: what they hold is the same. Plain. -/
namespace Go.Proofs.Ytknlojlcahgnoaa
open Go.RowKit
set_option linter.unusedVariables false
set_option linter.unusedSimpArgs false

/-- sorted by key, each once -/
abbrev Rises (xs : List Slot) : Prop := xs.Pairwise fun x y => x.key.toList < y.key.toList
theorem Rises.key {xs : List Slot} (h : Rises xs) {x y : Slot} (hx : x ∈ xs) (hy : y ∈ xs) (e : x.key = y.key) : x = y := by
  induction xs with
  | nil => cases hx
  | cons z l ih =>
    obtain ⟨h1, h2⟩ := List.pairwise_cons.1 h
    rcases List.mem_cons.1 hx with e1 | hx2 <;> rcases List.mem_cons.1 hy with e2 | hy2
    · exact e1.trans e2.symm
    · have := h1 _ hy2; rw [← e1, e] at this; exact absurd this (List.lt_irrefl _)
    · have := h1 _ hx2; rw [← e2, e] at this; exact absurd this (List.lt_irrefl _)
    · exact ih h2 hx2 hy2
theorem Rises.nodup {xs : List Slot} (h : Rises xs) : xs.Nodup := h.imp fun q e => by rw [e] at q; exact List.lt_irrefl _ q
theorem Rises.filter {xs : List Slot} (h : Rises xs) (p : Slot → Bool) : Rises (xs.filter p) := List.Pairwise.filter p h
theorem rFind_of {xs : List Slot} (h : Rises xs) {s : Slot} {k : ByteArray} (hs : s ∈ xs) (hk : s.key = k) : rFind xs k = some s := by
  rcases rIdx_cases xs k with ⟨-, -, h3⟩ | ⟨m, hm, -, h2, h3, -⟩
  · exact absurd hk (h3 s hs)
  · rw [h2, h.key (List.getElem_mem hm) hs (h3.trans hk.symm)]
theorem key_gt {a b : ByteArray} (h : ¬ a.toList < b.toList) (ne : a ≠ b) : b.toList < a.toList := by
  apply Classical.byContradiction
  intro q
  exact ne (toList_inj (List.le_antisymm (List.not_lt.1 q) (List.not_lt.1 h)))
theorem insert_rises (s0 : Slot) : ∀ (x : List Slot), Rises x → (∀ y ∈ x, y.key ≠ s0.key) → Rises (x.takeWhile (fun y => keyLt y.key s0.key) ++ s0 :: x.dropWhile (fun y => keyLt y.key s0.key)) := by
  intro x
  induction x with
  | nil => intro _ _; exact List.pairwise_singleton _ _
  | cons y x ih =>
    intro h hne
    obtain ⟨h1, h2⟩ := List.pairwise_cons.1 h
    have ihx := ih h2 fun z hz => hne z (List.mem_cons_of_mem _ hz)
    by_cases hp : keyLt y.key s0.key = true
    · rw [List.takeWhile_cons_of_pos (p := fun y : Slot => keyLt y.key s0.key) hp, List.dropWhile_cons_of_pos (p := fun y : Slot => keyLt y.key s0.key) hp, List.cons_append]
      refine List.pairwise_cons.2 ⟨fun z hz => ?_, ihx⟩
      rcases List.mem_append.1 hz with hz | hz
      · exact h1 z ((List.takeWhile_sublist _).subset hz)
      · rcases List.mem_cons.1 hz with rfl | hz
        · unfold keyLt at hp; simpa using hp
        · exact h1 z ((List.dropWhile_sublist _).subset hz)
    · rw [List.takeWhile_cons_of_neg (p := fun y : Slot => keyLt y.key s0.key) hp, List.dropWhile_cons_of_neg (p := fun y : Slot => keyLt y.key s0.key) hp, List.nil_append]
      have hg : s0.key.toList < y.key.toList := key_gt (by unfold keyLt at hp; simpa using hp) (hne y List.mem_cons_self)
      refine List.pairwise_cons.2 ⟨fun z hz => ?_, h⟩
      rcases List.mem_cons.1 hz with rfl | hz
      · exact hg
      · exact List.lt_trans hg (h1 z hz)
theorem rWith_eq (l : List Slot) (s : Slot) : rWith l s = (rWithout l s.key).takeWhile (fun y => keyLt y.key s.key) ++ s :: (rWithout l s.key).dropWhile (fun y => keyLt y.key s.key) := by
  unfold rWith rAt
  generalize rWithout l s.key = x
  have h := List.takeWhile_append_dropWhile (p := fun y : Slot => keyLt y.key s.key) (l := x)
  generalize x.takeWhile (fun y => keyLt y.key s.key) = t at *
  generalize x.dropWhile (fun y => keyLt y.key s.key) = d at *
  subst h
  rw [List.take_left' rfl, List.drop_left' rfl]
theorem rWithout_mem {l : List Slot} {k : ByteArray} {s : Slot} : s ∈ rWithout l k ↔ s ∈ l ∧ s.key ≠ k := by
  unfold rWithout
  rw [List.mem_filter]
  simp
theorem rWith_mem {l : List Slot} {s0 s : Slot} : s ∈ rWith l s0 ↔ s = s0 ∨ (s.key ≠ s0.key ∧ s ∈ l) := by
  rw [rWith_eq, List.mem_append, List.mem_cons]
  have h : s ∈ rWithout l s0.key ↔ s ∈ (rWithout l s0.key).takeWhile (fun y => keyLt y.key s0.key) ∨ s ∈ (rWithout l s0.key).dropWhile (fun y => keyLt y.key s0.key) := by
    rw [← List.mem_append, List.takeWhile_append_dropWhile]
  rw [rWithout_mem] at h
  constructor
  · rintro (q | rfl | q)
    · exact Or.inr ⟨(h.2 (Or.inl q)).2, (h.2 (Or.inl q)).1⟩
    · exact Or.inl rfl
    · exact Or.inr ⟨(h.2 (Or.inr q)).2, (h.2 (Or.inr q)).1⟩
  · rintro (rfl | ⟨q1, q2⟩)
    · exact Or.inr (Or.inl rfl)
    · rcases h.1 ⟨q2, q1⟩ with q | q
      · exact Or.inl q
      · exact Or.inr (Or.inr q)
theorem rWith_rises {l : List Slot} (h : Rises l) (s0 : Slot) : Rises (rWith l s0) := by
  rw [rWith_eq]
  exact insert_rises s0 _ (h.filter _) fun y hy => (rWithout_mem.1 hy).2
theorem rWith_len (l : List Slot) (s0 : Slot) : (rWith l s0).length ≤ l.length + 1 := by
  rw [rWith_eq, List.length_append, List.length_cons]
  have h := congrArg List.length (List.takeWhile_append_dropWhile (p := fun y : Slot => keyLt y.key s0.key) (l := rWithout l s0.key))
  rw [List.length_append] at h
  have := List.length_filter_le (fun s : Slot => decide (s.key ≠ s0.key)) l
  unfold rWithout at h ⊢
  omega
theorem put_iff {l : SMap} {s0 s : Slot} {c : Nat} : (∃ n, (s, n) ∈ l.put s0 c) ↔ s = s0 ∨ (s.key ≠ s0.key ∧ ∃ n, (s, n) ∈ l) := by
  unfold SMap.put
  cases hl : l.look s0.key with
  | none =>
    rw [look_none] at hl
    simp only [Option.isSome_none, Bool.false_eq_true, if_false, List.mem_append, List.mem_singleton, Prod.mk.injEq]
    constructor
    · rintro ⟨n, h | ⟨rfl, -⟩⟩
      · exact Or.inr ⟨hl _ h, n, h⟩
      · exact Or.inl rfl
    · rintro (rfl | ⟨-, n, h⟩)
      · exact ⟨c, Or.inr ⟨rfl, rfl⟩⟩
      · exact ⟨n, Or.inl h⟩
  | some s1 =>
    obtain ⟨n1, h1⟩ := look_mem hl
    have hk1 := look_key hl
    simp only [Option.isSome_some, if_true]
    unfold SMap.rep
    constructor
    · rintro ⟨n, h⟩
      obtain ⟨x, hx, he⟩ := List.mem_map.1 h
      by_cases hq : x.1.key = s0.key
      · rw [if_pos hq] at he; cases he; exact Or.inl rfl
      · rw [if_neg hq] at he; subst he; exact Or.inr ⟨hq, n, hx⟩
    · rintro (rfl | ⟨hq, n, h⟩)
      · exact ⟨n1, List.mem_map.2 ⟨_, h1, by rw [if_pos hk1]⟩⟩
      · exact ⟨n, List.mem_map.2 ⟨_, h, by rw [if_neg hq]⟩⟩
theorem del_iff {l : SMap} {k : ByteArray} {s : Slot} : (∃ n, (s, n) ∈ l.del k) ↔ s.key ≠ k ∧ ∃ n, (s, n) ∈ l := by
  unfold SMap.del
  constructor
  · rintro ⟨n, h⟩
    rw [List.mem_filter] at h
    exact ⟨by simpa using h.2, n, h.1⟩
  · rintro ⟨h, n, q⟩
    exact ⟨n, List.mem_filter.2 ⟨q, by simpa using h⟩⟩

/-- what is active of both is the same -/
structure Rel (clock : Int) (l : SMap) (all : List Slot) : Prop where
  mem : ∀ s, 0 < s.fill clock → ((∃ n, (s, n) ∈ l) ↔ s ∈ all)
  up : Rises all
  ok : ∀ s ∈ all, SlotOk s
theorem Rel.nil (clock : Int) : Rel clock [] [] := ⟨fun s _ => ⟨fun ⟨n, h⟩ => (by cases h), fun h => (by cases h)⟩, List.Pairwise.nil, fun s h => (by cases h)⟩
theorem rSlots_iff {clock : Int} {all : List Slot} {s : Slot} : s ∈ rSlots clock all ↔ s ∈ all ∧ 0 < s.fill clock := by
  unfold rSlots
  rw [List.mem_filter]
  simp
theorem drained_iff {clock : Int} {s : Slot} (h : SlotOk s) (hn0 : 0 ≤ clock) (hn1 : clock < 18446744073709551616) : drained clock s = false ↔ 0 < s.fill clock := by
  have := fill_u h hn0 hn1
  unfold drained
  rw [beq_eq_false_iff_ne]
  omega
theorem actives_nodup {clock : Int} {l : SMap} (hk : l.keys.Nodup) : (actives clock l).Nodup := by
  unfold actives
  have h1 : ((l.filter fun x => !drained clock x.1).map (·.1.key)).Nodup := by
    have := List.Sublist.map (fun x : Slot × Nat => x.1.key) (List.filter_sublist (p := fun x => !drained clock x.1) (l := l))
    exact hk.sublist this
  have h2 : ((l.filter fun x => !drained clock x.1).map (·.1)).map (·.key) = (l.filter fun x => !drained clock x.1).map (·.1.key) := by rw [List.map_map]; rfl
  rw [← h2] at h1
  exact (List.pairwise_map.1 h1).imp (fun {a b : Slot} (q : a.key ≠ b.key) (e : a = b) => q (by rw [e]))
theorem Rel.slots {clock : Int} {l : SMap} {all : List Slot} {c : Nat} (h : Rel clock l all) (hok : TabOk l c) (hn0 : 0 ≤ clock) (hn1 : clock < 18446744073709551616) : slotsOf clock l = rSlots clock all := by
  refine (slotsOf_unique hok.keys ?_ ?_).symm
  · refine (List.perm_ext_iff_of_nodup ((h.up.filter _).nodup) (actives_nodup hok.keys)).2 fun s => ?_
    rw [actives_iff]
    constructor
    · intro q
      obtain ⟨q1, q2⟩ := rSlots_iff.1 q
      exact ⟨(h.mem s q2).2 q1, (drained_iff (h.ok s q1) hn0 hn1).2 q2⟩
    · rintro ⟨⟨n, q1⟩, q2⟩
      have q3 := (drained_iff (hok.ok _ q1) hn0 hn1).1 q2
      exact rSlots_iff.2 ⟨(h.mem s q3).1 ⟨n, q1⟩, q3⟩
  · exact (h.up.filter _).imp fun q => List.le_of_lt q
/-- of what is active alone -/
theorem Rel.act {clock : Int} {l : SMap} {all : List Slot} (h : Rel clock l all) : Rel clock l (rSlots clock all) :=
  ⟨fun s q => (h.mem s q).trans ⟨fun q1 => rSlots_iff.2 ⟨q1, q⟩, fun q1 => (rSlots_iff.1 q1).1⟩, h.up.filter _, fun s q => h.ok s (rSlots_iff.1 q).1⟩
theorem kFill_mono {k a b now clock cap : Int} (ha : 0 ≤ a) (hb : 0 ≤ b) (hc : 0 ≤ cap) (hn : clock ≤ now) (hn0 : 0 ≤ clock) : kFill k a b now cap ≤ kFill k a b clock cap := by
  unfold kFill satSub satAdd
  split
  · split <;> split <;> omega
  split
  · repeat' split
    all_goals omega
  split
  · repeat' split
    all_goals omega
  · omega
theorem Rel.later {clock now : Int} {l : SMap} {all : List Slot} {c : Nat} (h : Rel clock l all) (hok : TabOk l c) (hn0 : 0 ≤ clock) (hn : clock ≤ now) : Rel now l all := by
  refine ⟨fun s q => ⟨fun ⟨n, q1⟩ => ?_, fun q1 => ?_⟩, h.up, h.ok⟩
  · have hs := hok.ok _ q1
    exact (h.mem s (Int.lt_of_lt_of_le q (kFill_mono hs.sa0 hs.sb0 (cap_u hs).1 hn hn0))).1 ⟨n, q1⟩
  · have hs := h.ok _ q1
    exact (h.mem s (Int.lt_of_lt_of_le q (kFill_mono hs.sa0 hs.sb0 (cap_u hs).1 hn hn0))).2 q1
theorem Rel.put {clock : Int} {l : SMap} {all : List Slot} {s0 : Slot} (h : Rel clock l all) (hs : SlotOk s0) (c : Nat) : Rel clock (l.put s0 c) (rWith all s0) := by
  refine ⟨fun s q => ?_, rWith_rises h.up s0, fun s q => ?_⟩
  · rw [put_iff, rWith_mem, h.mem s q]
  · rcases rWith_mem.1 q with rfl | ⟨-, q1⟩
    · exact hs
    · exact h.ok s q1

theorem Rel.hit {clock : Int} {l : SMap} {all : List Slot} {c : Nat} (h : Rel clock l all) (hok : TabOk l c) (hn0 : 0 ≤ clock) (hn1 : clock < 18446744073709551616) (k : ByteArray) (e b : Int) : slotHit l k e b clock = rHit (rSlots clock all) k e b := by
  refine Option.ext fun s => ⟨fun q => ?_, fun q => ?_⟩
  · obtain ⟨q1, q2, q3, q4⟩ := hit_look q
    obtain ⟨n, q5⟩ := look_mem q1
    have q6 := (drained_iff (hok.ok _ q5) hn0 hn1).1 q4
    have q7 : s ∈ rSlots clock all := rSlots_iff.2 ⟨(h.mem s q6).1 ⟨n, q5⟩, q6⟩
    unfold rHit
    rw [rFind_of (xs := rSlots clock all) (h.up.filter _) q7 (look_key q1), Option.filter_some, if_pos (by rw [q2, q3]; simp)]
  · obtain ⟨q1, q2, q3, q4⟩ := rHit_mem q
    obtain ⟨q5, q6⟩ := rSlots_iff.1 q1
    obtain ⟨n, q7⟩ := (h.mem s q6).2 q5
    have q8 := mem_look hok.keys q7
    rw [q2] at q8
    exact hit_of q8 q3 q4 ((drained_iff (hok.ok _ q7) hn0 hn1).2 q6)
theorem rLeft_iff {xs : List Slot} {k : ByteArray} {e b : Int} {s : Slot} : s ∈ rLeft xs k e b ↔ s ∈ xs ∧ ((rHit xs k e b).isSome = true ∨ s.key ≠ k) := by
  unfold rLeft
  cases ho : rOth xs k e b
  · simp only [Bool.false_eq_true, if_false]
    refine ⟨fun q => ⟨q, ?_⟩, fun q => q.1⟩
    unfold rOth at ho
    cases hh : (rHit xs k e b).isSome
    · rw [hh] at ho
      right
      intro hk
      rcases rIdx_cases xs k with ⟨-, -, h3⟩ | ⟨m, hm, -, h2, -⟩
      · exact h3 s q hk
      · rw [h2] at ho; simp at ho
    · exact Or.inl rfl
  · simp only [if_true]
    rw [rWithout_mem]
    unfold rOth at ho
    cases hh : (rHit xs k e b).isSome
    · exact ⟨fun q => ⟨q.1, Or.inr q.2⟩, fun q => ⟨q.1, by simpa using q.2⟩⟩
    · rw [hh] at ho; simp at ho
theorem Rel.left {clock : Int} {l : SMap} {all : List Slot} {c : Nat} (h : Rel clock l all) (hok : TabOk l c) (hn0 : 0 ≤ clock) (hn1 : clock < 18446744073709551616) (k : ByteArray) (e b : Int) : Rel clock (slotLeft l k e b clock) (rLeft (rSlots clock all) k e b) := by
  refine ⟨fun s q => ?_, ?_, fun s q => h.ok s (rSlots_iff.1 (rLeft_mem q)).1⟩
  · rw [rLeft_iff, rSlots_iff, ← h.hit hok hn0 hn1 k e b]
    unfold slotLeft
    cases hh : (slotHit l k e b clock).isSome
    · simp only [Bool.false_eq_true, if_false, false_or]
      rw [del_iff, h.mem s q]
      exact ⟨fun q1 => ⟨⟨q1.2, q⟩, q1.1⟩, fun q1 => ⟨q1.2, q1.1.1⟩⟩
    · simp only [if_true, true_or, and_true]
      rw [h.mem s q]
      exact ⟨fun q1 => ⟨q1, q⟩, fun q1 => q1.1⟩
  · unfold rLeft
    split
    · exact (h.up.filter _).filter _
    · exact h.up.filter _
theorem Rel.room {clock : Int} {l : SMap} {ys : List Slot} {c : Nat} (h : Rel clock l ys) (hok : TabOk l c) (hn0 : 0 ≤ clock) (hn1 : clock < 18446744073709551616) (is : Bool) (most : Int) : Rel clock (roomed clock l is most) ys := by
  refine ⟨fun s q => ?_, h.up, h.ok⟩
  rw [← h.mem s q]
  unfold roomed
  split
  · constructor
    · rintro ⟨n, q1⟩
      exact ⟨n, (List.mem_filter.1 q1).1⟩
    · rintro ⟨n, q1⟩
      exact ⟨n, List.mem_filter.2 ⟨q1, by rw [(drained_iff (hok.ok _ q1) hn0 hn1).2 q]; rfl⟩⟩
  · exact Iff.rfl
theorem rSlots_self {clock : Int} {ys : List Slot} (h : ∀ s ∈ ys, 0 < s.fill clock) : rSlots clock ys = ys := by
  unfold rSlots
  exact List.filter_eq_self.2 fun s hs => by simpa using h s hs
theorem Rel.isFull {clock most : Int} {l : SMap} {all : List Slot} {c : Nat} (h : Rel clock l all) (hok : TabOk l c) (hn0 : 0 ≤ clock) (hn1 : clock < 18446744073709551616) (k : ByteArray) (e b : Int) : chFull most clock l k e b = rFull most (rSlots clock all) k e b := by
  have hl := h.left hok hn0 hn1 k e b
  have hokl : TabOk (slotLeft l k e b clock) c := by unfold slotLeft; split <;> first | exact hok | exact hok.del k
  have hs := hl.slots hokl hn0 hn1
  rw [rSlots_self fun s q => (rSlots_iff.1 (rLeft_mem q)).2] at hs
  have hlen := congrArg List.length hs
  have hle := actives_len clock (slotLeft l k e b clock)
  rw [slotsOf_len] at hlen
  have hfl := filter_len clock (slotLeft l k e b clock)
  rw [slotsOf_len] at hfl
  unfold chFull full rFull
  rw [h.hit hok hn0 hn1 k e b]
  cases hh : (rHit (rSlots clock all) k e b).isSome
  · simp only [Bool.not_false, Bool.true_and, decide_eq_decide]
    unfold roomed
    by_cases hm : most ≤ ((slotLeft l k e b clock).length : Int)
    · rw [if_pos ⟨rfl, hm⟩, hfl, hlen]
    · rw [if_neg (fun q => hm q.2)]
      omega
  · rfl
theorem Rel.charge {clock most : Int} {l : SMap} {all : List Slot} {c : Nat} (h : Rel clock l all) (hok : TabOk l c) (hn0 : 0 ≤ clock) (hn1 : clock < 18446744073709551616) (k p : ByteArray) (e b rk n : Int)
    (hok' : TabOk (chargeL most clock l c k p e b rk n) (chargeC most clock l c k p e b rk n)) :
    chargeV most clock l k e b rk n = rChgV most clock (rSlots clock all) k e b rk n ∧ Rel clock (chargeL most clock l c k p e b rk n) (rChgL most clock (rSlots clock all) k p e b rk n) := by
  have hl := h.left hok hn0 hn1 k e b
  have hokl : TabOk (slotLeft l k e b clock) c := by unfold slotLeft; split <;> first | exact hok | exact hok.del k
  have hr := hl.room hokl hn0 hn1 (slotHit l k e b clock).isSome most
  have hf := h.isFull (most := most) hok hn0 hn1 k e b
  have hh := h.hit hok hn0 hn1 k e b
  unfold chargeV chargeL rChgV rChgL
  unfold chargeL chargeC at hok'
  rw [← hf, ← hh]
  by_cases hq : chFull most clock l k e b = true
  · simp only [if_pos hq]
    exact ⟨trivial, hr⟩
  · simp only [if_neg hq] at hok' ⊢
    refine ⟨trivial, ?_⟩
    unfold chL chC at hok'
    unfold chL
    cases ho : chgOk clock (slotHit l k e b clock) e b rk n
    · simp only [Bool.false_eq_true, if_false]
      exact hr
    · rw [ho] at hok'
      simp only [if_true] at hok' ⊢
      obtain ⟨n1, h1⟩ := (put_iff (l := chRoom most clock l k e b) (s0 := chgS clock (slotHit l k e b clock) k p e b rk n) (c := c)).2 (Or.inl rfl)
      exact hr.put (hok'.ok _ h1) c
theorem mvTo_iff {clock kind : Int} {l : SMap} {all : List Slot} {c : Nat} (h : Rel clock l all) (hok : TabOk l c) (hn0 : 0 ≤ clock) (hn1 : clock < 18446744073709551616) : ∀ k, k ≤ (slotsOf clock l).length → ∀ s, 0 < s.fill clock →
    ((∃ n, (s, n) ∈ (mvTo clock kind l c k).1) ↔ s ∈ ((slotsOf clock l).take k).map (fun s => movedS clock s kind) ++ (slotsOf clock l).drop k) := by
  have hup : Rises (slotsOf clock l) := by rw [h.slots hok hn0 hn1]; exact h.up.filter _
  have hact : ∀ s, 0 < s.fill clock → ((∃ n, (s, n) ∈ l) ↔ s ∈ slotsOf clock l) := fun s q => by rw [h.slots hok hn0 hn1]; exact h.act.mem s q
  intro k
  induction k with
  | zero =>
    intro _ s q
    rw [mvTo_zero, List.take_zero, List.map_nil, List.nil_append, List.drop_zero]
    exact hact s q
  | succ k ih =>
    intro hk s q
    have hk' : k < (slotsOf clock l).length := hk
    rw [mvTo_succ clock kind l c k hk']
    unfold mvStep
    rw [put_iff, ih (by omega) s q]
    generalize slotsOf clock l = xs at hup hk'
    have hne : ∀ i (hi : i < xs.length), i ≠ k → xs[i].key ≠ xs[k].key := by
      intro i hi hik he
      have := hup.key (List.getElem_mem hi) (List.getElem_mem hk') he
      rcases Nat.lt_or_gt_of_ne hik with hlt | hlt
      · exact absurd this ((List.pairwise_iff_getElem.1 hup.nodup) i k hi hk' hlt)
      · exact absurd this.symm ((List.pairwise_iff_getElem.1 hup.nodup) k i hk' hi hlt)
    have h1 : ∀ y ∈ xs.take k, y.key ≠ xs[k].key := by
      intro y hy
      obtain ⟨i, hi, rfl⟩ := List.mem_iff_getElem.1 hy
      rw [List.length_take] at hi
      rw [List.getElem_take]
      exact hne i (by omega) (by omega)
    have h2 : ∀ y ∈ xs.drop (k + 1), y.key ≠ xs[k].key := by
      intro y hy
      obtain ⟨i, hi, rfl⟩ := List.mem_iff_getElem.1 hy
      rw [List.length_drop] at hi
      rw [List.getElem_drop]
      exact hne (k + 1 + i) (by omega) (by omega)
    have hmk : (movedS clock xs[k] kind).key = xs[k].key := rfl
    rw [List.take_succ_eq_append_getElem hk', List.drop_eq_getElem_cons hk', List.map_append, List.mem_append, List.mem_append, List.mem_append, List.mem_cons]
    simp only [List.map_cons, List.map_nil, List.mem_singleton]
    constructor
    · rintro (rfl | ⟨q1, q2 | rfl | q2⟩)
      · exact Or.inl (Or.inr rfl)
      · exact Or.inl (Or.inl q2)
      · exact absurd hmk.symm q1
      · exact Or.inr q2
    · rintro ((q2 | rfl) | q2)
      · refine Or.inr ⟨?_, Or.inl q2⟩
        obtain ⟨y, hy, rfl⟩ := List.mem_map.1 q2
        exact h1 y hy
      · exact Or.inl rfl
      · exact Or.inr ⟨h2 s q2, Or.inr (Or.inr q2)⟩
theorem Rel.moveAll {clock kind : Int} {l : SMap} {all : List Slot} {c : Nat} (h : Rel clock l all) (hok : TabOk l c) (hn0 : 0 ≤ clock) (hn1 : clock < 18446744073709551616) (hq : rightKind kind = true) :
    Rel clock (mvTo clock kind l c (slotsOf clock l).length).1 ((rSlots clock all).map fun s => movedS clock s kind) := by
  have he := h.slots hok hn0 hn1
  refine ⟨fun s q => ?_, ?_, fun s q => ?_⟩
  · rw [mvTo_iff h hok hn0 hn1 _ (Nat.le_refl _) s q, List.take_length, List.drop_length, List.append_nil, he]
  · exact List.pairwise_map.2 (h.up.filter _)
  · obtain ⟨y, hy, rfl⟩ := List.mem_map.1 q
    exact movedS_ok (h.ok y (rSlots_iff.1 hy).1) hq hn0 hn1
theorem Rel.move {clock kind : Int} {l : SMap} {all : List Slot} {c : Nat} (h : Rel clock l all) (hok : TabOk l c) (hn0 : 0 ≤ clock) (hn1 : clock < 18446744073709551616) (hq : rightKind kind = true) {s : Slot} (hs : s ∈ actives clock l) :
    s ∈ rSlots clock all ∧ Rel clock (l.put (movedS clock s kind) c) (rWith (rSlots clock all) (movedS clock s kind)) := by
  have hm : s ∈ rSlots clock all := by rw [← h.slots hok hn0 hn1]; exact slotsOf_mem.2 hs
  exact ⟨hm, h.act.put (movedS_ok (h.ok s (rSlots_iff.1 hm).1) hq hn0 hn1) c⟩
end Go.Proofs.Ytknlojlcahgnoaa

/- Walks: tollerref14.MoveAll. -/
namespace Go.Proofs.Ytknlojlcahgnoaa
open Go.RowKit
set_option linter.unusedVariables false
set_option linter.unusedSimpArgs false

theorem ret_cell_tmp2 {P : Program} {fn : Func} {R : Ending → World → Prop} {tmps : Array Value} {w : World} {p q r : Tmp} {ty t : TypeId} {g : Nat} {C : Array Value} {d : TypeDesc} {v u : Value} (h : fn.results = #[.cell p ty, .tmp q, .tmp r])
    (hp : tmps.getD p undef = .pointer (some ⟨g, 0, none⟩)) (hq : tmps.getD q undef = v) (hr : tmps.getD r undef = u) (hB : Blk w g C t) (hu : P.underlying ty = some d) (hd : aggKind d = true) (hi : (P.info? ty).map (·.size) = some C.size)
    (hR : R (.returned (.tuple #[.agg C, v, u])) w) : bodyPost P fn R .ret { tmps := tmps, defers := [] } w := by
  refine bodyPost_ret (v := .tuple #[.agg C, v, u]) ?_ rfl hR
  have hp' : tmps[p]?.getD undef = .pointer (some ⟨g, 0, none⟩) := by simpa using hp
  have hq' : tmps[q]?.getD undef = v := by simpa using hq
  have hr' : tmps[r]?.getD undef = u := by simpa using hr
  simp [results, h, hp', hq', hr', asAddr, run_loadVar_blk hB hu hd hi]

end Go.Proofs.Ytknlojlcahgnoaa

/- Walk: tollerref14.Charge. -/
namespace Go.Proofs.Ytknlojlcahgnoaa
open Go.RowKit
set_option linter.unusedVariables false
set_option linter.unusedSimpArgs false

theorem ret_cell_cell {P : Program} {fn : Func} {R : Ending → World → Prop} {tmps : Array Value} {w : World} {p q : Tmp} {ty t ty' t' : TypeId} {g g' : Nat} {C C' : Array Value} {d d' : TypeDesc} (h : fn.results = #[.cell p ty, .cell q ty'])
    (hp : tmps.getD p undef = .pointer (some ⟨g, 0, none⟩)) (hq : tmps.getD q undef = .pointer (some ⟨g', 0, none⟩)) (hB : Blk w g C t) (hB' : Blk w g' C' t') (hu : P.underlying ty = some d) (hd : aggKind d = true) (hi : (P.info? ty).map (·.size) = some C.size)
    (hu' : P.underlying ty' = some d') (hd' : aggKind d' = true) (hi' : (P.info? ty').map (·.size) = some C'.size)
    (hR : R (.returned (.tuple #[.agg C, .agg C'])) w) : bodyPost P fn R .ret { tmps := tmps, defers := [] } w := by
  refine bodyPost_ret (v := .tuple #[.agg C, .agg C']) ?_ rfl hR
  have hp' : tmps[p]?.getD undef = .pointer (some ⟨g, 0, none⟩) := by simpa using hp
  have hq' : tmps[q]?.getD undef = .pointer (some ⟨g', 0, none⟩) := by simpa using hq
  simp [results, h, hp', hq', asAddr, run_loadVar_blk hB hu hd hi, run_loadVar_blk hB' hu' hd' hi']

theorem Ext.set10 {x y : World} (h : Ext x y) {b : Nat} (hb : x.heap.size ≤ b) (v0 v1 v2 v3 v4 v5 v6 v7 v8 v9 : Value) :
    Ext x ((((((((((y.setCell ⟨b, 0, none⟩ v0).setCell ⟨b, 1, none⟩ v1).setCell ⟨b, 2, none⟩ v2).setCell ⟨b, 3, none⟩ v3).setCell ⟨b, 4, none⟩ v4).setCell ⟨b, 5, none⟩ v5).setCell ⟨b, 6, none⟩ v6).setCell ⟨b, 7, none⟩ v7).setCell ⟨b, 8, none⟩ v8).setCell ⟨b, 9, none⟩ v9) :=
  (((((((((h.set hb _ _).set hb _ _).set hb _ _).set hb _ _).set hb _ _).set hb _ _).set hb _ _).set hb _ _).set hb _ _).set hb _ _
theorem kOk_retry {k a b now cap x : Int} (h : kOk k a b now cap x = true) : kRetry (kFill k a b now cap) cap x = false := by
  unfold kOk at h
  unfold kFill kRetry
  by_cases h1 : k = 1
  · simp only [h1, if_true] at h ⊢
    unfold fitsB at h
    unfold satSub
    simp at h ⊢
    split <;> omega
  by_cases h2 : k = 2
  · simp only [h2, if_true] at h ⊢
    simp at h ⊢
    omega
  by_cases h3 : k = 3
  · simp only [h3, if_true] at h ⊢
    unfold fitsB at h
    simp at h ⊢
    omega
  simp [h1, h2, h3] at h
def pickL (B : Bool) (x y : List Slot) : List Slot := if B then x else y

end Go.Proofs.Ytknlojlcahgnoaa

/- Walk: tollerref14.Charge of what is not right. -/
namespace Go.Proofs.Ytknlojlcahgnoaa
open Go.RowKit
set_option linter.unusedVariables false
set_option linter.unusedSimpArgs false

end Go.Proofs.Ytknlojlcahgnoaa

/- Walks: tollerref14: Entries. -/
namespace Go.Proofs.Ytknlojlcahgnoaa
open Go.RowKit
set_option linter.unusedVariables false
set_option linter.unusedSimpArgs false

theorem ent_sizeR (x : Ent) : x.cells.size = 2 := rfl
end Go.Proofs.Ytknlojlcahgnoaa

/- What each kind of deed does to the table, and to the document's. -/
namespace Go.Proofs.Ytknlojlcahgnoaa
open Go.RowKit
set_option linter.unusedVariables false
set_option linter.unusedSimpArgs false

/-- all is as it was but for two blocks, and new ones -/
structure Ext2 (t m : Nat) (w w' : World) : Prop where
  os : w'.os = w.os
  tape : w'.tape = w.tape
  output : w'.output = w.output
  size : w.heap.size ≤ w'.heap.size
  block : ∀ k, k < w.heap.size → k ≠ t → k ≠ m → w'.heap[k]? = w.heap[k]?
theorem Ext2.refl (t m : Nat) (w : World) : Ext2 t m w w := ⟨rfl, rfl, rfl, Nat.le_refl _, fun _ _ _ _ => rfl⟩
theorem Ext2.trans {t m : Nat} {x y z : World} (h : Ext2 t m x y) (k : Ext2 t m y z) : Ext2 t m x z :=
  ⟨k.os.trans h.os, k.tape.trans h.tape, k.output.trans h.output, Nat.le_trans h.size k.size, fun i hi h1 h2 => (k.block i (Nat.lt_of_lt_of_le hi h.size) h1 h2).trans (h.block i hi h1 h2)⟩
theorem ExtB.to2t {t : Nat} {x y : World} (h : ExtB t x y) (m : Nat) : Ext2 t m x y := ⟨h.os, h.tape, h.output, h.size, fun k hk h1 _ => h.block k hk h1⟩
theorem ExtB.to2m {m : Nat} {x y : World} (h : ExtB m x y) (t : Nat) : Ext2 t m x y := ⟨h.os, h.tape, h.output, h.size, fun k hk _ h1 => h.block k hk h1⟩
theorem Ext.to2 {x y : World} (h : Ext x y) (t m : Nat) : Ext2 t m x y := (h.toB t).to2t m
theorem Blk.ext2 {t m b : Nat} {x y : World} {C : Array Value} {ty : TypeId} (h : Blk x b C ty) (e : Ext2 t m x y) (n1 : b ≠ t) (n2 : b ≠ m) : Blk y b C ty := (e.block b h.lt n1 n2).trans h
theorem RowOf.ext2 {α : Type} {enc : α → Array Value} {k : Nat} {E : TypeId} {base t m : Nat} {w w' : World} {v : Value} {l : List α} (h : RowOf enc k E base w v l) (e : Ext2 t m w w') (h1 : t < base) (h2 : m < base) : RowOf enc k E base w' v l := by
  obtain ⟨⟨h0, h3⟩, hn⟩ := h
  refine ⟨⟨h0, ?_⟩, hn⟩
  rcases h3 with h3 | ⟨g, cap, cur, q1, q2, q3, q4⟩
  · exact Or.inl h3
  · exact Or.inr ⟨g, cap, cur, q1, q2, (e.block g (lt_of_block q3) (by omega) (by omega)).trans q3, q4⟩
theorem Ext.own2 {t m : Nat} {x y z : World} (h : Ext x y) (e : Ext2 t m y z) (h1 : x.heap.size ≤ t) (h2 : x.heap.size ≤ m) : Ext x z :=
  ⟨e.os.trans (Below.os h), e.tape.trans (Below.tape h), e.output.trans (Below.output h), Nat.le_trans h.sz e.size, fun k hk => (e.block k (Nat.lt_of_lt_of_le hk h.sz) (by omega) (by omega)).trans (Below.block h k hk)⟩

theorem put_lenS (l : SMap) (s : Slot) (c : Nat) : (l.put s c).length ≤ l.length + 1 := by
  unfold SMap.put SMap.rep
  split <;> simp
theorem put_keys {l : SMap} {s : Slot} {c : Nat} (h : s.key ∈ l.keys) : (l.put s c).keys = l.keys := by
  unfold SMap.put
  have hs : (l.look s.key).isSome = true := by
    cases hl : l.look s.key with
    | some x => rfl
    | none =>
      rw [look_none] at hl
      obtain ⟨x, hx, he⟩ := List.mem_map.1 h
      exact absurd he (hl x hx)
  rw [if_pos hs]
  exact rep_keys l s
theorem slotsOf_key {clock : Int} {l : SMap} {s : Slot} (h : s ∈ slotsOf clock l) : s.key ∈ l.keys := by
  obtain ⟨n, hn⟩ := actives_mem (slotsOf_mem.1 h)
  exact List.mem_map.2 ⟨_, hn, rfl⟩
theorem mvTo_keys (clock kind : Int) (l : SMap) (c : Nat) : ∀ k, k ≤ (slotsOf clock l).length → (mvTo clock kind l c k).1.keys = l.keys := by
  intro k
  induction k with
  | zero => intro _; rfl
  | succ k ih =>
    intro hk
    have hk' : k < (slotsOf clock l).length := hk
    rw [mvTo_succ clock kind l c k hk']
    unfold mvStep
    have h1 := ih (by omega)
    have hm : (movedS clock (slotsOf clock l)[k] kind).key ∈ (mvTo clock kind l c k).1.keys := by
      rw [h1]
      show (slotsOf clock l)[k].key ∈ l.keys
      exact slotsOf_key (List.getElem_mem hk')
    rw [put_keys hm, h1]
theorem mvTo_len (clock kind : Int) (l : SMap) (c : Nat) : (mvTo clock kind l c (slotsOf clock l).length).1.length = l.length := by
  have h := congrArg List.length (mvTo_keys clock kind l c _ (Nat.le_refl _))
  unfold SMap.keys at h
  rw [List.length_map, List.length_map] at h
  exact h
theorem cgL_lenS (most clock : Int) (l : SMap) (c : Nat) (k p : ByteArray) (e b rk n : Int) : (cgL most clock l c k p e b rk n).length ≤ l.length + 1 := by
  unfold cgL
  split
  · omega
  split
  · omega
  unfold chargeL
  have h := (chRoom_sub (most := most) (clock := clock) (l := l) (k := k) (e := e) (b := b)).2
  split
  · omega
  unfold chL
  split
  · have := put_lenS (chRoom most clock l k e b) (chgS clock (slotHit l k e b clock) k p e b rk n) c
    omega
  · omega
theorem rChgL_len (most clock : Int) (xs : List Slot) (k p : ByteArray) (e b rk n : Int) : (rChgL most clock xs k p e b rk n).length ≤ xs.length + 1 := by
  have h := rLeft_len xs k e b
  unfold rChgL
  split
  · omega
  split
  · have := rWith_len (rLeft xs k e b) (chgS clock (rHit xs k e b) k p e b rk n)
    omega
  · omega
theorem rSlots_len (clock : Int) (all : List Slot) : (rSlots clock all).length ≤ all.length := List.length_filter_le _ _

/-- what a move does to the map, and its error -/
def MoveRes (clock kind : Int) (l : SMap) (k : ByteArray) (c : Nat) (E : Int) (l' : SMap) (c' : Nat) : Prop :=
  (rightKind kind = false ∧ E = 27 ∧ l' = l ∧ c' = c) ∨ (rightKind kind = true ∧ ((∃ s ∈ actives clock l, s.key = k ∧ E = 0 ∧ l' = l.put (movedS clock s kind) c ∧ c' = l.putC (movedS clock s kind) c) ∨ ((∀ s ∈ actives clock l, s.key ≠ k) ∧ E = 52 ∧ l' = l ∧ c' = c)))
/-- what MoveAll does to the map, how many, and its error -/
def AllRes (clock kind : Int) (l : SMap) (c : Nat) (N E : Int) (l' : SMap) (c' : Nat) : Prop :=
  (rightKind kind = false ∧ N = 0 ∧ E = 27 ∧ l' = l ∧ c' = c) ∨ (rightKind kind = true ∧ N = (slotsOf clock l).length ∧ E = 0 ∧ l' = (mvTo clock kind l c (slotsOf clock l).length).1 ∧ c' = (mvTo clock kind l c (slotsOf clock l).length).2)
theorem ruleErr_u (p : ByteArray) (e b k : Int) : 0 ≤ ruleErr p e b k ∧ ruleErr p e b k < 65536 := by
  unfold ruleErr
  repeat' split
  all_goals omega
end Go.Proofs.Ytknlojlcahgnoaa

/- Stores into blocks that a call of step has made. -/
namespace Go.Proofs.Ytknlojlcahgnoaa
open Go.RowKit
set_option linter.unusedVariables false
set_option linter.unusedSimpArgs false

theorem RowOf.setOther {α : Type} {enc : α → Array Value} {k : Nat} {E t' : TypeId} {base b : Nat} {w : World} {v : Value} {l : List α} {C : Array Value} (h : RowOf enc k E base w v l) (hb : Blk w b C t') (ne : E ≠ t') (o : Nat) (x : Value) : RowOf enc k E base (w.setCell ⟨b, o, none⟩ x) v l := by
  obtain ⟨⟨h0, h3⟩, hn⟩ := h
  refine ⟨⟨h0, ?_⟩, hn⟩
  rcases h3 with h3 | ⟨g, cap, cur, q1, q2, q3, q4⟩
  · exact Or.inl h3
  · have hne : g ≠ b := by
      intro e
      subst e
      have : (some (Obj.cells cur E (0, 0)) : Option Obj) = some (.cells C t') := q3.symm.trans hb
      simp at this
      exact ne this.2
    exact Or.inr ⟨g, cap, cur, q1, q2, Blk.other (t := E) q3 (a := ⟨b, o, none⟩) hne x, q4⟩
theorem RowOf.set3Other {α : Type} {enc : α → Array Value} {k : Nat} {E t' : TypeId} {base b : Nat} {w : World} {v : Value} {l : List α} {C : Array Value} (h : RowOf enc k E base w v l) (hb : Blk w b C t') (ne : E ≠ t') (v0 v1 v2 : Value) :
    RowOf enc k E base (((w.setCell ⟨b, 0, none⟩ v0).setCell ⟨b, 1, none⟩ v1).setCell ⟨b, 2, none⟩ v2) v l :=
  ((h.setOther hb ne 0 v0).setOther (hb.set 0 v0) ne 1 v1).setOther ((hb.set 0 v0).set 1 v1) ne 2 v2
theorem RowOf.set10Other {α : Type} {enc : α → Array Value} {k : Nat} {E t' : TypeId} {base b : Nat} {w : World} {v : Value} {l : List α} {C : Array Value} (h : RowOf enc k E base w v l) (hb : Blk w b C t') (ne : E ≠ t') (v0 v1 v2 v3 v4 v5 v6 v7 v8 v9 : Value) :
    RowOf enc k E base ((((((((((w.setCell ⟨b, 0, none⟩ v0).setCell ⟨b, 1, none⟩ v1).setCell ⟨b, 2, none⟩ v2).setCell ⟨b, 3, none⟩ v3).setCell ⟨b, 4, none⟩ v4).setCell ⟨b, 5, none⟩ v5).setCell ⟨b, 6, none⟩ v6).setCell ⟨b, 7, none⟩ v7).setCell ⟨b, 8, none⟩ v8).setCell ⟨b, 9, none⟩ v9) v l :=
  have b1 := hb.set 0 v0
  have b2 := b1.set 1 v1
  have b3 := b2.set 2 v2
  have b4 := b3.set 3 v3
  have b5 := b4.set 4 v4
  have b6 := b5.set 5 v5
  have b7 := b6.set 6 v6
  have b8 := b7.set 7 v7
  have b9 := b8.set 8 v8
  (((((((((h.setOther hb ne 0 v0).setOther b1 ne 1 v1).setOther b2 ne 2 v2).setOther b3 ne 3 v3).setOther b4 ne 4 v4).setOther b5 ne 5 v5).setOther b6 ne 6 v6).setOther b7 ne 7 v7).setOther b8 ne 8 v8).setOther b9 ne 9 v9
theorem Ext2.set {t m : Nat} {x y : World} (h : Ext2 t m x y) {b : Nat} (hb : x.heap.size ≤ b) (o : Nat) (v : Value) : Ext2 t m x (y.setCell ⟨b, o, none⟩ v) :=
  ⟨h.os, h.tape, h.output, by simpa [World.setCell] using h.size, fun k hk h1 h2 => (Below.heap_setCell _ _ _ _ (show k ≠ b by omega)).trans (h.block k hk h1 h2)⟩
theorem Ext2.set3 {t m : Nat} {x y : World} (h : Ext2 t m x y) {b : Nat} (hb : x.heap.size ≤ b) (v0 v1 v2 : Value) : Ext2 t m x (((y.setCell ⟨b, 0, none⟩ v0).setCell ⟨b, 1, none⟩ v1).setCell ⟨b, 2, none⟩ v2) := ((h.set hb _ _).set hb _ _).set hb _ _
theorem Ext2.set10 {t m : Nat} {x y : World} (h : Ext2 t m x y) {b : Nat} (hb : x.heap.size ≤ b) (v0 v1 v2 v3 v4 v5 v6 v7 v8 v9 : Value) :
    Ext2 t m x ((((((((((y.setCell ⟨b, 0, none⟩ v0).setCell ⟨b, 1, none⟩ v1).setCell ⟨b, 2, none⟩ v2).setCell ⟨b, 3, none⟩ v3).setCell ⟨b, 4, none⟩ v4).setCell ⟨b, 5, none⟩ v5).setCell ⟨b, 6, none⟩ v6).setCell ⟨b, 7, none⟩ v7).setCell ⟨b, 8, none⟩ v8).setCell ⟨b, 9, none⟩ v9) :=
  (((((((((h.set hb _ _).set hb _ _).set hb _ _).set hb _ _).set hb _ _).set hb _ _).set hb _ _).set hb _ _).set hb _ _).set hb _ _
theorem Ext2.then {t m : Nat} {x y z : World} (h : Ext2 t m x y) (k : Ext y z) : Ext2 t m x z := h.trans (k.to2 t m)
end Go.Proofs.Ytknlojlcahgnoaa
