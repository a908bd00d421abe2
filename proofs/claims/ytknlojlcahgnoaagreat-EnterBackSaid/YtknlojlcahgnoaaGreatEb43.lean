/- The table and the document's: what they hold is the same. Plain. Walk: tollerref14.Charge. Walks: tollerref14: Entries. What each kind of deed does to the table, and to the document's. Stores into blocks that a call of step has made. Walks: tollerref14.Entry of equal entries. What tollerlaw14.does asks of each deed: helps. Walks: enter.Leave, tollerref17.Leave, tollerref16.Same. -/
import Derived.Deep.AppendLies
import Derived.Deep.DeepCutAuto
import Derived.Deep.CutRange
import Derived.Deep.CutBlock
import Derived.Test.YtknlojlcahgnoaaGreatEb36
import Derived.Test.YtknlojlcahgnoaaGreatEb40
import Derived.Test.YtknlojlcahgnoaaGreatEb41
import Derived.Test.YtknlojlcahgnoaaGreatEb35
import Derived.Test.YtknlojlcahgnoaaGreatEb42
import Derived.Test.YtknlojlcahgnoaaGreatEb27

namespace Go.Proofs.YtknlojlcahgnoaaGreat
open Go.RowKit
set_option linter.unusedVariables false
set_option linter.unusedSimpArgs false

/-- sorted by key, each once -/
abbrev Rises (xs : List Slot) : Prop := xs.Pairwise fun x y => x.key.toList < y.key.toList
theorem Rises.key {xs : List Slot} (h : Rises xs) {x y : Slot} (hx : x ∈ xs) (hy : y ∈ xs) (e : x.key = y.key) : x = y := by
  induction xs with
  | nil => cases hx
  | cons z l ih =>
    obtain ⟨h1, h2⟩ := List.pairwise_cons.1 h
    rcases List.mem_cons.1 hx with e1 | hx2 <;> rcases List.mem_cons.1 hy with e2 | hy2
    · exact e1.trans e2.symm
    · have := h1 _ hy2; rw [← e1, e] at this; exact absurd this (List.lt_irrefl _)
    · have := h1 _ hx2; rw [← e2, e] at this; exact absurd this (List.lt_irrefl _)
    · exact ih h2 hx2 hy2
theorem Rises.nodup {xs : List Slot} (h : Rises xs) : xs.Nodup := h.imp fun q e => by rw [e] at q; exact List.lt_irrefl _ q
theorem Rises.filter {xs : List Slot} (h : Rises xs) (p : Slot → Bool) : Rises (xs.filter p) := List.Pairwise.filter p h
theorem rFind_of {xs : List Slot} (h : Rises xs) {s : Slot} {k : ByteArray} (hs : s ∈ xs) (hk : s.key = k) : rFind xs k = some s := by
  rcases rIdx_cases xs k with ⟨-, -, h3⟩ | ⟨m, hm, -, h2, h3, -⟩
  · exact absurd hk (h3 s hs)
  · rw [h2, h.key (List.getElem_mem hm) hs (h3.trans hk.symm)]
theorem key_gt {a b : ByteArray} (h : ¬ a.toList < b.toList) (ne : a ≠ b) : b.toList < a.toList := by
  apply Classical.byContradiction
  intro q
  exact ne (toList_inj (List.le_antisymm (List.not_lt.1 q) (List.not_lt.1 h)))
theorem insert_rises (s0 : Slot) : ∀ (x : List Slot), Rises x → (∀ y ∈ x, y.key ≠ s0.key) → Rises (x.takeWhile (fun y => keyLt y.key s0.key) ++ s0 :: x.dropWhile (fun y => keyLt y.key s0.key)) := by
  intro x
  induction x with
  | nil => intro _ _; exact List.pairwise_singleton _ _
  | cons y x ih =>
    intro h hne
    obtain ⟨h1, h2⟩ := List.pairwise_cons.1 h
    have ihx := ih h2 fun z hz => hne z (List.mem_cons_of_mem _ hz)
    by_cases hp : keyLt y.key s0.key = true
    · rw [List.takeWhile_cons_of_pos (p := fun y : Slot => keyLt y.key s0.key) hp, List.dropWhile_cons_of_pos (p := fun y : Slot => keyLt y.key s0.key) hp, List.cons_append]
      refine List.pairwise_cons.2 ⟨fun z hz => ?_, ihx⟩
      rcases List.mem_append.1 hz with hz | hz
      · exact h1 z ((List.takeWhile_sublist _).subset hz)
      · rcases List.mem_cons.1 hz with rfl | hz
        · unfold keyLt at hp; simpa using hp
        · exact h1 z ((List.dropWhile_sublist _).subset hz)
    · rw [List.takeWhile_cons_of_neg (p := fun y : Slot => keyLt y.key s0.key) hp, List.dropWhile_cons_of_neg (p := fun y : Slot => keyLt y.key s0.key) hp, List.nil_append]
      have hg : s0.key.toList < y.key.toList := key_gt (by unfold keyLt at hp; simpa using hp) (hne y List.mem_cons_self)
      refine List.pairwise_cons.2 ⟨fun z hz => ?_, h⟩
      rcases List.mem_cons.1 hz with rfl | hz
      · exact hg
      · exact List.lt_trans hg (h1 z hz)
theorem rWith_eq (l : List Slot) (s : Slot) : rWith l s = (rWithout l s.key).takeWhile (fun y => keyLt y.key s.key) ++ s :: (rWithout l s.key).dropWhile (fun y => keyLt y.key s.key) := by
  unfold rWith rAt
  generalize rWithout l s.key = x
  have h := List.takeWhile_append_dropWhile (p := fun y : Slot => keyLt y.key s.key) (l := x)
  generalize x.takeWhile (fun y => keyLt y.key s.key) = t at *
  generalize x.dropWhile (fun y => keyLt y.key s.key) = d at *
  subst h
  rw [List.take_left' rfl, List.drop_left' rfl]
theorem rWithout_mem {l : List Slot} {k : ByteArray} {s : Slot} : s ∈ rWithout l k ↔ s ∈ l ∧ s.key ≠ k := by
  unfold rWithout
  rw [List.mem_filter]
  simp
theorem rWith_mem {l : List Slot} {s0 s : Slot} : s ∈ rWith l s0 ↔ s = s0 ∨ (s.key ≠ s0.key ∧ s ∈ l) := by
  rw [rWith_eq, List.mem_append, List.mem_cons]
  have h : s ∈ rWithout l s0.key ↔ s ∈ (rWithout l s0.key).takeWhile (fun y => keyLt y.key s0.key) ∨ s ∈ (rWithout l s0.key).dropWhile (fun y => keyLt y.key s0.key) := by
    rw [← List.mem_append, List.takeWhile_append_dropWhile]
  rw [rWithout_mem] at h
  constructor
  · rintro (q | rfl | q)
    · exact Or.inr ⟨(h.2 (Or.inl q)).2, (h.2 (Or.inl q)).1⟩
    · exact Or.inl rfl
    · exact Or.inr ⟨(h.2 (Or.inr q)).2, (h.2 (Or.inr q)).1⟩
  · rintro (rfl | ⟨q1, q2⟩)
    · exact Or.inr (Or.inl rfl)
    · rcases h.1 ⟨q2, q1⟩ with q | q
      · exact Or.inl q
      · exact Or.inr (Or.inr q)
theorem rWith_rises {l : List Slot} (h : Rises l) (s0 : Slot) : Rises (rWith l s0) := by
  rw [rWith_eq]
  exact insert_rises s0 _ (h.filter _) fun y hy => (rWithout_mem.1 hy).2
theorem put_iff {l : SMap} {s0 s : Slot} {c : Nat} : (∃ n, (s, n) ∈ l.put s0 c) ↔ s = s0 ∨ (s.key ≠ s0.key ∧ ∃ n, (s, n) ∈ l) := by
  unfold SMap.put
  cases hl : l.look s0.key with
  | none =>
    rw [look_none] at hl
    simp only [Option.isSome_none, Bool.false_eq_true, if_false, List.mem_append, List.mem_singleton, Prod.mk.injEq]
    constructor
    · rintro ⟨n, h | ⟨rfl, -⟩⟩
      · exact Or.inr ⟨hl _ h, n, h⟩
      · exact Or.inl rfl
    · rintro (rfl | ⟨-, n, h⟩)
      · exact ⟨c, Or.inr ⟨rfl, rfl⟩⟩
      · exact ⟨n, Or.inl h⟩
  | some s1 =>
    obtain ⟨n1, h1⟩ := look_mem hl
    have hk1 := look_key hl
    simp only [Option.isSome_some, if_true]
    unfold SMap.rep
    constructor
    · rintro ⟨n, h⟩
      obtain ⟨x, hx, he⟩ := List.mem_map.1 h
      by_cases hq : x.1.key = s0.key
      · rw [if_pos hq] at he; cases he; exact Or.inl rfl
      · rw [if_neg hq] at he; subst he; exact Or.inr ⟨hq, n, hx⟩
    · rintro (rfl | ⟨hq, n, h⟩)
      · exact ⟨n1, List.mem_map.2 ⟨_, h1, by rw [if_pos hk1]⟩⟩
      · exact ⟨n, List.mem_map.2 ⟨_, h, by rw [if_neg hq]⟩⟩
theorem del_iff {l : SMap} {k : ByteArray} {s : Slot} : (∃ n, (s, n) ∈ l.del k) ↔ s.key ≠ k ∧ ∃ n, (s, n) ∈ l := by
  unfold SMap.del
  constructor
  · rintro ⟨n, h⟩
    rw [List.mem_filter] at h
    exact ⟨by simpa using h.2, n, h.1⟩
  · rintro ⟨h, n, q⟩
    exact ⟨n, List.mem_filter.2 ⟨q, by simpa using h⟩⟩

/-- what is active of both is the same -/
structure Rel (clock : Int) (l : SMap) (all : List Slot) : Prop where
  mem : ∀ s, 0 < s.fill clock → ((∃ n, (s, n) ∈ l) ↔ s ∈ all)
  up : Rises all
  ok : ∀ s ∈ all, SlotOk s
theorem Rel.nil (clock : Int) : Rel clock [] [] := ⟨fun s _ => ⟨fun ⟨n, h⟩ => (by cases h), fun h => (by cases h)⟩, List.Pairwise.nil, fun s h => (by cases h)⟩
theorem rSlots_iff {clock : Int} {all : List Slot} {s : Slot} : s ∈ rSlots clock all ↔ s ∈ all ∧ 0 < s.fill clock := by
  unfold rSlots
  rw [List.mem_filter]
  simp
theorem drained_iff {clock : Int} {s : Slot} (h : SlotOk s) (hn0 : 0 ≤ clock) (hn1 : clock < 18446744073709551616) : drained clock s = false ↔ 0 < s.fill clock := by
  have := fill_u h hn0 hn1
  unfold drained
  rw [beq_eq_false_iff_ne]
  omega
theorem actives_nodup {clock : Int} {l : SMap} (hk : l.keys.Nodup) : (actives clock l).Nodup := by
  unfold actives
  have h1 : ((l.filter fun x => !drained clock x.1).map (·.1.key)).Nodup := by
    have := List.Sublist.map (fun x : Slot × Nat => x.1.key) (List.filter_sublist (p := fun x => !drained clock x.1) (l := l))
    exact hk.sublist this
  have h2 : ((l.filter fun x => !drained clock x.1).map (·.1)).map (·.key) = (l.filter fun x => !drained clock x.1).map (·.1.key) := by rw [List.map_map]; rfl
  rw [← h2] at h1
  exact (List.pairwise_map.1 h1).imp (fun {a b : Slot} (q : a.key ≠ b.key) (e : a = b) => q (by rw [e]))
theorem Rel.slots {clock : Int} {l : SMap} {all : List Slot} {c : Nat} (h : Rel clock l all) (hok : TabOk l c) (hn0 : 0 ≤ clock) (hn1 : clock < 18446744073709551616) : slotsOf clock l = rSlots clock all := by
  refine (slotsOf_unique hok.keys ?_ ?_).symm
  · refine (List.perm_ext_iff_of_nodup ((h.up.filter _).nodup) (actives_nodup hok.keys)).2 fun s => ?_
    rw [actives_iff]
    constructor
    · intro q
      obtain ⟨q1, q2⟩ := rSlots_iff.1 q
      exact ⟨(h.mem s q2).2 q1, (drained_iff (h.ok s q1) hn0 hn1).2 q2⟩
    · rintro ⟨⟨n, q1⟩, q2⟩
      have q3 := (drained_iff (hok.ok _ q1) hn0 hn1).1 q2
      exact rSlots_iff.2 ⟨(h.mem s q3).1 ⟨n, q1⟩, q3⟩
  · exact (h.up.filter _).imp fun q => List.le_of_lt q
theorem kFill_mono {k a b now clock cap : Int} (ha : 0 ≤ a) (hb : 0 ≤ b) (hc : 0 ≤ cap) (hn : clock ≤ now) (hn0 : 0 ≤ clock) : kFill k a b now cap ≤ kFill k a b clock cap := by
  unfold kFill satSub satAdd
  split
  · split <;> split <;> omega
  split
  · repeat' split
    all_goals omega
  split
  · repeat' split
    all_goals omega
  · omega
theorem Rel.later {clock now : Int} {l : SMap} {all : List Slot} {c : Nat} (h : Rel clock l all) (hok : TabOk l c) (hn0 : 0 ≤ clock) (hn : clock ≤ now) : Rel now l all := by
  refine ⟨fun s q => ⟨fun ⟨n, q1⟩ => ?_, fun q1 => ?_⟩, h.up, h.ok⟩
  · have hs := hok.ok _ q1
    exact (h.mem s (Int.lt_of_lt_of_le q (kFill_mono hs.sa0 hs.sb0 (cap_u hs).1 hn hn0))).1 ⟨n, q1⟩
  · have hs := h.ok _ q1
    exact (h.mem s (Int.lt_of_lt_of_le q (kFill_mono hs.sa0 hs.sb0 (cap_u hs).1 hn hn0))).2 q1
theorem Rel.put {clock : Int} {l : SMap} {all : List Slot} {s0 : Slot} (h : Rel clock l all) (hs : SlotOk s0) (c : Nat) : Rel clock (l.put s0 c) (rWith all s0) := by
  refine ⟨fun s q => ?_, rWith_rises h.up s0, fun s q => ?_⟩
  · rw [put_iff, rWith_mem, h.mem s q]
  · rcases rWith_mem.1 q with rfl | ⟨-, q1⟩
    · exact hs
    · exact h.ok s q1

theorem Rel.hit {clock : Int} {l : SMap} {all : List Slot} {c : Nat} (h : Rel clock l all) (hok : TabOk l c) (hn0 : 0 ≤ clock) (hn1 : clock < 18446744073709551616) (k : ByteArray) (e b : Int) : slotHit l k e b clock = rHit (rSlots clock all) k e b := by
  refine Option.ext fun s => ⟨fun q => ?_, fun q => ?_⟩
  · obtain ⟨q1, q2, q3, q4⟩ := hit_look q
    obtain ⟨n, q5⟩ := look_mem q1
    have q6 := (drained_iff (hok.ok _ q5) hn0 hn1).1 q4
    have q7 : s ∈ rSlots clock all := rSlots_iff.2 ⟨(h.mem s q6).1 ⟨n, q5⟩, q6⟩
    unfold rHit
    rw [rFind_of (xs := rSlots clock all) (h.up.filter _) q7 (look_key q1), Option.filter_some, if_pos (by rw [q2, q3]; simp)]
  · obtain ⟨q1, q2, q3, q4⟩ := rHit_mem q
    obtain ⟨q5, q6⟩ := rSlots_iff.1 q1
    obtain ⟨n, q7⟩ := (h.mem s q6).2 q5
    have q8 := mem_look hok.keys q7
    rw [q2] at q8
    exact hit_of q8 q3 q4 ((drained_iff (hok.ok _ q7) hn0 hn1).2 q6)
theorem rLeft_iff {xs : List Slot} {k : ByteArray} {e b : Int} {s : Slot} : s ∈ rLeft xs k e b ↔ s ∈ xs ∧ ((rHit xs k e b).isSome = true ∨ s.key ≠ k) := by
  unfold rLeft
  cases ho : rOth xs k e b
  · simp only [Bool.false_eq_true, if_false]
    refine ⟨fun q => ⟨q, ?_⟩, fun q => q.1⟩
    unfold rOth at ho
    cases hh : (rHit xs k e b).isSome
    · rw [hh] at ho
      right
      intro hk
      rcases rIdx_cases xs k with ⟨-, -, h3⟩ | ⟨m, hm, -, h2, -⟩
      · exact h3 s q hk
      · rw [h2] at ho; simp at ho
    · exact Or.inl rfl
  · simp only [if_true]
    rw [rWithout_mem]
    unfold rOth at ho
    cases hh : (rHit xs k e b).isSome
    · exact ⟨fun q => ⟨q.1, Or.inr q.2⟩, fun q => ⟨q.1, by simpa using q.2⟩⟩
    · rw [hh] at ho; simp at ho
theorem Rel.left {clock : Int} {l : SMap} {all : List Slot} {c : Nat} (h : Rel clock l all) (hok : TabOk l c) (hn0 : 0 ≤ clock) (hn1 : clock < 18446744073709551616) (k : ByteArray) (e b : Int) : Rel clock (slotLeft l k e b clock) (rLeft (rSlots clock all) k e b) := by
  refine ⟨fun s q => ?_, ?_, fun s q => h.ok s (rSlots_iff.1 (rLeft_mem q)).1⟩
  · rw [rLeft_iff, rSlots_iff, ← h.hit hok hn0 hn1 k e b]
    unfold slotLeft
    cases hh : (slotHit l k e b clock).isSome
    · simp only [Bool.false_eq_true, if_false, false_or]
      rw [del_iff, h.mem s q]
      exact ⟨fun q1 => ⟨⟨q1.2, q⟩, q1.1⟩, fun q1 => ⟨q1.2, q1.1.1⟩⟩
    · simp only [if_true, true_or, and_true]
      rw [h.mem s q]
      exact ⟨fun q1 => ⟨q1, q⟩, fun q1 => q1.1⟩
  · unfold rLeft
    split
    · exact (h.up.filter _).filter _
    · exact h.up.filter _
theorem Rel.room {clock : Int} {l : SMap} {ys : List Slot} {c : Nat} (h : Rel clock l ys) (hok : TabOk l c) (hn0 : 0 ≤ clock) (hn1 : clock < 18446744073709551616) (is : Bool) (most : Int) : Rel clock (roomed clock l is most) ys := by
  refine ⟨fun s q => ?_, h.up, h.ok⟩
  rw [← h.mem s q]
  unfold roomed
  split
  · constructor
    · rintro ⟨n, q1⟩
      exact ⟨n, (List.mem_filter.1 q1).1⟩
    · rintro ⟨n, q1⟩
      exact ⟨n, List.mem_filter.2 ⟨q1, by rw [(drained_iff (hok.ok _ q1) hn0 hn1).2 q]; rfl⟩⟩
  · exact Iff.rfl
theorem rSlots_self {clock : Int} {ys : List Slot} (h : ∀ s ∈ ys, 0 < s.fill clock) : rSlots clock ys = ys := by
  unfold rSlots
  exact List.filter_eq_self.2 fun s hs => by simpa using h s hs
theorem Rel.isFull {clock most : Int} {l : SMap} {all : List Slot} {c : Nat} (h : Rel clock l all) (hok : TabOk l c) (hn0 : 0 ≤ clock) (hn1 : clock < 18446744073709551616) (k : ByteArray) (e b : Int) : chFull most clock l k e b = rFull most (rSlots clock all) k e b := by
  have hl := h.left hok hn0 hn1 k e b
  have hokl : TabOk (slotLeft l k e b clock) c := by unfold slotLeft; split <;> first | exact hok | exact hok.del k
  have hs := hl.slots hokl hn0 hn1
  rw [rSlots_self fun s q => (rSlots_iff.1 (rLeft_mem q)).2] at hs
  have hlen := congrArg List.length hs
  have hle := actives_len clock (slotLeft l k e b clock)
  rw [slotsOf_len] at hlen
  have hfl := filter_len clock (slotLeft l k e b clock)
  rw [slotsOf_len] at hfl
  unfold chFull full rFull
  rw [h.hit hok hn0 hn1 k e b]
  cases hh : (rHit (rSlots clock all) k e b).isSome
  · simp only [Bool.not_false, Bool.true_and, decide_eq_decide]
    unfold roomed
    by_cases hm : most ≤ ((slotLeft l k e b clock).length : Int)
    · rw [if_pos ⟨rfl, hm⟩, hfl, hlen]
    · rw [if_neg (fun q => hm q.2)]
      omega
  · rfl
theorem Rel.charge {clock most : Int} {l : SMap} {all : List Slot} {c : Nat} (h : Rel clock l all) (hok : TabOk l c) (hn0 : 0 ≤ clock) (hn1 : clock < 18446744073709551616) (k p : ByteArray) (e b rk n : Int)
    (hok' : TabOk (chargeL most clock l c k p e b rk n) (chargeC most clock l c k p e b rk n)) :
    chargeV most clock l k e b rk n = rChgV most clock (rSlots clock all) k e b rk n ∧ Rel clock (chargeL most clock l c k p e b rk n) (rChgL most clock (rSlots clock all) k p e b rk n) := by
  have hl := h.left hok hn0 hn1 k e b
  have hokl : TabOk (slotLeft l k e b clock) c := by unfold slotLeft; split <;> first | exact hok | exact hok.del k
  have hr := hl.room hokl hn0 hn1 (slotHit l k e b clock).isSome most
  have hf := h.isFull (most := most) hok hn0 hn1 k e b
  have hh := h.hit hok hn0 hn1 k e b
  unfold chargeV chargeL rChgV rChgL
  unfold chargeL chargeC at hok'
  rw [← hf, ← hh]
  by_cases hq : chFull most clock l k e b = true
  · simp only [if_pos hq]
    exact ⟨trivial, hr⟩
  · simp only [if_neg hq] at hok' ⊢
    refine ⟨trivial, ?_⟩
    unfold chL chC at hok'
    unfold chL
    cases ho : chgOk clock (slotHit l k e b clock) e b rk n
    · simp only [Bool.false_eq_true, if_false]
      exact hr
    · rw [ho] at hok'
      simp only [if_true] at hok' ⊢
      obtain ⟨n1, h1⟩ := (put_iff (l := chRoom most clock l k e b) (s0 := chgS clock (slotHit l k e b clock) k p e b rk n) (c := c)).2 (Or.inl rfl)
      exact hr.put (hok'.ok _ h1) c
end Go.Proofs.YtknlojlcahgnoaaGreat

namespace Go.Proofs.YtknlojlcahgnoaaGreat
open Go.RowKit
set_option linter.unusedVariables false
set_option linter.unusedSimpArgs false

/-- where Charge keeps what it holds -/
structure RcAt (w W : World) (most clock : Int) (v : Value) (ys : List Slot) (p : ByteArray) (e b rk : Int) : Prop where
  tab : Blk W w.heap.size #[.int .i64 most, .int .u64 clock, v] 120
  rule : Blk W (w.heap.size + 1) #[.string p, .int .u64 e, .int .u64 b, .int .u8 rk] 37
  res : Blk W (w.heap.size + 1 + 1) #[.int .i64 0, .int .u64 0, .slice none 0 0] 120
  ans : Blk W (w.heap.size + 1 + 1 + 1) #[.int .u8 0, .int .u16 0, .int .u64 0, .int .u64 0, .int .u64 0, .int .u64 0, .int .u64 0, .bool false, .int .i64 0, .slice none 0 0] 66
  row : SlotRow (w.heap.size + 4) W v ys
  ext : Ext w W
theorem RcAt.up {w W W' : World} {most clock : Int} {v : Value} {ys : List Slot} {p : ByteArray} {e b rk : Int} (h : RcAt w W most clock v ys p e b rk) (x : Ext W W') : RcAt w W' most clock v ys p e b rk :=
  ⟨h.tab.ext x, h.rule.ext x, h.res.ext x, h.ans.ext x, h.row.ext x, h.ext.trans x⟩
theorem RcAt.put {w W : World} {most clock : Int} {v : Value} {ys : List Slot} {p : ByteArray} {e b rk : Int} (h : RcAt w W most clock v ys p e b rk) {base : Nat} {v' : Value} {ys' : List Slot} (hr : SlotRow base W v' ys') (hb : w.heap.size + 4 ≤ base) : RcAt w (W.setCell ⟨w.heap.size, 2, none⟩ v') most clock v' ys' p e b rk :=
  ⟨h.tab.set 2 v', h.rule.other (by dsimp only; omega) _, h.res.other (by dsimp only; omega) _, h.ans.other (by dsimp only; omega) _, (hr.set1 (by omega) _ _).low hb, h.ext.set (Nat.le_refl _) _ _⟩
/-- a store into a block that the call has made -/
theorem RcAt.other {w W : World} {most clock : Int} {v : Value} {ys : List Slot} {p : ByteArray} {e b rk : Int} (h : RcAt w W most clock v ys p e b rk) {g o : Nat} (hg : w.heap.size + 3 < g) (hrow : ∀ i c, v = .slice (some ⟨i, 0, none⟩) ys.length c → i ≠ g) (x : Value) : RcAt w (W.setCell ⟨g, o, none⟩ x) most clock v ys p e b rk := by
  refine ⟨h.tab.other (by dsimp only; omega) _, h.rule.other (by dsimp only; omega) _, h.res.other (by dsimp only; omega) _, h.ans.other (by dsimp only; omega) _, ?_, h.ext.set (by omega) _ _⟩
  refine ⟨⟨h.row.own.1, ?_⟩, h.row.nil⟩
  rcases h.row.own.2 with q | ⟨i, cap, cur, h1, h2, h3, h4⟩
  · exact Or.inl q
  · exact Or.inr ⟨i, cap, cur, h1, h2, (Blk.other (b := i) (t := 145) h3 (a := ⟨g, o, none⟩) (hrow i cap h1) x), h4⟩

theorem Ext.set10 {x y : World} (h : Ext x y) {b : Nat} (hb : x.heap.size ≤ b) (v0 v1 v2 v3 v4 v5 v6 v7 v8 v9 : Value) :
    Ext x ((((((((((y.setCell ⟨b, 0, none⟩ v0).setCell ⟨b, 1, none⟩ v1).setCell ⟨b, 2, none⟩ v2).setCell ⟨b, 3, none⟩ v3).setCell ⟨b, 4, none⟩ v4).setCell ⟨b, 5, none⟩ v5).setCell ⟨b, 6, none⟩ v6).setCell ⟨b, 7, none⟩ v7).setCell ⟨b, 8, none⟩ v8).setCell ⟨b, 9, none⟩ v9) :=
  (((((((((h.set hb _ _).set hb _ _).set hb _ _).set hb _ _).set hb _ _).set hb _ _).set hb _ _).set hb _ _).set hb _ _).set hb _ _
/-- both results are stored -/
theorem RcAt.done {w W : World} {most clock : Int} {v : Value} {ys : List Slot} {p : ByteArray} {e b rk : Int} (h : RcAt w W most clock v ys p e b rk) (v0 v1 v2 v3 v4 v5 v6 v7 v8 v9 : Value) : ∀ W', W' = (((((((((((((W.setCell ⟨w.heap.size + 1 + 1, 0, none⟩ (.int .i64 most)).setCell ⟨w.heap.size + 1 + 1, 1, none⟩ (.int .u64 clock)).setCell ⟨w.heap.size + 1 + 1, 2, none⟩ v).setCell ⟨w.heap.size + 1 + 1 + 1, 0, none⟩ v0).setCell ⟨w.heap.size + 1 + 1 + 1, 1, none⟩ v1).setCell ⟨w.heap.size + 1 + 1 + 1, 2, none⟩ v2).setCell ⟨w.heap.size + 1 + 1 + 1, 3, none⟩ v3).setCell ⟨w.heap.size + 1 + 1 + 1, 4, none⟩ v4).setCell ⟨w.heap.size + 1 + 1 + 1, 5, none⟩ v5).setCell ⟨w.heap.size + 1 + 1 + 1, 6, none⟩ v6).setCell ⟨w.heap.size + 1 + 1 + 1, 7, none⟩ v7).setCell ⟨w.heap.size + 1 + 1 + 1, 8, none⟩ v8).setCell ⟨w.heap.size + 1 + 1 + 1, 9, none⟩ v9) →
    Blk W' (w.heap.size + 1 + 1) #[.int .i64 most, .int .u64 clock, v] 120 ∧ Blk W' (w.heap.size + 1 + 1 + 1) #[v0, v1, v2, v3, v4, v5, v6, v7, v8, v9] 66 ∧ SlotRow w.heap.size W' v ys ∧ Ext w W' := by
  intro W' hW
  subst hW
  have r8 := Blk.set3 h.res (.int .i64 most) (.int .u64 clock) v
  have r9 := h.ans.oth3 (b := w.heap.size + 1 + 1) (by omega) (.int .i64 most) (.int .u64 clock) v
  refine ⟨r8.oth10 (by omega) _ _ _ _ _ _ _ _ _ _, Blk.set10 r9 _ _ _ _ _ _ _ _ _ _, ?_, (h.ext.set3 (b := w.heap.size + 1 + 1) (by omega) _ _ _).set10 (b := w.heap.size + 1 + 1 + 1) (by omega) _ _ _ _ _ _ _ _ _ _⟩
  have q := ((h.row.set1 (b := w.heap.size + 1 + 1) (by omega) 0 (.int .i64 most)).set1 (b := w.heap.size + 1 + 1) (by omega) 1 (.int .u64 clock)).set1 (b := w.heap.size + 1 + 1) (by omega) 2 v
  exact ((((((((((q.set1 (b := w.heap.size + 1 + 1 + 1) (by omega) _ _).set1 (b := w.heap.size + 1 + 1 + 1) (by omega) _ _).set1 (b := w.heap.size + 1 + 1 + 1) (by omega) _ _).set1 (b := w.heap.size + 1 + 1 + 1) (by omega) _ _).set1 (b := w.heap.size + 1 + 1 + 1) (by omega) _ _).set1 (b := w.heap.size + 1 + 1 + 1) (by omega) _ _).set1 (b := w.heap.size + 1 + 1 + 1) (by omega) _ _).set1 (b := w.heap.size + 1 + 1 + 1) (by omega) _ _).set1 (b := w.heap.size + 1 + 1 + 1) (by omega) _ _).set1 (b := w.heap.size + 1 + 1 + 1) (by omega) _ _).low (by omega)

end Go.Proofs.YtknlojlcahgnoaaGreat

namespace Go.Proofs.YtknlojlcahgnoaaGreat
open Go.RowKit
set_option linter.unusedVariables false
set_option linter.unusedSimpArgs false

/-- a slice of entries, in memory of its own -/
abbrev EntRow (base : Nat) (w : World) (v : Value) (l : List Ent) : Prop := RowOf Ent.cells 2 80 base w v l
end Go.Proofs.YtknlojlcahgnoaaGreat

namespace Go.Proofs.YtknlojlcahgnoaaGreat
open Go.RowKit
set_option linter.unusedVariables false
set_option linter.unusedSimpArgs false

/-- all is as it was but for two blocks, and new ones -/
structure Ext2 (t m : Nat) (w w' : World) : Prop where
  os : w'.os = w.os
  tape : w'.tape = w.tape
  output : w'.output = w.output
  size : w.heap.size ≤ w'.heap.size
  block : ∀ k, k < w.heap.size → k ≠ t → k ≠ m → w'.heap[k]? = w.heap[k]?
theorem Ext2.refl (t m : Nat) (w : World) : Ext2 t m w w := ⟨rfl, rfl, rfl, Nat.le_refl _, fun _ _ _ _ => rfl⟩
theorem Ext2.trans {t m : Nat} {x y z : World} (h : Ext2 t m x y) (k : Ext2 t m y z) : Ext2 t m x z :=
  ⟨k.os.trans h.os, k.tape.trans h.tape, k.output.trans h.output, Nat.le_trans h.size k.size, fun i hi h1 h2 => (k.block i (Nat.lt_of_lt_of_le hi h.size) h1 h2).trans (h.block i hi h1 h2)⟩
theorem ExtB.to2t {t : Nat} {x y : World} (h : ExtB t x y) (m : Nat) : Ext2 t m x y := ⟨h.os, h.tape, h.output, h.size, fun k hk h1 _ => h.block k hk h1⟩
theorem ExtB.to2m {m : Nat} {x y : World} (h : ExtB m x y) (t : Nat) : Ext2 t m x y := ⟨h.os, h.tape, h.output, h.size, fun k hk _ h1 => h.block k hk h1⟩
theorem Ext.to2 {x y : World} (h : Ext x y) (t m : Nat) : Ext2 t m x y := (h.toB t).to2t m
theorem Blk.ext2 {t m b : Nat} {x y : World} {C : Array Value} {ty : TypeId} (h : Blk x b C ty) (e : Ext2 t m x y) (n1 : b ≠ t) (n2 : b ≠ m) : Blk y b C ty := (e.block b h.lt n1 n2).trans h
theorem RowOf.ext2 {α : Type} {enc : α → Array Value} {k : Nat} {E : TypeId} {base t m : Nat} {w w' : World} {v : Value} {l : List α} (h : RowOf enc k E base w v l) (e : Ext2 t m w w') (h1 : t < base) (h2 : m < base) : RowOf enc k E base w' v l := by
  obtain ⟨⟨h0, h3⟩, hn⟩ := h
  refine ⟨⟨h0, ?_⟩, hn⟩
  rcases h3 with h3 | ⟨g, cap, cur, q1, q2, q3, q4⟩
  · exact Or.inl h3
  · exact Or.inr ⟨g, cap, cur, q1, q2, (e.block g (lt_of_block q3) (by omega) (by omega)).trans q3, q4⟩
theorem Ext.own2 {t m : Nat} {x y z : World} (h : Ext x y) (e : Ext2 t m y z) (h1 : x.heap.size ≤ t) (h2 : x.heap.size ≤ m) : Ext x z :=
  ⟨e.os.trans (Below.os h), e.tape.trans (Below.tape h), e.output.trans (Below.output h), Nat.le_trans h.sz e.size, fun k hk => (e.block k (Nat.lt_of_lt_of_le hk h.sz) (by omega) (by omega)).trans (Below.block h k hk)⟩

/-- both tables -/
structure RelAt (B : Nat) (w : World) (t m c : Nat) (most clock : Int) (l : SMap) (v : Value) (all : List Slot) (n : Nat) : Prop where
  tab : TabAt w t m most clock l c
  ok : TabOk l c
  row : SlotRow B w v all
  rel : Rel clock l all
  lenA : all.length ≤ n
  lenL : l.length ≤ n
  bt : t < B
  bm : m < B
  n0 : 0 ≤ clock
  n1 : clock < 18446744073709551616
theorem RelAt.up {B : Nat} {w w' : World} {t m c : Nat} {most clock : Int} {l : SMap} {v : Value} {all : List Slot} {n : Nat} (h : RelAt B w t m c most clock l v all n) (e : Ext w w') : RelAt B w' t m c most clock l v all n :=
  ⟨h.tab.ext e, h.ok, h.row.ext e, h.rel, h.lenA, h.lenL, h.bt, h.bm, h.n0, h.n1⟩

end Go.Proofs.YtknlojlcahgnoaaGreat

namespace Go.Proofs.YtknlojlcahgnoaaGreat
open Go.RowKit
set_option linter.unusedVariables false
set_option linter.unusedSimpArgs false

theorem TabAt.set {w : World} {t m c b : Nat} {most clock : Int} {l : SMap} (h : TabAt w t m most clock l c) (n1 : t ≠ b) (n2 : m ≠ b) (o : Nat) (x : Value) : TabAt (w.setCell ⟨b, o, none⟩ x) t m most clock l c := ⟨h.blk.other n1 x, h.map.other n2 x⟩
theorem RowOf.setOther {α : Type} {enc : α → Array Value} {k : Nat} {E t' : TypeId} {base b : Nat} {w : World} {v : Value} {l : List α} {C : Array Value} (h : RowOf enc k E base w v l) (hb : Blk w b C t') (ne : E ≠ t') (o : Nat) (x : Value) : RowOf enc k E base (w.setCell ⟨b, o, none⟩ x) v l := by
  obtain ⟨⟨h0, h3⟩, hn⟩ := h
  refine ⟨⟨h0, ?_⟩, hn⟩
  rcases h3 with h3 | ⟨g, cap, cur, q1, q2, q3, q4⟩
  · exact Or.inl h3
  · have hne : g ≠ b := by
      intro e
      subst e
      have : (some (Obj.cells cur E (0, 0)) : Option Obj) = some (.cells C t') := q3.symm.trans hb
      simp at this
      exact ne this.2
    exact Or.inr ⟨g, cap, cur, q1, q2, Blk.other (t := E) q3 (a := ⟨b, o, none⟩) hne x, q4⟩
theorem RelAt.set {B : Nat} {w : World} {t m c b : Nat} {most clock : Int} {l : SMap} {v : Value} {all : List Slot} {n : Nat} {C : Array Value} {t' : TypeId} (h : RelAt B w t m c most clock l v all n) (hB : B ≤ b) (hb : Blk w b C t') (ne : 145 ≠ t') (o : Nat) (x : Value) : RelAt B (w.setCell ⟨b, o, none⟩ x) t m c most clock l v all n :=
  ⟨h.tab.set (by have := h.bt; omega) (by have := h.bm; omega) o x, h.ok, h.row.setOther hb ne o x, h.rel, h.lenA, h.lenL, h.bt, h.bm, h.n0, h.n1⟩
theorem RelAt.set3 {B : Nat} {w : World} {t m c b : Nat} {most clock : Int} {l : SMap} {v : Value} {all : List Slot} {n : Nat} {C : Array Value} {t' : TypeId} (h : RelAt B w t m c most clock l v all n) (hB : B ≤ b) (hb : Blk w b C t') (ne : 145 ≠ t') (v0 v1 v2 : Value) :
    RelAt B (((w.setCell ⟨b, 0, none⟩ v0).setCell ⟨b, 1, none⟩ v1).setCell ⟨b, 2, none⟩ v2) t m c most clock l v all n :=
  ((h.set hB hb ne 0 v0).set hB (hb.set 0 v0) ne 1 v1).set hB ((hb.set 0 v0).set 1 v1) ne 2 v2
theorem RelAt.set10 {B : Nat} {w : World} {t m c b : Nat} {most clock : Int} {l : SMap} {v : Value} {all : List Slot} {n : Nat} {C : Array Value} {t' : TypeId} (h : RelAt B w t m c most clock l v all n) (hB : B ≤ b) (hb : Blk w b C t') (ne : 145 ≠ t') (v0 v1 v2 v3 v4 v5 v6 v7 v8 v9 : Value) :
    RelAt B ((((((((((w.setCell ⟨b, 0, none⟩ v0).setCell ⟨b, 1, none⟩ v1).setCell ⟨b, 2, none⟩ v2).setCell ⟨b, 3, none⟩ v3).setCell ⟨b, 4, none⟩ v4).setCell ⟨b, 5, none⟩ v5).setCell ⟨b, 6, none⟩ v6).setCell ⟨b, 7, none⟩ v7).setCell ⟨b, 8, none⟩ v8).setCell ⟨b, 9, none⟩ v9) t m c most clock l v all n :=
  have b1 := hb.set 0 v0
  have b2 := b1.set 1 v1
  have b3 := b2.set 2 v2
  have b4 := b3.set 3 v3
  have b5 := b4.set 4 v4
  have b6 := b5.set 5 v5
  have b7 := b6.set 6 v6
  have b8 := b7.set 7 v7
  have b9 := b8.set 8 v8
  (((((((((h.set hB hb ne 0 v0).set hB b1 ne 1 v1).set hB b2 ne 2 v2).set hB b3 ne 3 v3).set hB b4 ne 4 v4).set hB b5 ne 5 v5).set hB b6 ne 6 v6).set hB b7 ne 7 v7).set hB b8 ne 8 v8).set hB b9 ne 9 v9
theorem RelAt.swap {B : Nat} {w w' : World} {t m c : Nat} {most clock : Int} {l : SMap} {v : Value} {all : List Slot} {n : Nat} (h : RelAt B w t m c most clock l v all n) (e : Ext2 t m w w') (ht : TabAt w' t m most clock l c) : RelAt B w' t m c most clock l v all n :=
  ⟨ht, h.ok, h.row.ext2 e h.bt h.bm, h.rel, h.lenA, h.lenL, h.bt, h.bm, h.n0, h.n1⟩
theorem Ext2.set {t m : Nat} {x y : World} (h : Ext2 t m x y) {b : Nat} (hb : x.heap.size ≤ b) (o : Nat) (v : Value) : Ext2 t m x (y.setCell ⟨b, o, none⟩ v) :=
  ⟨h.os, h.tape, h.output, by simpa [World.setCell] using h.size, fun k hk h1 h2 => (Below.heap_setCell _ _ _ _ (show k ≠ b by omega)).trans (h.block k hk h1 h2)⟩
theorem Ext2.set3 {t m : Nat} {x y : World} (h : Ext2 t m x y) {b : Nat} (hb : x.heap.size ≤ b) (v0 v1 v2 : Value) : Ext2 t m x (((y.setCell ⟨b, 0, none⟩ v0).setCell ⟨b, 1, none⟩ v1).setCell ⟨b, 2, none⟩ v2) := ((h.set hb _ _).set hb _ _).set hb _ _
theorem Ext2.set10 {t m : Nat} {x y : World} (h : Ext2 t m x y) {b : Nat} (hb : x.heap.size ≤ b) (v0 v1 v2 v3 v4 v5 v6 v7 v8 v9 : Value) :
    Ext2 t m x ((((((((((y.setCell ⟨b, 0, none⟩ v0).setCell ⟨b, 1, none⟩ v1).setCell ⟨b, 2, none⟩ v2).setCell ⟨b, 3, none⟩ v3).setCell ⟨b, 4, none⟩ v4).setCell ⟨b, 5, none⟩ v5).setCell ⟨b, 6, none⟩ v6).setCell ⟨b, 7, none⟩ v7).setCell ⟨b, 8, none⟩ v8).setCell ⟨b, 9, none⟩ v9) :=
  (((((((((h.set hb _ _).set hb _ _).set hb _ _).set hb _ _).set hb _ _).set hb _ _).set hb _ _).set hb _ _).set hb _ _).set hb _ _
theorem Ext2.then {t m : Nat} {x y z : World} (h : Ext2 t m x y) (k : Ext y z) : Ext2 t m x z := h.trans (k.to2 t m)
end Go.Proofs.YtknlojlcahgnoaaGreat

namespace Go.Proofs.YtknlojlcahgnoaaGreat
open Go.RowKit
set_option linter.unusedVariables false
set_option linter.unusedSimpArgs false

set_option maxHeartbeats 1000000 in
set_option maxRecDepth 100000 in
theorem ref14_Entry_yes (b1 b2 : Nat) (v1 v2 : Value) (l : List Ent) (w : World) (h1 : EntSlice b1 w v1 l) (h2 : EntSlice b2 w v2 l) :
    Calls Tryz.prog 31 #[v1, v2] w fun x w' => x = .returned (.bool true) ∧ Ext w w' := by
  obtain ⟨a1, c1, rfl⟩ := h1.size
  obtain ⟨a2, c2, rfl⟩ := h2.size
  have hlen := h1.len
  unfold maxLen at hlen
  have H1 := Lib.hid h1
  have H2 := Lib.hid h2
  clear h1 h2
  have hll : ((l.length : Int) == (l.length : Int)) = true := by simp
  go_enter Tryz.func31, Tryz.ntmps31
  go_wp2
  go_loopw [5] (fun i wr => ∃ k : Nat, k ≤ l.length ∧ i = .int .i64 k ∧ Ext w wr) (fun i _ => l.length - (intOf i).toNat)
  case atStart => exact ⟨0, by omega, rfl, Ext.refl _⟩
  case round =>
    obtain ⟨k, hk, rfl, hx⟩ := hrel
    by_cases hlt : k < l.length
    · obtain ⟨g1, cc1, e1, -, -, q1⟩ := (H1.out.ext hx).cells ent_size k hlt
      obtain ⟨g2, cc2, e2, -, -, q2⟩ := (H2.out.ext hx).cells ent_size k hlt
      cases e1
      cases e2
      have a10 : wr.cell? ⟨g1, k * 2, none⟩ = some (.string l[k].key) := q1 0 (by omega)
      have a11 : wr.cell? ⟨g1, k * 2 + 1, none⟩ = some (.int .u64 l[k].till) := q1 1 (by omega)
      have a20 : wr.cell? ⟨g2, k * 2, none⟩ = some (.string l[k].key) := q2 0 (by omega)
      have a21 : wr.cell? ⟨g2, k * 2 + 1, none⟩ = some (.int .u64 l[k].till) := q2 1 (by omega)
      generalize l[k] = e at *
      obtain ⟨ek, et⟩ := e
      clear q1 q2
      simp only at a10 a11 a20 a21
      go_upto_region 6 with fail
      go_quiet (fail)
      go_wp2
      go_roundw
      case rel => exact ⟨k + 1, by omega, by go_num, hx.trans (Ext.drewNs _ _)⟩
      case measure => simp [intOf]; omega
    · go_wp2
      go_ret
      exact ⟨rfl, hx⟩
end Go.Proofs.YtknlojlcahgnoaaGreat

namespace Go.Proofs.YtknlojlcahgnoaaGreat
open Go.RowKit
set_option linter.unusedVariables false
set_option linter.unusedSimpArgs false

theorem ExtB.same {b : Nat} {w w' : World} (h : ExtB b w w') (e : w'.heap[b]? = w.heap[b]?) : Ext w w' :=
  ⟨h.os, h.tape, h.output, h.size, fun k hk => by
    by_cases hb : k = b
    · subst hb; exact e
    · exact h.block k hk hb⟩
theorem Ext2.keep {t m : Nat} {w w' : World} (h : Ext2 t m w w') {a : Addr} {v : Value} (c : w.cell? a = some v) (n1 : a.block ≠ t) (n2 : a.block ≠ m) : w'.cell? a = some v := by
  have hlt : a.block < w.heap.size := by
    unfold World.cell? at c
    rcases Nat.lt_or_ge a.block w.heap.size with h | h
    · exact h
    · rw [Array.getElem?_eq_none h] at c; cases c
  unfold World.cell? at c ⊢
  rw [h.block _ hlt n1 n2]
  exact c
theorem Ext2.alloc {t m : Nat} {x y : World} (h : Ext2 t m x y) (o : Obj) : Ext2 t m x (y.alloc o) := h.then ((Ext.refl y).alloc o)
theorem Ext2.drew {t m : Nat} {x y : World} (h : Ext2 t m x y) : Ext2 t m x y.drew := h.then ((Ext.refl y).drew)
theorem table_ClockX (t mb c : Nat) (most clock : Int) (l : SMap) (w : World) (h : TabAt w t mb most clock l c) (hn0 : 0 ≤ clock) (hn1 : clock < 18446744073709551616) :
    Calls Tryz.prog 33 #[.pointer (some ⟨t, 0, none⟩)] w fun x w' => x = .returned (.int .u64 clock) ∧ Ext w w' :=
  (table_Clock t mb c most clock l w h hn0 hn1).mono fun x w' ⟨hx, ht, he⟩ => ⟨hx, he.same ((show w'.heap[t]? = _ from ht.blk).trans (show w.heap[t]? = _ from h.blk).symm)⟩
theorem SlotSlice.at {base : Nat} {w : World} {v : Value} {l : List Slot} (h : SlotSlice base w v l) : SlotsAt w v l := by
  obtain ⟨a, c, hv, hl⟩ := h.form
  refine ⟨a, c, hv, fun hne => ?_⟩
  obtain ⟨b, ha, -, hc, -⟩ := hl hne
  exact ⟨b, 0, ha, fun j hj i hi => by rw [Nat.zero_add]; exact hc j hj i hi⟩

end Go.Proofs.YtknlojlcahgnoaaGreat

namespace Go.Proofs.YtknlojlcahgnoaaGreat
open Go.RowKit
set_option linter.unusedVariables false
set_option linter.unusedSimpArgs false

set_option maxHeartbeats 1000000 in
set_option maxRecDepth 100000 in
theorem enter_Leave (t mb c : Nat) (most clock : Int) (l : SMap) (w : World) (ht : TabAt w t mb most clock l c) (hok : TabOk l c) (hn0 : 0 ≤ clock) (hn1 : clock < 18446744073709551616) (hlen : l.length ≤ 1000000) :
    Calls Tryz.prog 28 #[.pointer (some ⟨t, 0, none⟩)] w fun x w' => ∃ v, x = .returned (.agg #[.int .u64 clock, v]) ∧ EntSlice w.heap.size w' v (entsOf clock l) ∧ Ext w w' := by
  have hx0 : Ext w (w.alloc (.cells #[.int .u64 0, .slice none 0 0] 52)) := (Ext.refl w).alloc _
  have bq := Blk.new w #[.int .u64 0, .slice none 0 0] 52
  have HT := Lib.hid (ht.ext hx0)
  have HOK := Lib.hid hok
  clear ht hok
  go_enter Tryz.func28, Tryz.ntmps28
  go_wp2_with fail
  generalize w.alloc (.cells #[.int .u64 0, .slice none 0 0] 52) = w0 at *
  refine (table_ClockX t mb c most clock l _ HT.out hn0 hn1).mono ?_
  rintro x w1 ⟨rfl, hx1⟩
  go_wp2_with fail
  refine (table_Entries t mb c most clock l _ (HT.out.ext hx1) HOK.out hn0 hn1 hlen).mono ?_
  rintro x w2 ⟨v, rfl, hs, hx2⟩
  obtain ⟨a, cp, rfl⟩ := hs.size
  have hx02 := hx1.trans hx2
  have bz := bq.ext hx02
  have hzc := bz.cell
  have hzf := bz.free
  have hzl := bz.lt
  have HS := Lib.hid (hs.low (b := w.heap.size) (Nat.le_trans hx0.sz hx1.sz))
  have HX := Lib.hid (hx0.trans hx02)
  clear hs hx1 hx2
  go_wp2
  refine ret_cell Tryz.results28 rfl ((bz.set 0 (.int .u64 clock)).set 1 (.slice a (entsOf clock l).length cp)) Tryz.underlying52 rfl (by kernel_rfl) ?_
  exact ⟨_, rfl, (HS.out.setOther bz (by decide) 0 _).setOther (bz.set 0 _) (by decide) 1 _, (HX.out.setCell (Nat.le_refl _) _).setCell (Nat.le_refl _) _⟩

end Go.Proofs.YtknlojlcahgnoaaGreat
