/- Plain: stable sorting: what is sorted, and what keeps the order of those that are alike. No program in sight. Plain: stable sorting: parts of an array; two halves merged; blocks. No program in sight. -/
import Derived.Sort.LotA

namespace Go.Proofs.YtknlojlcahgnoaaGreat
open Go.Sort
set_option linter.unusedVariables false
set_option linter.unusedSimpArgs false

section
variable {α : Type} (key : α → List UInt8)
/-- in order -/
def UpL (l : List α) : Prop := l.Pairwise fun x y => ¬ key y < key x
/-- the same, and those that are alike in the same order -/
def SameL (l l' : List α) : Prop := ∀ k, l.filter (fun x => decide (key x = k)) = l'.filter (fun x => decide (key x = k))
variable {key} {l l' l'' a a' b b' : List α}
theorem SameL.refl (l : List α) : SameL key l l := fun _ => rfl
theorem SameL.symm (h : SameL key l l') : SameL key l' l := fun k => (h k).symm
theorem SameL.trans (h : SameL key l l') (g : SameL key l' l'') : SameL key l l'' := fun k => (h k).trans (g k)
theorem SameL.app (h1 : SameL key a a') (h2 : SameL key b b') : SameL key (a ++ b) (a' ++ b') := fun k => by
  rw [List.filter_append, List.filter_append, h1 k, h2 k]
theorem SameL.mem (h : SameL key l l') {x : α} : x ∈ l ↔ x ∈ l' := by
  have e : x ∈ l.filter (fun y => decide (key y = key x)) ↔ x ∈ l'.filter (fun y => decide (key y = key x)) := by rw [h (key x)]
  simpa using e
theorem SameL.swap {A B : List α} (h : ∀ x ∈ A, ∀ y ∈ B, key x ≠ key y) : SameL key (A ++ B) (B ++ A) := by
  intro k
  rw [List.filter_append, List.filter_append]
  by_cases hA : A.filter (fun x => decide (key x = k)) = []
  · rw [hA]; simp
  · have hB : B.filter (fun x => decide (key x = k)) = [] := by
      refine List.filter_eq_nil_iff.2 fun y hy e => ?_
      obtain ⟨x, hx⟩ := List.exists_mem_of_ne_nil _ hA
      rw [List.mem_filter] at hx
      have h1 : key x = k := by simpa using hx.2
      have h2 : key y = k := by simpa using e
      exact h x hx.1 y hy (h1.trans h2.symm)
    rw [hB]; simp
theorem UpL.app : UpL key (a ++ b) ↔ UpL key a ∧ UpL key b ∧ ∀ x ∈ a, ∀ y ∈ b, ¬ key y < key x := List.pairwise_append
theorem stable_uniq : ∀ {l l' : List α}, UpL key l → UpL key l' → SameL key l l' → l = l'
  | [], [], _, _, _ => rfl
  | [], y :: t, _, _, h => by
    have := (h.mem (x := y)).2 List.mem_cons_self
    cases this
  | x :: t, [], _, _, h => by
    have := (h.mem (x := x)).1 List.mem_cons_self
    cases this
  | x :: t, y :: t', h1, h2, h => by
    obtain ⟨a1, b1⟩ := List.pairwise_cons.1 h1
    obtain ⟨a2, b2⟩ := List.pairwise_cons.1 h2
    have hxy : ¬ key y < key x := by
      rcases List.mem_cons.1 ((h.mem (x := y)).2 List.mem_cons_self) with e | e
      · rw [e]; exact List.lt_irrefl _
      · exact a1 y e
    have hyx : ¬ key x < key y := by
      rcases List.mem_cons.1 ((h.mem (x := x)).1 List.mem_cons_self) with e | e
      · rw [e]; exact List.lt_irrefl _
      · exact a2 x e
    have e : key x = key y := List.le_antisymm (List.not_lt.1 hxy) (List.not_lt.1 hyx)
    have hk := h (key x)
    rw [List.filter_cons_of_pos (by simp), List.filter_cons_of_pos (by simp [e])] at hk
    obtain ⟨e1, -⟩ := List.cons.inj hk
    subst e1
    refine congrArg _ (stable_uniq b1 b2 fun k => ?_)
    have hk := h k
    by_cases q : key x = k
    · rw [List.filter_cons_of_pos (by simpa using q), List.filter_cons_of_pos (by simpa using q)] at hk
      exact (List.cons.inj hk).2
    · rw [List.filter_cons_of_neg (by simpa using q), List.filter_cons_of_neg (by simpa using q)] at hk
      exact hk

/-- the stable order -/
def ordL (key : α → List UInt8) (l : List α) : List α := l.mergeSort fun x y => !decide (key y < key x)
theorem le_trans' {x y z : List UInt8} (h1 : ¬ y < x) (h2 : ¬ z < y) : ¬ z < x := fun h => h2 (List.not_le.1 fun q => h1 (List.lt_of_le_of_lt q h))
theorem ordL_up (l : List α) : UpL key (ordL key l) := by
  have h := List.pairwise_mergeSort (le := fun x y => !decide (key y < key x)) (fun x y z h1 h2 => by simp only [Bool.not_eq_true', decide_eq_false_iff_not] at *; exact le_trans' h1 h2)
    (fun x y => by
      simp only [Bool.or_eq_true, Bool.not_eq_true', decide_eq_false_iff_not]
      by_cases h : key y < key x
      · exact Or.inr (List.lt_asymm h)
      · exact Or.inl h) l
  exact h.imp fun q => by simpa using q
theorem ordL_same (l : List α) : SameL key l (ordL key l) := by
  intro k
  have hs : (l.filter fun x => decide (key x = k)).Sublist (ordL key l) := by
    refine List.sublist_mergeSort (le := fun x y => !decide (key y < key x)) (fun x y z h1 h2 => by simp only [Bool.not_eq_true', decide_eq_false_iff_not] at *; exact le_trans' h1 h2)
      (fun x y => by
        simp only [Bool.or_eq_true, Bool.not_eq_true', decide_eq_false_iff_not]
        by_cases h : key y < key x
        · exact Or.inr (List.lt_asymm h)
        · exact Or.inl h) ?_ List.filter_sublist
    refine List.Pairwise.imp_of_mem ?_ (List.pairwise_of_forall (R := fun _ _ => True) fun _ _ => trivial)
    intro x y hx hy _
    have h1 : key x = k := by simpa using (List.mem_filter.1 hx).2
    have h2 : key y = k := by simpa using (List.mem_filter.1 hy).2
    simp only [Bool.not_eq_true', decide_eq_false_iff_not]
    rw [h1, h2]
    exact List.lt_irrefl _
  have hf := List.Sublist.filter (fun x => decide (key x = k)) hs
  rw [List.filter_filter] at hf
  simp only [Bool.and_self] at hf
  exact hf.eq_of_length ((((List.mergeSort_perm l _).filter _).length_eq).symm)
theorem ordL_of (h1 : UpL key l') (h2 : SameL key l l') : l' = ordL key l := stable_uniq h1 (ordL_up l) (h2.symm.trans (ordL_same l))
theorem ordL_perm (l : List α) : (ordL key l).Perm l := List.mergeSort_perm _ _
theorem ordL_len (l : List α) : (ordL key l).length = l.length := (ordL_perm l).length_eq

/-- one is put behind all that are not behind it -/
theorem put_order {A B : List α} {x : α} (h : UpL key (A ++ B)) (hB : ∀ y ∈ B, key x < key y) (hA : A = [] ∨ ∃ z ∈ A.getLast?, ¬ key x < key z) : UpL key (A ++ x :: B) ∧ SameL key (A ++ B ++ [x]) (A ++ x :: B) := by
  obtain ⟨h1, h2, h3⟩ := UpL.app.1 h
  have hA2 : ∀ z ∈ A, ¬ key x < key z := by
    rcases hA with rfl | ⟨z, hz, hzx⟩
    · intro z hz; cases hz
    · intro y hy
      obtain ⟨A', rfl⟩ := List.getLast?_eq_some_iff.1 hz
      rcases List.mem_append.1 hy with q | q
      · exact le_trans' ((UpL.app.1 h1).2.2 y q z (by simp)) hzx
      · obtain rfl := List.mem_singleton.1 q; exact hzx
  constructor
  · refine UpL.app.2 ⟨h1, List.pairwise_cons.2 ⟨fun y hy => List.lt_asymm (hB y hy), h2⟩, fun z hz y hy => ?_⟩
    rcases List.mem_cons.1 hy with rfl | hy
    · exact hA2 z hz
    · exact h3 z hz y hy
  · rw [List.append_assoc]
    refine SameL.app (SameL.refl A) (SameL.swap (A := B) (B := [x]) fun y hy z hz => ?_)
    obtain rfl := List.mem_singleton.1 hz
    intro e
    have := hB y hy
    rw [e] at this
    exact List.lt_irrefl _ this

/-- two halves that are in order, rotated about the middle: each half anew -/
theorem merge_join {A1 A2 B1 B2 L R : List α} (hA : UpL key (A1 ++ A2)) (hB : UpL key (B1 ++ B2)) (hx : ∀ x ∈ A2, ∀ y ∈ B1, key y < key x) (hc : ∀ x ∈ A1, ∀ y ∈ B2, ¬ key y < key x)
    (hL : UpL key L) (hLs : SameL key (A1 ++ B1) L) (hR : UpL key R) (hRs : SameL key (A2 ++ B2) R) : UpL key (L ++ R) ∧ SameL key (A1 ++ A2 ++ (B1 ++ B2)) (L ++ R) := by
  obtain ⟨-, -, hA3⟩ := UpL.app.1 hA
  obtain ⟨-, -, hB3⟩ := UpL.app.1 hB
  constructor
  · refine UpL.app.2 ⟨hL, hR, fun x hxL y hyR => ?_⟩
    rcases List.mem_append.1 (hLs.mem.2 hxL) with p | p <;> rcases List.mem_append.1 (hRs.mem.2 hyR) with q | q
    · exact hA3 x p y q
    · exact hc x p y q
    · exact List.lt_asymm (hx y q x p)
    · exact hB3 x p y q
  · have h1 : SameL key (A1 ++ A2 ++ (B1 ++ B2)) (A1 ++ B1 ++ (A2 ++ B2)) := by
      have := SameL.app (key := key) (SameL.refl A1) (SameL.app (SameL.swap (key := key) (A := A2) (B := B1) fun x hx' y hy e => by
        have := hx x hx' y hy
        rw [e] at this
        exact List.lt_irrefl _ this) (SameL.refl B2))
      simpa [List.append_assoc] using this
    exact h1.trans (hLs.app hRs)
end

section
variable {α : Type} [Inhabited α]
/-- an exchange -/
theorem swp_list {d : Array α} {A B D : List α} {x y : α} (h : d.toList = A ++ x :: (B ++ y :: D)) : (swp d A.length (A.length + 1 + B.length)).toList = A ++ y :: (B ++ x :: D) ∧ (swp d (A.length + 1 + B.length) A.length).toList = A ++ y :: (B ++ x :: D) := by
  have hs : d.size = A.length + 1 + B.length + 1 + D.length := by
    rw [← Array.length_toList, h]; simp; omega
  have hx : d[A.length]! = x := by
    rw [getElem!_pos d A.length (by omega), ← Array.getElem_toList]
    simp [h]
  have hy : d[A.length + 1 + B.length]! = y := by
    rw [getElem!_pos d (A.length + 1 + B.length) (by omega), ← Array.getElem_toList]
    simp only [h]
    rw [List.getElem_append_right (by omega)]
    simp only [show A.length + 1 + B.length - A.length = B.length + 1 by omega, List.getElem_cons_succ]
    rw [List.getElem_append_right (by omega)]
    simp
  have e1 : ∀ v u : α, (A ++ x :: (B ++ y :: D)).set A.length v = A ++ v :: (B ++ y :: D) := fun v _ => by
    rw [List.set_append_right _ _ (by omega)]; simp
  have e2 : ∀ v z : α, (A ++ z :: (B ++ y :: D)).set (A.length + 1 + B.length) v = A ++ z :: (B ++ v :: D) := fun v z => by
    rw [List.set_append_right _ _ (by omega)]
    simp only [show A.length + 1 + B.length - A.length = B.length + 1 by omega, List.set_cons_succ]
    rw [List.set_append_right _ _ (by omega)]
    simp
  have e3 : ∀ v : α, (A ++ x :: (B ++ v :: D)).set A.length y = A ++ y :: (B ++ v :: D) := fun v => by
    rw [List.set_append_right _ _ (by omega)]; simp
  constructor
  · unfold swp
    rw [Array.toList_setIfInBounds, Array.toList_setIfInBounds, hx, hy, h, e1 y y, e2 x y]
  · unfold swp
    rw [Array.toList_setIfInBounds, Array.toList_setIfInBounds, hx, hy, h, e2 x x, e3 x]
theorem swp_next {d : Array α} {A D : List α} {x y : α} (h : d.toList = A ++ x :: y :: D) : (swp d A.length (A.length + 1)).toList = A ++ y :: x :: D ∧ (swp d (A.length + 1) A.length).toList = A ++ y :: x :: D := by
  have := swp_list (d := d) (A := A) (B := []) (D := D) (x := x) (y := y) (by simpa using h)
  simpa using this
theorem list_at {d : Array α} {A D : List α} {x : α} (h : d.toList = A ++ x :: D) : d[A.length]! = x := by
  have hs : d.size = A.length + 1 + D.length := by rw [← Array.length_toList, h]; simp; omega
  rw [getElem!_pos d A.length (by omega), ← Array.getElem_toList]
  simp [h]

variable {key : α → List UInt8} {lt : α → α → Bool}
/-- insertion sort keeps the order of those that are alike -/
theorem insInner_same (hlt : ∀ x y, lt x y = decide (key x < key y)) (a : Nat) : ∀ (j : Nat) (d : Array α), j < d.size → SameL key d.toList (insInner lt a j d).toList ∧ (insInner lt a j d).size = d.size
  | 0, d, _ => ⟨SameL.refl _, rfl⟩
  | j + 1, d, hj => by
    unfold insInner
    split
    · rename_i h
      have hl : lt d[j + 1]! d[j]! = true := by simp at h; exact h.2
      rw [hlt] at hl
      have hl : key d[j + 1]! < key d[j]! := by simpa using hl
      obtain ⟨i1, i2⟩ := insInner_same hlt a j (swp d (j + 1) j) (by unfold swp; simp; omega)
      have hd : d.toList = d.toList.take j ++ d[j]! :: d[j + 1]! :: d.toList.drop (j + 2) := by
        rw [getElem!_pos d j (by omega), getElem!_pos d (j + 1) hj, ← Array.getElem_toList, ← Array.getElem_toList, List.getElem_cons_drop, List.getElem_cons_drop, List.take_append_drop]
      have hlen : (d.toList.take j).length = j := by rw [List.length_take, Array.length_toList]; omega
      have hs := (swp_next hd).2
      rw [hlen] at hs
      refine ⟨SameL.trans ?_ i1, i2.trans (by unfold swp; simp)⟩
      rw [hs]
      conv => lhs; rw [hd]
      refine SameL.app (SameL.refl _) ?_
      have := SameL.app (key := key) (SameL.swap (key := key) (A := [d[j]!]) (B := [d[j + 1]!]) fun x hx y hy e => by
        obtain rfl := List.mem_singleton.1 hx
        obtain rfl := List.mem_singleton.1 hy
        rw [e] at hl
        exact List.lt_irrefl _ hl) (SameL.refl (d.toList.drop (j + 2)))
      simpa using this
    · exact ⟨SameL.refl _, rfl⟩
theorem insOuter_same (hlt : ∀ x y, lt x y = decide (key x < key y)) (a b : Nat) : ∀ (n i : Nat) (d : Array α), b - i = n → b ≤ d.size → SameL key d.toList (insOuter lt a b i d).toList ∧ (insOuter lt a b i d).size = d.size := by
  intro n
  induction n with
  | zero => intro i d hn hb; rw [insOuter, if_neg (by omega)]; exact ⟨SameL.refl _, rfl⟩
  | succ n ih =>
    intro i d hn hb
    rw [insOuter, if_pos (by omega)]
    obtain ⟨h1, h2⟩ := insInner_same hlt a i d (by omega)
    obtain ⟨h3, h4⟩ := ih (i + 1) (insInner lt a i d) (by omega) (by omega)
    exact ⟨h1.trans h3, h4.trans h2⟩
theorem insertionSort_same (hlt : ∀ x y, lt x y = decide (key x < key y)) (d : Array α) (a b : Nat) (hb : b ≤ d.size) : SameL key d.toList (insertionSort lt d a b).toList ∧ (insertionSort lt d a b).size = d.size := insOuter_same hlt a b _ _ d rfl hb
end
end Go.Proofs.YtknlojlcahgnoaaGreat

namespace Go.Proofs.YtknlojlcahgnoaaGreat
open Go.Sort
set_option linter.unusedSectionVars false
set_option linter.unusedVariables false
set_option linter.unusedSimpArgs false

theorem lt_le {a b c : List UInt8} (h1 : a < b) (h2 : b ≤ c) : a < c := List.not_le.1 fun q => List.not_le.2 h1 (List.le_trans h2 q)
section
variable {α : Type} [Inhabited α] {key : α → List UInt8} {lt : α → α → Bool}
/-- a part of an array -/
def segL (d : Array α) (a b : Nat) : List α := (d.toList.take b).drop a
theorem segL_len (d : Array α) {a b : Nat} (hb : b ≤ d.size) : (segL d a b).length = b - a := by unfold segL; rw [List.length_drop, List.length_take, Array.length_toList]; omega
theorem seg_parts (d : Array α) {a m b : Nat} (h1 : a ≤ m) (h2 : m ≤ b) : d.toList = d.toList.take a ++ (segL d a m ++ (segL d m b ++ d.toList.drop b)) := by
  unfold segL
  have e1 : d.toList = d.toList.take b ++ d.toList.drop b := (List.take_append_drop b _).symm
  have e2 : d.toList.take b = d.toList.take m ++ (d.toList.take b).drop m := by
    conv => lhs; rw [← List.take_append_drop m (d.toList.take b)]
    rw [List.take_take, Nat.min_eq_left h2]
  have e3 : d.toList.take m = d.toList.take a ++ (d.toList.take m).drop a := by
    conv => lhs; rw [← List.take_append_drop a (d.toList.take m)]
    rw [List.take_take, Nat.min_eq_left h1]
  conv => lhs; rw [e1, e2, e3]
  simp [List.append_assoc]
theorem seg_at {d : Array α} {a b i : Nat} (hb : b ≤ d.size) (hi : i < b - a) (hl0 : i < (segL d a b).length) : (segL d a b)[i] = d[a + i]! := by
  have hl := hl0
  rw [getElem!_pos d (a + i) (by omega), ← Array.getElem_toList]
  unfold segL at hl
  have e : (segL d a b)[i]? = some (d.toList[a + i]'(by rw [Array.length_toList]; omega)) := by
    unfold segL
    rw [List.getElem?_eq_getElem hl, List.getElem_drop, List.getElem_take]
  exact (List.getElem?_eq_some_iff.1 e).2
theorem up_seg (hlt : ∀ x y, lt x y = decide (key x < key y)) {d : Array α} {a b : Nat} (hb : b ≤ d.size) : UpL key (segL d a b) ↔ SortedIn lt a b d := by
  have hl := segL_len d (a := a) hb
  unfold UpL SortedIn
  rw [List.pairwise_iff_getElem]
  constructor
  · intro h i j hai hij hjb
    have := h (i - a) (j - a) (by omega) (by omega) (by omega)
    rw [seg_at hb (by omega), seg_at hb (by omega), show a + (i - a) = i by omega, show a + (j - a) = j by omega] at this
    rw [hlt]
    simpa using this
  · intro h i j hi hj hij
    rw [seg_at hb (by omega), seg_at hb (by omega)]
    have := h (a + i) (a + j) (by omega) (by omega) (by omega)
    rw [hlt] at this
    simpa using this
/-- all but a part is as it was -/
theorem seg_keep {d d' : Array α} {a b : Nat} {M : List α} (hab : a ≤ b) (hb : b ≤ d.size) (hM : M.length = b - a) (h : d'.toList = d.toList.take a ++ (M ++ d.toList.drop b)) : d'.size = d.size ∧ (∀ i, i < a ∨ b ≤ i → d'[i]! = d[i]!) ∧ segL d' a b = M := by
  have hs : d'.size = d.size := by
    rw [← Array.length_toList, h, List.length_append, List.length_append, List.length_take, List.length_drop, Array.length_toList, hM]
    omega
  have hta : (d.toList.take a).length = a := by rw [List.length_take, Array.length_toList]; omega
  refine ⟨hs, fun i hi => ?_, ?_⟩
  · by_cases hid : i < d.size
    · rw [getElem!_pos d i hid, getElem!_pos d' i (by omega), ← Array.getElem_toList, ← Array.getElem_toList]
      simp only [h]
      rcases hi with hi | hi
      · rw [List.getElem_append_left (by omega), List.getElem_take]
      · rw [List.getElem_append_right (by omega), List.getElem_append_right (by rw [hta, hM]; omega), List.getElem_drop]
        congr 1
        rw [hta, hM]
        omega
    · rw [getElem!_neg d i hid, getElem!_neg d' i (by omega)]
  · unfold segL
    rw [h, ← List.append_assoc, List.take_left' (by rw [List.length_append, hta, hM]; omega), List.drop_left' hta]
theorem sorted_keep {d d' : Array α} {a b a' b' : Nat} (hk : ∀ i, i < a ∨ b ≤ i → d'[i]! = d[i]!) (hd : b' ≤ a ∨ b ≤ a') (h : SortedIn lt a' b' d) : SortedIn lt a' b' d' := by
  intro i j h1 h2 h3
  rw [hk i (by omega), hk j (by omega)]
  exact h i j h1 h2 h3

/-- all blocks of a size are in order -/
def Blks (lt : α → α → Bool) (bs n : Nat) (d : Array α) : Prop := ∀ i, i * bs < n → SortedIn lt (i * bs) (min ((i + 1) * bs) n) d
/-- the first blocks of twice the size, and the others of the size, are in order -/
def Blks2 (lt : α → α → Bool) (bs n t : Nat) (d : Array α) : Prop := (∀ i, i < t → SortedIn lt (i * (2 * bs)) ((i + 1) * (2 * bs)) d) ∧ ∀ i, 2 * t ≤ i → i * bs < n → SortedIn lt (i * bs) (min ((i + 1) * bs) n) d
theorem Blks2.start {bs n : Nat} {d : Array α} (h : Blks lt bs n d) : Blks2 lt bs n 0 d := ⟨fun i hi => absurd hi (by omega), fun i _ hi => h i hi⟩
theorem Blks2.halves {bs n t : Nat} {d : Array α} (h : Blks2 lt bs n t d) (hbs : 0 < bs) {e : Nat} (h1 : t * (2 * bs) + bs < e) (h2 : e ≤ t * (2 * bs) + 2 * bs) (h3 : e ≤ n) (h4 : e = n ∨ e = t * (2 * bs) + 2 * bs) : SortedIn lt (t * (2 * bs)) (t * (2 * bs) + bs) d ∧ SortedIn lt (t * (2 * bs) + bs) e d := by
  have e1 : 2 * t * bs = t * (2 * bs) := by rw [Nat.mul_comm 2 t, Nat.mul_assoc]
  have e2 : (2 * t + 1) * bs = t * (2 * bs) + bs := by rw [Nat.add_mul, e1, Nat.one_mul]
  have e3 : (2 * t + 1 + 1) * bs = t * (2 * bs) + 2 * bs := by rw [Nat.add_mul, e2, Nat.one_mul]; omega
  have q1 := h.2 (2 * t) (Nat.le_refl _) (by rw [e1]; omega)
  have q2 := h.2 (2 * t + 1) (by omega) (by rw [e2]; omega)
  rw [e1, e2, Nat.min_eq_left (by omega)] at q1
  rw [e2, e3] at q2
  refine ⟨q1, ?_⟩
  rcases h4 with rfl | rfl
  · rw [Nat.min_eq_right (by omega)] at q2; exact q2
  · rw [Nat.min_eq_left h3] at q2; exact q2
theorem Blks2.step {bs n t : Nat} {d d' : Array α} (h : Blks2 lt bs n t d) (hbs : 0 < bs) (hk : ∀ i, i < t * (2 * bs) ∨ t * (2 * bs) + 2 * bs ≤ i → d'[i]! = d[i]!) (hs : SortedIn lt (t * (2 * bs)) (t * (2 * bs) + 2 * bs) d') : Blks2 lt bs n (t + 1) d' := by
  constructor
  · intro i hi
    by_cases e : i = t
    · subst e
      rw [Nat.add_mul, Nat.one_mul]
      exact hs
    · refine sorted_keep hk (Or.inl ?_) (h.1 i (by omega))
      exact Nat.mul_le_mul_right _ (by omega)
  · intro i hi hin
    refine sorted_keep hk (Or.inr ?_) (h.2 i (by omega) hin)
    have e3 : (2 * (t + 1)) * bs = t * (2 * bs) + 2 * bs := by rw [Nat.mul_comm 2 (t + 1), Nat.mul_assoc, Nat.add_mul, Nat.one_mul]
    rw [← e3]
    exact Nat.mul_le_mul_right _ hi
/-- behind all whole ones: the rest is merged, or is one block -/
theorem Blks2.finish {bs n t : Nat} {d : Array α} (h : Blks2 lt bs n t d) (hbs : 0 < bs) (hn : n < t * (2 * bs) + 2 * bs) (hs : SortedIn lt (t * (2 * bs)) n d) : Blks lt (2 * bs) n d := by
  intro i hi
  by_cases q : i < t
  · have := h.1 i q
    have e : (i + 1) * (2 * bs) ≤ t * (2 * bs) := Nat.mul_le_mul_right _ q
    by_cases q2 : (i + 1) * (2 * bs) ≤ n
    · rw [Nat.min_eq_left q2]; exact this
    · rw [Nat.min_eq_right (by omega)]
      intro x y h1 h2 h3
      exact this x y h1 h2 (by omega)
  · have e : i = t := by
      apply Classical.byContradiction
      intro ne
      have : (t + 1) * (2 * bs) ≤ i * (2 * bs) := Nat.mul_le_mul_right _ (by omega)
      rw [Nat.add_mul, Nat.one_mul] at this
      omega
    subst e
    rw [Nat.add_mul, Nat.one_mul, Nat.min_eq_right (by omega)]
    exact hs
theorem Blks2.last {bs n t : Nat} {d : Array α} (h : Blks2 lt bs n t d) (hn : n ≤ t * (2 * bs) + bs) (h0 : t * (2 * bs) < n) : SortedIn lt (t * (2 * bs)) n d := by
  have e1 : 2 * t * bs = t * (2 * bs) := by rw [Nat.mul_comm 2 t, Nat.mul_assoc]
  have e2 : (2 * t + 1) * bs = t * (2 * bs) + bs := by rw [Nat.add_mul, e1, Nat.one_mul]
  have q1 := h.2 (2 * t) (Nat.le_refl _) (by rw [e1]; omega)
  rw [e1, e2, Nat.min_eq_right (by omega)] at q1
  exact q1
theorem Blks.whole {bs n : Nat} {d : Array α} (h : Blks lt bs n d) (hn : n ≤ bs) (hbs : 0 < bs) : SortedIn lt 0 n d := by
  by_cases h0 : 0 < n
  · have := h 0 (by simpa using h0)
    simp only [Nat.zero_mul, Nat.zero_add, Nat.one_mul] at this
    rw [Nat.min_eq_right hn] at this
    exact this
  · intro i j h1 h2 h3
    omega

/-- what stands between is merged -/
theorem sym_one {A B : List α} {x : α} {B1 B2 : List α} (hB : UpL key B) (e : B = B1 ++ B2) (h1 : B1 = [] ∨ ∃ z ∈ B1.getLast?, key z < key x) (h2 : B2 = [] ∨ ∃ z ∈ B2.head?, ¬ key z < key x) : B1 ++ x :: B2 = ordL key (x :: B) := by
  subst e
  obtain ⟨u1, u2, u3⟩ := UpL.app.1 hB
  have hA1 : ∀ y ∈ B1, key y < key x := by
    rcases h1 with rfl | ⟨z, hz, hzx⟩
    · intro y hy; cases hy
    · obtain ⟨B', rfl⟩ := List.getLast?_eq_some_iff.1 hz
      intro y hy
      rcases List.mem_append.1 hy with q | q
      · have := (UpL.app.1 u1).2.2 y q z (by simp)
        exact List.lt_of_le_of_lt (List.not_lt.1 this) hzx
      · obtain rfl := List.mem_singleton.1 q; exact hzx
  have hA2 : ∀ y ∈ B2, ¬ key y < key x := by
    rcases h2 with rfl | ⟨z, hz, hzx⟩
    · intro y hy; cases hy
    · obtain ⟨B', rfl⟩ : ∃ B', B2 = z :: B' := by
        cases B2 with
        | nil => cases hz
        | cons q t => exact ⟨t, by simpa using hz⟩
      intro y hy
      rcases List.mem_cons.1 hy with rfl | q
      · exact hzx
      · exact le_trans' hzx ((List.pairwise_cons.1 u2).1 y q)
  refine ordL_of ?_ ?_
  · refine UpL.app.2 ⟨u1, List.pairwise_cons.2 ⟨hA2, u2⟩, fun a ha b hb => ?_⟩
    rcases List.mem_cons.1 hb with rfl | hb
    · exact List.lt_asymm (hA1 a ha)
    · exact u3 a ha b hb
  · have := SameL.app (key := key) (SameL.swap (key := key) (A := [x]) (B := B1) fun a ha b hb e => by
      obtain rfl := List.mem_singleton.1 ha
      have := hA1 b hb
      rw [e] at this
      exact List.lt_irrefl _ this) (SameL.refl B2)
    simpa using this
theorem sym_last {A : List α} {y : α} {A1 A2 : List α} (hA : UpL key A) (e : A = A1 ++ A2) (h1 : A1 = [] ∨ ∃ z ∈ A1.getLast?, ¬ key y < key z) (h2 : A2 = [] ∨ ∃ z ∈ A2.head?, key y < key z) : A1 ++ y :: A2 = ordL key (A ++ [y]) := by
  subst e
  obtain ⟨u1, u2, u3⟩ := UpL.app.1 hA
  have hA2 : ∀ z ∈ A2, key y < key z := by
    rcases h2 with rfl | ⟨z, hz, hzx⟩
    · intro y hy; cases hy
    · obtain ⟨B', rfl⟩ : ∃ B', A2 = z :: B' := by
        cases A2 with
        | nil => cases hz
        | cons q t => exact ⟨t, by simpa using hz⟩
      intro w hw
      rcases List.mem_cons.1 hw with rfl | q
      · exact hzx
      · exact lt_le hzx (List.not_lt.1 ((List.pairwise_cons.1 u2).1 w q))
  have := put_order (x := y) hA hA2 h1
  exact ordL_of this.1 this.2
theorem ordL_up_id {l : List α} (h : UpL key l) : ordL key l = l := (ordL_of h (SameL.refl l)).symm
theorem sym_join {A1 A2 B1 B2 : List α} (hA : UpL key (A1 ++ A2)) (hB : UpL key (B1 ++ B2))
    (hx : A2 = [] ∨ B1 = [] ∨ ∃ x ∈ A2.head?, ∃ y ∈ B1.getLast?, key y < key x) (hc : A1 = [] ∨ B2 = [] ∨ ∃ x ∈ A1.getLast?, ∃ y ∈ B2.head?, ¬ key y < key x) :
    ordL key (A1 ++ B1) ++ ordL key (A2 ++ B2) = ordL key (A1 ++ A2 ++ (B1 ++ B2)) := by
  obtain ⟨a1, a2, a3⟩ := UpL.app.1 hA
  obtain ⟨b1, b2, b3⟩ := UpL.app.1 hB
  have hx' : ∀ x ∈ A2, ∀ y ∈ B1, key y < key x := by
    rcases hx with rfl | rfl | ⟨x, hx, y, hy, hxy⟩
    · intro x hx; cases hx
    · intro x _ y hy; cases hy
    · obtain ⟨B', rfl⟩ := List.getLast?_eq_some_iff.1 hy
      obtain ⟨A', rfl⟩ : ∃ A', A2 = x :: A' := by
        cases A2 with
        | nil => cases hx
        | cons q t => exact ⟨t, by simpa using hx⟩
      intro u hu v hv
      have h1 : ¬ key u < key x := by
        rcases List.mem_cons.1 hu with rfl | q
        · exact List.lt_irrefl _
        · exact (List.pairwise_cons.1 a2).1 u q
      have h2 : ¬ key y < key v := by
        rcases List.mem_append.1 hv with q | q
        · exact (UpL.app.1 b1).2.2 v q y (by simp)
        · obtain rfl := List.mem_singleton.1 q; exact List.lt_irrefl _
      exact List.lt_of_le_of_lt (List.not_lt.1 h2) (lt_le hxy (List.not_lt.1 h1))
  have hc' : ∀ x ∈ A1, ∀ y ∈ B2, ¬ key y < key x := by
    rcases hc with rfl | rfl | ⟨x, hx, y, hy, hxy⟩
    · intro x hx; cases hx
    · intro x _ y hy; cases hy
    · obtain ⟨A', rfl⟩ := List.getLast?_eq_some_iff.1 hx
      obtain ⟨B', rfl⟩ : ∃ B', B2 = y :: B' := by
        cases B2 with
        | nil => cases hy
        | cons q t => exact ⟨t, by simpa using hy⟩
      intro u hu v hv
      have h1 : ¬ key x < key u := by
        rcases List.mem_append.1 hu with q | q
        · exact (UpL.app.1 a1).2.2 u q x (by simp)
        · obtain rfl := List.mem_singleton.1 q; exact List.lt_irrefl _
      have h2 : ¬ key v < key y := by
        rcases List.mem_cons.1 hv with rfl | q
        · exact List.lt_irrefl _
        · exact (List.pairwise_cons.1 b2).1 v q
      exact le_trans' h1 (le_trans' hxy h2)
  have := merge_join hA hB hx' hc' (ordL_up (A1 ++ B1)) (ordL_same _) (ordL_up (A2 ++ B2)) (ordL_same _)
  exact ordL_of this.1 this.2
end
end Go.Proofs.YtknlojlcahgnoaaGreat
