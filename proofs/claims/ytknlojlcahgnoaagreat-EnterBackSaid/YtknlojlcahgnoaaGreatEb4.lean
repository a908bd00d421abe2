/- Plain: stable sorting: two runs exchanged; a part rotated; one element moved. No program in sight. Plain: where the searches of a symmetrical merge end. No program in sight. A region that draws its order, in a round of a range over a function: by the plain laws of orders. -/
import Derived.OrdersIn
import Derived.OrdersHeld
import Derived.Deep.RegionHeld3
import Derived.RangeFuncCalls
import Derived.Test.YtknlojlcahgnoaaGreatEb0
import Derived.Test.YtknlojlcahgnoaaGreatEb1

namespace Go.Proofs.YtknlojlcahgnoaaGreat
open Go.Sort
set_option linter.unusedVariables false
set_option linter.unusedSimpArgs false
set_option linter.unusedSectionVars false

section
variable {α : Type} [Inhabited α] {key : α → List UInt8}
/-- two runs of one length, the first i of each exchanged -/
def srL (P X Z Y S : List α) (i : Nat) : List α := P ++ (Y.take i ++ (X.drop i ++ (Z ++ (X.take i ++ (Y.drop i ++ S)))))
theorem srL_zero (P X Z Y S : List α) : srL P X Z Y S 0 = P ++ (X ++ (Z ++ (Y ++ S))) := by unfold srL; simp
theorem srL_all {P X Z Y S : List α} (h : X.length = Y.length) : srL P X Z Y S X.length = P ++ (Y ++ (Z ++ (X ++ S))) := by
  unfold srL
  rw [List.take_of_length_le (l := Y) (by omega), List.drop_of_length_le (l := X) (by omega), List.take_of_length_le (l := X) (by omega), List.drop_of_length_le (l := Y) (by omega)]
  simp
theorem sr_step {d : Array α} {P X Z Y S : List α} {i : Nat} (hl : X.length = Y.length) (hi : i < X.length) (h : d.toList = srL P X Z Y S i) :
    (swp d (P.length + i) (P.length + X.length + Z.length + i)).toList = srL P X Z Y S (i + 1) := by
  have hx : X.drop i = X[i] :: X.drop (i + 1) := (List.getElem_cons_drop hi).symm
  have hy : Y.drop i = Y[i]'(by omega) :: Y.drop (i + 1) := (List.getElem_cons_drop (by omega)).symm
  have e : d.toList = (P ++ Y.take i) ++ X[i] :: ((X.drop (i + 1) ++ (Z ++ X.take i)) ++ Y[i]'(by omega) :: (Y.drop (i + 1) ++ S)) := by
    rw [h]
    unfold srL
    rw [hx, hy]
    simp only [List.append_assoc, List.cons_append, List.nil_append]
  have := (swp_list e).1
  have hA : (P ++ Y.take i).length = P.length + i := by rw [List.length_append, List.length_take]; omega
  have hB : (X.drop (i + 1) ++ (Z ++ X.take i)).length = (X.length - (i + 1)) + (Z.length + i) := by rw [List.length_append, List.length_append, List.length_drop, List.length_take]; omega
  rw [hA, hB, show P.length + i + 1 + (X.length - (i + 1) + (Z.length + i)) = P.length + X.length + Z.length + i by omega] at this
  rw [this]
  unfold srL
  rw [List.take_succ_eq_append_getElem hi, List.take_succ_eq_append_getElem (by omega : i < Y.length)]
  simp only [List.append_assoc, List.cons_append, List.nil_append]
/-- one element goes up, a step at a time -/
def upL (P B S : List α) (x : α) (i : Nat) : List α := P ++ (B.take i ++ (x :: (B.drop i ++ S)))
theorem up_step {d : Array α} {P B S : List α} {x : α} {i : Nat} (hi : i < B.length) (h : d.toList = upL P B S x i) : (swp d (P.length + i) (P.length + i + 1)).toList = upL P B S x (i + 1) := by
  have hx : B.drop i = B[i] :: B.drop (i + 1) := (List.getElem_cons_drop hi).symm
  have e : d.toList = (P ++ B.take i) ++ x :: B[i] :: (B.drop (i + 1) ++ S) := by
    rw [h]
    unfold upL
    rw [hx]
    simp only [List.append_assoc, List.cons_append, List.nil_append]
  have := (swp_next e).1
  have hA : (P ++ B.take i).length = P.length + i := by rw [List.length_append, List.length_take]; omega
  rw [hA] at this
  rw [this]
  unfold upL
  rw [List.take_succ_eq_append_getElem hi]
  simp only [List.append_assoc, List.cons_append, List.nil_append]
/-- one element goes down, a step at a time: i of the run are still ahead of it -/
theorem down_step {d : Array α} {P B S : List α} {x : α} {i : Nat} (hi : i < B.length) (h : d.toList = upL P B S x (i + 1)) : (swp d (P.length + i + 1) (P.length + i)).toList = upL P B S x i := by
  have e : d.toList = (P ++ B.take i) ++ B[i] :: x :: (B.drop (i + 1) ++ S) := by
    rw [h]
    unfold upL
    rw [List.take_succ_eq_append_getElem hi]
    simp only [List.append_assoc, List.cons_append, List.nil_append]
  have := (swp_next e).2
  have hA : (P ++ B.take i).length = P.length + i := by rw [List.length_append, List.length_take]; omega
  rw [hA] at this
  rw [this]
  unfold upL
  rw [← List.getElem_cons_drop hi]
  simp only [List.append_assoc, List.cons_append, List.nil_append]
/-- a part that is being rotated: what stands, and what it is to be -/
structure RotAt (T : List α) (L : List α) (m i j : Nat) (P X Y S : List α) : Prop where
  now : L = P ++ (X ++ (Y ++ S))
  goal : T = P ++ (Y ++ (X ++ S))
  pl : P.length + i = m
  xl : X.length = i
  yl : Y.length = j
theorem RotAt.left {T L : List α} {m i j : Nat} {P X Y S : List α} (h : RotAt T L m i j P X Y S) (hj : j < i) :
    RotAt T (P ++ (Y ++ (X.drop j ++ (X.take j ++ S)))) m (i - j) j (P ++ Y) (X.drop j) (X.take j) S := by
  obtain ⟨h1, h2, h3, h4, h5⟩ := h
  refine ⟨by simp only [List.append_assoc, List.cons_append, List.nil_append], ?_, by rw [List.length_append]; omega, by rw [List.length_drop]; omega, by rw [List.length_take]; omega⟩
  rw [h2]
  conv => lhs; rw [← List.take_append_drop j X]
  simp only [List.append_assoc, List.cons_append, List.nil_append]
theorem RotAt.right {T L : List α} {m i j : Nat} {P X Y S : List α} (h : RotAt T L m i j P X Y S) (hj : i < j) :
    RotAt T (P ++ (Y.drop (j - i) ++ (Y.take (j - i) ++ (X ++ S)))) m i (j - i) P (Y.drop (j - i)) (Y.take (j - i)) (X ++ S) := by
  obtain ⟨h1, h2, h3, h4, h5⟩ := h
  refine ⟨rfl, ?_, h3, by rw [List.length_drop]; omega, by rw [List.length_take]; omega⟩
  rw [h2]
  conv => lhs; rw [← List.take_append_drop (j - i) Y]
  simp only [List.append_assoc, List.cons_append, List.nil_append]
end
end Go.Proofs.YtknlojlcahgnoaaGreat

namespace Go.Proofs.YtknlojlcahgnoaaGreat
open Go.Sort
set_option linter.unusedVariables false
set_option linter.unusedSimpArgs false
set_option linter.unusedSectionVars false

section
variable {α : Type} [Inhabited α] {key : α → List UInt8} {lt : α → α → Bool}
theorem list_at' {d : Array α} {A D : List α} {x : α} {n : Nat} (h : d.toList = A ++ x :: D) (hn : n = A.length) : d[n]! = x := by subst hn; exact list_at h
theorem seg_get {d : Array α} {P B S : List α} (h : d.toList = P ++ (B ++ S)) {t j : Nat} (ht : t < B.length) (hj : j = P.length + t) : d[j]! = B[t] := by
  refine list_at' (A := P ++ B.take t) (D := B.drop (t + 1) ++ S) ?_ (by rw [List.length_append, List.length_take]; omega)
  rw [h]
  conv => lhs; rw [← List.take_append_drop t B, ← List.getElem_cons_drop ht]
  simp only [List.append_assoc, List.cons_append]
theorem take_last {B : List α} {t : Nat} (ht : t < B.length) : (B.take (t + 1)).getLast? = some B[t] := by rw [List.take_succ_eq_append_getElem ht, List.getLast?_append]; simp
theorem drop_head {B : List α} {t : Nat} (ht : t < B.length) : (B.drop t).head? = some B[t] := by rw [← List.getElem_cons_drop ht]; rfl

theorem sym_one_at (hlt : ∀ x y, lt x y = decide (key x < key y)) {d : Array α} {P B S : List α} {x : α} (hd : d.toList = P ++ (x :: (B ++ S))) {m i : Nat} (hm : m = P.length + 1) (h1 : m ≤ i) (h2 : i ≤ m + B.length) (hU : UpL key B)
    (q : (i = m ∨ lt d[i - 1]! x = true) ∧ (i = m + B.length ∨ lt d[i]! x = false)) : P ++ (B.take (i - m) ++ (x :: (B.drop (i - m) ++ S))) = P ++ (ordL key (x :: B) ++ S) := by
  have hd' : d.toList = (P ++ [x]) ++ (B ++ S) := by rw [hd]; simp
  have hl : (P ++ [x]).length = m := by simp [hm]
  rw [← sym_one (x := x) (B1 := B.take (i - m)) (B2 := B.drop (i - m)) (A := []) hU (List.take_append_drop _ _).symm ?_ ?_]
  · simp
  · rcases q.1 with h | h
    · left; rw [h]; simp
    · by_cases e : i = m
      · left; rw [e]; simp
      · right
        obtain ⟨t, ht⟩ : ∃ t, i = m + t + 1 := ⟨i - m - 1, by omega⟩
        rw [seg_get hd' (t := t) (by omega) (by omega), hlt] at h
        exact ⟨_, by rw [show i - m = t + 1 by omega, take_last (by omega)]; rfl, by simpa using h⟩
  · rcases q.2 with h | h
    · left; rw [h]; simp
    · by_cases e : i = m + B.length
      · left; rw [e]; simp
      · right
        rw [seg_get hd' (t := i - m) (by omega) (by omega), hlt] at h
        exact ⟨_, by rw [drop_head (by omega)]; rfl, by simpa using h⟩
theorem sym_last_at (hlt : ∀ x y, lt x y = decide (key x < key y)) {d : Array α} {P A S : List α} {y : α} (hd : d.toList = P ++ (A ++ (y :: S))) {a i : Nat} (ha : a = P.length) (h1 : a ≤ i) (h2 : i ≤ a + A.length) (hU : UpL key A)
    (q : (i = a ∨ lt y d[i - 1]! = false) ∧ (i = a + A.length ∨ lt y d[i]! = true)) : P ++ (A.take (i - a) ++ (y :: (A.drop (i - a) ++ S))) = P ++ (ordL key (A ++ [y]) ++ S) := by
  rw [← sym_last (y := y) (A1 := A.take (i - a)) (A2 := A.drop (i - a)) hU (List.take_append_drop _ _).symm ?_ ?_]
  · simp
  · rcases q.1 with h | h
    · left; rw [h]; simp
    · by_cases e : i = a
      · left; rw [e]; simp
      · right
        obtain ⟨t, ht⟩ : ∃ t, i = a + t + 1 := ⟨i - a - 1, by omega⟩
        rw [seg_get hd (t := t) (by omega) (by omega), hlt] at h
        exact ⟨_, by rw [show i - a = t + 1 by omega, take_last (by omega)]; rfl, by simpa using h⟩
  · rcases q.2 with h | h
    · left; rw [h]; simp
    · by_cases e : i = a + A.length
      · left; rw [e]; simp
      · right
        rw [seg_get hd (t := i - a) (by omega) (by omega), hlt] at h
        exact ⟨_, by rw [drop_head (by omega)]; rfl, by simpa using h⟩
/-- where the symmetrical search begins, and ends at the latest -/
def symS (a m b : Nat) : Nat := if (a + b) / 2 < m then (a + b) / 2 + m - b else a
def symR (a m b : Nat) : Nat := if (a + b) / 2 < m then (a + b) / 2 else m
theorem sym_at (hlt : ∀ x y, lt x y = decide (key x < key y)) {d : Array α} {P A B S : List α} (hd : d.toList = P ++ (A ++ (B ++ S))) {a m b s e : Nat} (ha : a = P.length) (hm : m = a + A.length) (hb : b = m + B.length) (hA : UpL key A) (hB : UpL key B)
    (h1 : symS a m b ≤ s) (h2 : s ≤ symR a m b) (he : e + s = (a + b) / 2 + m) (q : (s = symS a m b ∨ lt d[(a + b) / 2 + m - s]! d[s - 1]! = false) ∧ (s = symR a m b ∨ lt d[(a + b) / 2 + m - 1 - s]! d[s]! = true)) :
    ordL key (A.take (s - a) ++ B.take (e - m)) ++ ordL key (A.drop (s - a) ++ B.drop (e - m)) = ordL key (A ++ B) := by
  have hd2 : d.toList = (P ++ A) ++ (B ++ S) := by rw [hd]; simp
  have hpa : (P ++ A).length = m := by rw [List.length_append]; omega
  have b1 : a ≤ s ∧ s ≤ m ∧ m ≤ e ∧ e ≤ b := by
    unfold symS at h1; unfold symR at h2
    split at h1 <;> rename_i hh <;> simp only [hh, if_true, if_false] at h2 <;> omega
  have hj := sym_join (key := key) (A1 := A.take (s - a)) (A2 := A.drop (s - a)) (B1 := B.take (e - m)) (B2 := B.drop (e - m)) (by rw [List.take_append_drop]; exact hA) (by rw [List.take_append_drop]; exact hB) ?_ ?_
  · rw [hj, List.take_append_drop, List.take_append_drop]
  · by_cases c1 : s = m
    · left; rw [c1, hm]; simp
    by_cases c2 : e = m
    · right; left; rw [c2]; simp
    right; right
    rcases q.2 with h | h
    · unfold symR at h; split at h <;> omega
    · obtain ⟨t, ht⟩ : ∃ t, e = m + t + 1 := ⟨e - m - 1, by omega⟩
      rw [seg_get hd2 (t := t) (by omega) (by omega), seg_get hd (t := s - a) (by omega) (by omega), hlt] at h
      exact ⟨_, by rw [drop_head (by omega)]; rfl, _, by rw [show e - m = t + 1 by omega, take_last (by omega)]; rfl, by simpa using h⟩
  · by_cases c1 : s = a
    · left; rw [c1]; simp
    by_cases c2 : e = b
    · right; left; rw [c2, hb]; simp
    right; right
    rcases q.1 with h | h
    · unfold symS at h; split at h <;> omega
    · obtain ⟨t, ht⟩ : ∃ t, s = a + t + 1 := ⟨s - a - 1, by omega⟩
      rw [seg_get hd2 (t := e - m) (by omega) (by omega), seg_get hd (t := t) (by omega) (by omega), hlt] at h
      exact ⟨_, by rw [show s - a = t + 1 by omega, take_last (by omega)]; rfl, _, by rw [drop_head (by omega)]; rfl, by simpa using h⟩
end
end Go.Proofs.YtknlojlcahgnoaaGreat

namespace Go.Proofs.YtknlojlcahgnoaaGreat
open Go.RowKit
set_option linter.unusedVariables false
set_option linter.unusedSimpArgs false

section
variable {P : Program} {ops : Array Oper} {Q : Exit → Act → World → Prop} {l n : Nat}
theorem wpOp_round {i : Nat} {K : Act → World → Prop} {a : Act} {w : World} (hd : ∀ o, ops[i]? = some o → ∀ c, o.op ≠ .defer c) (hL : ¬ LetsOut Q) (h : wpOp P ops Q i K a w) : wpOpIn (Fence.wide.inRound l) n P ops Q i K a w := by
  unfold wpOp at h
  unfold wpOpIn
  cases ho : ops[i]? with
  | none => rw [ho] at h; exact h
  | some o =>
    rw [ho] at h
    simp only at h ⊢
    by_cases hw : Region.wanted o (yielded ops a.tmps) = true
    · rw [if_pos hw] at h ⊢
      rcases h with h | ⟨-, h⟩
      · refine ⟨fun _ _ => trivial, ?_⟩
        rw [Oper.semAt_eq _ _ _ (hd o ho)]
        unfold Oper.wp at h
        generalize (execOp a.eval o).run P w = r at h ⊢
        cases r with
        | ok x w' =>
          cases x with
          | enter f args => exact ⟨fun q => (by cases q), CallsIn.inRound l (callsIn_wide.2 h)⟩
          | row row args => exact ⟨fun q => (by cases q), fun c cs _ => let ⟨v, w', r, s⟩ := h c cs; ⟨v, w', r, stepsIn_wide.2 s⟩⟩
          | value v => exact h
          | skip => exact h
          | defer d => exact h
          | _ => exact h.elim
        | halt x w' =>
          cases x <;> exact h
      · exact absurd h hL
    · rw [if_neg hw] at h ⊢
      exact ⟨fun _ _ => trivial, h⟩
theorem wpAny_round (hd : ∀ (i : Nat) o, ops[i]? = some o → ∀ c, o.op ≠ .defer c) (hL : ¬ LetsOut Q) {md : Region.Mode} : ∀ (fuel : Nat) (listed : Array Bool) (a : Act) (w : World), wpAny P md ops Q fuel listed a w → wpAnyIn (Fence.wide.inRound l) n P md ops Q fuel listed a w
  | 0, _, _, _, h => h
  | fuel + 1, _, _, _, h => ⟨h.1, fun i hi => wpOp_round (hd i) hL (wpOp_mono (fun a' w' h' => wpAny_round hd hL fuel _ a' w' h') (h.2 i hi))⟩
/-- no operation is deferred -/
def noDefer (ops : Array Oper) : Bool := ops.all fun o => match o.op with
  | .defer _ => false
  | _ => true
theorem noDefer_spec (h : noDefer ops = true) (i : Nat) (o : Oper) (ho : ops[i]? = some o) : ∀ c, o.op ≠ .defer c := by
  intro c e
  unfold noDefer at h
  rw [Array.all_eq_true] at h
  obtain ⟨hi, rfl⟩ := Array.getElem?_eq_some_iff.1 ho
  have := h i hi
  rw [e] at this
  cases this
theorem wpIn_region_round {S : World → Prop} {id : Nat} {a : Act} {w : World} (hm : P.follows .mixedOrders = true) (hd : noDefer ops = true) (hL : ¬ LetsOut Q)
    (h : wpAnyH P .any ops Q S ops.size (Array.replicate ops.size false) a w.drew) : (Code.region id ops true).wpIn (Fence.wide.inRound l) n P Q a w :=
  wpIn_region_any hm (wpAny_round (fun i o ho => noDefer_spec hd i o ho) hL _ _ _ _ (wpAny_of_held _ _ _ _ h))
end
end Go.Proofs.YtknlojlcahgnoaaGreat
