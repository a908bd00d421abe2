/- A table of some slots, plainly. Walks: table.wrong. Plain: active slots, by right keys and rules. -/
import Derived.Test.YtknlojlcahgnoaaGreatEb43
import Derived.Test.YtknlojlcahgnoaaGreatEb21
import Derived.Test.YtknlojlcahgnoaaGreatEb27
import Derived.Test.YtknlojlcahgnoaaGreatEb20
import Derived.Test.YtknlojlcahgnoaaGreatEb10
import Derived.Test.YtknlojlcahgnoaaGreatEb42

namespace Go.Proofs.YtknlojlcahgnoaaGreat
open Go.RowKit
set_option linter.unusedVariables false
set_option linter.unusedSimpArgs false

theorem snocInd {α : Type} {m : List α → Prop} (h0 : m []) (h1 : ∀ xs x, m xs → m (xs ++ [x])) (l : List α) : m l := by
  have h : ∀ r : List α, m r.reverse := by
    intro r
    induction r with
    | nil => exact h0
    | cons x r ih => rw [List.reverse_cons]; exact h1 _ _ ih
  have := h l.reverse
  rwa [List.reverse_reverse] at this
/-- what is wrong with a slot -/
def slotErr (clock : Int) (s : Slot) : Int :=
  if keyOk s.key = false then 12 else if ruleErr s.p s.e s.b s.rk ≠ 0 then ruleErr s.p s.e s.b s.rk else if rightKind s.sk = false then 27 else if s.fill clock = 0 ∨ s.cap < s.fill clock then 44 else 0
def firstErr (clock : Int) : List Slot → Int
  | [] => 0
  | s :: xs => if slotErr clock s ≠ 0 then slotErr clock s else firstErr clock xs
theorem firstErr_at (clock : Int) : ∀ (xs : List Slot) (k : Nat) (h : k < xs.length), (∀ i (hi : i < k), slotErr clock (xs[i]'(by omega)) = 0) → slotErr clock xs[k] ≠ 0 → firstErr clock xs = slotErr clock xs[k]
  | [], k, h, _, _ => by simp at h
  | s :: xs, 0, h, _, he => by
    simp only [List.getElem_cons_zero] at he ⊢
    simp only [firstErr]
    rw [if_pos he]
  | s :: xs, k + 1, h, hp, he => by
    have h0 : slotErr clock s = 0 := hp 0 (by omega)
    simp only [firstErr]
    rw [if_neg (by rw [h0]; simp)]
    exact firstErr_at clock xs k (by simpa using h) (fun i hi => hp (i + 1) (by omega)) he
theorem firstErr_no (clock : Int) : ∀ (xs : List Slot), (∀ i (hi : i < xs.length), slotErr clock xs[i] = 0) → firstErr clock xs = 0
  | [], _ => rfl
  | s :: xs, hp => by
    simp only [firstErr]
    have h0 : slotErr clock s = 0 := hp 0 (by simp)
    rw [if_neg (by rw [h0]; simp)]
    exact firstErr_no clock xs fun i hi => hp (i + 1) (by simpa using hi)
theorem firstErr_of (clock : Int) : ∀ (xs : List Slot), firstErr clock xs = 0 → ∀ s ∈ xs, slotErr clock s = 0
  | [], _, s, h => by cases h
  | s :: xs, he, x, hx => by
    simp only [firstErr] at he
    by_cases h0 : slotErr clock s = 0
    · rw [if_neg (by rw [h0]; simp)] at he
      rcases List.mem_cons.1 hx with rfl | hx
      · exact h0
      · exact firstErr_of clock xs he x hx
    · rw [if_pos h0] at he
      exact absurd he h0
theorem ruleErr_b (p : ByteArray) (e b k : Int) : 0 ≤ ruleErr p e b k ∧ ruleErr p e b k ≤ 60 := by
  unfold ruleErr
  repeat' split
  all_goals omega
theorem slotErr_u (clock : Int) (s : Slot) : 0 ≤ slotErr clock s ∧ slotErr clock s ≤ 60 := by
  unfold slotErr ruleErr
  repeat' split
  all_goals omega
/-- what is wrong with a table of some -/
def ofErr (most clock : Int) (xs : List Slot) : Int :=
  if most < 1 ∨ 1000000 < most then 29 else if firstErr clock xs ≠ 0 then firstErr clock xs else if sortedB (xs.map (·.key)) = false then 42 else if most < xs.length then 50 else 0
/-- slots that are put into a map, one behind another -/
def putTo (xs : List Slot) : SMap × Nat := xs.foldl (fun p s => (p.1.put s p.2, p.1.putC s p.2)) ([], 0)
theorem putTo_nil : putTo [] = ([], 0) := rfl
theorem putTo_snoc (xs : List Slot) (s : Slot) : putTo (xs ++ [s]) = ((putTo xs).1.put s (putTo xs).2, (putTo xs).1.putC s (putTo xs).2) := by
  unfold putTo
  rw [List.foldl_append]
  rfl
theorem putTo_ok : ∀ (xs : List Slot), (∀ s ∈ xs, SlotOk s) → TabOk (putTo xs).1 (putTo xs).2 := by
  intro xs
  induction xs using snocInd with
  | h0 => intro _; exact TabOk.nil 0
  | h1 xs s ih =>
    intro h
    rw [putTo_snoc]
    exact (ih fun x hx => h x (List.mem_append_left _ hx)).put (h s (by simp))
theorem putTo_len : ∀ (xs : List Slot), (putTo xs).1.length ≤ xs.length := by
  intro xs
  induction xs using snocInd with
  | h0 => simp [putTo_nil]
  | h1 xs s ih =>
    rw [putTo_snoc]
    have h : ((putTo xs).1.put s (putTo xs).2).length ≤ (putTo xs).1.length + 1 := by
      unfold SMap.put SMap.rep
      split <;> simp
    rw [List.length_append]
    simp only [List.length_cons, List.length_nil]
    omega
theorem putTo_mem : ∀ (xs : List Slot), (xs.map (·.key)).Nodup → ∀ s, (∃ n, (s, n) ∈ (putTo xs).1) ↔ s ∈ xs := by
  intro xs
  induction xs using snocInd with
  | h0 =>
    intro _ s
    rw [putTo_nil]
    exact ⟨fun ⟨n, h⟩ => (by cases h), fun h => (by cases h)⟩
  | h1 xs s0 ih =>
    intro hn s
    rw [List.map_append, List.nodup_append] at hn
    obtain ⟨h1, -, h3⟩ := hn
    rw [putTo_snoc, put_iff, ih h1, List.mem_append, List.mem_singleton]
    constructor
    · rintro (h | ⟨-, h⟩)
      · exact Or.inr h
      · exact Or.inl h
    · rintro (h | h)
      · refine Or.inr ⟨?_, h⟩
        exact h3 _ (List.mem_map.2 ⟨s, h, rfl⟩) _ (by simp)
      · exact Or.inl h
theorem rises_of_sorted : ∀ (xs : List Slot), sortedB (xs.map (·.key)) = true → Rises xs := by
  intro xs
  induction xs with
  | nil => intro _; exact List.Pairwise.nil
  | cons x xs ih =>
    intro h
    cases xs with
    | nil => exact List.pairwise_singleton _ _
    | cons y ys =>
      simp only [List.map_cons, sortedB, Bool.and_eq_true] at h
      have h2 := ih (by simpa using h.2)
      have hxy : x.key.toList < y.key.toList := by have := h.1; unfold keyLt at this; simpa using this
      refine List.pairwise_cons.2 ⟨fun z hz => ?_, h2⟩
      rcases List.mem_cons.1 hz with rfl | hz
      · exact hxy
      · exact List.lt_trans hxy ((List.pairwise_cons.1 h2).1 z hz)
theorem rises_keys {xs : List Slot} (h : Rises xs) : (xs.map (·.key)).Nodup := by
  refine List.pairwise_map.2 (h.imp fun q e => ?_)
  rw [e] at q
  exact List.lt_irrefl _ q
theorem of_rel {most clock : Int} {xs : List Slot} (h : ofErr most clock xs = 0) (hs : ∀ s ∈ xs, SlotOk s) : Rel clock (putTo xs).1 xs ∧ 1 ≤ most ∧ most ≤ 1000000 ∧ (xs.length : Int) ≤ most ∧ (∀ s ∈ xs, slotErr clock s = 0) := by
  unfold ofErr at h
  by_cases h1 : most < 1 ∨ 1000000 < most
  · rw [if_pos h1] at h; omega
  rw [if_neg h1] at h
  by_cases h2 : firstErr clock xs = 0
  · rw [if_neg (by rw [h2]; simp)] at h
    cases h3 : sortedB (xs.map (·.key)) with
    | false => rw [h3] at h; simp at h
    | true =>
      rw [h3] at h
      simp only [Bool.true_eq_false, if_false] at h
      by_cases h4 : most < xs.length
      · rw [if_pos h4] at h; omega
      · have hr := rises_of_sorted xs h3
        exact ⟨⟨fun s _ => putTo_mem xs (rises_keys hr) s, hr, hs⟩, by omega, by omega, by omega, firstErr_of clock xs h2⟩
  · rw [if_pos h2] at h
    exact absurd h h2
end Go.Proofs.YtknlojlcahgnoaaGreat

namespace Go.Proofs.YtknlojlcahgnoaaGreat
open Go.RowKit
set_option linter.unusedVariables false
set_option linter.unusedSimpArgs false

theorem slotErr_def (clock : Int) (key p : ByteArray) (e b rk sk sa sb : Int) : slotErr clock ⟨key, p, e, b, rk, sk, sa, sb⟩ =
    if keyOk key = false then 12 else if ruleErr p e b rk ≠ 0 then ruleErr p e b rk else if rightKind sk = false then 27 else if Slot.fill ⟨key, p, e, b, rk, sk, sa, sb⟩ clock = 0 ∨ ruleCap p e b rk < Slot.fill ⟨key, p, e, b, rk, sk, sa, sb⟩ clock then 44 else 0 := rfl

set_option maxHeartbeats 2000000 in
set_option maxRecDepth 100000 in
theorem table_wrong (s : Slot) (clock : Int) (w : World) (hs : SlotOk s) (hn0 : 0 ≤ clock) (hn1 : clock < 18446744073709551616) :
    Calls Tryz.prog 127 #[s.val, .int .u64 clock] w fun x w' => x = .returned (.int .u16 (slotErr clock s)) ∧ Ext w w' := by
  have hfl := fun W => table_fill s clock W hs hn0 hn1
  obtain ⟨key, p, e, b, rk, sk, sa, sb⟩ := s
  obtain ⟨h1, h2, h3, h4, h5, h6, h7, h8, h9, h10, h11, h12, h13, h14⟩ := hs
  simp only at h1 h2 h3 h4 h5 h6 h7 h8 h9 h10 h11 h12 h13 h14
  have hr := ruleErr_b p e b rk
  have hcu := ruleCap_u p e b rk h3 h5
  have hfu := kFill_u sk sa sb clock (Slot.cap ⟨key, p, e, b, rk, sk, sa, sb⟩) h11 h12 h13 hn0 hn1 hcu.1 (by have := hcu.2; show ruleCap p e b rk < _; omega)
  have hkr := fun W => key_Right key W h1
  have hrr := fun W => rule_Right p e b rk W h2 h3 h4 h5 h6
  have hkk := fun W => kernel_Right sk W
  have hrc := fun W => rule_Cap p e b rk W h2 h3 h4 h5 h6
  rw [slotErr_def]
  change 0 ≤ Slot.fill ⟨key, p, e, b, rk, sk, sa, sb⟩ clock ∧ Slot.fill ⟨key, p, e, b, rk, sk, sa, sb⟩ clock < _ at hfu
  generalize Slot.fill ⟨key, p, e, b, rk, sk, sa, sb⟩ clock = fl at *
  generalize hK : keyOk key = kb at *
  generalize hE : ruleErr p e b rk = er at *
  generalize hC : ruleCap p e b rk = cp at *
  generalize hR : rightKind sk = rt at *
  simp only [Slot.val, Slot.cells] at hfl ⊢
  have HFL := Lib.hid hfl
  have HKR := Lib.hid hkr
  have HRR := Lib.hid hrr
  have HKK := Lib.hid hkk
  have HRC := Lib.hid hrc
  obtain ⟨hfu0, hfu1⟩ := hfu
  obtain ⟨hr0, hr1⟩ := hr
  obtain ⟨hcu0, hcu1⟩ := hcu
  clear hfl hkr hrr hkk hrc hK hE hC hR
  have bq := Blk.new w #[.string key, .string p, .int .u64 e, .int .u64 b, .int .u8 rk, .int .u8 sk, .int .u64 sa, .int .u64 sb] 145
  have hx0 : Ext w (w.alloc (.cells #[.string key, .string p, .int .u64 e, .int .u64 b, .int .u8 rk, .int .u8 sk, .int .u64 sa, .int .u64 sb] 145)) := (Ext.refl w).alloc _
  go_enter Tryz.func127, Tryz.ntmps127
  go_upto_region 1 with fail
  generalize w.alloc (.cells #[.string key, .string p, .int .u64 e, .int .u64 b, .int .u8 rk, .int .u8 sk, .int .u64 sa, .int .u64 sb] 145) = w0 at *
  have hbc := bq.cell
  have HB := Lib.hid bq
  clear bq
  go_wp2_with fail
  refine (HKR.out _).mono ?_
  rintro x w1 ⟨rfl, hx1⟩
  have hc1 := (HB.out.ext hx1).cell
  cases kb with
  | false =>
    go_wp2
    go_ret
    exact ⟨rfl, hx0.trans hx1⟩
  | true =>
  go_wp2_with fail
  refine (HRR.out _).mono ?_
  rintro x w2 ⟨rfl, hx2⟩
  have hx02 := hx1.trans hx2
  have hc2 := (HB.out.ext hx02).cell
  clear hbc hc1
  by_cases her : er = 0
  · subst her
    go_wp2_with fail
    refine (HKK.out _).mono ?_
    rintro x w3 ⟨rfl, hx3⟩
    have hx03 := hx02.trans hx3
    have hc3 := (HB.out.ext hx03).cell
    clear hc2
    cases rt with
    | false =>
      go_wp2
      go_ret
      exact ⟨rfl, hx0.trans hx03⟩
    | true =>
    go_wp2_with fail
    refine (HFL.out _).mono ?_
    rintro x w4 ⟨rfl, hx4⟩
    have hx04 := hx03.trans hx4
    have hc4 := (HB.out.ext hx04).cell
    clear hc3
    by_cases hf0 : fl = 0
    · subst hf0
      go_wp2
      go_ret
      exact ⟨rfl, hx0.trans hx04⟩
    · have hq : (fl == 0) = false := by simpa using hf0
      go_wp2_with fail
      refine (HRC.out _).mono ?_
      rintro x w5 ⟨rfl, hx5⟩
      have hx05 := hx04.trans hx5
      by_cases hf1 : cp < fl
      · have HQ := Lib.hid (show (if (true = false) then (12 : Int) else if (0 : Int) ≠ 0 then 0 else if (true = false) then 27 else if fl = 0 ∨ cp < fl then 44 else 0) = 44 by simp [hf1])
        go_wp2
        go_ret
        exact ⟨rfl, hx0.trans hx05⟩
      · have HQ := Lib.hid (show (if (true = false) then (12 : Int) else if (0 : Int) ≠ 0 then 0 else if (true = false) then 27 else if fl = 0 ∨ cp < fl then 44 else 0) = 0 by simp [hf1, hf0])
        go_wp2
        go_ret
        exact ⟨rfl, hx0.trans hx05⟩
  · have hq : (er == 0) = false := by simpa using her
    have hq2 : (er != 0) = true := by simpa using her
    go_wp2
    go_ret
    exact ⟨rfl, hx0.trans hx02⟩
end Go.Proofs.YtknlojlcahgnoaaGreat

namespace Go.Proofs.YtknlojlcahgnoaaGreat
set_option linter.unusedVariables false
set_option linter.unusedSimpArgs false

/-- slots that are active, by right keys and rules -/
structure Act (clock : Int) (xs : List Slot) : Prop where
  up : Rises xs
  ok : ∀ s ∈ xs, SlotOk s
  good : ∀ s ∈ xs, Good clock s
  key : ∀ s ∈ xs, keyOk s.key = true
  fill : ∀ s ∈ xs, 0 < s.fill clock
theorem good_err {clock : Int} {s : Slot} (g : Good clock s) (hk : keyOk s.key = true) (hf : 0 < s.fill clock) (hn0 : 0 ≤ clock) : slotErr clock s = 0 := by
  obtain ⟨c1, c2, c3⟩ := g.cap
  have h1 := g.sane.fill_le c2 hn0
  have h2 : s.fill clock = kFill s.sk s.sa s.sb clock (s.e * s.b) := g.fill
  unfold slotErr
  rw [if_neg (by rw [hk]; decide), if_neg (by rw [g.rule]; decide), if_neg (by rw [fill_right hf]; decide), if_neg (by omega)]
theorem Act.err {clock : Int} {xs : List Slot} (h : Act clock xs) (hn0 : 0 ≤ clock) : firstErr clock xs = 0 :=
  firstErr_no clock xs fun i hi => good_err (h.good _ (List.getElem_mem hi)) (h.key _ (List.getElem_mem hi)) (h.fill _ (List.getElem_mem hi)) hn0
theorem sorted_of_rises : ∀ (xs : List Slot), Rises xs → sortedB (xs.map (·.key)) = true
  | [], _ => rfl
  | [x], _ => rfl
  | x :: y :: l, h => by
    obtain ⟨h1, h2⟩ := List.pairwise_cons.1 h
    have ih := sorted_of_rises (y :: l) h2
    simp only [List.map_cons, sortedB, Bool.and_eq_true] at ih ⊢
    exact ⟨by unfold keyLt; simpa using h1 y List.mem_cons_self, ih⟩
theorem Act.ofErr {clock : Int} {xs : List Slot} (h : Act clock xs) (hn0 : 0 ≤ clock) (most : Int) : ofErr most clock xs = if most < 1 ∨ 1000000 < most then 29 else if most < xs.length then 50 else 0 := by
  unfold Go.Proofs.YtknlojlcahgnoaaGreat.ofErr
  rw [h.err hn0, sorted_of_rises xs h.up]
  simp only [ne_eq, not_true_eq_false, if_false, Bool.true_eq_false]
theorem Act.all {clock : Int} {xs : List Slot} (h : Act clock xs) : rSlots clock xs = xs := by
  unfold rSlots
  exact List.filter_eq_self.2 fun s hs => by simpa using h.fill s hs
/-- the slots of a table of some are those -/
theorem Act.put {clock most : Int} {xs : List Slot} (h : Act clock xs) (he : Go.Proofs.YtknlojlcahgnoaaGreat.ofErr most clock xs = 0) (hn0 : 0 ≤ clock) (hn1 : clock < 18446744073709551616) : slotsOf clock (putTo xs).1 = xs := by
  rw [(of_rel he h.ok).1.slots (putTo_ok xs h.ok) hn0 hn1, h.all]
end Go.Proofs.YtknlojlcahgnoaaGreat
