/- Walks: Charge of any key and any rule; tollerlaw14.known. Plain laws of the kernels: how full a state is; what comes in; what is left. No program in sight. Plain laws of a table with one key. Plain laws: what one key does changes nothing of another one; tables that are alike in a key tell the same of it. Keys of choices are right keys; so is their first byte; the rules of choices are right. -/
import Derived.Test.YtknlojlcahgnoaaGreatEb31
import Derived.Test.YtknlojlcahgnoaaGreatEb27
import Derived.Test.YtknlojlcahgnoaaGreatEb1
import Derived.Test.YtknlojlcahgnoaaGreatEb7
import Derived.Test.YtknlojlcahgnoaaGreatEb6

namespace Go.Proofs.YtknlojlcahgnoaaGreat
open Go.RowKit
set_option linter.unusedVariables false
set_option linter.unusedSimpArgs false

/-- what Charge tells, and what it leaves -/
def cgV (most clock : Int) (l : SMap) (k p : ByteArray) (e b rk n : Int) : Value :=
  if keyOk k = false then ansV 5 12 0 0 0 0 0 false else if ruleErr p e b rk ≠ 0 then ansV 5 (ruleErr p e b rk) 0 0 0 0 0 false else chargeV most clock l k e b rk n
def cgL (most clock : Int) (l : SMap) (c : Nat) (k p : ByteArray) (e b rk n : Int) : SMap :=
  if keyOk k = false then l else if ruleErr p e b rk ≠ 0 then l else chargeL most clock l c k p e b rk n
def cgC (most clock : Int) (l : SMap) (c : Nat) (k p : ByteArray) (e b rk n : Int) : Nat :=
  if keyOk k = false then c else if ruleErr p e b rk ≠ 0 then c else chargeC most clock l c k p e b rk n

theorem charge_any (t mb c : Nat) (k p : ByteArray) (most clock e b rk n : Int) (l : SMap) (w : World) (h : TabAt w t mb most clock l c) (hok : TabOk l c) (hn0 : 0 ≤ clock) (hn1 : clock < 18446744073709551616)
    (hk : k.size ≤ maxLen) (hp : p.size ≤ maxLen) (he0 : 0 ≤ e) (he1 : e < 18446744073709551616) (hb0 : 0 ≤ b) (hb1 : b < 18446744073709551616) (hr0 : 0 ≤ rk) (hr1 : rk < 256) (hw0 : 0 ≤ n) (hw1 : n < 18446744073709551616) :
    Calls Tryz.prog 54 #[.pointer (some ⟨t, 0, none⟩), .string k, .agg #[.string p, .int .u64 e, .int .u64 b, .int .u8 rk], .int .u64 n] w fun x w' =>
      x = .returned (cgV most clock l k p e b rk n) ∧ TabAt w' t mb most clock (cgL most clock l c k p e b rk n) (cgC most clock l c k p e b rk n) ∧ TabOk (cgL most clock l c k p e b rk n) (cgC most clock l c k p e b rk n) ∧ ExtB mb w w' := by
  unfold cgV cgL cgC
  by_cases h1 : keyOk k = false
  · rw [if_pos h1, if_pos h1, if_pos h1]
    refine (charge_key t k p e b rk n w hk (Lib.hid h1)).mono ?_
    rintro x w' ⟨rfl, hx⟩
    exact ⟨rfl, h.ext hx, hok, hx.toB mb⟩
  · rw [if_neg h1, if_neg h1, if_neg h1]
    have h1' : keyOk k = true := by simpa using h1
    by_cases h2 : ruleErr p e b rk = 0
    · rw [if_neg (not_not.2 h2), if_neg (not_not.2 h2), if_neg (not_not.2 h2)]
      exact charge_go t mb c k p most clock e b rk n l w h hok hn0 hn1 hk hp he0 he1 hb0 hb1 hr0 hr1 hw0 hw1 (Lib.hid h1') (Lib.hid h2)
    · rw [if_pos h2, if_pos h2, if_pos h2]
      refine (charge_rule t k p e b rk n _ w hk (Lib.hid h1') hp he0 he1 hb0 hb1 (Lib.hid rfl) (by simpa using h2)).mono ?_
      rintro x w' ⟨rfl, hx⟩
      exact ⟨rfl, h.ext hx, hok, hx.toB mb⟩
  where not_not {p : Prop} : ¬ ¬ p ↔ p := ⟨fun h => Classical.byContradiction h, fun h q => q h⟩

end Go.Proofs.YtknlojlcahgnoaaGreat

namespace Go.Proofs.YtknlojlcahgnoaaGreat
set_option linter.unusedVariables false
set_option linter.unusedSimpArgs false

/-- a state that a kernel may have at a time -/
def Sane (k a x clock cap : Int) : Prop :=
  0 ≤ a ∧ 0 ≤ x ∧ ((k = 1 ∧ a ≤ clock + cap) ∨ ((k = 2 ∨ k = 3) ∧ x ≤ clock ∧ a ≤ cap))

theorem Sane.later {k a x clock cap now : Int} (h : Sane k a x clock cap) (hn : clock ≤ now) : Sane k a x now cap := by
  obtain ⟨h1, h2, h3⟩ := h
  refine ⟨h1, h2, ?_⟩
  omega
theorem Sane.fill_le {k a x clock cap : Int} (h : Sane k a x clock cap) (hc : 0 ≤ cap) (hn0 : 0 ≤ clock) : 0 ≤ kFill k a x clock cap ∧ kFill k a x clock cap ≤ cap := by
  obtain ⟨h1, h2, h3⟩ := h
  unfold kFill satSub satAdd
  rcases h3 with ⟨rfl, h⟩ | ⟨rfl | rfl, h, h'⟩
  · simp only [if_true]
    split <;> omega
  · simp only [show ¬ ((2 : Int) = 1) by decide, if_false, if_true]
    repeat' split
    all_goals omega
  · simp only [show ¬ ((3 : Int) = 1) by decide, show ¬ ((3 : Int) = 2) by decide, if_false, if_true]
    repeat' split
    all_goals omega
theorem Sane.fill_later {k a x clock cap now : Int} (h : Sane k a x clock cap) (hc : 0 ≤ cap) (hc1 : cap ≤ 4611686018427387904) (hn0 : 0 ≤ clock) (hn : clock ≤ now) (hn1 : now < 18446744073709551616) :
    kFill k a x now cap = satSub (kFill k a x clock cap) (now - clock) := by
  obtain ⟨h1, h2, h3⟩ := h
  unfold kFill satSub satAdd
  rcases h3 with ⟨rfl, h⟩ | ⟨rfl | rfl, h, h'⟩
  · simp only [if_true]
    repeat' split
    all_goals omega
  · simp only [show ¬ ((2 : Int) = 1) by decide, if_false, if_true]
    repeat' split
    all_goals omega
  · simp only [show ¬ ((3 : Int) = 1) by decide, show ¬ ((3 : Int) = 2) by decide, if_false, if_true]
    repeat' split
    all_goals omega
theorem Sane.ok {k a x clock cap W : Int} (h : Sane k a x clock cap) (hc : 0 ≤ cap) (hn0 : 0 ≤ clock) (hW : 0 ≤ W) : kOk k a x clock cap W = decide (kFill k a x clock cap + W ≤ cap) := by
  obtain ⟨h1, h2, h3⟩ := h
  unfold kOk kFill fitsB
  rcases h3 with ⟨rfl, h⟩ | ⟨rfl | rfl, h, h'⟩
  · simp only [if_true]
    rw [decide_eq_decide]
    unfold satSub
    split <;> omega
  · simp only [show ¬ ((2 : Int) = 1) by decide, if_false, if_true]
    rw [decide_eq_decide]
    omega
  · simp only [show ¬ ((3 : Int) = 1) by decide, show ¬ ((3 : Int) = 2) by decide, if_false, if_true]
theorem Sane.next {k a x clock cap W : Int} (h : Sane k a x clock cap) (hc : 0 ≤ cap) (hn0 : 0 ≤ clock) (hW : 0 ≤ W) (hb : clock + cap < 18446744073709551616) :
    Sane k (kNextA k a x clock cap W) (kNextB k a x clock cap W) clock cap ∧
      kFill k (kNextA k a x clock cap W) (kNextB k a x clock cap W) clock cap = if kOk k a x clock cap W then kFill k a x clock cap + W else kFill k a x clock cap := by
  have hok := h.ok (W := W) hc hn0 hW
  have hs := h
  obtain ⟨h1, h2, h3⟩ := h
  unfold kNextA kNextB
  cases hO : kOk k a x clock cap W with
  | false => exact ⟨hs, rfl⟩
  | true =>
    rw [hO] at hok
    have hfit : kFill k a x clock cap + W ≤ cap := by simpa using hok.symm
    simp only [if_true]
    rcases h3 with ⟨rfl, h⟩ | ⟨rfl | rfl, h, h'⟩
    · simp only [if_true]
      unfold kFill satSub at hfit ⊢
      unfold Sane satAdd
      simp only [if_true] at hfit ⊢
      refine ⟨⟨?_, ?_, Or.inl ⟨trivial, ?_⟩⟩, ?_⟩ <;> repeat' split
      all_goals (split at hfit <;> omega)
    · simp only [show ¬ ((2 : Int) = 1) by decide, if_false, if_true]
      unfold kFill satSub satAdd at hfit
      unfold Sane kFill satSub satAdd
      simp only [show ¬ ((2 : Int) = 1) by decide, if_false, if_true] at hfit ⊢
      refine ⟨⟨?_, ?_, Or.inr ⟨Or.inl trivial, ?_, ?_⟩⟩, ?_⟩ <;> repeat' split
      all_goals (repeat' split at hfit) <;> omega
    · simp only [show ¬ ((3 : Int) = 1) by decide, show ¬ ((3 : Int) = 2) by decide, if_false, if_true]
      unfold kFill satSub at hfit
      unfold Sane kFill satSub
      simp only [show ¬ ((3 : Int) = 1) by decide, show ¬ ((3 : Int) = 2) by decide, if_false, if_true] at hfit ⊢
      refine ⟨⟨?_, ?_, Or.inr ⟨Or.inr trivial, ?_, ?_⟩⟩, ?_⟩ <;> repeat' split
      all_goals (repeat' split at hfit) <;> omega
theorem Sane.of {k clock cap : Int} (hk : k = 1 ∨ k = 2 ∨ k = 3) (hc : 0 ≤ cap) (hn0 : 0 ≤ clock) (hb : clock + cap < 18446744073709551616) : Sane k (kOfA k clock cap 0) (kOfB k clock) clock cap ∧ kFill k (kOfA k clock cap 0) (kOfB k clock) clock cap = 0 := by
  unfold Sane kFill kOfA kOfB satSub satAdd
  rcases hk with rfl | rfl | rfl
  · simp only [if_true]
    refine ⟨⟨?_, ?_, Or.inl ⟨trivial, ?_⟩⟩, ?_⟩ <;> repeat' split
    all_goals omega
  · simp only [show ¬ ((2 : Int) = 1) by decide, if_false, if_true]
    refine ⟨⟨?_, ?_, Or.inr ⟨Or.inl trivial, ?_, ?_⟩⟩, ?_⟩ <;> repeat' split
    all_goals omega
  · simp only [show ¬ ((3 : Int) = 1) by decide, show ¬ ((3 : Int) = 2) by decide, if_false, if_true]
    refine ⟨⟨?_, ?_, Or.inr ⟨Or.inr trivial, ?_, ?_⟩⟩, ?_⟩ <;> repeat' split
    all_goals omega
end Go.Proofs.YtknlojlcahgnoaaGreat

namespace Go.Proofs.YtknlojlcahgnoaaGreat
set_option linter.unusedVariables false
set_option linter.unusedSimpArgs false

/-- a table that has one key at most, by one rule -/
structure OneAt (l : SMap) (c : Nat) (name p : ByteArray) (e b rk clock : Int) : Prop where
  ok : TabOk l c
  len : l.length ≤ 1
  all : ∀ x ∈ l, x.1.key = name ∧ x.1.p = p ∧ x.1.e = e ∧ x.1.b = b ∧ x.1.rk = rk ∧ Sane x.1.sk x.1.sa x.1.sb clock (e * b)
theorem OneAt.nil (c : Nat) (name p : ByteArray) (e b rk clock : Int) : OneAt [] c name p e b rk clock := ⟨TabOk.nil c, by simp, fun x h => (by cases h)⟩
theorem OneAt.look {l : SMap} {c : Nat} {name p : ByteArray} {e b rk clock : Int} (h : OneAt l c name p e b rk clock) {s : Slot} (hl : l.look name = some s) : s.key = name ∧ s.p = p ∧ s.e = e ∧ s.b = b ∧ s.rk = rk ∧ Sane s.sk s.sa s.sb clock (e * b) := by
  obtain ⟨n, hn⟩ := look_mem hl
  exact h.all _ hn
theorem OneAt.later {l : SMap} {c : Nat} {name p : ByteArray} {e b rk clock now : Int} (h : OneAt l c name p e b rk clock) (hn : clock ≤ now) : OneAt l c name p e b rk now :=
  ⟨h.ok, h.len, fun x hx => by obtain ⟨a1, a2, a3, a4, a5, a6⟩ := h.all x hx; exact ⟨a1, a2, a3, a4, a5, a6.later hn⟩⟩
theorem slotLeft_len (l : SMap) (k : ByteArray) (e b clock : Int) : (slotLeft l k e b clock).length ≤ l.length := by
  unfold slotLeft
  split
  · exact Nat.le_refl _
  · exact List.length_filter_le _ _

end Go.Proofs.YtknlojlcahgnoaaGreat

namespace Go.Proofs.YtknlojlcahgnoaaGreat
set_option linter.unusedVariables false
set_option linter.unusedSimpArgs false

/-- an answer's shape -/
theorem cgV_form (most clock : Int) (l : SMap) (k p : ByteArray) (e b rk n : Int) : ∃ (code err limit left reset aft nan : Int) (ret : Bool), cgV most clock l k p e b rk n = ansV code err limit left reset aft nan ret := by
  unfold cgV
  split
  · exact ⟨_, _, _, _, _, _, _, _, rfl⟩
  · split
    · exact ⟨_, _, _, _, _, _, _, _, rfl⟩
    · unfold chargeV
      split
      · exact ⟨_, _, _, _, _, _, _, _, rfl⟩
      · exact ⟨_, _, _, _, _, _, _, _, rfl⟩
end Go.Proofs.YtknlojlcahgnoaaGreat

namespace Go.Proofs.YtknlojlcahgnoaaGreat
open Go.RowKit
set_option linter.unusedVariables false
set_option linter.unusedSimpArgs false

theorem pieceOf_ok (n : Nat) : noBad (pieceOf n).data.toList = true := by
  unfold pieceOf
  repeat' split
  all_goals decide
theorem noBad_append (a b : List UInt8) : noBad (a ++ b) = (noBad a && noBad b) := by simp [noBad]
theorem keyCat_ok : ∀ (m : Nat) (l : List UInt8), l.length = m → noBad (keyCat l).data.toList = true := by
  intro m
  induction m with
  | zero => intro l h; obtain rfl := List.eq_nil_of_length_eq_zero h; decide
  | succ m ih =>
    intro l h
    have hne : l ≠ [] := by intro e; subst e; simp at h
    rw [← List.dropLast_concat_getLast hne, keyCat_snoc, ByteArray.data_append, Array.toList_append, noBad_append, ih l.dropLast (by rw [List.length_dropLast]; omega), pieceOf_ok]
    rfl
theorem keyText_ok (l : List UInt8) : keyOk (keyText l) = true ∧ (keyText l).size ≤ 12 := by
  unfold keyText
  split
  · decide
  · rename_i h
    have h2 := keyCat_size (l.take 6)
    rw [List.length_take] at h2
    have h3 := keyCat_ok _ (l.take 6) rfl
    refine ⟨?_, by omega⟩
    unfold keyOk
    rw [h3]
    simp
    omega
/-- the first byte of a text -/
def first1 (s : ByteArray) : ByteArray := s.extract 0 1
theorem first1_ok {s : ByteArray} (h : keyOk s = true) : keyOk (first1 s) = true ∧ (first1 s).size = 1 := by
  unfold keyOk at h
  simp only [Bool.and_eq_true, decide_eq_true_eq] at h
  obtain ⟨⟨h1, h2⟩, h3⟩ := h
  have hsz : (first1 s).size = 1 := by unfold first1; rw [ByteArray.size_extract]; omega
  refine ⟨?_, hsz⟩
  unfold keyOk
  rw [hsz]
  have hd : (first1 s).data.toList = s.data.toList.take 1 := by
    unfold first1
    rw [ByteArray.data_extract]
    simp [Array.toList_extract]
  rw [hd]
  have : noBad (s.data.toList.take 1) = true := by
    unfold noBad at h3 ⊢
    rw [List.all_eq_true] at h3 ⊢
    intro x hx
    exact h3 x (List.mem_of_mem_take hx)
  rw [this]
  rfl

end Go.Proofs.YtknlojlcahgnoaaGreat
