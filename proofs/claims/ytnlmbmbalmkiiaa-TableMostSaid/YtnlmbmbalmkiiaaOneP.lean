/- Plain laws of the kernels: how full a state is; what comes in; what is left. No program in sight. -/
import Derived.Test.YtnlmbmbalmkiiaaKPlain
namespace Go.Proofs.Ytnlmbmbalmkiiaa
set_option linter.unusedVariables false
set_option linter.unusedSimpArgs false

/-- a state that a kernel may have at a time -/
def Sane (k a x clock cap : Int) : Prop :=
  0 ≤ a ∧ 0 ≤ x ∧ ((k = 1 ∧ a ≤ clock + cap) ∨ ((k = 2 ∨ k = 3) ∧ x ≤ clock ∧ a ≤ cap))

theorem Sane.later {k a x clock cap now : Int} (h : Sane k a x clock cap) (hn : clock ≤ now) : Sane k a x now cap := by
  obtain ⟨h1, h2, h3⟩ := h
  refine ⟨h1, h2, ?_⟩
  omega
theorem Sane.fill_le {k a x clock cap : Int} (h : Sane k a x clock cap) (hc : 0 ≤ cap) (hn0 : 0 ≤ clock) : 0 ≤ kFill k a x clock cap ∧ kFill k a x clock cap ≤ cap := by
  obtain ⟨h1, h2, h3⟩ := h
  unfold kFill satSub satAdd
  rcases h3 with ⟨rfl, h⟩ | ⟨rfl | rfl, h, h'⟩
  · simp only [if_true]
    split <;> omega
  · simp only [show ¬ ((2 : Int) = 1) by decide, if_false, if_true]
    repeat' split
    all_goals omega
  · simp only [show ¬ ((3 : Int) = 1) by decide, show ¬ ((3 : Int) = 2) by decide, if_false, if_true]
    repeat' split
    all_goals omega
theorem Sane.fill_later {k a x clock cap now : Int} (h : Sane k a x clock cap) (hc : 0 ≤ cap) (hc1 : cap ≤ 4611686018427387904) (hn0 : 0 ≤ clock) (hn : clock ≤ now) (hn1 : now < 18446744073709551616) :
    kFill k a x now cap = satSub (kFill k a x clock cap) (now - clock) := by
  obtain ⟨h1, h2, h3⟩ := h
  unfold kFill satSub satAdd
  rcases h3 with ⟨rfl, h⟩ | ⟨rfl | rfl, h, h'⟩
  · simp only [if_true]
    repeat' split
    all_goals omega
  · simp only [show ¬ ((2 : Int) = 1) by decide, if_false, if_true]
    repeat' split
    all_goals omega
  · simp only [show ¬ ((3 : Int) = 1) by decide, show ¬ ((3 : Int) = 2) by decide, if_false, if_true]
    repeat' split
    all_goals omega
theorem Sane.ok {k a x clock cap W : Int} (h : Sane k a x clock cap) (hc : 0 ≤ cap) (hn0 : 0 ≤ clock) (hW : 0 ≤ W) : kOk k a x clock cap W = decide (kFill k a x clock cap + W ≤ cap) := by
  obtain ⟨h1, h2, h3⟩ := h
  unfold kOk kFill fitsB
  rcases h3 with ⟨rfl, h⟩ | ⟨rfl | rfl, h, h'⟩
  · simp only [if_true]
    rw [decide_eq_decide]
    unfold satSub
    split <;> omega
  · simp only [show ¬ ((2 : Int) = 1) by decide, if_false, if_true]
    rw [decide_eq_decide]
    omega
  · simp only [show ¬ ((3 : Int) = 1) by decide, show ¬ ((3 : Int) = 2) by decide, if_false, if_true]
theorem Sane.next {k a x clock cap W : Int} (h : Sane k a x clock cap) (hc : 0 ≤ cap) (hn0 : 0 ≤ clock) (hW : 0 ≤ W) (hb : clock + cap < 18446744073709551616) :
    Sane k (kNextA k a x clock cap W) (kNextB k a x clock cap W) clock cap ∧
      kFill k (kNextA k a x clock cap W) (kNextB k a x clock cap W) clock cap = if kOk k a x clock cap W then kFill k a x clock cap + W else kFill k a x clock cap := by
  have hok := h.ok (W := W) hc hn0 hW
  have hs := h
  obtain ⟨h1, h2, h3⟩ := h
  unfold kNextA kNextB
  cases hO : kOk k a x clock cap W with
  | false => exact ⟨hs, rfl⟩
  | true =>
    rw [hO] at hok
    have hfit : kFill k a x clock cap + W ≤ cap := by simpa using hok.symm
    simp only [if_true]
    rcases h3 with ⟨rfl, h⟩ | ⟨rfl | rfl, h, h'⟩
    · simp only [if_true]
      unfold kFill satSub at hfit ⊢
      unfold Sane satAdd
      simp only [if_true] at hfit ⊢
      refine ⟨⟨?_, ?_, Or.inl ⟨trivial, ?_⟩⟩, ?_⟩ <;> repeat' split
      all_goals (split at hfit <;> omega)
    · simp only [show ¬ ((2 : Int) = 1) by decide, if_false, if_true]
      unfold kFill satSub satAdd at hfit
      unfold Sane kFill satSub satAdd
      simp only [show ¬ ((2 : Int) = 1) by decide, if_false, if_true] at hfit ⊢
      refine ⟨⟨?_, ?_, Or.inr ⟨Or.inl trivial, ?_, ?_⟩⟩, ?_⟩ <;> repeat' split
      all_goals (repeat' split at hfit) <;> omega
    · simp only [show ¬ ((3 : Int) = 1) by decide, show ¬ ((3 : Int) = 2) by decide, if_false, if_true]
      unfold kFill satSub at hfit
      unfold Sane kFill satSub
      simp only [show ¬ ((3 : Int) = 1) by decide, show ¬ ((3 : Int) = 2) by decide, if_false, if_true] at hfit ⊢
      refine ⟨⟨?_, ?_, Or.inr ⟨Or.inr trivial, ?_, ?_⟩⟩, ?_⟩ <;> repeat' split
      all_goals (repeat' split at hfit) <;> omega
theorem Sane.of {k clock cap : Int} (hk : k = 1 ∨ k = 2 ∨ k = 3) (hc : 0 ≤ cap) (hn0 : 0 ≤ clock) (hb : clock + cap < 18446744073709551616) : Sane k (kOfA k clock cap 0) (kOfB k clock) clock cap ∧ kFill k (kOfA k clock cap 0) (kOfB k clock) clock cap = 0 := by
  unfold Sane kFill kOfA kOfB satSub satAdd
  rcases hk with rfl | rfl | rfl
  · simp only [if_true]
    refine ⟨⟨?_, ?_, Or.inl ⟨trivial, ?_⟩⟩, ?_⟩ <;> repeat' split
    all_goals omega
  · simp only [show ¬ ((2 : Int) = 1) by decide, if_false, if_true]
    refine ⟨⟨?_, ?_, Or.inr ⟨Or.inl trivial, ?_, ?_⟩⟩, ?_⟩ <;> repeat' split
    all_goals omega
  · simp only [show ¬ ((3 : Int) = 1) by decide, show ¬ ((3 : Int) = 2) by decide, if_false, if_true]
    refine ⟨⟨?_, ?_, Or.inr ⟨Or.inr trivial, ?_, ?_⟩⟩, ?_⟩ <;> repeat' split
    all_goals omega
end Go.Proofs.Ytnlmbmbalmkiiaa
