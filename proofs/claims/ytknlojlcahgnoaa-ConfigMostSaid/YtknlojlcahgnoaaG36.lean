/- Walks: Charge of any key and any rule; tollerlaw14.known. Plain laws of the kernels: how full a state is; what comes in; what is left. No program in sight. Plain laws of a table with one key. Plain laws: what one key does changes nothing of another one; tables that are alike in a key tell the same of it. Keys of choices are right keys; so is their first byte; the rules of choices are right. The memory of words.Split: what each step leaves. -/
import Derived.Test.YtknlojlcahgnoaaG30
import Derived.Test.YtknlojlcahgnoaaG23
import Derived.Test.YtknlojlcahgnoaaG0
import Derived.Test.YtknlojlcahgnoaaG4
import Derived.Test.YtknlojlcahgnoaaG3
import Derived.Test.YtknlojlcahgnoaaG26
import Derived.Test.YtknlojlcahgnoaaG18
import Derived.Test.YtknlojlcahgnoaaG5

/- Walks: Charge of any key and any rule; tollerlaw14.known. -/
namespace Go.Proofs.Ytknlojlcahgnoaa
open Go.RowKit
set_option linter.unusedVariables false
set_option linter.unusedSimpArgs false

/-- what Charge tells, and what it leaves -/
def cgV (most clock : Int) (l : SMap) (k p : ByteArray) (e b rk n : Int) : Value :=
  if keyOk k = false then ansV 5 12 0 0 0 0 0 false else if ruleErr p e b rk ≠ 0 then ansV 5 (ruleErr p e b rk) 0 0 0 0 0 false else chargeV most clock l k e b rk n
def cgL (most clock : Int) (l : SMap) (c : Nat) (k p : ByteArray) (e b rk n : Int) : SMap :=
  if keyOk k = false then l else if ruleErr p e b rk ≠ 0 then l else chargeL most clock l c k p e b rk n
def cgC (most clock : Int) (l : SMap) (c : Nat) (k p : ByteArray) (e b rk n : Int) : Nat :=
  if keyOk k = false then c else if ruleErr p e b rk ≠ 0 then c else chargeC most clock l c k p e b rk n

theorem kn_most : mostOf 1 = 1 := by decide
def kn_l : SMap := [(⟨⟨#[97]⟩, ⟨#[]⟩, 10, 2, 1, 1, 20, 0⟩, 0)]
theorem kn_v1 : cgV 1 0 [] ⟨#[97]⟩ ⟨#[]⟩ 10 2 1 2 = ansV 1 0 2 0 1 0 0 false := by kernel_rfl
theorem kn_l1 : cgL 1 0 [] 0 ⟨#[97]⟩ ⟨#[]⟩ 10 2 1 2 = kn_l := by kernel_rfl
theorem kn_c1 : cgC 1 0 [] 0 ⟨#[97]⟩ ⟨#[]⟩ 10 2 1 2 = 1 := by kernel_rfl
theorem kn_v2 : cgV 1 0 kn_l ⟨#[98]⟩ ⟨#[]⟩ 10 2 1 1 = ansV 3 0 2 0 0 0 0 false := by kernel_rfl
end Go.Proofs.Ytknlojlcahgnoaa

/- Plain laws of the kernels: how full a state is; what comes in; what is left. No program in sight. -/
namespace Go.Proofs.Ytknlojlcahgnoaa
set_option linter.unusedVariables false
set_option linter.unusedSimpArgs false

/-- a state that a kernel may have at a time -/
def Sane (k a x clock cap : Int) : Prop :=
  0 ≤ a ∧ 0 ≤ x ∧ ((k = 1 ∧ a ≤ clock + cap) ∨ ((k = 2 ∨ k = 3) ∧ x ≤ clock ∧ a ≤ cap))

theorem Sane.later {k a x clock cap now : Int} (h : Sane k a x clock cap) (hn : clock ≤ now) : Sane k a x now cap := by
  obtain ⟨h1, h2, h3⟩ := h
  refine ⟨h1, h2, ?_⟩
  omega
theorem Sane.fill_le {k a x clock cap : Int} (h : Sane k a x clock cap) (hc : 0 ≤ cap) (hn0 : 0 ≤ clock) : 0 ≤ kFill k a x clock cap ∧ kFill k a x clock cap ≤ cap := by
  obtain ⟨h1, h2, h3⟩ := h
  unfold kFill satSub satAdd
  rcases h3 with ⟨rfl, h⟩ | ⟨rfl | rfl, h, h'⟩
  · simp only [if_true]
    split <;> omega
  · simp only [show ¬ ((2 : Int) = 1) by decide, if_false, if_true]
    repeat' split
    all_goals omega
  · simp only [show ¬ ((3 : Int) = 1) by decide, show ¬ ((3 : Int) = 2) by decide, if_false, if_true]
    repeat' split
    all_goals omega
theorem Sane.fill_later {k a x clock cap now : Int} (h : Sane k a x clock cap) (hc : 0 ≤ cap) (hc1 : cap ≤ 4611686018427387904) (hn0 : 0 ≤ clock) (hn : clock ≤ now) (hn1 : now < 18446744073709551616) :
    kFill k a x now cap = satSub (kFill k a x clock cap) (now - clock) := by
  obtain ⟨h1, h2, h3⟩ := h
  unfold kFill satSub satAdd
  rcases h3 with ⟨rfl, h⟩ | ⟨rfl | rfl, h, h'⟩
  · simp only [if_true]
    repeat' split
    all_goals omega
  · simp only [show ¬ ((2 : Int) = 1) by decide, if_false, if_true]
    repeat' split
    all_goals omega
  · simp only [show ¬ ((3 : Int) = 1) by decide, show ¬ ((3 : Int) = 2) by decide, if_false, if_true]
    repeat' split
    all_goals omega
theorem Sane.ok {k a x clock cap W : Int} (h : Sane k a x clock cap) (hc : 0 ≤ cap) (hn0 : 0 ≤ clock) (hW : 0 ≤ W) : kOk k a x clock cap W = decide (kFill k a x clock cap + W ≤ cap) := by
  obtain ⟨h1, h2, h3⟩ := h
  unfold kOk kFill fitsB
  rcases h3 with ⟨rfl, h⟩ | ⟨rfl | rfl, h, h'⟩
  · simp only [if_true]
    rw [decide_eq_decide]
    unfold satSub
    split <;> omega
  · simp only [show ¬ ((2 : Int) = 1) by decide, if_false, if_true]
    rw [decide_eq_decide]
    omega
  · simp only [show ¬ ((3 : Int) = 1) by decide, show ¬ ((3 : Int) = 2) by decide, if_false, if_true]
theorem Sane.next {k a x clock cap W : Int} (h : Sane k a x clock cap) (hc : 0 ≤ cap) (hn0 : 0 ≤ clock) (hW : 0 ≤ W) (hb : clock + cap < 18446744073709551616) :
    Sane k (kNextA k a x clock cap W) (kNextB k a x clock cap W) clock cap ∧
      kFill k (kNextA k a x clock cap W) (kNextB k a x clock cap W) clock cap = if kOk k a x clock cap W then kFill k a x clock cap + W else kFill k a x clock cap := by
  have hok := h.ok (W := W) hc hn0 hW
  have hs := h
  obtain ⟨h1, h2, h3⟩ := h
  unfold kNextA kNextB
  cases hO : kOk k a x clock cap W with
  | false => exact ⟨hs, rfl⟩
  | true =>
    rw [hO] at hok
    have hfit : kFill k a x clock cap + W ≤ cap := by simpa using hok.symm
    simp only [if_true]
    rcases h3 with ⟨rfl, h⟩ | ⟨rfl | rfl, h, h'⟩
    · simp only [if_true]
      unfold kFill satSub at hfit ⊢
      unfold Sane satAdd
      simp only [if_true] at hfit ⊢
      refine ⟨⟨?_, ?_, Or.inl ⟨trivial, ?_⟩⟩, ?_⟩ <;> repeat' split
      all_goals (split at hfit <;> omega)
    · simp only [show ¬ ((2 : Int) = 1) by decide, if_false, if_true]
      unfold kFill satSub satAdd at hfit
      unfold Sane kFill satSub satAdd
      simp only [show ¬ ((2 : Int) = 1) by decide, if_false, if_true] at hfit ⊢
      refine ⟨⟨?_, ?_, Or.inr ⟨Or.inl trivial, ?_, ?_⟩⟩, ?_⟩ <;> repeat' split
      all_goals (repeat' split at hfit) <;> omega
    · simp only [show ¬ ((3 : Int) = 1) by decide, show ¬ ((3 : Int) = 2) by decide, if_false, if_true]
      unfold kFill satSub at hfit
      unfold Sane kFill satSub
      simp only [show ¬ ((3 : Int) = 1) by decide, show ¬ ((3 : Int) = 2) by decide, if_false, if_true] at hfit ⊢
      refine ⟨⟨?_, ?_, Or.inr ⟨Or.inr trivial, ?_, ?_⟩⟩, ?_⟩ <;> repeat' split
      all_goals (repeat' split at hfit) <;> omega
theorem Sane.of {k clock cap : Int} (hk : k = 1 ∨ k = 2 ∨ k = 3) (hc : 0 ≤ cap) (hn0 : 0 ≤ clock) (hb : clock + cap < 18446744073709551616) : Sane k (kOfA k clock cap 0) (kOfB k clock) clock cap ∧ kFill k (kOfA k clock cap 0) (kOfB k clock) clock cap = 0 := by
  unfold Sane kFill kOfA kOfB satSub satAdd
  rcases hk with rfl | rfl | rfl
  · simp only [if_true]
    refine ⟨⟨?_, ?_, Or.inl ⟨trivial, ?_⟩⟩, ?_⟩ <;> repeat' split
    all_goals omega
  · simp only [show ¬ ((2 : Int) = 1) by decide, if_false, if_true]
    refine ⟨⟨?_, ?_, Or.inr ⟨Or.inl trivial, ?_, ?_⟩⟩, ?_⟩ <;> repeat' split
    all_goals omega
  · simp only [show ¬ ((3 : Int) = 1) by decide, show ¬ ((3 : Int) = 2) by decide, if_false, if_true]
    refine ⟨⟨?_, ?_, Or.inr ⟨Or.inr trivial, ?_, ?_⟩⟩, ?_⟩ <;> repeat' split
    all_goals omega
end Go.Proofs.Ytknlojlcahgnoaa

/- Plain laws of a table with one key. -/
namespace Go.Proofs.Ytknlojlcahgnoaa
set_option linter.unusedVariables false
set_option linter.unusedSimpArgs false

/-- a table that has one key at most, by one rule -/
structure OneAt (l : SMap) (c : Nat) (name p : ByteArray) (e b rk clock : Int) : Prop where
  ok : TabOk l c
  len : l.length ≤ 1
  all : ∀ x ∈ l, x.1.key = name ∧ x.1.p = p ∧ x.1.e = e ∧ x.1.b = b ∧ x.1.rk = rk ∧ Sane x.1.sk x.1.sa x.1.sb clock (e * b)
theorem OneAt.nil (c : Nat) (name p : ByteArray) (e b rk clock : Int) : OneAt [] c name p e b rk clock := ⟨TabOk.nil c, by simp, fun x h => (by cases h)⟩
/-- how full the key is -/
def vfill (l : SMap) (name : ByteArray) (clock cap : Int) : Int := match l.look name with | some s => kFill s.sk s.sa s.sb clock cap | none => 0
theorem vfill_none {l : SMap} {name : ByteArray} {clock cap : Int} (h : l.look name = none) : vfill l name clock cap = 0 := by unfold vfill; rw [h]
theorem vfill_some {l : SMap} {name : ByteArray} {clock cap : Int} {s : Slot} (h : l.look name = some s) : vfill l name clock cap = kFill s.sk s.sa s.sb clock cap := by unfold vfill; rw [h]

theorem OneAt.look {l : SMap} {c : Nat} {name p : ByteArray} {e b rk clock : Int} (h : OneAt l c name p e b rk clock) {s : Slot} (hl : l.look name = some s) : s.key = name ∧ s.p = p ∧ s.e = e ∧ s.b = b ∧ s.rk = rk ∧ Sane s.sk s.sa s.sb clock (e * b) := by
  obtain ⟨n, hn⟩ := look_mem hl
  exact h.all _ hn
theorem OneAt.vfill_le {l : SMap} {c : Nat} {name p : ByteArray} {e b rk clock : Int} (h : OneAt l c name p e b rk clock) (hc : 0 ≤ e * b) (hn0 : 0 ≤ clock) : 0 ≤ vfill l name clock (e * b) ∧ vfill l name clock (e * b) ≤ e * b := by
  cases hl : l.look name with
  | none => rw [vfill_none hl]; omega
  | some s => rw [vfill_some hl]; exact (h.look hl).2.2.2.2.2.fill_le hc hn0
theorem OneAt.later {l : SMap} {c : Nat} {name p : ByteArray} {e b rk clock now : Int} (h : OneAt l c name p e b rk clock) (hn : clock ≤ now) : OneAt l c name p e b rk now :=
  ⟨h.ok, h.len, fun x hx => by obtain ⟨a1, a2, a3, a4, a5, a6⟩ := h.all x hx; exact ⟨a1, a2, a3, a4, a5, a6.later hn⟩⟩
theorem OneAt.vfill_later {l : SMap} {c : Nat} {name p : ByteArray} {e b rk clock now : Int} (h : OneAt l c name p e b rk clock) (hc : 0 ≤ e * b) (hc1 : e * b ≤ 4611686018427387904) (hn0 : 0 ≤ clock) (hn : clock ≤ now) (hn1 : now < 18446744073709551616) :
    vfill l name now (e * b) = satSub (vfill l name clock (e * b)) (now - clock) := by
  cases hl : l.look name with
  | none => rw [vfill_none hl, vfill_none hl]; unfold satSub; split <;> omega
  | some s => rw [vfill_some hl, vfill_some hl]; exact (h.look hl).2.2.2.2.2.fill_later hc hc1 hn0 hn hn1

theorem look_rep (l : SMap) (s : Slot) (h : (l.look s.key).isSome = true) : (l.rep s).look s.key = some s := by
  induction l with
  | nil => cases h
  | cons x l ih =>
    rw [look_cons] at h
    show SMap.look ((if x.1.key = s.key then (s, x.2) else x) :: SMap.rep l s) s.key = some s
    by_cases hx : x.1.key = s.key
    · rw [if_pos hx, look_cons]; exact if_pos rfl
    · rw [if_neg hx, look_cons, if_neg hx]
      rw [if_neg hx] at h
      exact ih h
theorem look_append (l m : SMap) (k : ByteArray) (h : l.look k = none) : SMap.look (l ++ m) k = m.look k := by
  induction l with
  | nil => rfl
  | cons x l ih =>
    rw [look_cons] at h
    by_cases hx : x.1.key = k
    · rw [if_pos hx] at h; cases h
    · rw [if_neg hx] at h
      rw [List.cons_append, look_cons, if_neg hx]
      exact ih h
theorem look_put (l : SMap) (s : Slot) (c : Nat) : (l.put s c).look s.key = some s := by
  unfold SMap.put
  split
  · rename_i h; exact look_rep l s h
  · rename_i h
    have hn : l.look s.key = none := by
      cases e : l.look s.key with
      | none => rfl
      | some _ => rw [e] at h; exact absurd rfl h
    rw [look_append l _ _ hn, look_cons]
    exact if_pos rfl
theorem look_del (l : SMap) (k : ByteArray) : (l.del k).look k = none := by
  rw [look_none]
  intro x hx
  have := (List.mem_filter.1 hx).2
  simpa using this

theorem room_small {clock most : Int} {l : SMap} {is : Bool} (h : (l.length : Int) < most) : roomed clock l is most = l ∧ full clock l is most = false := by
  have h1 : roomed clock l is most = l := by unfold roomed; rw [if_neg]; omega
  refine ⟨h1, ?_⟩
  unfold full
  rw [h1, decide_eq_false (by omega), Bool.and_false]
theorem slotLeft_len (l : SMap) (k : ByteArray) (e b clock : Int) : (slotLeft l k e b clock).length ≤ l.length := by
  unfold slotLeft
  split
  · exact Nat.le_refl _
  · exact List.length_filter_le _ _

/-- the state that is charged -/
theorem one_state {l : SMap} {c : Nat} {name p : ByteArray} {e b rk clock : Int} (h : OneAt l c name p e b rk clock) (hr : ruleErr p e b rk = 0) (hn0 : 0 ≤ clock) (hb : clock + e * b < 18446744073709551616) :
    let hit := slotHit l name e b clock
    Sane (chK hit rk) (chA hit rk clock (e * b)) (chB hit rk clock) clock (e * b) ∧ kFill (chK hit rk) (chA hit rk clock (e * b)) (chB hit rk clock) clock (e * b) = vfill l name clock (e * b) ∧
      vfill (slotLeft l name e b clock) name clock (e * b) = vfill l name clock (e * b) := by
  obtain ⟨-, he, hbb, -, hrk⟩ := ruleErr_zero hr
  have hc : 0 ≤ e * b := Int.mul_nonneg (by omega) (by omega)
  have hk : rk = 1 ∨ rk = 2 ∨ rk = 3 := by unfold rightKind at hrk; simp at hrk; omega
  have hof := Sane.of hk hc hn0 hb
  have hcap : ruleCap p e b rk = e * b := by unfold ruleCap; exact if_pos hr
  cases hl : l.look name with
  | none =>
    have hh : slotHit l name e b clock = none := by unfold slotHit; rw [hl]; rfl
    have hd : slotLeft l name e b clock = l := by unfold slotLeft; rw [hh]; exact del_none (look_none.1 hl)
    rw [hh, hd]
    exact ⟨hof.1, hof.2.trans (vfill_none hl).symm, rfl⟩
  | some s =>
    have hs := h.look hl
    have hfl : s.fill clock = vfill l name clock (e * b) := by
      rw [vfill_some hl]
      unfold Slot.fill Slot.cap
      rw [hs.2.1, hs.2.2.1, hs.2.2.2.1, hs.2.2.2.2.1, hcap]
    by_cases hz : vfill l name clock (e * b) = 0
    · have hh : slotHit l name e b clock = none := by
        unfold slotHit; rw [hl]
        exact if_neg (by show ¬ (s.e == e && s.b == b && !(s.fill clock == 0)) = true; rw [hfl, hz]; simp)
      have hd : slotLeft l name e b clock = l.del name := by unfold slotLeft; rw [hh]; rfl
      rw [hh, hd]
      exact ⟨hof.1, hof.2.trans hz.symm, (vfill_none (look_del l name)).trans hz.symm⟩
    · have hh : slotHit l name e b clock = some s := by
        unfold slotHit; rw [hl]
        exact if_pos (by show (s.e == e && s.b == b && !(s.fill clock == 0)) = true; rw [hs.2.2.1, hs.2.2.2.1, hfl]; simpa using hz)
      have hd : slotLeft l name e b clock = l := by unfold slotLeft; rw [hh]; rfl
      rw [hh, hd]
      exact ⟨hs.2.2.2.2.2, (vfill_some hl).symm, rfl⟩

/-- a charge of the one key -/
theorem charge_one {l : SMap} {c : Nat} {name p : ByteArray} {e b rk clock n : Int} (h : OneAt l c name p e b rk clock) (hko : keyOk name = true) (hr : ruleErr p e b rk = 0) (hm : name.size ≤ maxLen) (hp : p.size ≤ maxLen) (he1 : e < 18446744073709551616) (hb1 : b < 18446744073709551616)
    (hn0 : 0 ≤ clock) (hb : clock + e * b < 18446744073709551616) (hw0 : 0 ≤ n) (f W : Int) (hf : vfill l name clock (e * b) = f) (hW : satMul n e = W) :
    (∃ left reset, cgV 9 clock l name p e b rk n = ansV (chCode (decide (f + W ≤ e * b))) 0 b left reset (ceilS (kWait f (e * b) W) 1000000000) (kWait f (e * b) W) (kRetry f (e * b) W)) ∧
      OneAt (cgL 9 clock l c name p e b rk n) (cgC 9 clock l c name p e b rk n) name p e b rk clock ∧
      vfill (cgL 9 clock l c name p e b rk n) name clock (e * b) = if f + W ≤ e * b then f + W else f := by
  obtain ⟨-, he, hbb, -, hrk⟩ := ruleErr_zero hr
  have hrk' : 1 ≤ rk ∧ rk ≤ 3 := by unfold rightKind at hrk; simpa using hrk
  have hrk0 : 0 ≤ rk := by omega
  have hrk1 : rk < 256 := by omega
  have hc : 0 ≤ e * b := Int.mul_nonneg (by omega) (by omega)
  have hWu := satMul_u n e hw0 (by omega)
  rw [hW] at hWu
  obtain ⟨hs, hk1, hk2⟩ := one_state h hr hn0 hb
  have hsl := slotLeft_len l name e b clock
  have hlen := h.len
  have hl1 : ∀ x ∈ slotLeft l name e b clock, x ∈ l := by
    unfold slotLeft
    split
    · exact fun x hx => hx
    · exact fun x hx => (List.mem_filter.1 hx).1
  have hro := room_small (clock := clock) (most := 9) (is := (slotHit l name e b clock).isSome) (l := slotLeft l name e b clock) (by omega)
  have hok : kOk (chK (slotHit l name e b clock) rk) (chA (slotHit l name e b clock) rk clock (e * b)) (chB (slotHit l name e b clock) rk clock) clock (e * b) W = decide (f + W ≤ e * b) := by
    rw [hs.ok hc hn0 hWu.1, hk1, hf]
  have hnx := hs.next (W := W) hc hn0 hWu.1 hb
  rw [hok, hk1, hf] at hnx
  have hkn : ¬ keyOk name = false := by rw [hko]; decide
  have hrn : ¬ ruleErr p e b rk ≠ 0 := fun q => q hr
  have hnf : ¬ chFull 9 clock l name e b = true := by unfold chFull; rw [hro.2]; decide
  unfold cgV cgL cgC
  rw [if_neg hkn, if_neg hkn, if_neg hkn, if_neg hrn, if_neg hrn, if_neg hrn]
  have hgo : chgOk clock (slotHit l name e b clock) e b rk n = decide (f + W ≤ e * b) := by unfold chgOk; rw [hW]; exact hok
  have hrm : chRoom 9 clock l name e b = slotLeft l name e b clock := by unfold chRoom; exact hro.1
  have hval : ∃ left reset, chargeV 9 clock l name e b rk n = ansV (chCode (decide (f + W ≤ e * b))) 0 b left reset (ceilS (kWait f (e * b) W) 1000000000) (kWait f (e * b) W) (kRetry f (e * b) W) := by
    unfold chargeV
    rw [if_neg hnf]
    unfold chgV chAns
    rw [hW, hok, hk1, hf]
    exact ⟨_, _, rfl⟩
  refine ⟨hval, ?_⟩
  unfold chargeL chargeC
  rw [if_neg hnf, if_neg hnf, hgo, hrm]
  generalize hS : chgS clock (slotHit l name e b clock) name p e b rk n = S
  have hSv : S = ⟨name, p, e, b, rk, chK (slotHit l name e b clock) rk, kNextA (chK (slotHit l name e b clock) rk) (chA (slotHit l name e b clock) rk clock (e * b)) (chB (slotHit l name e b clock) rk clock) clock (e * b) W, kNextB (chK (slotHit l name e b clock) rk) (chA (slotHit l name e b clock) rk clock (e * b)) (chB (slotHit l name e b clock) rk clock) clock (e * b) W⟩ := by
    rw [← hS]; unfold chgS chSlot; rw [hW]
  have hok1 : TabOk (slotLeft l name e b clock) c := by
    unfold slotLeft; split
    · exact h.ok
    · exact h.ok.del name
  by_cases hfit : f + W ≤ e * b
  · rw [decide_eq_true hfit, if_pos hfit] at *
    rw [if_pos rfl] at hnx
    have hku : 0 ≤ chK (slotHit l name e b clock) rk ∧ chK (slotHit l name e b clock) rk < 256 := by
      obtain ⟨-, -, q⟩ := hs
      omega
    have hcu : e * b < 18446744073709551616 := by omega
    have hsx : (chA (slotHit l name e b clock) rk clock (e * b)) < 18446744073709551616 ∧ chB (slotHit l name e b clock) rk clock < 18446744073709551616 := by
      cases hh : slotHit l name e b clock with
      | none =>
        have := kOf_u rk clock (e * b) 0 hn0 (by omega) hc hcu (by omega) (by omega)
        exact ⟨this.2.1, this.2.2.2⟩
      | some s =>
        have hls : l.look name = some s := by
          unfold slotHit at hh
          cases hl : l.look name with
          | none => rw [hl] at hh; cases hh
          | some s' =>
            rw [hl] at hh
            simp only [Option.filter] at hh
            split at hh
            · exact hh
            · cases hh
        have := look_ok h.ok hls
        exact ⟨this.sa1, this.sb1⟩
    have hnu := kNext_u (chK (slotHit l name e b clock) rk) (chA (slotHit l name e b clock) rk clock (e * b)) (chB (slotHit l name e b clock) rk clock) clock (e * b) W hs.1 hsx.1 hs.2.1 hsx.2 hn0 (by omega) hc hcu hWu.1 hWu.2
    have hso : SlotOk S := by
      rw [hSv]
      exact ⟨hm, hp, Int.le_of_lt he, he1, Int.le_of_lt hbb, hb1, hrk0, hrk1, hku.1, hku.2, hnu.1, hnu.2.1, hnu.2.2.1, hnu.2.2.2⟩
    have hkey : S.key = name := by rw [hSv]
    show OneAt ((slotLeft l name e b clock).put S c) ((slotLeft l name e b clock).putC S c) name p e b rk clock ∧ vfill ((slotLeft l name e b clock).put S c) name clock (e * b) = f + W
    refine ⟨⟨hok1.put hso, ?_, ?_⟩, ?_⟩
    · unfold SMap.put
      split
      · unfold SMap.rep; rw [List.length_map]; omega
      · rename_i hq
        have hempty : slotLeft l name e b clock = [] := by
          cases hcs : slotLeft l name e b clock with
          | nil => rfl
          | cons x t =>
            exfalso
            apply hq
            have hx : x ∈ slotLeft l name e b clock := by rw [hcs]; exact List.mem_cons_self ..
            have := (h.all x (hl1 x hx)).1
            rw [hcs, look_cons, if_pos (by rw [this, hkey])]
            rfl
        rw [hempty]; simp
    · have hSall : S.key = name ∧ S.p = p ∧ S.e = e ∧ S.b = b ∧ S.rk = rk ∧ Sane S.sk S.sa S.sb clock (e * b) := by
        rw [hSv]; exact ⟨rfl, rfl, rfl, rfl, rfl, hnx.1⟩
      intro x hx
      unfold SMap.put at hx
      split at hx
      · obtain ⟨y, hy, rfl⟩ := List.mem_map.1 hx
        split
        · exact hSall
        · exact h.all y (hl1 y hy)
      · rcases List.mem_append.1 hx with hx | hx
        · exact h.all x (hl1 x hx)
        · obtain rfl := List.mem_singleton.1 hx; exact hSall
    · have := look_put (slotLeft l name e b clock) S c
      rw [hkey] at this
      rw [vfill_some this, hSv]
      exact hnx.2
  · rw [decide_eq_false hfit, if_neg hfit] at *
    show OneAt (slotLeft l name e b clock) c name p e b rk clock ∧ vfill (slotLeft l name e b clock) name clock (e * b) = f
    exact ⟨⟨hok1, by omega, fun x hx => h.all x (hl1 x hx)⟩, hk2.trans hf⟩
end Go.Proofs.Ytknlojlcahgnoaa

/- Plain laws: what one key does changes nothing of another one; tables that are alike in a key tell the same of it. -/
namespace Go.Proofs.Ytknlojlcahgnoaa
set_option linter.unusedVariables false
set_option linter.unusedSimpArgs false

theorem look_del_ne (l : SMap) {k q : ByteArray} (h : k ≠ q) : (l.del k).look q = l.look q := by
  induction l with
  | nil => rfl
  | cons x l ih =>
    show SMap.look (List.filter _ (x :: l)) q = _
    rw [List.filter_cons]
    by_cases hx : x.1.key = k
    · rw [if_neg (by simpa using hx), look_cons, if_neg (by rw [hx]; exact h)]; exact ih
    · rw [if_pos (by simpa using hx), look_cons, look_cons]
      split
      · rfl
      · exact ih
theorem look_rep_ne (l : SMap) {s : Slot} {q : ByteArray} (h : s.key ≠ q) : (l.rep s).look q = l.look q := by
  induction l with
  | nil => rfl
  | cons x l ih =>
    show SMap.look ((if x.1.key = s.key then (s, x.2) else x) :: SMap.rep l s) q = _
    by_cases hx : x.1.key = s.key
    · rw [if_pos hx, look_cons, if_neg h, look_cons, if_neg (by rw [hx]; exact h)]; exact ih
    · rw [if_neg hx, look_cons, look_cons]
      split
      · rfl
      · exact ih
theorem look_append_ne (l : SMap) {s : Slot} {c : Nat} {q : ByteArray} (h : s.key ≠ q) : SMap.look (l ++ [(s, c)]) q = l.look q := by
  induction l with
  | nil => rw [List.nil_append, look_cons, if_neg h]
  | cons x l ih =>
    rw [List.cons_append, look_cons, look_cons]
    split
    · rfl
    · exact ih
theorem look_put_ne (l : SMap) {s : Slot} (c : Nat) {q : ByteArray} (h : s.key ≠ q) : (l.put s c).look q = l.look q := by
  unfold SMap.put
  split
  · exact look_rep_ne l h
  · exact look_append_ne l h
theorem put_len (l : SMap) (s : Slot) (c : Nat) : (l.put s c).length ≤ l.length + 1 := by
  unfold SMap.put
  split
  · unfold SMap.rep; rw [List.length_map]; omega
  · rw [List.length_append]; simp
theorem slotLeft_ne (l : SMap) {k q : ByteArray} (e b clock : Int) (h : k ≠ q) : (slotLeft l k e b clock).look q = l.look q := by
  unfold slotLeft
  split
  · rfl
  · exact look_del_ne l h

/-- there is room -/
theorem ch_room {most clock : Int} {l : SMap} {k : ByteArray} {e b : Int} (h : (l.length : Int) < most) : chRoom most clock l k e b = slotLeft l k e b clock ∧ ¬ chFull most clock l k e b = true := by
  have hsl := slotLeft_len l k e b clock
  have := room_small (clock := clock) (most := most) (is := (slotHit l k e b clock).isSome) (l := slotLeft l k e b clock) (by omega)
  refine ⟨this.1, ?_⟩
  unfold chFull
  rw [this.2]
  decide
theorem cgL_len {most clock : Int} {l : SMap} (c : Nat) (k p : ByteArray) (e b rk n : Int) (h : (l.length : Int) < most) : (cgL most clock l c k p e b rk n).length ≤ l.length + 1 := by
  obtain ⟨h1, h2⟩ := ch_room (clock := clock) (k := k) (e := e) (b := b) h
  have hsl := slotLeft_len l k e b clock
  unfold cgL
  split
  · omega
  · split
    · omega
    · unfold chargeL
      rw [if_neg h2, h1]
      unfold chL
      split
      · have := put_len (slotLeft l k e b clock) (chgS clock (slotHit l k e b clock) k p e b rk n) c
        omega
      · omega
/-- another key -/
theorem cgL_ne {most clock : Int} {l : SMap} (c : Nat) (k p : ByteArray) (e b rk n : Int) {q : ByteArray} (hq : k ≠ q) (h : (l.length : Int) < most) : (cgL most clock l c k p e b rk n).look q = l.look q := by
  obtain ⟨h1, h2⟩ := ch_room (clock := clock) (k := k) (e := e) (b := b) h
  unfold cgL
  split
  · rfl
  · split
    · rfl
    · unfold chargeL
      rw [if_neg h2, h1]
      unfold chL
      split
      · rw [look_put_ne _ _ (show (chgS clock (slotHit l k e b clock) k p e b rk n).key ≠ q from hq)]
        exact slotLeft_ne l e b clock hq
      · exact slotLeft_ne l e b clock hq
/-- the same key of two tables -/
theorem cg_same {most clock : Int} {l l' : SMap} (c c' : Nat) (k p : ByteArray) (e b rk n : Int) (hq : l.look k = l'.look k) (h : (l.length : Int) < most) (h' : (l'.length : Int) < most) :
    cgV most clock l' k p e b rk n = cgV most clock l k p e b rk n ∧ (cgL most clock l c k p e b rk n).look k = (cgL most clock l' c' k p e b rk n).look k := by
  obtain ⟨h1, h2⟩ := ch_room (clock := clock) (k := k) (e := e) (b := b) h
  obtain ⟨h3, h4⟩ := ch_room (clock := clock) (k := k) (e := e) (b := b) h'
  have hh : slotHit l k e b clock = slotHit l' k e b clock := by unfold slotHit; rw [hq]
  unfold cgV cgL
  constructor
  · split
    · rfl
    · split
      · rfl
      · unfold chargeV; rw [if_neg h2, if_neg h4, hh]
  · split
    · exact hq
    · split
      · exact hq
      · unfold chargeL
        rw [if_neg h2, if_neg h4, h1, h3, hh]
        unfold chL
        split
        · have hk : (chgS clock (slotHit l' k e b clock) k p e b rk n).key = k := rfl
          have a1 := look_put (slotLeft l k e b clock) (chgS clock (slotHit l' k e b clock) k p e b rk n) c
          have a2 := look_put (slotLeft l' k e b clock) (chgS clock (slotHit l' k e b clock) k p e b rk n) c'
          rw [hk] at a1 a2
          rw [a1, a2]
        · unfold slotLeft
          rw [hh]
          split
          · exact hq
          · rw [look_del, look_del]
/-- an answer's shape -/
theorem cgV_form (most clock : Int) (l : SMap) (k p : ByteArray) (e b rk n : Int) : ∃ (code err limit left reset aft nan : Int) (ret : Bool), cgV most clock l k p e b rk n = ansV code err limit left reset aft nan ret := by
  unfold cgV
  split
  · exact ⟨_, _, _, _, _, _, _, _, rfl⟩
  · split
    · exact ⟨_, _, _, _, _, _, _, _, rfl⟩
    · unfold chargeV
      split
      · exact ⟨_, _, _, _, _, _, _, _, rfl⟩
      · exact ⟨_, _, _, _, _, _, _, _, rfl⟩
theorem xkey_ne (s : ByteArray) : (⟨#[120]⟩ : ByteArray) ++ s ≠ ⟨#[121]⟩ := by
  intro h
  have := congrArg (fun x : ByteArray => x.data.toList) h
  simp [ByteArray.data_append] at this
end Go.Proofs.Ytknlojlcahgnoaa

/- Keys of choices are right keys; so is their first byte; the rules of choices are right. -/
namespace Go.Proofs.Ytknlojlcahgnoaa
open Go.RowKit
set_option linter.unusedVariables false
set_option linter.unusedSimpArgs false

theorem pieceOf_ok (n : Nat) : noBad (pieceOf n).data.toList = true := by
  unfold pieceOf
  repeat' split
  all_goals decide
theorem noBad_append (a b : List UInt8) : noBad (a ++ b) = (noBad a && noBad b) := by simp [noBad]
theorem keyCat_ok : ∀ (m : Nat) (l : List UInt8), l.length = m → noBad (keyCat l).data.toList = true := by
  intro m
  induction m with
  | zero => intro l h; obtain rfl := List.eq_nil_of_length_eq_zero h; decide
  | succ m ih =>
    intro l h
    have hne : l ≠ [] := by intro e; subst e; simp at h
    rw [← List.dropLast_concat_getLast hne, keyCat_snoc, ByteArray.data_append, Array.toList_append, noBad_append, ih l.dropLast (by rw [List.length_dropLast]; omega), pieceOf_ok]
    rfl
theorem keyText_ok (l : List UInt8) : keyOk (keyText l) = true ∧ (keyText l).size ≤ 12 := by
  unfold keyText
  split
  · decide
  · rename_i h
    have h2 := keyCat_size (l.take 6)
    rw [List.length_take] at h2
    have h3 := keyCat_ok _ (l.take 6) rfl
    refine ⟨?_, by omega⟩
    unfold keyOk
    rw [h3]
    simp
    omega
/-- the first byte of a text -/
def first1 (s : ByteArray) : ByteArray := s.extract 0 1
theorem first1_ok {s : ByteArray} (h : keyOk s = true) : keyOk (first1 s) = true ∧ (first1 s).size = 1 := by
  unfold keyOk at h
  simp only [Bool.and_eq_true, decide_eq_true_eq] at h
  obtain ⟨⟨h1, h2⟩, h3⟩ := h
  have hsz : (first1 s).size = 1 := by unfold first1; rw [ByteArray.size_extract]; omega
  refine ⟨?_, hsz⟩
  unfold keyOk
  rw [hsz]
  have hd : (first1 s).data.toList = s.data.toList.take 1 := by
    unfold first1
    rw [ByteArray.data_extract]
    simp [Array.toList_extract]
  rw [hd]
  have : noBad (s.data.toList.take 1) = true := by
    unfold noBad at h3 ⊢
    rw [List.all_eq_true] at h3 ⊢
    intro x hx
    exact h3 x (List.mem_of_mem_take hx)
  rw [this]
  rfl

theorem rule_ok {j : Int} (h0 : 0 ≤ j) (h1 : j < 250) : ruleErr (rP j) (rE j) (rB j) (rK j) = 0 ∧ rE j < 18446744073709551616 ∧ rB j < 18446744073709551616 ∧ 0 < rE j ∧ 0 < rB j ∧ rE j * rB j ≤ 4611686018427387904 ∧ (rP j).size ≤ maxLen ∧ rE j ≤ 3000000000 := by
  have hk : rK j = 1 ∨ rK j = 2 ∨ rK j = 3 := by unfold rK; omega
  unfold rP rE rB
  rw [if_neg (by omega : ¬ 250 ≤ j)]
  rcases (by omega : j % 6 = 0 ∨ j % 6 = 1 ∨ j % 6 = 2 ∨ j % 6 = 3 ∨ j % 6 = 4 ∨ j % 6 = 5) with h | h | h | h | h | h <;> rw [h] <;> rcases hk with q | q | q <;> rw [q] <;> decide
theorem rule_bounds {j : Int} (h0 : 0 ≤ j) (h1 : j < 256) : 0 ≤ rE j ∧ rE j < 18446744073709551616 ∧ 0 ≤ rB j ∧ rB j < 18446744073709551616 ∧ 0 ≤ rK j ∧ rK j < 256 ∧ (rP j).size ≤ maxLen := by
  have hk : rK j = 1 ∨ rK j = 2 ∨ rK j = 3 := by unfold rK; omega
  refine ⟨?_, ?_, ?_, ?_, by omega, by omega, ?_⟩
  · unfold rE; repeat' split
    all_goals omega
  · unfold rE; repeat' split
    all_goals omega
  · unfold rB; repeat' split
    all_goals omega
  · unfold rB; repeat' split
    all_goals omega
  · unfold rP; split <;> decide
end Go.Proofs.Ytknlojlcahgnoaa

/- The memory of words.Split: what each step leaves. -/
namespace Go.Proofs.Ytknlojlcahgnoaa
open Go.RowKit
set_option linter.unusedVariables false
set_option linter.unusedSimpArgs false

def splitE (l : List UInt8) : Int := if 1048576 < l.length then 21 else match wordsOf l with
  | .inl _ => 20
  | .inr _ => 0
def splitAt' (l : List UInt8) : Int × Int := if 1048576 < l.length then (0, 0) else match wordsOf l with
  | .inl p => ((p.1 : Int), (p.2 : Int))
  | .inr _ => (0, 0)
def splitL (l : List UInt8) : List (List Wd) := if 1048576 < l.length then [] else match wordsOf l with
  | .inl _ => []
  | .inr ls => ls

/-- a line that has been laid -/
def LineIn (base lim : Nat) (w : World) (v : Value) (ws : List Wd) : Prop :=
  ∃ g cap C, v = .slice (some ⟨g, 0, none⟩) ws.length cap ∧ base ≤ g ∧ g < lim ∧ Blk w g C 69 ∧ ∀ j (h : j < ws.length) i, i < 3 → C[j * 3 + i]? = (ws[j].cells)[i]?
theorem LineIn.extB {base lim b : Nat} {w w' : World} {v : Value} {ws : List Wd} (h : LineIn base lim w v ws) (e : ExtB b w w') (hb : b < base) : LineIn base lim w' v ws := by
  obtain ⟨g, cap, C, h1, h2, h3, h4, h5⟩ := h
  exact ⟨g, cap, C, h1, h2, h3, h4.extB e (by omega), h5⟩
theorem LineIn.fr {base lim lim' b : Nat} {w w' : World} {v : Value} {ws : List Wd} (h : LineIn base lim w v ws) (e : FrB b lim w w') (hb : b < base) : LineIn base lim w' v ws := by
  obtain ⟨g, cap, C, h1, h2, h3, h4, h5⟩ := h
  exact ⟨g, cap, C, h1, h2, h3, h4.fr e h3 (by omega), h5⟩
theorem own_type {x : World} {lim k n : Nat} {e : TypeId} {v : Value} {xs : List Value} (o : x.ownsRow lim e k v n xs) {c : Nat} {C : Array Value} {t : TypeId} (h : Blk x c C t) (ht : t ≠ e) : some c ≠ v.ownBlock := by
  obtain ⟨-, ⟨rfl, -⟩ | ⟨g', cap, cur, rfl, h2, h3, -⟩⟩ := o
  · intro q; cases q
  · intro q
    cases q
    have := (show x.heap[g']? = some (.cells C t) from h).symm.trans h3
    simp at this
    exact ht this.2
theorem own_fr {b lim base k n : Nat} {w w' : World} {e : TypeId} {v : Value} {xs : List Value} (o : w.ownsRow base e k v n xs) (hl : ∀ g, v.ownBlock = some g → g < lim) (f : FrB b lim w w') (hb : b < base) : w'.ownsRow base e k v n xs := by
  obtain ⟨h0, h | ⟨g, cap, cur, rfl, h2, h3, h4⟩⟩ := o
  · exact ⟨h0, Or.inl h⟩
  · exact ⟨h0, Or.inr ⟨g, cap, cur, rfl, h2, (f.block g (hl g rfl) (by omega)).trans h3, h4⟩⟩
/-- the memory of the walk through a text -/
structure SpMem (w : World) (B : Nat) (tv : Value) (k : Nat) (was : Int) (from_ : Nat) (rv ov : Value) (vs : List Value) (lim : Nat) (line col : Nat) (row : List Wd) (out : List (List Wd)) : Prop where
  text : Blk w B #[tv] 24
  place : Blk w (B + 1) #[.int .i64 0, .int .i64 0] 37
  out_ : Blk w (B + 2) #[ov] 57
  row_ : Blk w (B + 3) #[rv] 67
  fr : Blk w (B + 4) #[.int .i64 (from_ : Int)] 3
  kk : Blk w (B + 5) #[.int .i64 (k : Int)] 3
  pl : Blk w (B + 6) #[.complex .f64 (fl line) (fl col)] 83
  wa : Blk w (B + 7) #[.int .i64 was] 3
  rowW : WdRow lim w rv row
  outW : w.ownsRow (B + 8) 67 1 ov vs.length vs
  outN : vs.length = out.length
  lines : ∀ j (h : j < vs.length) (h' : j < out.length), LineIn (B + 8) lim w vs[j] out[j]
  outL : ∀ g, ov.ownBlock = some g → g < lim
  lim0 : B + 8 ≤ lim
  lim1 : lim ≤ w.heap.size
section
variable {w w' : World} {B : Nat} {tv rv ov : Value} {k from_ : Nat} {was : Int} {vs : List Value} {lim line col : Nat} {row : List Wd} {out : List (List Wd)}
theorem SpMem.setFrom (h : SpMem w B tv k was from_ rv ov vs lim line col row out) (f : Nat) : SpMem (w.setCell ⟨B + 4, 0, none⟩ (.int .i64 (f : Int))) B tv k was f rv ov vs lim line col row out := by
  have e : ExtB (B + 4) w (w.setCell ⟨B + 4, 0, none⟩ (.int .i64 (f : Int))) := (ExtB.refl _ w).setCell 0 _
  exact ⟨h.text.other (a := ⟨B + 4, 0, none⟩) (by dsimp only; omega) _, h.place.other (a := ⟨B + 4, 0, none⟩) (by dsimp only; omega) _, h.out_.other (a := ⟨B + 4, 0, none⟩) (by dsimp only; omega) _, h.row_.other (a := ⟨B + 4, 0, none⟩) (by dsimp only; omega) _, h.fr.set 0 _, h.kk.other (a := ⟨B + 4, 0, none⟩) (by dsimp only; omega) _, h.pl.other (a := ⟨B + 4, 0, none⟩) (by dsimp only; omega) _, h.wa.other (a := ⟨B + 4, 0, none⟩) (by dsimp only; omega) _, h.rowW.extB e (by have := h.lim0; omega), own_extB h.outW e (by omega), h.outN, fun j h1 h2 => (h.lines j h1 h2).extB e (by omega), h.outL, h.lim0, Nat.le_trans h.lim1 e.size⟩
theorem SpMem.setK (h : SpMem w B tv k was from_ rv ov vs lim line col row out) (k2 : Nat) : SpMem (w.setCell ⟨B + 5, 0, none⟩ (.int .i64 (k2 : Int))) B tv k2 was from_ rv ov vs lim line col row out := by
  have e : ExtB (B + 5) w (w.setCell ⟨B + 5, 0, none⟩ (.int .i64 (k2 : Int))) := (ExtB.refl _ w).setCell 0 _
  exact ⟨h.text.other (a := ⟨B + 5, 0, none⟩) (by dsimp only; omega) _, h.place.other (a := ⟨B + 5, 0, none⟩) (by dsimp only; omega) _, h.out_.other (a := ⟨B + 5, 0, none⟩) (by dsimp only; omega) _, h.row_.other (a := ⟨B + 5, 0, none⟩) (by dsimp only; omega) _, h.fr.other (a := ⟨B + 5, 0, none⟩) (by dsimp only; omega) _, h.kk.set 0 _, h.pl.other (a := ⟨B + 5, 0, none⟩) (by dsimp only; omega) _, h.wa.other (a := ⟨B + 5, 0, none⟩) (by dsimp only; omega) _, h.rowW.extB e (by have := h.lim0; omega), own_extB h.outW e (by omega), h.outN, fun j h1 h2 => (h.lines j h1 h2).extB e (by omega), h.outL, h.lim0, Nat.le_trans h.lim1 e.size⟩
theorem SpMem.setPl (h : SpMem w B tv k was from_ rv ov vs lim line col row out) (a b : Nat) : SpMem (w.setCell ⟨B + 6, 0, none⟩ (.complex .f64 (fl a) (fl b))) B tv k was from_ rv ov vs lim a b row out := by
  have e : ExtB (B + 6) w (w.setCell ⟨B + 6, 0, none⟩ (.complex .f64 (fl a) (fl b))) := (ExtB.refl _ w).setCell 0 _
  exact ⟨h.text.other (a := ⟨B + 6, 0, none⟩) (by dsimp only; omega) _, h.place.other (a := ⟨B + 6, 0, none⟩) (by dsimp only; omega) _, h.out_.other (a := ⟨B + 6, 0, none⟩) (by dsimp only; omega) _, h.row_.other (a := ⟨B + 6, 0, none⟩) (by dsimp only; omega) _, h.fr.other (a := ⟨B + 6, 0, none⟩) (by dsimp only; omega) _, h.kk.other (a := ⟨B + 6, 0, none⟩) (by dsimp only; omega) _, h.pl.set 0 _, h.wa.other (a := ⟨B + 6, 0, none⟩) (by dsimp only; omega) _, h.rowW.extB e (by have := h.lim0; omega), own_extB h.outW e (by omega), h.outN, fun j h1 h2 => (h.lines j h1 h2).extB e (by omega), h.outL, h.lim0, Nat.le_trans h.lim1 e.size⟩
theorem SpMem.setWas (h : SpMem w B tv k was from_ rv ov vs lim line col row out) (x : Int) : SpMem (w.setCell ⟨B + 7, 0, none⟩ (.int .i64 x)) B tv k x from_ rv ov vs lim line col row out := by
  have e : ExtB (B + 7) w (w.setCell ⟨B + 7, 0, none⟩ (.int .i64 x)) := (ExtB.refl _ w).setCell 0 _
  exact ⟨h.text.other (a := ⟨B + 7, 0, none⟩) (by dsimp only; omega) _, h.place.other (a := ⟨B + 7, 0, none⟩) (by dsimp only; omega) _, h.out_.other (a := ⟨B + 7, 0, none⟩) (by dsimp only; omega) _, h.row_.other (a := ⟨B + 7, 0, none⟩) (by dsimp only; omega) _, h.fr.other (a := ⟨B + 7, 0, none⟩) (by dsimp only; omega) _, h.kk.other (a := ⟨B + 7, 0, none⟩) (by dsimp only; omega) _, h.pl.other (a := ⟨B + 7, 0, none⟩) (by dsimp only; omega) _, h.wa.set 0 _, h.rowW.extB e (by have := h.lim0; omega), own_extB h.outW e (by omega), h.outN, fun j h1 h2 => (h.lines j h1 h2).extB e (by omega), h.outL, h.lim0, Nat.le_trans h.lim1 e.size⟩
theorem SpMem.kept (h : SpMem w B tv k was from_ rv ov vs lim line col row out) {rv' : Value} {row' : List Wd} (h1 : Blk w' (B + 3) #[rv'] 67) (h2 : WdRow lim w' rv' row') (f : FrB (B + 3) lim w w') : SpMem w' B tv k was from_ rv' ov vs lim line col row' out := by
  have hl := h.lim0
  exact ⟨h.text.fr f (by omega) (by omega), h.place.fr f (by omega) (by omega), h.out_.fr f (by omega) (by omega), h1, h.fr.fr f (by omega) (by omega), h.kk.fr f (by omega) (by omega), h.pl.fr f (by omega) (by omega), h.wa.fr f (by omega) (by omega), h2, own_fr h.outW h.outL f (by omega), h.outN, fun j q1 q2 => (h.lines j q1 q2).fr (lim' := lim) f (by omega), h.outL, h.lim0, Nat.le_trans h.lim1 f.size⟩
theorem SpMem.laidNo (h : SpMem w B tv k was from_ rv ov vs lim line col row out) (h1 : Blk w' (B + 3) #[.slice none 0 0] 67) (f : FrP (fun c => c ≠ B + 3) w w') : SpMem w' B tv k was from_ (.slice none 0 0) ov vs lim line col [] out := by
  have hl := h.lim0
  have e : ExtB (B + 3) w w' := ⟨f.os, f.tape, f.output, f.size, f.block⟩
  exact ⟨h.text.extB e (by omega), h.place.extB e (by omega), h.out_.extB e (by omega), h1, h.fr.extB e (by omega), h.kk.extB e (by omega), h.pl.extB e (by omega), h.wa.extB e (by omega), RowOf.empty _ _ _ _ _, own_extB h.outW e (by omega), h.outN, fun j q1 q2 => (h.lines j q1 q2).extB e (by omega), h.outL, h.lim0, Nat.le_trans h.lim1 f.size⟩
theorem SpMem.laid (h : SpMem w B tv k was from_ rv ov vs lim line col row out) {ov' : Value} (hrow : row ≠ []) (h1 : Blk w' (B + 3) #[.slice none 0 0] 67) (h2 : Blk w' (B + 2) #[ov'] 57) (h3 : w'.ownsRow (B + 8) 67 1 ov' (vs.length + 1) (vs ++ [rv]))
    (f : FrP (fun c => c ≠ B + 3 ∧ c ≠ B + 2 ∧ some c ≠ ov.ownBlock) w w') : SpMem w' B tv k was from_ (.slice none 0 0) ov' (vs ++ [rv]) w'.heap.size line col [] (out ++ [row]) := by
  have hl := h.lim0
  have hs := f.size
  have hl1 := h.lim1
  have blk : ∀ {c : Nat} {C : Array Value} {t : TypeId}, Blk w c C t → c ≠ B + 3 → c ≠ B + 2 → t ≠ 67 → Blk w' c C t := fun hb n1 n2 nt => hb.frP f ⟨n1, n2, own_type h.outW hb nt⟩
  have low : ∀ {c : Nat} {C : Array Value} {t : TypeId}, Blk w c C t → c ≠ B + 3 → c ≠ B + 2 → c < B + 8 → Blk w' c C t := fun hb n1 n2 nt => hb.frP f ⟨n1, n2, own_low h.outW nt⟩
  obtain ⟨-, ⟨-, h0⟩ | ⟨g, cap, cur, hg, h5, h6, h7, h8, h9, h10⟩⟩ := h.rowW.own
  · exact absurd (List.length_eq_zero_iff.1 h0) hrow
  have hg' := h.rowW.cells Wd.size3
  have h6' : Blk w g cur 69 := h6
  refine ⟨low h.text (by omega) (by omega) (by omega), low h.place (by omega) (by omega) (by omega), h2, h1, low h.fr (by omega) (by omega) (by omega), low h.kk (by omega) (by omega) (by omega), low h.pl (by omega) (by omega) (by omega), low h.wa (by omega) (by omega) (by omega), RowOf.empty _ _ _ _ _, ?_, ?_, ?_, ?_, by omega, Nat.le_refl _⟩
  · rw [List.length_append]; exact h3
  · rw [List.length_append, List.length_append, h.outN]; rfl
  · intro j q1 q2
    by_cases hj : j < vs.length
    · rw [List.getElem_append_left hj, List.getElem_append_left (by rw [← h.outN]; exact hj)]
      obtain ⟨g2, cap2, C2, e1, e2, e3, e4, e5⟩ := h.lines j hj (by rw [← h.outN]; exact hj)
      exact ⟨g2, cap2, C2, e1, e2, by omega, blk e4 (by omega) (by omega) (by decide), e5⟩
    · have hj' : j = vs.length := by rw [List.length_append] at q1; simp at q1; omega
      subst hj'
      have ho := h.outN
      rw [List.getElem_append_right (Nat.le_refl _), List.getElem_append_right (by omega)]
      simp only [Nat.sub_self, List.getElem_cons_zero, ho]
      have hlt := h6'.lt
      refine ⟨g, cap, cur, hg, by omega, by omega, blk h6' (by omega) (by omega) (by decide), fun j hj i hi => ?_⟩
      obtain ⟨b, c', hv, -, -, hq⟩ := hg' j hj
      rw [hg] at hv
      simp at hv
      have := hq i hi
      rw [← hv.1, h6'.cell] at this
      exact this
  · intro g2 hg2
    obtain ⟨-, ⟨-, h0⟩ | ⟨g3, cap3, cur3, e1, e2, e3, -⟩⟩ := h3
    · omega
    · rw [e1] at hg2
      cases hg2
      exact lt_of_block e3
/-- at the end: the lines, read -/
theorem lines_read (outW : w.ownsRow (B + 8) 67 1 ov vs.length vs) (ho : vs.length = out.length) (lines : ∀ j (h : j < vs.length) (h' : j < out.length), LineIn (B + 8) lim w vs[j] out[j]) : LinesAt w ov out := by
  obtain ⟨-, ⟨rfl, h0⟩ | ⟨g, cap, cur, rfl, h5, h6, h7, h8, h9, h10⟩⟩ := outW
  · have : out = [] := List.length_eq_zero_iff.1 (by omega)
    subst this
    exact ⟨none, 0, rfl, fun q => absurd rfl q⟩
  · refine ⟨_, cap, by rw [ho], fun _ => ⟨g, 0, rfl, fun j hj => ?_⟩⟩
    have hj' : j < vs.length := by omega
    refine ⟨vs[j], ?_, ?_⟩
    · rw [Blk.cell (show Blk w g cur 67 from h6), Nat.zero_add]
      have : (cur.toList.take (vs.length * 1))[j]? = some vs[j] := by rw [h10]; exact List.getElem?_eq_getElem hj'
      rw [List.getElem?_take_of_lt (by omega), Array.getElem?_toList] at this
      exact this
    · obtain ⟨g2, cap2, C2, e1, e2, e3, e4, e5⟩ := lines j hj' hj
      refine ⟨_, cap2, e1, fun _ => ⟨g2, 0, rfl, fun i hi m hm => ?_⟩⟩
      rw [e4.cell, Nat.zero_add]
      exact e5 i hi m hm
theorem SpMem.read (h : SpMem w B tv k was from_ rv ov vs lim line col row out) {b : Nat} (e : ExtB b w w') (hb : b < B + 8) : LinesAt w' ov out :=
  lines_read (own_extB h.outW e hb) h.outN (fun j q1 q2 => (h.lines j q1 q2).extB e hb)
end
theorem layW_len (row : List Wd) (out : List (List Wd)) : (layW row out).length ≤ out.length + 1 := by
  unfold layW
  split <;> simp
theorem keepW_len (a b : Nat) (cur : List UInt8) (row : List Wd) : (keepW a b cur row).length ≤ row.length + 1 := by
  unfold keepW
  split <;> simp
/-- the sizes of a walk through a text -/
theorem spTo_sizes (l : List UInt8) : (spTo l).line ≤ l.length + 1 ∧ (spTo l).col ≤ l.length + 1 ∧ (spTo l).cur.length < (spTo l).col ∧ (spTo l).row.length ≤ l.length ∧ (spTo l).out.length ≤ l.length := by
  induction l using list_snoc' with
  | h0 => exact ⟨by decide, by decide, by decide, by decide, by decide⟩
  | h1 l b ih =>
    obtain ⟨i1, i2, i3, i4, i5⟩ := ih
    rw [spTo_snoc, List.length_append, List.length_cons, List.length_nil]
    have hk := keepW_len (spTo l).line (spTo l).col (spTo l).cur (spTo l).row
    have hl := layW_len (spTo l).keep (spTo l).out
    unfold spStep
    split
    · refine ⟨by dsimp only; omega, by dsimp only; omega, ?_, by dsimp only; omega, by dsimp only; omega⟩
      simp only [List.length_append, List.length_cons, List.length_nil]
      omega
    · split
      · refine ⟨by dsimp only; omega, by dsimp only; omega, by simp, by simp, ?_⟩
        show (spTo l).lay.length ≤ _
        unfold SpSt.lay
        omega
      · refine ⟨by dsimp only; omega, by dsimp only; omega, by simp, ?_, by dsimp only; omega⟩
        show (spTo l).keep.length ≤ _
        unfold SpSt.keep
        omega
theorem bText_ok {l : List UInt8} (h : l ≠ []) (hl : l.length ≤ maxLen) (a b : Int) : WdOk ⟨bText l, a, b⟩ := by
  refine ⟨fun e => h ?_, by unfold bText; show l.toArray.size ≤ _; simpa using hl⟩
  have : (bText l).data.toList = (⟨#[]⟩ : ByteArray).data.toList := by rw [show bText l = _ from e]
  simpa [bText] using this
theorem keepW_ok {a b : Nat} {cur : List UInt8} {row : List Wd} (h : ∀ x ∈ row, WdOk x) (hl : cur.length ≤ maxLen) : ∀ x ∈ keepW a b cur row, WdOk x := by
  unfold keepW
  split
  · exact h
  · rename_i hc
    intro x hx
    rcases List.mem_append.1 hx with q | q
    · exact h x q
    · rw [List.mem_singleton.1 q]; exact bText_ok hc hl _ _
theorem spTo_ok (l : List UInt8) (hl : l.length ≤ 1048576) : ∀ x ∈ (spTo l).row, WdOk x := by
  induction l using list_snoc' with
  | h0 => intro x hx; cases hx
  | h1 l b ih =>
    rw [List.length_append, List.length_cons, List.length_nil] at hl
    have ih := ih (by omega)
    obtain ⟨i1, i2, i3, i4, i5⟩ := spTo_sizes l
    rw [spTo_snoc]
    unfold spStep
    split
    · exact ih
    · split
      · intro x hx; cases hx
      · have hm : (2000000 : Nat) ≤ maxLen := by decide
        exact keepW_ok ih (by omega)
end Go.Proofs.Ytknlojlcahgnoaa
