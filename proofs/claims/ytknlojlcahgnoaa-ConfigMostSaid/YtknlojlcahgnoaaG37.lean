/- Walks: prefix.New. -/
import Derived.Test.YtknlojlcahgnoaaG34
import Derived.Test.YtknlojlcahgnoaaG11

/- Walks: prefix.New. -/
namespace Go.Proofs.Ytknlojlcahgnoaa
open Go.RowKit
set_option linter.unusedVariables false
set_option linter.unusedSimpArgs false

def RlOk (r : Rl) : Prop := r.p.size ≤ maxLen ∧ 0 ≤ r.e ∧ r.e < 18446744073709551616 ∧ 0 ≤ r.b ∧ r.b < 18446744073709551616 ∧ 0 ≤ r.k ∧ r.k < 256
theorem Rl.size4 (r : Rl) : r.cells.size = 4 := rfl
abbrev RulesAt (w : World) (v : Value) (l : List Rl) : Prop := ElemsAt Rl.cells 4 w v l

theorem holds_new {root : Nat} {ns ns1 : NSet} (h1 : Trie root ns1) (hH : ∀ q r, Has ns1 q r ↔ Has ns q r) {rs : List Rl} (hh : HoldsR ns rs) {m : Nd} (hm : m ∈ ns1) {r : Rl} (hp : m.path = r.key) (hr : m.rule = none) (b : Nat) :
    HoldsR (swap1 ns1 (ruleAt m (b, r))) (rs ++ [r]) := by
  intro p r'
  have hno : firstAt rs m.path = none := by
    cases hf : firstAt rs m.path with
    | none => rfl
    | some z =>
      obtain ⟨q, hq⟩ := (hh m.path z).2 hf
      obtain ⟨x, hx, e1, e2⟩ := (hH _ _).2 hq
      obtain rfl := h1.uniq hx hm e1
      rw [hr] at e2; cases e2
  rw [firstAt_snoc]
  constructor
  · rintro ⟨q, hq⟩
    rcases (has_set h1 hm hr (b, r) p (q, r')).1 hq with hq | ⟨rfl, e⟩
    · rw [(hh p r').1 ⟨q, (hH _ _).1 hq⟩]
      simp
    · cases e
      rw [hno, hp]
      simp
  · intro hf
    cases hfp : firstAt rs p with
    | some z =>
      rw [hfp] at hf
      simp at hf
      subst hf
      obtain ⟨q, hq⟩ := (hh p z).2 hfp
      exact ⟨q, (has_set h1 hm hr (b, r) p (q, z)).2 (Or.inl ((hH _ _).2 hq))⟩
    | none =>
      rw [hfp] at hf
      by_cases hk : r.key = p
      · simp [hk] at hf
        subst hf
        exact ⟨b, (has_set h1 hm hr (b, r) p (b, r)).2 (Or.inr ⟨hk.symm.trans hp.symm, rfl⟩)⟩
      · simp [hk] at hf
theorem holds_old {root : Nat} {ns ns1 : NSet} (h1 : Trie root ns1) (hH : ∀ q r, Has ns1 q r ↔ Has ns q r) {rs : List Rl} (hh : HoldsR ns rs) {m : Nd} (hm : m ∈ ns1) {r : Rl} (hp : m.path = r.key) {q : Nat × Rl} (hr : m.rule = some q) :
    HoldsR ns1 (rs ++ [r]) := by
  have hsome : firstAt rs r.key = some q.2 := (hh _ _).1 ⟨q.1, (hH _ _).1 ⟨m, hm, hp, hr⟩⟩
  intro p r'
  rw [firstAt_snoc]
  have hx : (∃ q, Has ns1 p (q, r')) ↔ firstAt rs p = some r' := by
    rw [← hh p r']
    exact ⟨fun ⟨q, h⟩ => ⟨q, (hH _ _).1 h⟩, fun ⟨q, h⟩ => ⟨q, (hH _ _).2 h⟩⟩
  rw [hx]
  cases hfp : firstAt rs p with
  | some z => simp
  | none =>
    have : r.key ≠ p := fun e => by rw [e, hfp] at hsome; cases hsome
    simp [this]

/-- the tree of a root alone -/
def root0 (a mb : Nat) : Nd := ⟨a, mb, [], 0, none, [], 0⟩
def set0 (a mb : Nat) : NSet := fun x => x = root0 a mb
theorem trie0 (a mb : Nat) : Trie a (set0 a mb) := by
  have one : ∀ x ∈ set0 a mb, x = root0 a mb := fun x hx => hx
  refine ⟨?_, ?_, ?_, ?_, ?_, ?_, ?_, ?_⟩
  · intro m hm m' hm' _
    rw [one m hm, one m' hm']
  · intro n hn k hk
    rw [one n hn] at hk
    cases hk
  · intro n hn
    rw [one n hn]
    exact List.nodup_nil
  · intro m hm hne
    rw [one m hm] at hne
    exact absurd rfl hne
  · intro m hm _
    rw [one m hm]
    rfl
  · exact ⟨root0 a mb, rfl, rfl, rfl, rfl⟩
  · intro m hm m' hm' _
    rw [one m hm, one m' hm']
  · intro m hm hne
    rw [one m hm] at hne
    exact absurd rfl hne
theorem holds0 (a mb : Nat) : HoldsR (set0 a mb) [] := by
  intro p r
  constructor
  · rintro ⟨q, x, hx, -, e⟩
    rw [show x = root0 a mb from hx] at e
    cases e
  · intro h; cases h
theorem takeR_snoc {α : Type} (l : List α) (i : Nat) (h : i < l.length) : l.take (i + 1) = l.take i ++ [l[i]] := List.take_succ_eq_append_getElem h

end Go.Proofs.Ytknlojlcahgnoaa
