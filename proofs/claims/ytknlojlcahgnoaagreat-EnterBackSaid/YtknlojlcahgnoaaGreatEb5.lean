/- The tree of prefixes, plainly: a node split; what the tree holds. Maps: what the operations do to a block that is a map, whatever its elements. Rows read and written whole: results that lie in memory; stores of whole structs. No program in sight. Decimal digits, plainly. A region that draws its order, whose operations read, and whose callees make memory but leave what was there: one walk, in the class of all worlds that have grown. -/
import Derived.Laws.Rows
import Derived.Laws.Tables
import Derived.BigQuiet
import Derived.Test.YtknlojlcahgnoaaGreatEb1

namespace Go.Proofs.YtknlojlcahgnoaaGreat
set_option linter.unusedVariables false
set_option linter.unusedSimpArgs false

section
variable {root : Nat} {ns : NSet}

/-- a node whose kid at a byte is another one -/
def kidTo (n : Nd) (c : UInt8) (a : Nat) : Nd := { n with kids := n.kids.map fun k => if k.1 = c then (k.1, a, k.2.2) else k }
/-- the first half of a node -/
def halfOf (o : Nd) (a mb i : Nat) (d : UInt8) : Nd := ⟨a, mb, o.path.take (o.plen + i), o.plen, none, [(d, o.a, 0)], 1⟩
def restOf (o : Nd) (i : Nat) : Nd := { o with plen := o.plen + i }
def splitTo (ns : NSet) (n o : Nd) (a mb i : Nat) (c d : UInt8) : NSet := fun x => (x ∈ ns ∧ x.a ≠ n.a ∧ x.a ≠ o.a) ∨ x = kidTo n c a ∨ x = restOf o i ∨ x = halfOf o a mb i d

theorem kidTo_keys (n : Nd) (c : UInt8) (a : Nat) : (kidTo n c a).kids.map (·.1) = n.kids.map (·.1) := by
  unfold kidTo
  simp only [List.map_map]
  apply List.map_congr_left
  intro k hk
  simp only [Function.comp]
  split <;> rfl

theorem Trie.split (h : Trie root ns) {n o : Nd} (hn : n ∈ ns) (ho : o ∈ ns) {a mb i j : Nat} {c d : UInt8} (hk : (c, o.a, j) ∈ n.kids) (hi0 : 0 < i) (hi1 : o.plen + i < o.path.length) (hd : o.path[o.plen + i]? = some d)
    (ha : ∀ m ∈ ns, m.a ≠ a) (hmb : ∀ m ∈ ns, m.mb ≠ mb) : Trie root (splitTo ns n o a mb i c d) := by
  obtain ⟨o', ho', f1, f2, f3, f4⟩ := h.kid n hn _ hk
  obtain rfl := h.inj o' ho' o ho f1
  simp only at f1 f2 f3 f4
  have hne : n.a ≠ o'.a := fun e => by
    obtain rfl := h.inj n hn o' ho e
    omega
  have hna : n.a ≠ a := ha n hn
  have hoa : o'.a ≠ a := ha o' ho
  have hN : kidTo n c a ∈ splitTo ns n o' a mb i c d := Or.inr (Or.inl rfl)
  have hO : restOf o' i ∈ splitTo ns n o' a mb i c d := Or.inr (Or.inr (Or.inl rfl))
  have hH : halfOf o' a mb i d ∈ splitTo ns n o' a mb i c d := Or.inr (Or.inr (Or.inr rfl))
  -- whatever was is there, but for where o begins
  have up : ∀ x ∈ ns, ∃ y ∈ splitTo ns n o' a mb i c d, y.a = x.a ∧ y.path = x.path ∧ (x.a ≠ o'.a → y.plen = x.plen) ∧ y.mb = x.mb ∧ (x.a ≠ n.a → y.kids = x.kids) := by
    intro x hx
    by_cases e : x.a = n.a
    · obtain rfl := h.inj x hx n hn e
      exact ⟨_, hN, rfl, rfl, fun _ => rfl, rfl, fun q => absurd rfl q⟩
    · by_cases e2 : x.a = o'.a
      · obtain rfl := h.inj x hx o' ho e2
        exact ⟨_, hO, rfl, rfl, fun q => absurd rfl q, rfl, fun _ => rfl⟩
      · exact ⟨x, Or.inl ⟨hx, e, e2⟩, rfl, rfl, fun _ => rfl, rfl, fun _ => rfl⟩
  have down : ∀ y ∈ splitTo ns n o' a mb i c d, (∃ x ∈ ns, y.a = x.a ∧ y.path = x.path ∧ y.mb = x.mb ∧ (y.plen = x.plen ∨ (x = o' ∧ y.plen = x.plen + i))) ∨ y = halfOf o' a mb i d := by
    rintro y (⟨hy, _⟩ | rfl | rfl | rfl)
    · exact Or.inl ⟨y, hy, rfl, rfl, rfl, Or.inl rfl⟩
    · exact Or.inl ⟨n, hn, rfl, rfl, rfl, Or.inl rfl⟩
    · exact Or.inl ⟨o', ho, rfl, rfl, rfl, Or.inr ⟨rfl, rfl⟩⟩
    · exact Or.inr rfl
  have one : ∀ x ∈ splitTo ns n o' a mb i c d, ∀ y ∈ splitTo ns n o' a mb i c d, x.a = y.a → x = y := by
    rintro x (⟨hx, ex, ex'⟩ | rfl | rfl | rfl) y (⟨hy, ey, ey'⟩ | rfl | rfl | rfl) e
    · exact h.inj x hx y hy e
    · exact absurd e ex
    · exact absurd e ex'
    · exact absurd e (ha x hx)
    · exact absurd e.symm ey
    · rfl
    · exact absurd e hne
    · exact absurd e hna
    · exact absurd e.symm ey'
    · exact absurd e.symm hne
    · rfl
    · exact absurd e hoa
    · exact absurd e.symm (ha y hy)
    · exact absurd e.symm hna
    · exact absurd e.symm hoa
    · rfl
  -- o's parent is n alone
  have only : ∀ x ∈ ns, ∀ k ∈ x.kids, k.2.1 = o'.a → x = n ∧ k = (c, o'.a, j) := by
    intro x hx k hkx e
    obtain ⟨m, hm, g1, g2, g3, g4⟩ := h.kid x hx k hkx
    obtain rfl := h.inj m hm o' ho (g1.trans e)
    have hp : x.path = n.path := pre_eq g3 f3 (by omega)
    obtain rfl := h.uniq hx hn hp
    rw [f4] at g4
    exact ⟨rfl, nodup_map_inj (h.keys x hx) hkx hk (by simpa using g4.symm)⟩
  refine ⟨one, ?_, ?_, ?_, ?_, ?_, ?_, ?_⟩
  · have old : ∀ x ∈ ns, ∀ k ∈ x.kids, k.2.1 ≠ o'.a → ∃ m ∈ splitTo ns n o' a mb i c d, m.a = k.2.1 ∧ m.plen = x.path.length ∧ x.path <+: m.path ∧ m.path[m.plen]? = some k.1 := by
      intro x hx k hkx hq
      obtain ⟨m, hm, g1, g2, g3, g4⟩ := h.kid x hx k hkx
      obtain ⟨m', hm', e1, e2, e3, -, -⟩ := up m hm
      have e3 := e3 (fun q => hq (g1.symm.trans q))
      exact ⟨m', hm', e1.trans g1, by rw [e3, g2], by rw [e2]; exact g3, by rw [e2, e3]; exact g4⟩
    rintro y (⟨hy, hy1, hy2⟩ | rfl | rfl | rfl) k hkk
    · exact old y hy k hkk (fun q => hy1 ((only y hy k hkk q).1 ▸ rfl))
    · obtain ⟨k0, hk0, rfl⟩ := List.mem_map.1 hkk
      by_cases hc : k0.1 = c
      · rw [if_pos hc]
        refine ⟨_, hH, rfl, f2, ?_, ?_⟩
        · show n.path <+: o'.path.take (o'.plen + i)
          exact List.prefix_of_prefix_length_le f3 (List.take_prefix _ _) (by rw [List.length_take]; omega)
        · show (o'.path.take (o'.plen + i))[o'.plen]? = some k0.1
          rw [List.getElem?_take_of_lt (by omega), f4, hc]
      · rw [if_neg hc]
        refine old n hn k0 hk0 (fun q => hc ?_)
        rw [(only n hn k0 hk0 q).2]
    · refine old o' ho k hkk (fun q => ?_)
      exact hne ((only o' ho k hkk q).1 ▸ rfl)
    · obtain rfl := List.mem_singleton.1 hkk
      refine ⟨_, hO, rfl, ?_, List.take_prefix _ _, hd⟩
      show o'.plen + i = (o'.path.take (o'.plen + i)).length
      rw [List.length_take]; omega
  · rintro y (⟨hy, hy1, hy2⟩ | rfl | rfl | rfl)
    · exact h.keys y hy
    · rw [kidTo_keys]; exact h.keys n hn
    · exact h.keys o' ho
    · simp [halfOf]
  · intro y hy hyne
    rcases down y hy with ⟨x, hx, e1, e2, e3, e4⟩ | rfl
    · by_cases hxo : x.a = o'.a
      · obtain rfl := h.inj x hx o' ho hxo
        exact ⟨_, hH, (d, x.a, 0), by simp [halfOf], e1.symm⟩
      · obtain ⟨p, hp, k, hk', f⟩ := h.par x hx (by rw [← e2]; exact hyne)
        by_cases hpn : p.a = n.a
        · obtain rfl := h.inj p hp n hn hpn
          refine ⟨_, hN, k, ?_, f.trans e1.symm⟩
          refine List.mem_map.2 ⟨k, hk', ?_⟩
          rw [if_neg]
          intro hc
          have := nodup_map_inj (h.keys p hn) hk' hk hc
          rw [this] at f
          exact hxo f.symm
        · obtain ⟨p', hp', -, -, -, -, g⟩ := up p hp
          exact ⟨p', hp', k, by rw [g hpn]; exact hk', f.trans e1.symm⟩
    · refine ⟨_, hN, (c, a, j), ?_, rfl⟩
      refine List.mem_map.2 ⟨_, hk, ?_⟩
      rw [if_pos rfl]
  · intro y hy he
    rcases down y hy with ⟨x, hx, e1, e2, e3, e4⟩ | rfl
    · exact e1.trans (h.top x hx (e2.symm.trans he))
    · exfalso
      have : (halfOf o' a mb i d).path.length = 0 := by rw [he]; rfl
      simp only [halfOf, List.length_take] at this
      omega
  · obtain ⟨q, hq, e1, e2, e3⟩ := h.root
    have hqo : q.a ≠ o'.a := fun e => by
      obtain rfl := h.inj q hq o' ho e
      rw [e2] at hi1
      simp at hi1
    obtain ⟨q', hq', g1, g2, g3, -, -⟩ := up q hq
    exact ⟨q', hq', g1.trans e1, g2.trans e2, (g3 hqo).trans e3⟩
  · intro x hx y hy e
    rcases down x hx with ⟨x', hx', a1, -, a4, -⟩ | rfl <;> rcases down y hy with ⟨y', hy', b1, -, b4, -⟩ | rfl
    · have := h.map x' hx' y' hy' (a4.symm.trans (e.trans b4))
      exact one x hx y hy (a1.trans (this ▸ b1.symm))
    · exact absurd (a4.symm.trans e) (hmb x' hx')
    · exact absurd (b4.symm.trans e.symm) (hmb y' hy')
    · rfl
  · intro y hy he
    rcases down y hy with ⟨x, hx, e1, e2, e3, e4⟩ | rfl
    · rcases e4 with e4 | ⟨rfl, e4⟩
      · rw [e2, e4]; exact h.nz x hx (e2 ▸ he)
      · rw [e2, e4]; exact hi1
    · show o'.plen < (o'.path.take (o'.plen + i)).length
      rw [List.length_take]; omega

/-- a rule lies at some bytes -/
def Has (ns : NSet) (p : List UInt8) (r : Nat × Rl) : Prop := ∃ x ∈ ns, x.path = p ∧ x.rule = some r
theorem has_leaf (h : Trie root ns) {n : Nd} (hn : n ∈ ns) {a mb : Nat} {c : UInt8} {s : List UInt8} (p : List UInt8) (r : Nat × Rl) : Has (growLeaf ns n a mb c s) p r ↔ Has ns p r := by
  constructor
  · rintro ⟨x, ⟨hx, _⟩ | rfl | rfl, e1, e2⟩
    · exact ⟨x, hx, e1, e2⟩
    · exact ⟨n, hn, e1, e2⟩
    · cases e2
  · rintro ⟨x, hx, e1, e2⟩
    by_cases e : x.a = n.a
    · obtain rfl := h.inj x hx n hn e
      exact ⟨kidAt x c a, Or.inr (Or.inl rfl), e1, e2⟩
    · exact ⟨x, Or.inl ⟨hx, e⟩, e1, e2⟩
theorem has_split (h : Trie root ns) {n o : Nd} (hn : n ∈ ns) (ho : o ∈ ns) {a mb i : Nat} {c d : UInt8} (p : List UInt8) (r : Nat × Rl) : Has (splitTo ns n o a mb i c d) p r ↔ Has ns p r := by
  constructor
  · rintro ⟨x, ⟨hx, _⟩ | rfl | rfl | rfl, e1, e2⟩
    · exact ⟨x, hx, e1, e2⟩
    · exact ⟨n, hn, e1, e2⟩
    · exact ⟨o, ho, e1, e2⟩
    · cases e2
  · rintro ⟨x, hx, e1, e2⟩
    by_cases e : x.a = n.a
    · obtain rfl := h.inj x hx n hn e
      exact ⟨kidTo x c a, Or.inr (Or.inl rfl), e1, e2⟩
    · by_cases e' : x.a = o.a
      · obtain rfl := h.inj x hx o ho e'
        exact ⟨restOf x i, Or.inr (Or.inr (Or.inl rfl)), e1, e2⟩
      · exact ⟨x, Or.inl ⟨hx, e, e'⟩, e1, e2⟩
theorem has_set (h : Trie root ns) {n : Nd} (hn : n ∈ ns) (hr : n.rule = none) (q : Nat × Rl) (p : List UInt8) (r : Nat × Rl) : Has (swap1 ns (ruleAt n q)) p r ↔ Has ns p r ∨ (p = n.path ∧ r = q) := by
  constructor
  · rintro ⟨x, ⟨hx, _⟩ | rfl, e1, e2⟩
    · exact Or.inl ⟨x, hx, e1, e2⟩
    · simp only [ruleAt, Option.some.injEq] at e1 e2
      exact Or.inr ⟨e1.symm, e2.symm⟩
  · rintro (⟨x, hx, e1, e2⟩ | ⟨rfl, rfl⟩)
    · refine ⟨x, Or.inl ⟨hx, fun e => ?_⟩, e1, e2⟩
      obtain rfl := h.inj x hx n hn e
      rw [hr] at e2; cases e2
    · exact ⟨_, Or.inr rfl, rfl, rfl⟩
end

def Rl.key (r : Rl) : List UInt8 := r.p.data.toList
/-- the first rule with a prefix -/
def firstAt (rs : List Rl) (p : List UInt8) : Option Rl := rs.find? fun r => decide (r.key = p)
/-- the tree holds, of each prefix, the first rule -/
def HoldsR (ns : NSet) (rs : List Rl) : Prop := ∀ p r, (∃ q, Has ns p (q, r)) ↔ firstAt rs p = some r
theorem firstAt_snoc (rs : List Rl) (r : Rl) (p : List UInt8) : firstAt (rs ++ [r]) p = if (firstAt rs p).isSome then firstAt rs p else if r.key = p then some r else none := by
  unfold firstAt
  rw [List.find?_append]
  cases hf : List.find? (fun r => decide (r.key = p)) rs with
  | some x => simp
  | none => by_cases e : r.key = p <;> simp [e]

/-- the rule with the longest prefix; the first of them -/
def bestR (rs : List Rl) (k : List UInt8) : Option Rl := rs.foldl (fun at' r => if r.key <+: k ∧ (∀ x, at' = some x → x.key.length < r.key.length) then some r else at') none
theorem bestR_snoc (rs : List Rl) (r : Rl) (k : List UInt8) : bestR (rs ++ [r]) k = if r.key <+: k ∧ (∀ x, bestR rs k = some x → x.key.length < r.key.length) then some r else bestR rs k := by
  unfold bestR
  rw [List.foldl_append]
  rfl
theorem list_snoc {α : Type} {m : List α → Prop} (h0 : m []) (h1 : ∀ xs x, m xs → m (xs ++ [x])) (l : List α) : m l := by
  have h : ∀ r : List α, m r.reverse := by
    intro r
    induction r with
    | nil => exact h0
    | cons x r ih => rw [List.reverse_cons]; exact h1 _ _ ih
  have := h l.reverse
  rwa [List.reverse_reverse] at this
structure IsBest (rs : List Rl) (k : List UInt8) (r : Rl) : Prop where
  pre : r.key <+: k
  first : firstAt rs r.key = some r
  most : ∀ x ∈ rs, x.key <+: k → x.key.length ≤ r.key.length
theorem bestR_char (k : List UInt8) : ∀ rs : List Rl, (bestR rs k = none → ∀ x ∈ rs, ¬ x.key <+: k) ∧ ∀ r, bestR rs k = some r → IsBest rs k r := by
  intro rs
  induction rs using list_snoc with
  | h0 => exact ⟨fun _ x hx => (by cases hx), fun r h => (by cases h)⟩
  | h1 rs y ih =>
    obtain ⟨ih1, ih2⟩ := ih
    rw [bestR_snoc]
    by_cases hc : y.key <+: k ∧ (∀ x, bestR rs k = some x → x.key.length < y.key.length)
    · rw [if_pos hc]
      obtain ⟨hy, hlt⟩ := hc
      refine ⟨fun h => (by cases h), fun r h => ?_⟩
      cases h
      have hall : ∀ x ∈ rs, x.key <+: k → x.key.length < y.key.length := by
        intro x hx hxk
        cases hb : bestR rs k with
        | none => exact absurd hxk (ih1 hb x hx)
        | some z => exact Nat.lt_of_le_of_lt ((ih2 z hb).most x hx hxk) (hlt z hb)
      refine ⟨hy, ?_, ?_⟩
      · rw [firstAt_snoc]
        have : firstAt rs y.key = none := by
          refine List.find?_eq_none.2 fun x hx => ?_
          simp only [decide_eq_true_eq]
          intro e
          have := hall x hx (e ▸ hy)
          rw [e] at this
          omega
        rw [this]
        simp
      · intro x hx hxk
        rcases List.mem_append.1 hx with hx | hx
        · exact Nat.le_of_lt (hall x hx hxk)
        · obtain rfl := List.mem_singleton.1 hx
          exact Nat.le_refl _
    · rw [if_neg hc]
      refine ⟨fun h x hx => ?_, fun r h => ?_⟩
      · rcases List.mem_append.1 hx with hx | hx
        · exact ih1 h x hx
        · obtain rfl := List.mem_singleton.1 hx
          exact fun hk => hc ⟨hk, fun z hz => by rw [h] at hz; cases hz⟩
      · have hb := ih2 r h
        refine ⟨hb.pre, ?_, fun x hx hxk => ?_⟩
        · rw [firstAt_snoc, hb.first]
          simp
        · rcases List.mem_append.1 hx with hx | hx
          · exact hb.most x hx hxk
          · obtain rfl := List.mem_singleton.1 hx
            rcases Nat.lt_or_ge r.key.length x.key.length with q | q
            · exact absurd ⟨hxk, fun z hz => by rw [h] at hz; cases hz; exact q⟩ hc
            · exact q
theorem firstAt_mem {rs : List Rl} {p : List UInt8} {r : Rl} (h : firstAt rs p = some r) : r ∈ rs ∧ r.key = p := ⟨List.mem_of_find?_eq_some h, by simpa using List.find?_some h⟩
theorem isBest_eq {rs : List Rl} {k : List UInt8} {r : Rl} (h : IsBest rs k r) : bestR rs k = some r := by
  cases hb : bestR rs k with
  | none => exact absurd h.pre ((bestR_char k rs).1 hb r (firstAt_mem h.first).1)
  | some z =>
    have hz := (bestR_char k rs).2 z hb
    have e : z.key = r.key := pre_eq hz.pre h.pre (Nat.le_antisymm (h.most z (firstAt_mem hz.first).1 hz.pre) (hz.most r (firstAt_mem h.first).1 h.pre))
    have := hz.first
    rw [e, h.first] at this
    rw [← Option.some.inj this]
theorem notBest {rs : List Rl} {k : List UInt8} (h : ∀ x ∈ rs, ¬ x.key <+: k) : bestR rs k = none := by
  cases hb : bestR rs k with
  | none => rfl
  | some z =>
    have hz := (bestR_char k rs).2 z hb
    exact absurd hz.pre (h z (firstAt_mem hz.first).1)

/-- the nodes that a key leads along, from one on -/
inductive Way (ns : NSet) (k : List UInt8) : Nd → List Nd → Prop
  | no (n : Nd) : ¬ n.path <+: k → Way ns k n []
  | stop (n : Nd) : n.path <+: k → (∀ c, k[n.path.length]? = some c → ∀ x ∈ n.kids, x.1 ≠ c) → Way ns k n [n]
  | on (n m : Nd) (c : UInt8) (j : Nat) (xs : List Nd) : n.path <+: k → k[n.path.length]? = some c → (c, m.a, j) ∈ n.kids → m ∈ ns → Way ns k m xs → Way ns k n (n :: xs)
section
variable {root : Nat} {ns : NSet}
theorem way_exists (h : Trie root ns) (k : List UInt8) : ∀ N, ∀ n ∈ ns, k.length ≤ N + n.path.length → ∃ xs, Way ns k n xs := by
  intro N
  induction N with
  | zero =>
    intro n hn hl
    by_cases hp : n.path <+: k
    · exact ⟨[n], .stop n hp fun c hc => by rw [List.getElem?_eq_none (by omega)] at hc; cases hc⟩
    · exact ⟨[], .no n hp⟩
  | succ N ih =>
    intro n hn hl
    by_cases hp : n.path <+: k
    · cases hc : k[n.path.length]? with
      | none => exact ⟨[n], .stop n hp fun c hc' => by rw [hc] at hc'; cases hc'⟩
      | some c =>
        by_cases hk : ∃ x ∈ n.kids, x.1 = c
        · obtain ⟨x, hx, rfl⟩ := hk
          obtain ⟨m, hm, f1, f2, f3, f4⟩ := h.kid n hn x hx
          have hlt : n.path.length < m.path.length := by
            rcases Nat.lt_or_ge n.path.length m.path.length with q | q
            · exact q
            · rw [f2, List.getElem?_eq_none q] at f4; cases f4
          obtain ⟨xs, hxs⟩ := ih m hm (by omega)
          refine ⟨n :: xs, .on n m x.1 x.2.2 xs hp hc ?_ hm hxs⟩
          rw [f1]; exact hx
        · exact ⟨[n], .stop n hp fun c' hc' x hx e => hk ⟨x, hx, by rw [hc] at hc'; exact e.trans (Option.some.inj hc').symm⟩⟩
    · exact ⟨[], .no n hp⟩
/-- of all nodes on the way, those whose bytes lead to the key -/
theorem way_all (h : Trie root ns) {k : List UInt8} {n : Nd} {xs : List Nd} (hw : Way ns k n xs) : n ∈ ns → (∀ x ∈ xs, x ∈ ns ∧ x.path <+: k ∧ n.path <+: x.path) ∧ (∀ y ∈ ns, y.path <+: k → n.path <+: y.path → y ∈ xs) ∧ xs.Pairwise (fun a b => a.path.length < b.path.length) := by
  induction hw with
  | no n hp => exact fun hn => ⟨fun x hx => (by cases hx), fun y hy hyk hny => absurd (hny.trans hyk) hp, List.Pairwise.nil⟩
  | stop n hp hc =>
    intro hn
    refine ⟨fun x hx => ?_, fun y hy hyk hny => ?_, List.pairwise_singleton _ _⟩
    · obtain rfl := List.mem_singleton.1 hx
      exact ⟨hn, hp, List.prefix_rfl⟩
    · rcases Nat.lt_or_ge n.path.length y.path.length with q | q
      · obtain ⟨k', hk', e1, -⟩ := h.desc hn hy hny q
        rw [← pre_get hyk q] at e1
        exact absurd rfl (hc _ e1 k' hk')
      · have := hny.length_le
        obtain rfl := h.uniq hn hy (hny.eq_of_length (by omega))
        exact List.mem_singleton.2 rfl
  | on n m c j xs hp hc hk hm hw ih =>
    intro hn
    obtain ⟨i1, i2, i3⟩ := ih hm
    obtain ⟨m', hm', f1, f2, f3, f4⟩ := h.kid n hn _ hk
    obtain rfl := h.inj m' hm' m hm f1
    simp only at f4
    have hlt : n.path.length < m'.path.length := by
      rcases Nat.lt_or_ge n.path.length m'.path.length with q | q
      · exact q
      · rw [f2, List.getElem?_eq_none q] at f4; cases f4
    refine ⟨fun x hx => ?_, fun y hy hyk hny => ?_, ?_⟩
    · rcases List.mem_cons.1 hx with rfl | hx
      · exact ⟨hn, hp, List.prefix_rfl⟩
      · obtain ⟨q1, q2, q3⟩ := i1 x hx
        exact ⟨q1, q2, f3.trans q3⟩
    · rcases Nat.lt_or_ge n.path.length y.path.length with q | q
      · obtain ⟨k', hk', e1, z, hz, g1, g2, g3⟩ := h.desc hn hy hny q
        rw [← pre_get hyk q, hc] at e1
        have hkk := nodup_map_inj (h.keys n hn) hk' hk (by simpa using e1.symm)
        subst hkk
        obtain rfl := h.inj z hz m' hm g1
        exact List.mem_cons_of_mem _ (i2 y hy hyk g2)
      · have := hny.length_le
        obtain rfl := h.uniq hn hy (hny.eq_of_length (by omega))
        exact List.mem_cons_self
    · refine List.pairwise_cons.2 ⟨fun x hx => ?_, i3⟩
      have := (i1 x hx).2.2.length_le
      omega
/-- the rule of the last of some nodes that has one -/
def lastR (xs : List Nd) : Option (Nat × Rl) := xs.foldl (fun at' x => match x.rule with | some r => some r | none => at') none
theorem lastR_snoc (xs : List Nd) (x : Nd) : lastR (xs ++ [x]) = match x.rule with | some r => some r | none => lastR xs := by
  unfold lastR
  rw [List.foldl_append]
  rfl
theorem lastR_char : ∀ xs : List Nd, xs.Pairwise (fun a b => a.path.length < b.path.length) → (lastR xs = none → ∀ x ∈ xs, x.rule = none) ∧ ∀ r, lastR xs = some r → ∃ x ∈ xs, x.rule = some r ∧ ∀ y ∈ xs, y.rule ≠ none → y.path.length ≤ x.path.length := by
  intro xs
  induction xs using list_snoc with
  | h0 => exact fun _ => ⟨fun _ x hx => (by cases hx), fun r h => (by cases h)⟩
  | h1 xs x ih =>
    intro hp
    rw [List.pairwise_append] at hp
    obtain ⟨p1, -, p3⟩ := hp
    obtain ⟨i1, i2⟩ := ih p1
    rw [lastR_snoc]
    cases hx : x.rule with
    | some q =>
      refine ⟨fun h => (by cases h), fun r h => ?_⟩
      cases h
      refine ⟨x, by simp, hx, fun y hy _ => ?_⟩
      rcases List.mem_append.1 hy with hy | hy
      · exact Nat.le_of_lt (p3 y hy x (by simp))
      · obtain rfl := List.mem_singleton.1 hy
        exact Nat.le_refl _
    | none =>
      refine ⟨fun h y hy => ?_, fun r h => ?_⟩
      · rcases List.mem_append.1 hy with hy | hy
        · exact i1 h y hy
        · obtain rfl := List.mem_singleton.1 hy
          exact hx
      · obtain ⟨z, hz, e1, e2⟩ := i2 r h
        refine ⟨z, List.mem_append_left _ hz, e1, fun y hy hne => ?_⟩
        rcases List.mem_append.1 hy with hy | hy
        · exact e2 y hy hne
        · obtain rfl := List.mem_singleton.1 hy
          exact absurd hx hne
/-- the tree finds the longest prefix -/
theorem way_best (h : Trie root ns) {rs : List Rl} (hh : HoldsR ns rs) {k : List UInt8} {n : Nd} {xs : List Nd} (hn : n ∈ ns) (hr : n.path = []) (hw : Way ns k n xs) : bestR rs k = (lastR xs).map (·.2) := by
  obtain ⟨a1, a2, a3⟩ := way_all h hw hn
  obtain ⟨c1, c2⟩ := lastR_char xs a3
  cases hl : lastR xs with
  | none =>
    refine notBest fun r hrr hk => ?_
    have hsome : (firstAt rs r.key).isSome := by
      cases hf : firstAt rs r.key with
      | some _ => rfl
      | none => have := List.find?_eq_none.1 hf r hrr; simp at this
    obtain ⟨r', hr'⟩ := Option.isSome_iff_exists.1 hsome
    obtain ⟨q, x, hx, e1, e2⟩ := (hh _ _).2 hr'
    have := c1 hl x (a2 x hx (by rw [e1]; exact hk) (by rw [hr]; exact List.nil_prefix))
    rw [e2] at this; cases this
  | some r =>
    obtain ⟨x, hx, e1, e2⟩ := c2 r hl
    obtain ⟨b1, b2, -⟩ := a1 x hx
    have hf := (hh x.path r.2).1 ⟨r.1, x, b1, rfl, e1⟩
    have hk := (firstAt_mem hf).2
    refine isBest_eq ⟨by rw [hk]; exact b2, by rw [hk]; exact hf, fun y hy hyk => ?_⟩
    have hsome : (firstAt rs y.key).isSome := by
      cases hf : firstAt rs y.key with
      | some _ => rfl
      | none => have := List.find?_eq_none.1 hf y hy; simp at this
    obtain ⟨r', hr'⟩ := Option.isSome_iff_exists.1 hsome
    obtain ⟨q, z, hz, f1, f2⟩ := (hh _ _).2 hr'
    have := e2 z (a2 z hz (by rw [f1]; exact hyk) (by rw [hr]; exact List.nil_prefix)) (by rw [f2]; simp)
    rw [hk, ← f1]
    exact this
end
end Go.Proofs.YtknlojlcahgnoaaGreat

namespace Go.Proofs.YtknlojlcahgnoaaGreat
open Go.RowKit
set_option linter.unusedVariables false
set_option linter.unusedSimpArgs false

section
variable {P : Program} {t k e : TypeId} {d : TypeDesc}

theorem map_new_at (w : World) (o : Obj) : (w.alloc o).heap[w.heap.size]? = some o := (MapKept.heap_alloc w o).1

theorem set_new (w : World) (o o' : Obj) : ({ w.alloc o with heap := (w.alloc o).heap.setIfInBounds w.heap.size o' } : World) = w.alloc o' := by
  show ({ w with heap := (w.heap.push o).setIfInBounds w.heap.size o' } : World) = { w with heap := w.heap.push o' }
  congr 1
  apply Array.ext
  · simp
  · intro i h1 h2
    simp only [Array.size_setIfInBounds, Array.size_push] at h1
    rw [Array.getElem_setIfInBounds (by simpa using h1)]
    by_cases h : w.heap.size = i
    · subst h; simp
    · simp [h, Array.getElem_push, show i < w.heap.size by omega]

/-- a store of a new key into a map that stands at the world's end -/
theorem run_update_new (ht : P.underlying t = some (.map k e)) (hk : P.underlying k = some d) {key : Value} (hkey : MapKept.IsKey d key) {es : Array MapEntry} {c : Nat} (hnew : Instr.findNow d key es.toList 0 = some none) (w : World) (v : Value) :
    (Instr.mapUpdate t (.map (some w.heap.size)) key v).run P (w.alloc (.map es c)) = .ok () (w.alloc (.map (es.push ⟨key, v, c⟩) (c + 1))) := by
  have hb := map_new_at w (.map es c)
  simp [Instr.mapUpdate, run_underlying ht, MapKept.run_getObj_map hb, MapKept.run_checkKey hk hkey, MapKept.run_findKey hk hnew, MapKept.run_setObj_map _ hb, Result.andThen]
  exact set_new _ _ _

theorem run_lookup_yes (ht : P.underlying t = some (.map k e)) (hk : P.underlying k = some d) {key : Value} (hkey : MapKept.IsKey d key) {es : Array MapEntry} {c : Nat} {w : World} {b i : Nat} {v : Value}
    (hb : w.heap[b]? = some (.map es c)) (hf : Instr.findNow d key es.toList 0 = some (some (i, v))) :
    (Instr.lookup t (.map (some b)) key true).run P w = .ok (.tuple #[v, .bool true]) w ∧ (Instr.lookup t (.map (some b)) key false).run P w = .ok v w := by
  constructor <;> simp [Instr.lookup, run_underlying ht, MapKept.run_getObj_map hb, MapKept.run_checkKey hk hkey, MapKept.run_findKey hk hf, Result.andThen]

theorem run_lookup_no (ht : P.underlying t = some (.map k e)) (hk : P.underlying k = some d) {key : Value} (hkey : MapKept.IsKey d key) {es : Array MapEntry} {c : Nat} {w : World} {b : Nat} {z : Value}
    (hb : w.heap[b]? = some (.map es c)) (hz : (zeroValue e).run P w = .ok z w) (hf : Instr.findNow d key es.toList 0 = some none) :
    (Instr.lookup t (.map (some b)) key true).run P w = .ok (.tuple #[z, .bool false]) w ∧ (Instr.lookup t (.map (some b)) key false).run P w = .ok z w := by
  constructor <;> simp [Instr.lookup, run_underlying ht, MapKept.run_getObj_map hb, MapKept.run_checkKey hk hkey, MapKept.run_findKey hk hf, Result.andThen, hz]
end
end Go.Proofs.YtknlojlcahgnoaaGreat

namespace Go.Proofs.YtknlojlcahgnoaaGreat
open Go.RowKit
set_option linter.unusedVariables false
set_option linter.unusedSimpArgs false

section
variable {P : Program}

def aggKind : TypeDesc → Bool
  | .struct _ | .array _ _ => true
  | _ => false

theorem run_loadVar_blk {w : World} {g : Nat} {t ty : TypeId} {C : Array Value} {d : TypeDesc} (hB : Blk w g C t) (hu : P.underlying ty = some d) (hd : aggKind d = true) (hi : (P.info? ty).map (·.size) = some C.size) :
    (loadVar ty ⟨g, 0, none⟩).run P w = .ok (.agg C) w := run_loadVar_row w g t ty C (0, 0) d hB hu (by cases d <;> first | rfl | exact hd) hi

theorem ret_cell {fn : Func} {R : Ending → World → Prop} {tmps : Array Value} {w : World} {p : Tmp} {ty t : TypeId} {g : Nat} {C : Array Value} {d : TypeDesc} (h : fn.results = #[.cell p ty])
    (hp : tmps.getD p undef = .pointer (some ⟨g, 0, none⟩)) (hB : Blk w g C t) (hu : P.underlying ty = some d) (hd : aggKind d = true) (hi : (P.info? ty).map (·.size) = some C.size)
    (hR : R (.returned (.agg C)) w) : bodyPost P fn R .ret { tmps := tmps, defers := [] } w :=
  bodyPost_ret (results_cell_row h _ w g t C (0, 0) d hp hB hu (by cases d <;> first | rfl | exact hd) hi) rfl hR

theorem ret_cell_tmp {fn : Func} {R : Ending → World → Prop} {tmps : Array Value} {w : World} {p q : Tmp} {ty t : TypeId} {g : Nat} {C : Array Value} {d : TypeDesc} {v : Value} (h : fn.results = #[.cell p ty, .tmp q])
    (hp : tmps.getD p undef = .pointer (some ⟨g, 0, none⟩)) (hq : tmps.getD q undef = v) (hB : Blk w g C t) (hu : P.underlying ty = some d) (hd : aggKind d = true) (hi : (P.info? ty).map (·.size) = some C.size)
    (hR : R (.returned (.tuple #[.agg C, v])) w) : bodyPost P fn R .ret { tmps := tmps, defers := [] } w := by
  refine bodyPost_ret (v := .tuple #[.agg C, v]) ?_ rfl hR
  have hp' : tmps[p]?.getD undef = .pointer (some ⟨g, 0, none⟩) := by simpa using hp
  have hq' : tmps[q]?.getD undef = v := by simpa using hq
  simp [results, h, hp', hq', asAddr, run_loadVar_blk hB hu hd hi]

theorem Ext.set {x y : World} (h : Ext x y) {b : Nat} (hb : x.heap.size ≤ b) (o : Nat) (v : Value) : Ext x (y.setCell ⟨b, o, none⟩ v) := h.setCell hb v
end
end Go.Proofs.YtknlojlcahgnoaaGreat

namespace Go.Proofs.YtknlojlcahgnoaaGreat
open Go.RowKit
set_option linter.unusedVariables false
set_option linter.unusedSimpArgs false

theorem data_len (s : ByteArray) : s.data.toList.length = s.size := Array.length_toList
theorem data_get (s : ByteArray) (k : Nat) (h : k < s.size) : s.data.toList[k]'(by rw [data_len]; exact h) = s[k] := by
  rw [Array.getElem_toList]; rfl

def isDig (b : UInt8) : Bool := decide (48 ≤ (b.toNat : Int)) && decide ((b.toNat : Int) ≤ 57)
def dval (l : List UInt8) : Int := l.foldl (fun n b => 10 * n + ((b.toNat : Int) - 48)) 0
def digLead (s : ByteArray) : Bool := decide (s.size = 0) || (decide (1 < s.size) && decide ((s.data.toList.getD 0 0).toNat = 48))
def digErr (s : ByteArray) : Int :=
  if digLead s = true then 10 else if s.data.toList.all isDig = false then 10 else if 18446744073709551616 ≤ dval s.data.toList then 11 else 0
def digNum (s : ByteArray) : Int := if digErr s = 0 then dval s.data.toList else 0

theorem dval_snoc (l : List UInt8) (b : UInt8) : dval (l ++ [b]) = 10 * dval l + ((b.toNat : Int) - 48) := by simp [dval]
theorem isDig_iff (b : UInt8) : isDig b = true ↔ 48 ≤ (b.toNat : Int) ∧ (b.toNat : Int) ≤ 57 := by simp [isDig]

def pdigF : Nat → Nat → List UInt8
  | 0, _ => []
  | f + 1, n => if n < 10 then [UInt8.ofNat (48 + n)] else pdigF f (n / 10) ++ [UInt8.ofNat (48 + n % 10)]
def pdig (n : Nat) : List UInt8 := pdigF 20 n
def digStr (n : Int) : ByteArray := ⟨(pdig n.toNat).toArray⟩

theorem pdigF_fuel : ∀ (f n : Nat), n < 10 ^ (f + 1) → pdigF (f + 2) n = pdigF (f + 1) n
  | 0, n, h => by
    have : n < 10 := by simpa using h
    simp [pdigF, this]
  | f + 1, n, h => by
    have h' : n / 10 < 10 ^ (f + 1) := by
      rw [Nat.div_lt_iff_lt_mul (by omega)]
      rw [Nat.pow_succ] at h
      exact h
    conv => lhs; unfold pdigF
    conv => rhs; unfold pdigF
    rw [pdigF_fuel f (n / 10) h']
theorem pdig_eq (n : Nat) (h : n < 100000000000000000000) : pdig n = if n < 10 then [UInt8.ofNat (48 + n)] else pdig (n / 10) ++ [UInt8.ofNat (48 + n % 10)] := by
  have e := pdigF_fuel 18 (n / 10) (by omega)
  unfold pdig
  conv => lhs; unfold pdigF
  rw [← e]
end Go.Proofs.YtknlojlcahgnoaaGreat

namespace Go.Proofs.YtknlojlcahgnoaaGreat
open Go.RowKit
set_option linter.unusedVariables false

/-- a world that has grown -/
structure Grown (w : World) where
  at' : World
  ext : Ext w at'
instance grown_some (w : World) : Nonempty (Grown w) := ⟨⟨w, Ext.refl w⟩⟩
def grown (w : World) (s : Grown w) : World := s.at'
theorem grown_ext (w : World) (s : Grown w) : Ext w (grown w s) := s.ext
theorem grown_cell {w : World} {a : Addr} {v : Value} (h : w.cell? a = some v) (s : Grown w) : (grown w s).cell? a = some v := (grown_ext w s).keep h
theorem wp_region_grow {P : Program} {id : Nat} {Q : Exit → Act → World → Prop} {a : Act} {w : World} {l : List Oper} (hm : P.follows .mixedOrders = true) (hB : Region.lexB .any l.toArray = true)
    (h : wpQuiet P l.toArray (fun w' => ∃ s : Grown w, w' = grown w s) (fun a' => ∀ w', (∃ s : Grown w, w' = grown w s) → Q .normal a' w') l a) : (Code.region id l.toArray true).wp P Q a w :=
  wp_region_quiet (C := fun w' => ∃ s : Grown w, w' = grown w s) hm hB ⟨⟨w.drew, (Ext.refl w).drew⟩, rfl⟩ (by simpa using h)
/-- a callee that makes memory -/
theorem grow_call {P : Program} {f : FuncId} {args : Array Value} {w : World} {s : Grown w} {v : Value}
    (h : Calls P f args (grown w s) fun e w' => e = .returned v ∧ Ext (grown w s) w') : Calls P f args (grown w s) fun e w'' => e = .returned v ∧ ∃ s' : Grown w, w'' = grown w s' :=
  h.mono fun _ W ⟨he, hm⟩ => ⟨he, ⟨W, (grown_ext w s).trans hm⟩, rfl⟩
end Go.Proofs.YtknlojlcahgnoaaGreat
