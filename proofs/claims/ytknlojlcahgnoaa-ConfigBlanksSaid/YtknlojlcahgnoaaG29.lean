/- Walks: (*node).way: the nodes that a key leads along. Walks: (*Tree).Find. -/
import Derived.Sort.CutIn
import Derived.Test.YtknlojlcahgnoaaG24

/- Walks: (*node).way: the nodes that a key leads along. -/
namespace Go.Proofs.Ytknlojlcahgnoaa
open Go.RowKit
attribute [local go_sem] Oper.semAt_some
set_option linter.unusedVariables false
set_option linter.unusedSimpArgs false

/-- what lay in w0 lies as it lay -/
def Sees (w0 W : World) : Prop := ∀ b, b < w0.heap.size → W.heap[b]? = w0.heap[b]?
theorem Ext.sees {x y : World} (h : Ext x y) : Sees x y := fun b hb => Ext.block h hb
theorem Sees.blk {w0 W : World} (h : Sees w0 W) {g : Nat} {C : Array Value} {t : TypeId} (k : Blk w0 g C t) : Blk W g C t := (h g k.lt).trans k
theorem Sees.kmap {w0 W : World} (h : Sees w0 W) {g n : Nat} {l : Kids} (k : KMap w0 g l n) : KMap W g l n := (h g k.lt).trans k
theorem Sees.kept {w0 X Y : World} (h : Sees w0 X) {n₀ g : Nat} (k : KeptBut n₀ g X Y) (h1 : w0.heap.size ≤ n₀) (h2 : w0.heap.size ≤ g) : Sees w0 Y := fun b hb => (k b (by omega) (by omega)).trans (h b hb)
theorem Sees.set {w0 W : World} (h : Sees w0 W) {g : Nat} (hg : w0.heap.size ≤ g) (o : Nat) (v : Value) : Sees w0 (W.setCell ⟨g, o, none⟩ v) := fun b hb => (Below.heap_setCell _ _ _ _ (by show b ≠ g; omega)).trans (h b hb)
theorem Sees.drew {w0 W : World} (h : Sees w0 W) : Sees w0 W.drew := h
def encN (x : Nd) : Array Value := #[.pointer (some ⟨x.a, 0, none⟩)]
def wayMu (root bn bk : Nat) (W : World) : Nat :=
  (match W.cell? ⟨bk, 0, none⟩ with | some (.string s) => 2 * s.size + 1 | _ => 0) + (match W.cell? ⟨bn, 0, none⟩ with | some (.pointer (some a)) => (if a.block = root then 1 else 0) + 1 | _ => 0)

theorem pre_drop {p K : List UInt8} {i : Nat} (h1 : i ≤ p.length) (h2 : i ≤ K.length) (h : K.take i = p.take i) : p.drop i <+: K.drop i ↔ p <+: K := by
  conv => rhs; rw [← List.take_append_drop i p, ← List.take_append_drop i K, h]
  exact List.prefix_append_right_inj _ |>.symm
theorem part_size (x : Nd) : x.part.size = x.path.length - x.plen := by rw [← data_len, part_list, List.length_drop]
theorem hasB_part {x : Nd} {K : List UInt8} {ks : ByteArray} (hpl : x.plen ≤ x.path.length) (h1 : x.plen ≤ K.length) (h2 : K.take x.plen = x.path.take x.plen) (hk : ks.data.toList = K.drop x.plen) : hasB ks x.part = decide (x.path <+: K) := by
  unfold hasB
  rw [part_list, hk, decide_eq_decide]
  exact pre_drop hpl h1 h2
theorem Trie.plen_le {root : Nat} {ns : NSet} (h : Trie root ns) {x : Nd} (hx : x ∈ ns) : x.plen ≤ x.path.length := by
  by_cases e : x.path = []
  · have := (h.rt hx (h.top x hx e)).2
    omega
  · exact Nat.le_of_lt (h.nz x hx e)
theorem Way.starts {ns : NSet} {K : List UInt8} {x : Nd} {ys : List Nd} (h : Way ns K x ys) (hp : x.path <+: K) : ∃ rest, ys = x :: rest ∧ ((rest = [] ∧ ∀ c, K[x.path.length]? = some c → ∀ k ∈ x.kids, k.1 ≠ c) ∨ ∃ m c j, K[x.path.length]? = some c ∧ (c, m.a, j) ∈ x.kids ∧ m ∈ ns ∧ Way ns K m rest) := by
  cases h with
  | no _ hn => exact absurd hp hn
  | stop _ _ hc => exact ⟨[], rfl, Or.inl ⟨rfl, hc⟩⟩
  | on _ m c j xs _ hc hk hm hw => exact ⟨xs, rfl, Or.inr ⟨m, c, j, hc, hk, hm, hw⟩⟩
theorem Way.nothing {ns : NSet} {K : List UInt8} {x : Nd} {ys : List Nd} (h : Way ns K x ys) (hp : ¬ x.path <+: K) : ys = [] := by
  cases h with
  | no _ hn => rfl
  | stop _ h _ => exact absurd h hp
  | on _ m c j xs h _ _ _ _ => exact absurd h hp

theorem cut_str {K : List UInt8} {ks : ByteArray} {p q : Nat} (h : ks.data.toList = K.drop p) (h1 : p ≤ q) (h2 : q ≤ K.length) : (ks.extract (q - p) (K.length - p)).data.toList = K.drop q := by
  rw [Lib.extract_data, h, List.drop_drop, List.take_of_length_le (by rw [List.length_drop]; omega)]
  congr 1
  omega

theorem Trie.kid_ne {root : Nat} {ns : NSet} (h : Trie root ns) {x m : Nd} (hx : x ∈ ns) (hm : m ∈ ns) {c : UInt8} {j : Nat} (hk : (c, m.a, j) ∈ x.kids) : m.a ≠ root ∧ m.plen = x.path.length ∧ x.path <+: m.path := by
  obtain ⟨m', hm', f1, f2, f3, f4⟩ := h.kid x hx _ hk
  obtain rfl := h.inj m' hm' m hm f1
  refine ⟨fun e => ?_, f2, f3⟩
  have := (h.rt hm e).1
  rw [this] at f4
  simp at f4
theorem pre_take {p q : List UInt8} (h : p <+: q) : q.take p.length = p := by
  rw [List.prefix_iff_eq_take] at h
  exact h.symm
theorem take_both {p q K : List UInt8} (h1 : p <+: K) (h2 : p <+: q) : K.take p.length = q.take p.length := by
  rw [pre_take h1, pre_take h2]
end Go.Proofs.Ytknlojlcahgnoaa

/- Walks: (*Tree).Find. -/
namespace Go.Proofs.Ytknlojlcahgnoaa
open Go.RowKit
attribute [local go_sem] Oper.semAt_some
set_option linter.unusedVariables false
set_option linter.unusedSimpArgs false

def rl0 : Rl := ⟨⟨#[]⟩, 0, 0, 0⟩
/-- what Find tells -/
def findV (o : Option Rl) : Value := match o with
  | some r => .tuple #[.agg r.cells, .bool true]
  | none => .tuple #[.agg rl0.cells, .bool false]
def ruleP (o : Option (Nat × Rl)) : Value := match o with
  | some r => .pointer (some ⟨r.1, 0, none⟩)
  | none => .pointer none
theorem lastR_p (xs : List Nd) (x : Nd) : ruleP (lastR (xs ++ [x])) = match x.rule with | some r => x.rp | none => ruleP (lastR xs) := by
  rw [lastR_snoc]
  unfold Nd.rp
  cases x.rule <;> rfl

theorem kblk_row {b : Nat} {C : Array Value} {ty : TypeId} {X Y : World} {row : Option Nat} (h : Blk X b C ty) (hg : X.grownBy Y row) (hr : ∀ r, row = some r → b ≠ r) : Blk Y b C ty :=
  (hg.block b h.lt (fun e => hr b e.symm rfl)).trans h
theorem res_cell_tmp {P : Program} {fn : Func} {tmps : Array Value} {w : World} {p q : Tmp} {ty t : TypeId} {g : Nat} {C : Array Value} {d : TypeDesc} {v : Value} (h : fn.results = #[.cell p ty, .tmp q])
    (hp : tmps.getD p undef = .pointer (some ⟨g, 0, none⟩)) (hq : tmps.getD q undef = v) (hB : Blk w g C t) (hu : P.underlying ty = some d) (hd : aggKind d = true) (hi : (P.info? ty).map (·.size) = some C.size) :
    (results fn tmps).run P w = .ok (.tuple #[.agg C, v]) w := by
  have hp' : tmps[p]?.getD undef = .pointer (some ⟨g, 0, none⟩) := by simpa using hp
  have hq' : tmps[q]?.getD undef = v := by simpa using hq
  simp [results, h, hp', hq', asAddr, run_loadVar_blk hB hu hd hi]
theorem four_set {w W : World} {S D : Nat} {C : Array Value} {t : TypeId} (hB : Blk W S C t) (hC : C.size = 4) (hS : w.heap.size ≤ S) (hx : Ext w W) (hne : S ≠ D) (hD : w.heap.size ≤ D) (hd : W.heap[D]? = some (.deferred (some []))) (a b c d : Value) :
    ((((W.setCell ⟨S, 0, none⟩ a).setCell ⟨S, 1, none⟩ b).setCell ⟨S, 2, none⟩ c).setCell ⟨S, 3, none⟩ d).heap[D]? = some (.deferred (some [])) ∧
    Blk (((((W.setCell ⟨S, 0, none⟩ a).setCell ⟨S, 1, none⟩ b).setCell ⟨S, 2, none⟩ c).setCell ⟨S, 3, none⟩ d).putObj D (.deferred none)) S #[a, b, c, d] t ∧
    Ext w (((((W.setCell ⟨S, 0, none⟩ a).setCell ⟨S, 1, none⟩ b).setCell ⟨S, 2, none⟩ c).setCell ⟨S, 3, none⟩ d).putObj D (.deferred none)) := by
  have hds : D ≠ S := fun e => hne e.symm
  have hg := grownBy_putObj' ((((W.setCell ⟨S, 0, none⟩ a).setCell ⟨S, 1, none⟩ b).setCell ⟨S, 2, none⟩ c).setCell ⟨S, 3, none⟩ d) D (.deferred none)
  refine ⟨?_, ?_, ?_⟩
  · rw [Below.heap_setCell _ _ _ _ hds, Below.heap_setCell _ _ _ _ hds, Below.heap_setCell _ _ _ _ hds, Below.heap_setCell _ _ _ _ hds]
    exact hd
  · refine kblk_row ?_ hg (fun r e => by cases e; exact hne)
    have := (((hB.set 0 a).set 1 b).set 2 c).set 3 d
    have e : (((C.setIfInBounds 0 a).setIfInBounds 1 b).setIfInBounds 2 c).setIfInBounds 3 d = #[a, b, c, d] := by
      obtain ⟨l⟩ := C
      match l, hC with
      | [x, y, z, u], _ => simp
    rw [e] at this
    exact this
  · exact kext_from ((((hx.setCell hS _).setCell hS _).setCell hS _).setCell hS _) hg (fun r e => by cases e; exact hD)
/-- the rounds: last holds the last rule -/
def FindI (w : World) (g : Nat) (pre : List Nd) (W : World) : Prop := Blk W g #[ruleP (lastR pre)] 116 ∧ Blk W w.heap.size rl0.cells 34 ∧ Ext w W

end Go.Proofs.Ytknlojlcahgnoaa
