/- How a slice of numbers, and a policy, come out of an argument's reading. How a snapshot comes out of an argument's reading. How long the slice of a policy's, or a snapshot's, argument may be, by the claim's own reach. Walk: tollerlaw17.EnterLate. -/
import Derived.Deep.Slices
import Derived.Deep.Fields
import Derived.ChangeSame
import Derived.Lib.SmallJoins
import Derived.SizedLaws
import Derived.Test.YtknlojlcahgnoaaGreatEa16
import Derived.Test.YtknlojlcahgnoaaGreatEa11
import Derived.Test.YtknlojlcahgnoaaGreatEa38
import Derived.Test.YtknlojlcahgnoaaGreatEa43
import Derived.Test.YtknlojlcahgnoaaGreatEa55
import Derived.Test.YtknlojlcahgnoaaGreatEa47
import Derived.Test.YtknlojlcahgnoaaGreatEa57

namespace Go.Proofs.YtknlojlcahgnoaaGreat
open Go.ChangeShapes Go.WideShapes Go.ChangeAt Go.RowKit Go.Deep
set_option linter.unusedVariables false
set_option linter.unusedSimpArgs false

section
variable {H : Type} {enc : TypeId × Value → H} {W : World} {r : Reach} {b0 base : Nat} {held : Bool} {v : Value} {d : DataW H} {p : List MemPlace}

set_option maxRecDepth 100000 in
theorem open_nums (hv : Value.okWide Tryz.prog W r b0 24 v) (h : DataW.Trod enc Tryz.prog W base (fun _ => true) held 24 v d p) : ∃ l, NmsSlice W v l := by
  obtain ⟨a0, len, cap, rfl⟩ := okWide_slice Tryz.underlying24 hv
  obtain ⟨fuel, hf⟩ := h
  rcases Go.Deep.open_slice Tryz.underlying24 hf with ⟨hcs, _⟩ | ⟨x, len', cap', m, n, D, Pl, hcs, hb, hl, hm, hmm, _, hi⟩
  · simp [Value.cells] at hcs
    obtain ⟨rfl, rfl, rfl⟩ := hcs
    exact ⟨[], ⟨_, _, rfl, fun h => absurd rfl h⟩, by simp, fun d hd => (by cases hd)⟩
  · simp [Value.cells] at hcs
    obtain ⟨rfl, rfl, rfl⟩ := hcs
    simp only [if_true] at hmm
    have hC : Tryz.prog.cellsOf 86 = 4 := by kernel_rfl
    have each : ∀ i : Fin len, ∃ q : Nms, NmsOk W q ∧ ∀ j, j < 4 → W.cell? ((x.add (i.1 * 4)).add j) = q.cells[j]? := by
      intro i
      obtain ⟨cs', hc', ht'⟩ := hi i.1 (by omega)
      rw [hC] at hc'
      have hF := field_cells (fs := _) Tryz.underlying86 (by kernel_rfl) (by kernel_rfl) (by rw [hC]; exact hc') ht'
      obtain ⟨v0, y0, n0, c0, t0⟩ := hF 0 _ rfl
      obtain ⟨v1, y1, n1, c1, t1⟩ := hF 1 _ rfl
      obtain ⟨v2, y2, n2, c2, t2⟩ := hF 2 _ rfl
      obtain ⟨v3, y3, n3, c3, t3⟩ := hF 3 _ rfl
      obtain ⟨l0, w0⟩ := field_bytes Tryz.underlying22 Tryz.underlying5 (by kernel_rfl) t0
      obtain ⟨x1, rfl, w1⟩ := field_int Tryz.underlying61 t1
      obtain ⟨x2, rfl, w2⟩ := field_int Tryz.underlying23 t2
      obtain ⟨x3, rfl, w3⟩ := field_int Tryz.underlying5 t3
      refine ⟨⟨v0, l0, x1, x2, x3⟩, ⟨w0, (wfu32 w1).1, (wfu32 w1).2, (wfu16 w2).1, (wfu16 w2).2, (wfu8 w3).1, (wfu8 w3).2⟩, ?_⟩
      intro j hj
      rcases (by omega : j = 0 ∨ j = 1 ∨ j = 2 ∨ j = 3) with rfl | rfl | rfl | rfl
      · exact c0
      · exact c1
      · exact c2
      · exact c3
    have hlen : (List.ofFn fun i => Classical.choose (each i)).length = len := List.length_ofFn
    refine ⟨List.ofFn fun i => Classical.choose (each i), ⟨some x, cap, by rw [hlen], fun hne => ?_⟩, by rw [hlen]; omega, fun q hq => ?_⟩
    · have h0 : 0 < len := by
        rcases Nat.eq_zero_or_pos len with e | e
        · subst e; simp at hne
        · exact e
      have hx0 := (Classical.choose_spec (each ⟨0, h0⟩)).2 0 (by omega)
      have ex : x = ⟨x.block, x.off, none⟩ := by
        have e1 : (x.add (0 * 4)).add 0 = x.add 0 := by simp [Addr.add]
        rw [e1] at hx0
        exact plain_addr (v := (Classical.choose (each ⟨0, h0⟩)).cells[0]'(by simp [Nms.cells])) (by rw [hx0]; rfl)
      refine ⟨x.block, x.off, by rw [← ex], fun j hj i hi7 => ?_⟩
      rw [hlen] at hj
      have := (Classical.choose_spec (each ⟨j, hj⟩)).2 i hi7
      rw [List.getElem_ofFn, ← this, ex]
      simp only [addr_add]
    · obtain ⟨i, rfl⟩ := (List.mem_ofFn.1 hq)
      exact (Classical.choose_spec (each i)).1

set_option maxRecDepth 100000 in
theorem field_rules {n : Nat} {y : DataW H × List MemPlace} (h : DataW.trod enc Tryz.prog W base (fun _ => true) held n 26 [v] = some y) : ∃ l, RulesAt W v l ∧ (∀ q ∈ l, RlOk q) ∧ l.length ≤ maxLen := by
  rcases Go.Deep.open_slice Tryz.underlying26 h with ⟨hcs, _⟩ | ⟨x, len, cap, m, n', D, Pl, hcs, hb, hl, hm, hmm, _, hi⟩
  · simp only [List.cons.injEq, and_true] at hcs
    subst hcs
    exact ⟨[], ⟨_, _, rfl, fun h => absurd rfl h⟩, fun d hd => (by cases hd), by simp⟩
  · simp only [List.cons.injEq, and_true] at hcs
    subst hcs
    simp only [if_true] at hmm
    have hC : Tryz.prog.cellsOf 37 = 4 := by kernel_rfl
    have each : ∀ i : Fin len, ∃ q : Rl, RlOk q ∧ ∀ j, j < 4 → W.cell? ((x.add (i.1 * 4)).add j) = q.cells[j]? := by
      intro i
      obtain ⟨cs', hc', ht'⟩ := hi i.1 (by omega)
      rw [hC] at hc'
      have hF := field_cells (fs := _) Tryz.underlying37 (by kernel_rfl) (by kernel_rfl) (by rw [hC]; exact hc') ht'
      obtain ⟨v0, y0, n0, c0, t0⟩ := hF 0 _ rfl
      obtain ⟨v1, y1, n1, c1, t1⟩ := hF 1 _ rfl
      obtain ⟨v2, y2, n2, c2, t2⟩ := hF 2 _ rfl
      obtain ⟨v3, y3, n3, c3, t3⟩ := hF 3 _ rfl
      obtain ⟨x0, e0, -, w0⟩ := DataW.trod_string Tryz.underlying9 t0
      simp only [List.cons.injEq, and_true] at e0
      subst e0
      obtain ⟨x1, rfl, w1⟩ := field_int Tryz.underlying35 t1
      obtain ⟨x2, rfl, w2⟩ := field_int Tryz.underlying35 t2
      obtain ⟨x3, rfl, w3⟩ := field_int Tryz.underlying5 t3
      refine ⟨⟨x0, x1, x2, x3⟩, ⟨w0, (wfu64 w1).1, (wfu64 w1).2, (wfu64 w2).1, (wfu64 w2).2, (wfu8 w3).1, (wfu8 w3).2⟩, ?_⟩
      intro j hj
      rcases (by omega : j = 0 ∨ j = 1 ∨ j = 2 ∨ j = 3) with rfl | rfl | rfl | rfl
      · exact c0
      · exact c1
      · exact c2
      · exact c3
    have hlen : (List.ofFn fun i => Classical.choose (each i)).length = len := List.length_ofFn
    refine ⟨List.ofFn fun i => Classical.choose (each i), ⟨some x, cap, by rw [hlen], fun hne => ?_⟩, fun q hq => ?_, by rw [hlen]; omega⟩
    · have h0 : 0 < len := by
        rcases Nat.eq_zero_or_pos len with e | e
        · subst e; simp at hne
        · exact e
      have hx0 := (Classical.choose_spec (each ⟨0, h0⟩)).2 0 (by omega)
      have ex : x = ⟨x.block, x.off, none⟩ := by
        have e1 : (x.add (0 * 4)).add 0 = x.add 0 := by simp [Addr.add]
        rw [e1] at hx0
        exact plain_addr (v := (Classical.choose (each ⟨0, h0⟩)).cells[0]'(by simp [Rl.cells])) (by rw [hx0]; rfl)
      refine ⟨x.block, x.off, by rw [← ex], fun j hj i hi7 => ?_⟩
      rw [hlen] at hj
      have := (Classical.choose_spec (each ⟨j, hj⟩)).2 i hi7
      rw [List.getElem_ofFn, ← this, ex]
      simp only [addr_add, Nat.add_assoc]
    · obtain ⟨i, rfl⟩ := (List.mem_ofFn.1 hq)
      exact (Classical.choose_spec (each i)).1

set_option maxRecDepth 100000 in
theorem open_policy {ps : List MemPlace}
    (hv : Value.okWide Tryz.prog W r b0 28 v) (h : DataW.Trod enc Tryz.prog W base (fun _ => true) held 28 v d ps) :
    ∃ (m : Int) (rv : Value) (rs : List Rl), v = .agg #[.int .i64 m, rv] ∧ (Lit.int .i64 m).wf = true ∧ RulesAt W rv rs ∧ (∀ q ∈ rs, RlOk q) ∧ rs.length ≤ maxLen := by
  obtain ⟨c0, c1, y0, y1, m, rfl, -, -, h0, h1⟩ := Joins.open_agg2 Tryz.underlying28 (by kernel_rfl) (by kernel_rfl) hv h
  obtain ⟨k, e0, -, w0⟩ := DataW.trod_int Tryz.underlying3 h0
  simp at e0
  subst e0
  obtain ⟨l, h2, h3, h4⟩ := field_rules h1
  exact ⟨k, c1, l, rfl, w0, h2, h3, h4⟩
end
end Go.Proofs.YtknlojlcahgnoaaGreat

namespace Go.Proofs.YtknlojlcahgnoaaGreat
open Go.ChangeShapes Go.WideShapes Go.ChangeAt Go.RowKit Go.Deep
set_option linter.unusedVariables false
set_option linter.unusedSimpArgs false

section
variable {H : Type} {enc : TypeId × Value → H} {W : World} {r : Reach} {b0 base : Nat} {held : Bool} {v : Value} {d : DataW H} {p : List MemPlace}

set_option maxRecDepth 100000 in
theorem field_ents {n : Nat} {y : DataW H × List MemPlace} (h : DataW.trod enc Tryz.prog W base (fun _ => true) held n 50 [v] = some y) : ∃ l, EntsAt W v l ∧ (∀ q ∈ l, EntOk q) ∧ l.length ≤ maxLen := by
  rcases Go.Deep.open_slice Tryz.underlying50 h with ⟨hcs, _⟩ | ⟨x, len, cap, m, n', D, Pl, hcs, hb, hl, hm, hmm, _, hi⟩
  · simp only [List.cons.injEq, and_true] at hcs
    subst hcs
    exact ⟨[], ⟨_, _, rfl, fun h => absurd rfl h⟩, fun d hd => (by cases hd), by simp⟩
  · simp only [List.cons.injEq, and_true] at hcs
    subst hcs
    simp only [if_true] at hmm
    have hC : Tryz.prog.cellsOf 80 = 2 := by kernel_rfl
    have each : ∀ i : Fin len, ∃ q : Ent, EntOk q ∧ ∀ j, j < 2 → W.cell? ((x.add (i.1 * 2)).add j) = q.cells[j]? := by
      intro i
      obtain ⟨cs', hc', ht'⟩ := hi i.1 (by omega)
      rw [hC] at hc'
      have hF := field_cells (fs := _) Tryz.underlying80 (by kernel_rfl) (by kernel_rfl) (by rw [hC]; exact hc') ht'
      obtain ⟨v0, y0, n0, c0, t0⟩ := hF 0 _ rfl
      obtain ⟨v1, y1, n1, c1, t1⟩ := hF 1 _ rfl
      obtain ⟨x0, e0, -, w0⟩ := DataW.trod_string Tryz.underlying9 t0
      simp only [List.cons.injEq, and_true] at e0
      subst e0
      obtain ⟨x1, rfl, w1⟩ := field_int Tryz.underlying35 t1
      refine ⟨⟨x0, x1⟩, ⟨w0, (wfu64 w1).1, (wfu64 w1).2⟩, ?_⟩
      intro j hj
      rcases (by omega : j = 0 ∨ j = 1) with rfl | rfl
      · exact c0
      · exact c1
    have hlen : (List.ofFn fun i => Classical.choose (each i)).length = len := List.length_ofFn
    refine ⟨List.ofFn fun i => Classical.choose (each i), ⟨some x, cap, by rw [hlen], fun hne => ?_⟩, fun q hq => ?_, by rw [hlen]; omega⟩
    · have h0 : 0 < len := by
        rcases Nat.eq_zero_or_pos len with e | e
        · subst e; simp at hne
        · exact e
      have hx0 := (Classical.choose_spec (each ⟨0, h0⟩)).2 0 (by omega)
      have ex : x = ⟨x.block, x.off, none⟩ := by
        have e1 : (x.add (0 * 2)).add 0 = x.add 0 := by simp [Addr.add]
        rw [e1] at hx0
        exact plain_addr (v := (Classical.choose (each ⟨0, h0⟩)).cells[0]'(by simp [Ent.cells])) (by rw [hx0]; rfl)
      refine ⟨x.block, x.off, by rw [← ex], fun j hj i hi7 => ?_⟩
      rw [hlen] at hj
      have := (Classical.choose_spec (each ⟨j, hj⟩)).2 i hi7
      rw [List.getElem_ofFn, ← this, ex]
      simp only [addr_add, Nat.add_assoc]
    · obtain ⟨i, rfl⟩ := (List.mem_ofFn.1 hq)
      exact (Classical.choose_spec (each i)).1

set_option maxRecDepth 100000 in
theorem open_snap {ps : List MemPlace}
    (hv : Value.okWide Tryz.prog W r b0 52 v) (h : DataW.Trod enc Tryz.prog W base (fun _ => true) held 52 v d ps) :
    ∃ (m : Int) (rv : Value) (rs : List Ent), v = .agg #[.int .u64 m, rv] ∧ (Lit.int .u64 m).wf = true ∧ EntsAt W rv rs ∧ (∀ q ∈ rs, EntOk q) ∧ rs.length ≤ maxLen := by
  obtain ⟨c0, c1, y0, y1, m, rfl, -, -, h0, h1⟩ := Joins.open_agg2 Tryz.underlying52 (by kernel_rfl) (by kernel_rfl) hv h
  obtain ⟨k, e0, -, w0⟩ := DataW.trod_int Tryz.underlying35 h0
  simp at e0
  subst e0
  obtain ⟨l, h2, h3, h4⟩ := field_ents h1
  exact ⟨k, c1, l, rfl, w0, h2, h3, h4⟩
end
end Go.Proofs.YtknlojlcahgnoaaGreat

namespace Go.Proofs.YtknlojlcahgnoaaGreat
open Go.ChangeShapes Go.WideShapes Go.ChangeAt Go.RowKit Go.Deep
set_option linter.unusedVariables false
set_option linter.unusedSimpArgs false

section
variable {H : Type} {enc : TypeId × Value → H} {P : Program} {W : World} {r : Reach} {b0 base : Nat} {held : Bool} {t e : TypeId} {v : Value} {d : DataW H} {p : List MemPlace}

theorem field_len {n : Nat} {y : DataW H × List MemPlace} {a : Option Addr} {l c : Nat} (he : P.underlying t = some (.slice e)) (hb : 1 ≤ P.bytesOf e) (h : DataW.trod enc P W base (fun _ => true) held n t [.slice a l c] = some y) (hz : ∀ k ∈ y.1.weights P t, k ≤ reachBytes) : l ≤ reachBytes := by
  rcases Go.Deep.open_slice he h with ⟨hcs, _⟩ | ⟨x, len, cap, m, n', D, Pl, hcs, hb', hl, hm, hmm, hx, hi⟩
  · simp only [List.cons.injEq, and_true, Value.slice.injEq] at hcs
    omega
  · simp only [List.cons.injEq, and_true, Value.slice.injEq] at hcs
    obtain ⟨-, rfl, -⟩ := hcs
    subst hx
    have h1 := hz ((((List.range l).map D).length + ((List.range (m - l)).map fun j => D (l + j)).length) * P.bytesOf e) (by simp [DataW.weights, he])
    rw [List.length_map, List.length_range] at h1
    have h2 : l * 1 ≤ (l + ((List.range (m - l)).map fun j => D (l + j)).length) * P.bytesOf e := Nat.mul_le_mul (by omega) hb
    omega
theorem agg2_len {f0 f1 : Field} {ts : List TypeId} {ds : List (DataW H)} {j : Nat} {x : Value} {a : Option Addr} {l c : Nat} (hz : (DataW.weightsEach P ts ds).all (· ≤ reachBytes) = true) (htj : ts[j]? = some t) (hdj : ds[j]? = some d)
    (hs : P.underlying t = some (.struct #[f0, f1])) (hone : oneCellFields P #[f0, f1] = true) (hC : P.cellsOf t = 2) (he : P.underlying f1.type = some (.slice e)) (hb : 1 ≤ P.bytesOf e)
    (hv : Value.okWide P W r b0 t (.agg #[x, .slice a l c])) (h : DataW.Trod enc P W base (fun _ => true) held t (.agg #[x, .slice a l c]) d p) : l ≤ reachBytes := by
  obtain ⟨c0, c1, y0, y1, m, hcs, rfl, -, h0, h1⟩ := Joins.open_agg2 hs hone hC hv h
  simp only [Value.agg.injEq, Array.mk.injEq, List.cons.injEq, and_true] at hcs
  obtain ⟨rfl, rfl⟩ := hcs
  refine field_len he hb h1 fun k hk => ?_
  have h2 := List.all_eq_true.1 hz k (DataW.weights_mem_each htj hdj k (by
    simp only [DataW.weights, hs, List.toList_toArray, List.map_cons, List.map_nil, DataW.weightsEach, List.mem_append]
    exact Or.inr (Or.inl hk)))
  simpa using h2
end
end Go.Proofs.YtknlojlcahgnoaaGreat

namespace Go.Proofs.YtknlojlcahgnoaaGreat
open Go.RowKit
set_option linter.unusedVariables false
set_option linter.unusedSimpArgs false

theorem ents_row {base : Nat} {w : World} {v : Value} {l : List Ent} (h : EntRow base w v l) : EntsAt w v l := by
  obtain ⟨a, c, hv⟩ := h.size
  refine ⟨a, c, hv, fun hl => ?_⟩
  obtain ⟨b, c', hv', -, -, -⟩ := RowOf.cells (enc := Ent.cells) (k := 2) Ent.size2 h 0 (List.length_pos_iff.2 hl)
  rw [hv] at hv'
  cases hv'
  refine ⟨b, 0, rfl, fun j hj i hi => ?_⟩
  obtain ⟨b', c', hv', -, -, hq⟩ := RowOf.cells (enc := Ent.cells) (k := 2) Ent.size2 h j hj
  rw [hv] at hv'
  cases hv'
  rw [Nat.zero_add]
  exact hq i hi
end Go.Proofs.YtknlojlcahgnoaaGreat
