/- Slices of a rule's numbers: what they read as. How a slice of numbers, and a policy, come out of an argument's reading. -/
import Derived.Deep.Slices
import Derived.Deep.Fields
import Derived.ChangeSame
import Derived.Lib.SmallJoins
import Derived.Test.YtfglpejbgfmojaaGreatG4
import Derived.Test.YtfglpejbgfmojaaGreatG7
import Derived.Test.YtfglpejbgfmojaaGreatG11
import Derived.Test.YtfglpejbgfmojaaGreatG44

/- Slices of a rule's numbers: what they read as. -/
namespace Go.Proofs.YtfglpejbgfmojaaGreat
open Go.RowKit
set_option linter.unusedVariables false
set_option linter.unusedSimpArgs false

structure Nms where
  prev : Value
  pre : List UInt8
  every : Int
  burst : Int
  kind : Int
def Nms.cells (d : Nms) : Array Value := #[d.prev, .int .u32 d.every, .int .u16 d.burst, .int .u8 d.kind]
structure NmsOk (w : World) (d : Nms) : Prop where
  pre : ByteSlice w d.prev d.pre
  e0 : 0 ≤ d.every
  e1 : d.every < 4294967296
  b0 : 0 ≤ d.burst
  b1 : d.burst < 65536
  k0 : 0 ≤ d.kind
  k1 : d.kind < 256
theorem NmsOk.ext {w w' : World} {d : Nms} (h : NmsOk w d) (e : Ext w w') : NmsOk w' d := ⟨h.pre.ext e, h.e0, h.e1, h.b0, h.b1, h.k0, h.k1⟩
/-- a slice whose elements are these numbers -/
structure NmsSlice (w : World) (v : Value) (l : List Nms) : Prop where
  form : ∃ a c, v = .slice a l.length c ∧ (l ≠ [] → ∃ b o, a = some ⟨b, o, none⟩ ∧ ∀ j (h : j < l.length) i, i < 4 → w.cell? ⟨b, o + j * 4 + i, none⟩ = (l[j].cells)[i]?)
  len : l.length ≤ maxLen
  each : ∀ d ∈ l, NmsOk w d
theorem NmsSlice.ext {w w' : World} {v : Value} {l : List Nms} (h : NmsSlice w v l) (e : Ext w w') : NmsSlice w' v l := by
  obtain ⟨a, c, hv, hl⟩ := h.form
  refine ⟨⟨a, c, hv, fun hne => ?_⟩, h.len, fun d hd => (h.each d hd).ext e⟩
  obtain ⟨b, o, ha, hc⟩ := hl hne
  refine ⟨b, o, ha, fun j hj i hi => keep_opt e ?_ (hc j hj i hi)⟩
  simp [Nms.cells, hi]
theorem nms_cells {w w' : World} {b o : Nat} {l : List Nms} (hc : ∀ j (h : j < l.length) i, i < 4 → w.cell? ⟨b, o + j * 4 + i, none⟩ = (l[j].cells)[i]?) (e : Ext w w') (k : Nat) (hk : k < l.length) :
    w'.cell? ⟨b, o + k * 4, none⟩ = some l[k].prev ∧ w'.cell? ⟨b, o + k * 4 + 1, none⟩ = some (.int .u32 l[k].every) ∧ w'.cell? ⟨b, o + k * 4 + 2, none⟩ = some (.int .u16 l[k].burst) ∧ w'.cell? ⟨b, o + k * 4 + 3, none⟩ = some (.int .u8 l[k].kind) :=
  ⟨e.keep (hc k hk 0 (by omega)), e.keep (hc k hk 1 (by omega)), e.keep (hc k hk 2 (by omega)), e.keep (hc k hk 3 (by omega))⟩
end Go.Proofs.YtfglpejbgfmojaaGreat

/- How a slice of numbers, and a policy, come out of an argument's reading. -/
namespace Go.Proofs.YtfglpejbgfmojaaGreat
open Go.ChangeShapes Go.WideShapes Go.ChangeAt Go.RowKit Go.Deep
set_option linter.unusedVariables false
set_option linter.unusedSimpArgs false

section
variable {H : Type} {enc : TypeId × Value → H} {W : World} {r : Reach} {b0 base : Nat} {held : Bool} {v : Value} {d : DataW H} {p : List MemPlace}

set_option maxRecDepth 100000 in
theorem open_nums (hv : Value.okWide Tryz.prog W r b0 31 v) (h : DataW.Trod enc Tryz.prog W base (fun _ => true) held 31 v d p) : ∃ l, NmsSlice W v l := by
  obtain ⟨a0, len, cap, rfl⟩ := okWide_slice Tryz.underlying31 hv
  obtain ⟨fuel, hf⟩ := h
  rcases Go.Deep.open_slice Tryz.underlying31 hf with ⟨hcs, _⟩ | ⟨x, len', cap', m, n, D, Pl, hcs, hb, hl, hm, hmm, _, hi⟩
  · simp [Value.cells] at hcs
    obtain ⟨rfl, rfl, rfl⟩ := hcs
    exact ⟨[], ⟨_, _, rfl, fun h => absurd rfl h⟩, by simp, fun d hd => (by cases hd)⟩
  · simp [Value.cells] at hcs
    obtain ⟨rfl, rfl, rfl⟩ := hcs
    simp only [if_true] at hmm
    have hC : Tryz.prog.cellsOf 86 = 4 := by kernel_rfl
    have each : ∀ i : Fin len, ∃ q : Nms, NmsOk W q ∧ ∀ j, j < 4 → W.cell? ((x.add (i.1 * 4)).add j) = q.cells[j]? := by
      intro i
      obtain ⟨cs', hc', ht'⟩ := hi i.1 (by omega)
      rw [hC] at hc'
      have hF := field_cells (fs := _) Tryz.underlying86 (by kernel_rfl) (by kernel_rfl) (by rw [hC]; exact hc') ht'
      obtain ⟨v0, y0, n0, c0, t0⟩ := hF 0 _ rfl
      obtain ⟨v1, y1, n1, c1, t1⟩ := hF 1 _ rfl
      obtain ⟨v2, y2, n2, c2, t2⟩ := hF 2 _ rfl
      obtain ⟨v3, y3, n3, c3, t3⟩ := hF 3 _ rfl
      obtain ⟨l0, w0⟩ := field_bytes Tryz.underlying26 Tryz.underlying5 (by kernel_rfl) t0
      obtain ⟨x1, rfl, w1⟩ := field_int Tryz.underlying72 t1
      obtain ⟨x2, rfl, w2⟩ := field_int Tryz.underlying30 t2
      obtain ⟨x3, rfl, w3⟩ := field_int Tryz.underlying5 t3
      refine ⟨⟨v0, l0, x1, x2, x3⟩, ⟨w0, (wfu32 w1).1, (wfu32 w1).2, (wfu16 w2).1, (wfu16 w2).2, (wfu8 w3).1, (wfu8 w3).2⟩, ?_⟩
      intro j hj
      rcases (by omega : j = 0 ∨ j = 1 ∨ j = 2 ∨ j = 3) with rfl | rfl | rfl | rfl
      · exact c0
      · exact c1
      · exact c2
      · exact c3
    have hlen : (List.ofFn fun i => Classical.choose (each i)).length = len := List.length_ofFn
    refine ⟨List.ofFn fun i => Classical.choose (each i), ⟨some x, cap, by rw [hlen], fun hne => ?_⟩, by rw [hlen]; omega, fun q hq => ?_⟩
    · have h0 : 0 < len := by
        rcases Nat.eq_zero_or_pos len with e | e
        · subst e; simp at hne
        · exact e
      have hx0 := (Classical.choose_spec (each ⟨0, h0⟩)).2 0 (by omega)
      have ex : x = ⟨x.block, x.off, none⟩ := by
        have e1 : (x.add (0 * 4)).add 0 = x.add 0 := by simp [Addr.add]
        rw [e1] at hx0
        exact plain_addr (v := (Classical.choose (each ⟨0, h0⟩)).cells[0]'(by simp [Nms.cells])) (by rw [hx0]; rfl)
      refine ⟨x.block, x.off, by rw [← ex], fun j hj i hi7 => ?_⟩
      rw [hlen] at hj
      have := (Classical.choose_spec (each ⟨j, hj⟩)).2 i hi7
      rw [List.getElem_ofFn, ← this, ex]
      simp only [addr_add]
    · obtain ⟨i, rfl⟩ := (List.mem_ofFn.1 hq)
      exact (Classical.choose_spec (each i)).1

set_option maxRecDepth 100000 in
theorem field_rules {n : Nat} {y : DataW H × List MemPlace} (h : DataW.trod enc Tryz.prog W base (fun _ => true) held n 23 [v] = some y) : ∃ l, RulesAt W v l ∧ (∀ q ∈ l, RlOk q) ∧ l.length ≤ maxLen := by
  rcases Go.Deep.open_slice Tryz.underlying23 h with ⟨hcs, _⟩ | ⟨x, len, cap, m, n', D, Pl, hcs, hb, hl, hm, hmm, _, hi⟩
  · simp only [List.cons.injEq, and_true] at hcs
    subst hcs
    exact ⟨[], ⟨_, _, rfl, fun h => absurd rfl h⟩, fun d hd => (by cases hd), by simp⟩
  · simp only [List.cons.injEq, and_true] at hcs
    subst hcs
    simp only [if_true] at hmm
    have hC : Tryz.prog.cellsOf 29 = 4 := by kernel_rfl
    have each : ∀ i : Fin len, ∃ q : Rl, RlOk q ∧ ∀ j, j < 4 → W.cell? ((x.add (i.1 * 4)).add j) = q.cells[j]? := by
      intro i
      obtain ⟨cs', hc', ht'⟩ := hi i.1 (by omega)
      rw [hC] at hc'
      have hF := field_cells (fs := _) Tryz.underlying29 (by kernel_rfl) (by kernel_rfl) (by rw [hC]; exact hc') ht'
      obtain ⟨v0, y0, n0, c0, t0⟩ := hF 0 _ rfl
      obtain ⟨v1, y1, n1, c1, t1⟩ := hF 1 _ rfl
      obtain ⟨v2, y2, n2, c2, t2⟩ := hF 2 _ rfl
      obtain ⟨v3, y3, n3, c3, t3⟩ := hF 3 _ rfl
      obtain ⟨x0, e0, -, w0⟩ := DataW.trod_string Tryz.underlying9 t0
      simp only [List.cons.injEq, and_true] at e0
      subst e0
      obtain ⟨x1, rfl, w1⟩ := field_int Tryz.underlying27 t1
      obtain ⟨x2, rfl, w2⟩ := field_int Tryz.underlying27 t2
      obtain ⟨x3, rfl, w3⟩ := field_int Tryz.underlying5 t3
      refine ⟨⟨x0, x1, x2, x3⟩, ⟨w0, (wfu64 w1).1, (wfu64 w1).2, (wfu64 w2).1, (wfu64 w2).2, (wfu8 w3).1, (wfu8 w3).2⟩, ?_⟩
      intro j hj
      rcases (by omega : j = 0 ∨ j = 1 ∨ j = 2 ∨ j = 3) with rfl | rfl | rfl | rfl
      · exact c0
      · exact c1
      · exact c2
      · exact c3
    have hlen : (List.ofFn fun i => Classical.choose (each i)).length = len := List.length_ofFn
    refine ⟨List.ofFn fun i => Classical.choose (each i), ⟨some x, cap, by rw [hlen], fun hne => ?_⟩, fun q hq => ?_, by rw [hlen]; omega⟩
    · have h0 : 0 < len := by
        rcases Nat.eq_zero_or_pos len with e | e
        · subst e; simp at hne
        · exact e
      have hx0 := (Classical.choose_spec (each ⟨0, h0⟩)).2 0 (by omega)
      have ex : x = ⟨x.block, x.off, none⟩ := by
        have e1 : (x.add (0 * 4)).add 0 = x.add 0 := by simp [Addr.add]
        rw [e1] at hx0
        exact plain_addr (v := (Classical.choose (each ⟨0, h0⟩)).cells[0]'(by simp [Rl.cells])) (by rw [hx0]; rfl)
      refine ⟨x.block, x.off, by rw [← ex], fun j hj i hi7 => ?_⟩
      rw [hlen] at hj
      have := (Classical.choose_spec (each ⟨j, hj⟩)).2 i hi7
      rw [List.getElem_ofFn, ← this, ex]
      simp only [addr_add, Nat.add_assoc]
    · obtain ⟨i, rfl⟩ := (List.mem_ofFn.1 hq)
      exact (Classical.choose_spec (each i)).1

set_option maxRecDepth 100000 in
theorem open_policy {ps : List MemPlace}
    (hv : Value.okWide Tryz.prog W r b0 25 v) (h : DataW.Trod enc Tryz.prog W base (fun _ => true) held 25 v d ps) :
    ∃ (m : Int) (rv : Value) (rs : List Rl), v = .agg #[.int .i64 m, rv] ∧ (Lit.int .i64 m).wf = true ∧ RulesAt W rv rs ∧ (∀ q ∈ rs, RlOk q) ∧ rs.length ≤ maxLen := by
  obtain ⟨c0, c1, y0, y1, m, rfl, -, -, h0, h1⟩ := Joins.open_agg2 Tryz.underlying25 (by kernel_rfl) (by kernel_rfl) hv h
  obtain ⟨k, e0, -, w0⟩ := DataW.trod_int Tryz.underlying3 h0
  simp at e0
  subst e0
  obtain ⟨l, h2, h3, h4⟩ := field_rules h1
  exact ⟨k, c1, l, rfl, w0, h2, h3, h4⟩
end
end Go.Proofs.YtfglpejbgfmojaaGreat
