/- How a slice of deeds comes out of an argument's reading. -/
import Derived.Deep.Slices
import Derived.Deep.Fields
import Derived.ChangeSame
import Derived.Test.YtfglpejbgfmojaaGreatG7

/- How a slice of deeds comes out of an argument's reading. -/
namespace Go.Proofs.YtfglpejbgfmojaaGreat
open Go.ChangeShapes Go.WideShapes Go.ChangeAt Go.RowKit Go.Deep
set_option linter.unusedVariables false
set_option linter.unusedSimpArgs false

section
variable {H : Type} {enc : TypeId × Value → H} {P : Program} {w : World} {base : Nat} {held : Bool}

/-- one element's fields, a cell each -/
theorem field_cells {e : TypeId} {fs : Array Field} {fuel : Nat} {a : Addr} {cs : List Value} {x : DataW H × List MemPlace} {sp : Nat → Bool} (he : P.underlying e = some (.struct fs)) (hone : oneCellFields P fs = true) (hC : P.cellsOf e = fs.size)
    (hc : w.cells? base a (P.cellsOf e) = some cs) (ht : DataW.trod enc P w base sp held fuel e cs = some x) :
    ∀ (j : Nat) (f : Field), fs[j]? = some f → ∃ (v : Value) (y : DataW H × List MemPlace) (n : Nat), w.cell? (a.add j) = some v ∧ DataW.trod enc P w base sp held n f.type [v] = some y := by
  obtain ⟨xs, n, -, -, -, hlen, hf⟩ := DataW.trod_struct he ht
  obtain ⟨-, hcl, hat⟩ := World.cells?_some hc
  intro j f hj
  obtain ⟨ho, hk⟩ := hone_of hone j f hj
  have hjl : j < fs.size := (Array.getElem?_eq_some_iff.1 hj).1
  have hjc : j < cs.length := by rw [hcl, hC]; exact hjl
  have h1 := hf j f hj
  rw [ho, hk] at h1
  have e1 : (cs.drop j).take 1 = [cs[j]] := by rw [List.drop_eq_getElem_cons hjc]; rfl
  rw [e1] at h1
  refine ⟨cs[j], xs[j]'(by omega), n, ?_, h1.trans (List.getElem?_eq_getElem (by omega))⟩
  rw [hat j (by rw [hC]; exact hjl), List.getElem?_eq_getElem hjc]

theorem field_int {t : TypeId} {k : IntKind} {v : Value} {n : Nat} {sp : Nat → Bool} {y : DataW H × List MemPlace} (ht : P.underlying t = some (.int k)) (h : DataW.trod enc P w base sp held n t [v] = some y) : ∃ x, v = .int k x ∧ (Lit.int k x).wf = true := by
  obtain ⟨x, hv, -, hw⟩ := DataW.trod_int ht h
  simp only [List.cons.injEq, and_true] at hv
  exact ⟨x, hv, hw⟩

theorem field_bytes {t e : TypeId} {v : Value} {n : Nat} {y : DataW H × List MemPlace} (ht : P.underlying t = some (.slice e)) (he : P.underlying e = some (.int .u8)) (hc : P.cellsOf e = 1) (h : DataW.trod enc P w base (fun _ => true) held n t [v] = some y) : ∃ l, ByteSlice w v l := by
  rcases open_ints ht he hc h with ⟨hcs, _⟩ | ⟨x, len', cap', zs, hcs, _, hl, hm, hz, _, hcell, hwz⟩
  · simp only [List.cons.injEq, and_true] at hcs
    subst hcs
    exact ⟨[], ⟨_, _, rfl, fun h => absurd rfl h⟩, by simp⟩
  · simp only [List.cons.injEq, and_true] at hcs
    subst hcs
    simp only [if_true] at hz
    have hlen : ((zs.take len').map fun n => UInt8.ofNat n.toNat).length = len' := by rw [List.length_map, List.length_take, hz]; omega
    refine ⟨(zs.take len').map fun n => UInt8.ofNat n.toNat, ⟨some x, cap', by rw [hlen], fun hne => ?_⟩, by rw [hlen]; omega⟩
    have h0 : 0 < len' := by
      rcases Nat.eq_zero_or_pos len' with e | e
      · subst e; simp at hne
      · exact e
    have ex := plain_addr (hcell 0 (by omega))
    refine ⟨x.block, x.off, by rw [← ex], fun j hj => ?_⟩
    rw [hlen] at hj
    have hw := hwz (zs[j]'(by omega)) (List.getElem_mem _)
    have hb : 0 ≤ zs[j]'(by omega) ∧ zs[j]'(by omega) ≤ 255 := by simpa [Lit.wf, IntKind.min, IntKind.max, IntKind.signed, IntKind.bits] using hw
    rw [← addr_add, ← ex, hcell j (by omega)]
    simp only [List.getElem_map, List.getElem_take]
    simp [List.getD, List.getElem?_eq_getElem (show j < zs.length by omega)]
    omega
end

section
variable {H : Type} {enc : TypeId × Value → H} {W : World} {r : Reach} {b0 base : Nat} {held : Bool} {v : Value} {d : DataW H} {p : List MemPlace}

set_option maxRecDepth 100000 in
theorem open_deeds (hv : Value.okWide Tryz.prog W r b0 22 v) (h : DataW.Trod enc Tryz.prog W base (fun _ => true) held 22 v d p) : ∃ l, DeedSlice W v l := by
  obtain ⟨a0, len, cap, rfl⟩ := okWide_slice Tryz.underlying22 hv
  obtain ⟨fuel, hf⟩ := h
  rcases Go.Deep.open_slice Tryz.underlying22 hf with ⟨hcs, _⟩ | ⟨x, len', cap', m, n, D, Pl, hcs, hb, hl, hm, hmm, _, hi⟩
  · simp [Value.cells] at hcs
    obtain ⟨rfl, rfl, rfl⟩ := hcs
    exact ⟨[], ⟨_, _, rfl, fun h => absurd rfl h⟩, by simp, fun d hd => (by cases hd)⟩
  · simp [Value.cells] at hcs
    obtain ⟨rfl, rfl, rfl⟩ := hcs
    simp only [if_true] at hmm
    have hC : Tryz.prog.cellsOf 74 = 7 := by kernel_rfl
    have each : ∀ i : Fin len, ∃ q : Deed, DeedOk W q ∧ ∀ j, j < 7 → W.cell? ((x.add (i.1 * 7)).add j) = q.cells[j]? := by
      intro i
      obtain ⟨cs', hc', ht'⟩ := hi i.1 (by omega)
      rw [hC] at hc'
      have hF := field_cells (fs := _) Tryz.underlying74 (by kernel_rfl) (by kernel_rfl) (by rw [hC]; exact hc') ht'
      obtain ⟨v0, y0, n0, c0, t0⟩ := hF 0 _ rfl
      obtain ⟨v1, y1, n1, c1, t1⟩ := hF 1 _ rfl
      obtain ⟨v2, y2, n2, c2, t2⟩ := hF 2 _ rfl
      obtain ⟨v3, y3, n3, c3, t3⟩ := hF 3 _ rfl
      obtain ⟨v4, y4, n4, c4, t4⟩ := hF 4 _ rfl
      obtain ⟨v5, y5, n5, c5, t5⟩ := hF 5 _ rfl
      obtain ⟨v6, y6, n6, c6, t6⟩ := hF 6 _ rfl
      obtain ⟨x0, rfl, w0⟩ := field_int Tryz.underlying5 t0
      obtain ⟨x1, rfl, w1⟩ := field_int Tryz.underlying72 t1
      obtain ⟨x2, rfl, w2⟩ := field_int Tryz.underlying5 t2
      obtain ⟨l3, w3⟩ := field_bytes Tryz.underlying26 Tryz.underlying5 (by kernel_rfl) t3
      obtain ⟨x4, rfl, w4⟩ := field_int Tryz.underlying5 t4
      obtain ⟨x5, rfl, w5⟩ := field_int Tryz.underlying30 t5
      obtain ⟨x6, rfl, w6⟩ := field_int Tryz.underlying5 t6
      refine ⟨⟨x0, x1, x2, v3, l3, x4, x5, x6⟩, ⟨(wfu8 w0).1, (wfu8 w0).2, (wfu32 w1).1, (wfu32 w1).2, (wfu8 w2).1, (wfu8 w2).2, w3, (wfu8 w4).1, (wfu8 w4).2, (wfu16 w5).1, (wfu16 w5).2, (wfu8 w6).1, (wfu8 w6).2⟩, ?_⟩
      intro j hj
      rcases (by omega : j = 0 ∨ j = 1 ∨ j = 2 ∨ j = 3 ∨ j = 4 ∨ j = 5 ∨ j = 6) with rfl | rfl | rfl | rfl | rfl | rfl | rfl
      · exact c0
      · exact c1
      · exact c2
      · exact c3
      · exact c4
      · exact c5
      · exact c6
    have hlen : (List.ofFn fun i => Classical.choose (each i)).length = len := List.length_ofFn
    refine ⟨List.ofFn fun i => Classical.choose (each i), ⟨some x, cap, by rw [hlen], fun hne => ?_⟩, by rw [hlen]; omega, fun q hq => ?_⟩
    · have h0 : 0 < len := by
        rcases Nat.eq_zero_or_pos len with e | e
        · subst e; simp at hne
        · exact e
      have hx0 := (Classical.choose_spec (each ⟨0, h0⟩)).2 0 (by omega)
      have ex : x = ⟨x.block, x.off, none⟩ := by
        have e1 : (x.add (0 * 7)).add 0 = x.add 0 := by simp [Addr.add]
        rw [e1] at hx0
        exact plain_addr (v := (Classical.choose (each ⟨0, h0⟩)).cells[0]'(by simp [Deed.cells])) (by rw [hx0]; rfl)
      refine ⟨x.block, x.off, by rw [← ex], fun j hj i hi7 => ?_⟩
      rw [hlen] at hj
      have := (Classical.choose_spec (each ⟨j, hj⟩)).2 i hi7
      rw [List.getElem_ofFn, ← this, ex]
      simp only [addr_add]
    · obtain ⟨i, rfl⟩ := (List.mem_ofFn.1 hq)
      exact (Classical.choose_spec (each i)).1
end
end Go.Proofs.YtfglpejbgfmojaaGreat
