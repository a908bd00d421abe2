/- Rows of rules of the call's own. Walk: tollerlaw15.Rules. How a slice of numbers, and a policy, come out of an argument's reading. -/
import Derived.Deep.Slices
import Derived.Deep.Fields
import Derived.ChangeSame
import Derived.Lib.SmallJoins
import Derived.Test.YtknlojlcahgnoaaGreatEb34
import Derived.Test.YtknlojlcahgnoaaGreatEb36
import Derived.Test.YtknlojlcahgnoaaGreatEb43
import Derived.Test.YtknlojlcahgnoaaGreatEb35
import Derived.Test.YtknlojlcahgnoaaGreatEb7
import Derived.Test.YtknlojlcahgnoaaGreatEb21
import Derived.Test.YtknlojlcahgnoaaGreatEb13

namespace Go.Proofs.YtknlojlcahgnoaaGreat
open Go.RowKit
set_option linter.unusedVariables false
set_option linter.unusedSimpArgs false

abbrev RuleRow (base : Nat) (w : World) (v : Value) (l : List Rl) : Prop := RowOf Rl.cells 4 37 base w v l
theorem rule_info : (Tryz.prog.info? 37).map (fun i => (i.zero, i.size, i.bytes)) = some (some (.agg #[.string ⟨#[]⟩, .int .u64 0, .int .u64 0, .int .u8 0]), 4, 40) := by kernel_rfl
theorem rulerow_more {base : Nat} {w : World} {v : Value} {l l' : List Rl} {r : Rl} (h : w.ownsRow base 37 4 v (l.length + 1) (flatE Rl.cells l ++ r.cells.toList)) (e : l' = l ++ [r]) : RuleRow base w v l' := by
  subst e
  refine RowOf.mk' h (by simp) (flatE_snoc _ _ _).symm ?_
  obtain ⟨g, cap, rfl⟩ := ownsRow_succ h
  simp
theorem RuleRow.at {base : Nat} {w : World} {v : Value} {l : List Rl} (h : RuleRow base w v l) : RulesAt w v l := RowOf.elems Rl.size4 h
/-- a block of another make stays as it is while a row grows -/
theorem Blk.grownNe {y z : World} {base size n k : Nat} {e t : TypeId} {v : Value} {xs : List Value} {C : Array Value} (hb : Blk y k C t) (g : y.grownBy z v.ownBlock) (o : y.ownsRow base e size v n xs) (ne : e ≠ t) : Blk z k C t := by
  refine (g.block k (lt_of_block hb) ?_).trans hb
  intro q
  obtain ⟨-, ⟨rfl, -⟩ | ⟨g', cap, cur, rfl, h2, h3, -⟩⟩ := o
  · cases q
  · have e1 : k = g' := by simpa [Value.ownBlock] using q
    subst e1
    have e2 := h3.symm.trans hb
    simp at e2
    exact ne e2.2
end Go.Proofs.YtknlojlcahgnoaaGreat

namespace Go.Proofs.YtknlojlcahgnoaaGreat
open Go.RowKit
set_option linter.unusedVariables false
set_option linter.unusedSimpArgs false

theorem Blk.set2 {w : World} {b : Nat} {a0 a1 : Value} {t : TypeId} (h : Blk w b #[a0, a1] t) (v0 v1 : Value) : Blk ((w.setCell ⟨b, 0, none⟩ v0).setCell ⟨b, 1, none⟩ v1) b #[v0, v1] t := by
  have h0 : Blk _ b #[v0, a1] t := h.set 0 v0
  exact h0.set 1 v1
end Go.Proofs.YtknlojlcahgnoaaGreat

namespace Go.Proofs.YtknlojlcahgnoaaGreat
open Go.ChangeShapes Go.WideShapes Go.ChangeAt Go.RowKit Go.Deep
set_option linter.unusedVariables false
set_option linter.unusedSimpArgs false

section
variable {H : Type} {enc : TypeId × Value → H} {W : World} {r : Reach} {b0 base : Nat} {held : Bool} {v : Value} {d : DataW H} {p : List MemPlace}

set_option maxRecDepth 100000 in
theorem open_nums (hv : Value.okWide Tryz.prog W r b0 24 v) (h : DataW.Trod enc Tryz.prog W base (fun _ => true) held 24 v d p) : ∃ l, NmsSlice W v l := by
  obtain ⟨a0, len, cap, rfl⟩ := okWide_slice Tryz.underlying24 hv
  obtain ⟨fuel, hf⟩ := h
  rcases Go.Deep.open_slice Tryz.underlying24 hf with ⟨hcs, _⟩ | ⟨x, len', cap', m, n, D, Pl, hcs, hb, hl, hm, hmm, _, hi⟩
  · simp [Value.cells] at hcs
    obtain ⟨rfl, rfl, rfl⟩ := hcs
    exact ⟨[], ⟨_, _, rfl, fun h => absurd rfl h⟩, by simp, fun d hd => (by cases hd)⟩
  · simp [Value.cells] at hcs
    obtain ⟨rfl, rfl, rfl⟩ := hcs
    simp only [if_true] at hmm
    have hC : Tryz.prog.cellsOf 86 = 4 := by kernel_rfl
    have each : ∀ i : Fin len, ∃ q : Nms, NmsOk W q ∧ ∀ j, j < 4 → W.cell? ((x.add (i.1 * 4)).add j) = q.cells[j]? := by
      intro i
      obtain ⟨cs', hc', ht'⟩ := hi i.1 (by omega)
      rw [hC] at hc'
      have hF := field_cells (fs := _) Tryz.underlying86 (by kernel_rfl) (by kernel_rfl) (by rw [hC]; exact hc') ht'
      obtain ⟨v0, y0, n0, c0, t0⟩ := hF 0 _ rfl
      obtain ⟨v1, y1, n1, c1, t1⟩ := hF 1 _ rfl
      obtain ⟨v2, y2, n2, c2, t2⟩ := hF 2 _ rfl
      obtain ⟨v3, y3, n3, c3, t3⟩ := hF 3 _ rfl
      obtain ⟨l0, w0⟩ := field_bytes Tryz.underlying22 Tryz.underlying5 (by kernel_rfl) t0
      obtain ⟨x1, rfl, w1⟩ := field_int Tryz.underlying61 t1
      obtain ⟨x2, rfl, w2⟩ := field_int Tryz.underlying23 t2
      obtain ⟨x3, rfl, w3⟩ := field_int Tryz.underlying5 t3
      refine ⟨⟨v0, l0, x1, x2, x3⟩, ⟨w0, (wfu32 w1).1, (wfu32 w1).2, (wfu16 w2).1, (wfu16 w2).2, (wfu8 w3).1, (wfu8 w3).2⟩, ?_⟩
      intro j hj
      rcases (by omega : j = 0 ∨ j = 1 ∨ j = 2 ∨ j = 3) with rfl | rfl | rfl | rfl
      · exact c0
      · exact c1
      · exact c2
      · exact c3
    have hlen : (List.ofFn fun i => Classical.choose (each i)).length = len := List.length_ofFn
    refine ⟨List.ofFn fun i => Classical.choose (each i), ⟨some x, cap, by rw [hlen], fun hne => ?_⟩, by rw [hlen]; omega, fun q hq => ?_⟩
    · have h0 : 0 < len := by
        rcases Nat.eq_zero_or_pos len with e | e
        · subst e; simp at hne
        · exact e
      have hx0 := (Classical.choose_spec (each ⟨0, h0⟩)).2 0 (by omega)
      have ex : x = ⟨x.block, x.off, none⟩ := by
        have e1 : (x.add (0 * 4)).add 0 = x.add 0 := by simp [Addr.add]
        rw [e1] at hx0
        exact plain_addr (v := (Classical.choose (each ⟨0, h0⟩)).cells[0]'(by simp [Nms.cells])) (by rw [hx0]; rfl)
      refine ⟨x.block, x.off, by rw [← ex], fun j hj i hi7 => ?_⟩
      rw [hlen] at hj
      have := (Classical.choose_spec (each ⟨j, hj⟩)).2 i hi7
      rw [List.getElem_ofFn, ← this, ex]
      simp only [addr_add]
    · obtain ⟨i, rfl⟩ := (List.mem_ofFn.1 hq)
      exact (Classical.choose_spec (each i)).1

end
end Go.Proofs.YtknlojlcahgnoaaGreat
