/- Proves tollerlaw's KeepSame: for every input the call returns true, and each argument reads behind it as before. No condition. -/
import Derived.Test.YtfglpejbgfmojaaGreatRows
import Derived.Test.YtfglpejbgfmojaaGreatG52
import Derived.Test.YtfglpejbgfmojaaGreatG4
import Derived.Test.YtfglpejbgfmojaaGreatG10
namespace Go.Proofs.YtfglpejbgfmojaaGreat.keepSame
open Go.ChangeShapes Go.WideShapes Go.ChangeAt Go.RowKit
open Go.ChangeMaps (open_string shut_string)
set_option linter.unusedVariables false
set_option linter.unusedSimpArgs false

theorem own : ownKnob Tryz.prog.godebug = none := by kernel_rfl
theorem laidOut : laidOutB Tryz.prog = true := by kernel_rfl

theorem walk (p0 : ByteArray) (e0 b0 k0 : Int) (p1 : ByteArray) (e1 b1 k1 : Int) (a2 : Int) (w : World) (w0 : p0.size ≤ maxLen ∧ (Lit.int .u64 e0).wf = true ∧ (Lit.int .u64 b0).wf = true ∧ (Lit.int .u8 k0).wf = true) (w1 : p1.size ≤ maxLen ∧ (Lit.int .u64 e1).wf = true ∧ (Lit.int .u64 b1).wf = true ∧ (Lit.int .u8 k1).wf = true) (w2 : (Lit.int .u8 a2).wf = true) :
    Calls Tryz.prog 7 #[.agg #[.string p0, .int .u64 e0, .int .u64 b0, .int .u8 k0], .agg #[.string p1, .int .u64 e1, .int .u64 b1, .int .u8 k1], .int .u8 a2] w fun e w' => e = .returned (.bool true) ∧ Below w.heap.size w w' :=
  keepSame_walk p0 e0 b0 k0 p1 e1 b1 k1 a2 w (wfu64 w0.2.1).1 (wfu64 w0.2.1).2 (wfu64 w0.2.2.1).1 (wfu64 w0.2.2.1).2 (wfu8 w2).1 (wfu8 w2).2

set_option maxRecDepth 100000 in
theorem lifted (os : Os) (started : os.Started) (H : Type) (enc : TypeId × Value → H) :
    ReturnsInHanded {} Tryz.checked os 7 .any (Rows.keepSameSpec.pre6 enc Tryz.prog Tryz.f7 Rows.keepSameRow.domain false) (Rows.keepSameSpec.post enc Tryz.prog Tryz.f7 false true false false) := by
  refine returnsInHanded_of_change (C := Tryz.checked) own started (by kernel_rfl) Tryz.func7
    (ChangeSpec.witness6 (enc := enc) (C := Tryz.checked) false ⟨#[], #[.agg #[.string ByteArray.empty, .int .u64 0, .int .u64 0, .int .u8 0], .agg #[.string ByteArray.empty, .int .u64 0, .int .u64 0, .int .u8 0], .int .u8 0], []⟩ 8 (by kernel_rfl) (by kernel_rfl) (by kernel_rfl) (by kernel_rfl)) ?_
  intro W base args ds gs before hval0 hW hcnd _
  have hval : ∀ (j : Nat) t v, Tryz.f7.params[j]? = some t → args[j]? = some v → Value.okWide Tryz.prog W .any base t v := hval0
  have hW' := hW
  obtain ⟨p, q, hA0, hV, rfl, hfz, hnd⟩ := hW
  have hA : DataW.TrodAll enc Tryz.prog W 0 (fun _ => true) true Tryz.f7.params.toList args.toList ds p := hA0
  rw [Tryz.params7] at hA hval
  obtain ⟨v0, vs0, d0, ds0, p0, q0, hargs, rfl, rfl, h0, r0⟩ := trodAll_cons hA
  obtain ⟨v1, vs1, d1, ds1, p1, q1, rfl, rfl, rfl, h1, r1⟩ := trodAll_cons r0
  obtain ⟨v2, vs2, d2, ds2, p2, q2, rfl, rfl, rfl, h2, r2⟩ := trodAll_cons r1
  obtain ⟨rfl, rfl, rfl⟩ := trodAll_nil r2
  obtain rfl : args = #[v0, v1, v2] := by cases args; simp_all
  obtain ⟨rfl, rfl⟩ := trodVars_none hV
  have k0 := h0
  have lt0 : ∀ x ∈ p0, x.block < W.heap.size := by obtain ⟨m, hm⟩ := k0; exact DataW.trod_lt m _ _ _ hm
  obtain ⟨p0, e0, b0, k0_, rfl, w0⟩ := open_rule (hval 0 29 v0 rfl rfl) h0
  have k1 := h1
  have lt1 : ∀ x ∈ p1, x.block < W.heap.size := by obtain ⟨m, hm⟩ := k1; exact DataW.trod_lt m _ _ _ hm
  obtain ⟨p1, e1, b1, k1_, rfl, w1⟩ := open_rule (hval 1 29 v1 rfl rfl) h1
  have k2 := h2
  have lt2 : ∀ x ∈ p2, x.block < W.heap.size := by obtain ⟨m, hm⟩ := k2; exact DataW.trod_lt m _ _ _ hm
  obtain ⟨a2, rfl, -, -, w2⟩ := open_int Tryz.underlying5 (hval 2 5 v2 rfl rfl) h2
  clear hA0 hval0
  refine (walk p0 e0 b0 k0_ p1 e1 b1 k1_ a2 W w0 w1 w2).mono fun e W' ⟨he, bel⟩ => ?_
  subst he
  exact ⟨_, rfl, _, _, _, [], _, [], hW', trodAll_mk1 (shut_bool Tryz.underlying4 _), (trodAll_cons_mk (Below.trod laidOut (by kernel_rfl) (of_decide_eq_true (by kernel_rfl)) k0 bel lt0) (trodAll_cons_mk (Below.trod laidOut (by kernel_rfl) (of_decide_eq_true (by kernel_rfl)) k1 bel lt1) (trodAll_cons_mk (Below.trod laidOut (by kernel_rfl) (of_decide_eq_true (by kernel_rfl)) k2 bel lt2) trodAll_mk0))), rfl, bel.frame _, fun h => by cases h⟩

theorem over : Rows.keepSameRow.holds Tryz.pinned (OpenSpec.ofChange Rows.keepSameSpec) :=
  OpenClaim.holds_of_wide 7 Tryz.f7 rfl rfl rfl rfl rfl rfl rfl ⟨rfl, rfl, rfl, rfl, rfl⟩ rfl rfl rfl rfl rfl (by kernel_rfl) Tryz.func7 (by kernel_rfl)
    (of_decide_eq_true (by kernel_rfl)) (by unfold Func.isWrapper; first | (rw [if_pos (by decide +kernel)]; kernel_rfl) | (rw [if_neg (by decide +kernel)]; exact ⟨rfl, rfl⟩))
    (fun os started H enc _ => lifted os started H enc)

theorem proved : Rows.KeepSameSaid := over
#print axioms proved
end Go.Proofs.YtfglpejbgfmojaaGreat.keepSame
