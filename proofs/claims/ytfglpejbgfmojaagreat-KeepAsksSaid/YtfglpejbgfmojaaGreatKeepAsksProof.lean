/- Proves tollerlaw's KeepAsks: for every input the call returns true, and each argument reads behind it as before. No condition. -/
import Derived.Test.YtfglpejbgfmojaaGreatRows
import Derived.Test.YtfglpejbgfmojaaGreatG54
import Derived.Test.YtfglpejbgfmojaaGreatG4
import Derived.Test.YtfglpejbgfmojaaGreatG10
import Derived.Test.YtfglpejbgfmojaaGreatG11
import Derived.Test.YtfglpejbgfmojaaGreatG52
namespace Go.Proofs.YtfglpejbgfmojaaGreat.keepAsks
open Go.ChangeShapes Go.WideShapes Go.ChangeAt Go.RowKit
open Go.ChangeMaps (open_string shut_string)
set_option linter.unusedVariables false
set_option linter.unusedSimpArgs false

theorem own : ownKnob Tryz.prog.godebug = none := by kernel_rfl
theorem laidOut : laidOutB Tryz.prog = true := by kernel_rfl

theorem walk (a0 : Int) (a1 : Value) (l1 : List Deed) (m2 : Int) (y2 : Value) (r2_ : List Rl) (a3 : Int) (a4 : Value) (l4 : List UInt8) (p5 : ByteArray) (e5 b5 k5 : Int) (p6 : ByteArray) (e6 b6 k6 : Int) (a7 : Int) (a8 : Value) (l8 : List Nms) (w : World) (w0 : (Lit.int .u8 a0).wf = true) (w1 : DeedSlice w a1 l1) (w2 : (Lit.int .i64 m2).wf = true ∧ RulesAt w y2 r2_ ∧ (∀ q ∈ r2_, RlOk q) ∧ r2_.length ≤ maxLen) (w3 : (Lit.int .u8 a3).wf = true) (w4 : ByteSlice w a4 l4) (w5 : p5.size ≤ maxLen ∧ (Lit.int .u64 e5).wf = true ∧ (Lit.int .u64 b5).wf = true ∧ (Lit.int .u8 k5).wf = true) (w6 : p6.size ≤ maxLen ∧ (Lit.int .u64 e6).wf = true ∧ (Lit.int .u64 b6).wf = true ∧ (Lit.int .u8 k6).wf = true) (w7 : (Lit.int .u16 a7).wf = true) (w8 : NmsSlice w a8 l8) :
    Calls Tryz.prog 3 #[.int .u8 a0, a1, .agg #[.int .i64 m2, y2], .int .u8 a3, a4, .agg #[.string p5, .int .u64 e5, .int .u64 b5, .int .u8 k5], .agg #[.string p6, .int .u64 e6, .int .u64 b6, .int .u8 k6], .int .u16 a7, a8] w fun e w' => e = .returned (.bool true) ∧ Below w.heap.size w w' :=
  keepAsks_walk a0 a1 l1 m2 y2 r2_ a3 a4 l4 p5 e5 b5 k5 p6 e6 b6 k6 a7 a8 l8 w (wfu8 w0).1 (wfu8 w0).2 w1 (wfi64 w2.1).1 (wfi64 w2.1).2 w2.2.1 w2.2.2.1 w2.2.2.2 (wfu8 w3).1 (wfu8 w3).2 w4 (wfu16 w7).1 (wfu16 w7).2 w8

set_option maxRecDepth 100000 in
theorem lifted (os : Os) (started : os.Started) (H : Type) (enc : TypeId × Value → H) :
    ReturnsInHanded {} Tryz.checked os 3 .any (Rows.keepAsksSpec.pre6 enc Tryz.prog Tryz.f3 Rows.keepAsksRow.domain false) (Rows.keepAsksSpec.post enc Tryz.prog Tryz.f3 false true false false) := by
  refine returnsInHanded_of_change (C := Tryz.checked) own started (by kernel_rfl) Tryz.func3
    (ChangeSpec.witness6 (enc := enc) (C := Tryz.checked) false ⟨#[], #[.int .u8 0, .slice none 0 0, .agg #[.int .i64 0, .slice none 0 0], .int .u8 0, .slice none 0 0, .agg #[.string ByteArray.empty, .int .u64 0, .int .u64 0, .int .u8 0], .agg #[.string ByteArray.empty, .int .u64 0, .int .u64 0, .int .u8 0], .int .u16 0, .slice none 0 0], []⟩ 8 (by kernel_rfl) (by kernel_rfl) (by kernel_rfl) (by kernel_rfl)) ?_
  intro W base args ds gs before hval0 hW hcnd _
  have hval : ∀ (j : Nat) t v, Tryz.f3.params[j]? = some t → args[j]? = some v → Value.okWide Tryz.prog W .any base t v := hval0
  have hW' := hW
  obtain ⟨p, q, hA0, hV, rfl, hfz, hnd⟩ := hW
  have hA : DataW.TrodAll enc Tryz.prog W 0 (fun _ => true) true Tryz.f3.params.toList args.toList ds p := hA0
  rw [Tryz.params3] at hA hval
  obtain ⟨v0, vs0, d0, ds0, p0, q0, hargs, rfl, rfl, h0, r0⟩ := trodAll_cons hA
  obtain ⟨v1, vs1, d1, ds1, p1, q1, rfl, rfl, rfl, h1, r1⟩ := trodAll_cons r0
  obtain ⟨v2, vs2, d2, ds2, p2, q2, rfl, rfl, rfl, h2, r2⟩ := trodAll_cons r1
  obtain ⟨v3, vs3, d3, ds3, p3, q3, rfl, rfl, rfl, h3, r3⟩ := trodAll_cons r2
  obtain ⟨v4, vs4, d4, ds4, p4, q4, rfl, rfl, rfl, h4, r4⟩ := trodAll_cons r3
  obtain ⟨v5, vs5, d5, ds5, p5, q5, rfl, rfl, rfl, h5, r5⟩ := trodAll_cons r4
  obtain ⟨v6, vs6, d6, ds6, p6, q6, rfl, rfl, rfl, h6, r6⟩ := trodAll_cons r5
  obtain ⟨v7, vs7, d7, ds7, p7, q7, rfl, rfl, rfl, h7, r7⟩ := trodAll_cons r6
  obtain ⟨v8, vs8, d8, ds8, p8, q8, rfl, rfl, rfl, h8, r8⟩ := trodAll_cons r7
  obtain ⟨rfl, rfl, rfl⟩ := trodAll_nil r8
  obtain rfl : args = #[v0, v1, v2, v3, v4, v5, v6, v7, v8] := by cases args; simp_all
  obtain ⟨rfl, rfl⟩ := trodVars_none hV
  have k0 := h0
  have lt0 : ∀ x ∈ p0, x.block < W.heap.size := by obtain ⟨m, hm⟩ := k0; exact DataW.trod_lt m _ _ _ hm
  obtain ⟨a0, rfl, -, -, w0⟩ := open_int Tryz.underlying5 (hval 0 5 v0 rfl rfl) h0
  have k1 := h1
  have lt1 : ∀ x ∈ p1, x.block < W.heap.size := by obtain ⟨m, hm⟩ := k1; exact DataW.trod_lt m _ _ _ hm
  obtain ⟨l1, w1⟩ := open_deeds (hval 1 22 v1 rfl rfl) h1
  have k2 := h2
  have lt2 : ∀ x ∈ p2, x.block < W.heap.size := by obtain ⟨m, hm⟩ := k2; exact DataW.trod_lt m _ _ _ hm
  obtain ⟨m2, y2, r2_, rfl, w2⟩ := open_policy (hval 2 25 v2 rfl rfl) h2
  have k3 := h3
  have lt3 : ∀ x ∈ p3, x.block < W.heap.size := by obtain ⟨m, hm⟩ := k3; exact DataW.trod_lt m _ _ _ hm
  obtain ⟨a3, rfl, -, -, w3⟩ := open_int Tryz.underlying5 (hval 3 5 v3 rfl rfl) h3
  have k4 := h4
  have lt4 : ∀ x ∈ p4, x.block < W.heap.size := by obtain ⟨m, hm⟩ := k4; exact DataW.trod_lt m _ _ _ hm
  obtain ⟨l4, w4⟩ := open_bytes Tryz.underlying26 Tryz.underlying5 (by kernel_rfl) (hval 4 26 v4 rfl rfl) h4
  have k5 := h5
  have lt5 : ∀ x ∈ p5, x.block < W.heap.size := by obtain ⟨m, hm⟩ := k5; exact DataW.trod_lt m _ _ _ hm
  obtain ⟨p5, e5, b5, k5_, rfl, w5⟩ := open_rule (hval 5 29 v5 rfl rfl) h5
  have k6 := h6
  have lt6 : ∀ x ∈ p6, x.block < W.heap.size := by obtain ⟨m, hm⟩ := k6; exact DataW.trod_lt m _ _ _ hm
  obtain ⟨p6, e6, b6, k6_, rfl, w6⟩ := open_rule (hval 6 29 v6 rfl rfl) h6
  have k7 := h7
  have lt7 : ∀ x ∈ p7, x.block < W.heap.size := by obtain ⟨m, hm⟩ := k7; exact DataW.trod_lt m _ _ _ hm
  obtain ⟨a7, rfl, -, -, w7⟩ := open_int Tryz.underlying30 (hval 7 30 v7 rfl rfl) h7
  have k8 := h8
  have lt8 : ∀ x ∈ p8, x.block < W.heap.size := by obtain ⟨m, hm⟩ := k8; exact DataW.trod_lt m _ _ _ hm
  obtain ⟨l8, w8⟩ := open_nums (hval 8 31 v8 rfl rfl) h8
  clear hA0 hval0
  refine (walk a0 v1 l1 m2 y2 r2_ a3 v4 l4 p5 e5 b5 k5_ p6 e6 b6 k6_ a7 v8 l8 W w0 w1 w2 w3 w4 w5 w6 w7 w8).mono fun e W' ⟨he, bel⟩ => ?_
  subst he
  exact ⟨_, rfl, _, _, _, [], _, [], hW', trodAll_mk1 (shut_bool Tryz.underlying4 _), (trodAll_cons_mk (Below.trod laidOut (by kernel_rfl) (of_decide_eq_true (by kernel_rfl)) k0 bel lt0) (trodAll_cons_mk (Below.trod laidOut (by kernel_rfl) (of_decide_eq_true (by kernel_rfl)) k1 bel lt1) (trodAll_cons_mk (Below.trod laidOut (by kernel_rfl) (of_decide_eq_true (by kernel_rfl)) k2 bel lt2) (trodAll_cons_mk (Below.trod laidOut (by kernel_rfl) (of_decide_eq_true (by kernel_rfl)) k3 bel lt3) (trodAll_cons_mk (Below.trod laidOut (by kernel_rfl) (of_decide_eq_true (by kernel_rfl)) k4 bel lt4) (trodAll_cons_mk (Below.trod laidOut (by kernel_rfl) (of_decide_eq_true (by kernel_rfl)) k5 bel lt5) (trodAll_cons_mk (Below.trod laidOut (by kernel_rfl) (of_decide_eq_true (by kernel_rfl)) k6 bel lt6) (trodAll_cons_mk (Below.trod laidOut (by kernel_rfl) (of_decide_eq_true (by kernel_rfl)) k7 bel lt7) (trodAll_cons_mk (Below.trod laidOut (by kernel_rfl) (of_decide_eq_true (by kernel_rfl)) k8 bel lt8) trodAll_mk0))))))))), rfl, bel.frame _, fun h => by cases h⟩

theorem over : Rows.keepAsksRow.holds Tryz.pinned (OpenSpec.ofChange Rows.keepAsksSpec) :=
  OpenClaim.holds_of_wide 3 Tryz.f3 rfl rfl rfl rfl rfl rfl rfl ⟨rfl, rfl, rfl, rfl, rfl⟩ rfl rfl rfl rfl rfl (by kernel_rfl) Tryz.func3 (by kernel_rfl)
    (of_decide_eq_true (by kernel_rfl)) (by unfold Func.isWrapper; first | (rw [if_pos (by decide +kernel)]; kernel_rfl) | (rw [if_neg (by decide +kernel)]; exact ⟨rfl, rfl⟩))
    (fun os started H enc _ => lifted os started H enc)

theorem proved : Rows.KeepAsksSaid := over
#print axioms proved
end Go.Proofs.YtfglpejbgfmojaaGreat.keepAsks
