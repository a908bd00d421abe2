/- Proves tollerlaw's EnterAsks: for every input the call returns true, and each argument reads behind it as before. No condition. -/
import Derived.Test.YtknlojlcahgnoaaGreatRows
import Derived.Test.YtknlojlcahgnoaaGreatEa60
import Derived.Test.YtknlojlcahgnoaaGreatEa5
import Derived.Test.YtknlojlcahgnoaaGreatEa59
import Derived.Test.YtknlojlcahgnoaaGreatEa55
namespace Go.Proofs.YtknlojlcahgnoaaGreat.enterAsks
open Go.ChangeShapes Go.WideShapes Go.ChangeAt Go.RowKit
open Go.ChangeMaps (open_string shut_string)
set_option linter.unusedVariables false
set_option linter.unusedSimpArgs false

theorem own : ownKnob Tryz.prog.godebug = none := by kernel_rfl
theorem laidOut : laidOutB Tryz.prog = true := by kernel_rfl

theorem walk (m0 : Int) (y0 : Value) (r0_ : List Rl) (a1 : Int) (m2 : Int) (y2 : Value) (r2_ : List Ent) (a3 : Int) (a4 : Value) (l4 : List (List UInt8)) (a5 : Value) (l5 : List Int) (a6 : Int) (a7 : Value) (l7 : List UInt8) (a8 : Int) (a9 : Value) (l9 : List Nms) (w : World) (w0 : ((Lit.int .i64 m0).wf = true ∧ RulesAt w y0 r0_ ∧ (∀ q ∈ r0_, RlOk q) ∧ r0_.length ≤ maxLen) ∧ r0_.length ≤ reachBytes) (w1 : (Lit.int .u64 a1).wf = true) (w2 : ((Lit.int .u64 m2).wf = true ∧ EntsAt w y2 r2_ ∧ (∀ q ∈ r2_, EntOk q) ∧ r2_.length ≤ maxLen) ∧ r2_.length ≤ reachBytes) (w3 : (Lit.int .u64 a3).wf = true) (w4 : BytesSl w a4 l4) (w5 : FarSl w a5 l5) (w6 : (Lit.int .u8 a6).wf = true) (w7 : ByteSlice w a7 l7) (w8 : (Lit.int .u16 a8).wf = true) (w9 : NmsSlice w a9 l9) :
    Calls Tryz.prog 6 #[.agg #[.int .i64 m0, y0], .int .u64 a1, .agg #[.int .u64 m2, y2], .int .u64 a3, a4, a5, .int .u8 a6, a7, .int .u16 a8, a9] w fun e w' => e = .returned (.bool true) ∧ Below w.heap.size w w' :=
  law17_EnterAsks m0 y0 r0_ a1 m2 y2 r2_ a3 a4 l4 a5 l5 a6 a7 l7 a8 a9 l9 w (wfi64 w0.1.1).1 (wfi64 w0.1.1).2 w0.1.2.1 w0.1.2.2.1 (Nat.le_of_lt (Nat.lt_of_le_of_lt w0.2 reachBytes_lt)) (wfu64 w1).1 (wfu64 w1).2 (wfu64 w2.1.1).1 (wfu64 w2.1.1).2 w2.1.2.1 w2.1.2.2.1 (Nat.le_of_lt (Nat.lt_of_le_of_lt w2.2 reachBytes_lt)) (wfu64 w3).1 (wfu64 w3).2 w4 w5 (wfu8 w6).1 (wfu8 w6).2 w7 (wfu16 w8).1 (wfu16 w8).2 w9

set_option maxRecDepth 100000 in
theorem lifted (os : Os) (started : os.Started) (H : Type) (enc : TypeId × Value → H) :
    ReturnsInHanded {} Tryz.checked os 6 .any (Rows.enterAsksSpec.pre6 enc Tryz.prog Tryz.f6 Rows.enterAsksRow.domain false) (Rows.enterAsksSpec.post enc Tryz.prog Tryz.f6 false true false false) := by
  refine returnsInHanded_of_change_sized (C := Tryz.checked) own started (by kernel_rfl) Tryz.func6
    (ChangeSpec.witness6 (enc := enc) (C := Tryz.checked) false ⟨#[], #[.agg #[.int .i64 0, .slice none 0 0], .int .u64 0, .agg #[.int .u64 0, .slice none 0 0], .int .u64 0, .slice none 0 0, .slice none 0 0, .int .u8 0, .slice none 0 0, .int .u16 0, .slice none 0 0], []⟩ 8 (by kernel_rfl) (by kernel_rfl) (by kernel_rfl) (by kernel_rfl)) ?_
  intro W base args ds gs before hval0 hW hcnd hsz0 _
  have hval : ∀ (j : Nat) t v, Tryz.f6.params[j]? = some t → args[j]? = some v → Value.okWide Tryz.prog W .any base t v := hval0
  have hW' := hW
  obtain ⟨p, q, hA0, hV, rfl, hfz, hnd⟩ := hW
  have hA : DataW.TrodAll enc Tryz.prog W 0 (fun _ => true) true Tryz.f6.params.toList args.toList ds p := hA0
  have hsz : (DataW.weightsEach Tryz.prog (Tryz.f6.params.toList ++ []) (ds ++ gs)).all (· ≤ reachBytes) = true := hsz0
  clear hsz0
  rw [Tryz.params6] at hA hval hsz
  obtain ⟨v0, vs0, d0, ds0, p0, q0, hargs, rfl, rfl, h0, r0⟩ := trodAll_cons hA
  obtain ⟨v1, vs1, d1, ds1, p1, q1, rfl, rfl, rfl, h1, r1⟩ := trodAll_cons r0
  obtain ⟨v2, vs2, d2, ds2, p2, q2, rfl, rfl, rfl, h2, r2⟩ := trodAll_cons r1
  obtain ⟨v3, vs3, d3, ds3, p3, q3, rfl, rfl, rfl, h3, r3⟩ := trodAll_cons r2
  obtain ⟨v4, vs4, d4, ds4, p4, q4, rfl, rfl, rfl, h4, r4⟩ := trodAll_cons r3
  obtain ⟨v5, vs5, d5, ds5, p5, q5, rfl, rfl, rfl, h5, r5⟩ := trodAll_cons r4
  obtain ⟨v6, vs6, d6, ds6, p6, q6, rfl, rfl, rfl, h6, r6⟩ := trodAll_cons r5
  obtain ⟨v7, vs7, d7, ds7, p7, q7, rfl, rfl, rfl, h7, r7⟩ := trodAll_cons r6
  obtain ⟨v8, vs8, d8, ds8, p8, q8, rfl, rfl, rfl, h8, r8⟩ := trodAll_cons r7
  obtain ⟨v9, vs9, d9, ds9, p9, q9, rfl, rfl, rfl, h9, r9⟩ := trodAll_cons r8
  obtain ⟨rfl, rfl, rfl⟩ := trodAll_nil r9
  obtain rfl : args = #[v0, v1, v2, v3, v4, v5, v6, v7, v8, v9] := by cases args; simp_all
  obtain ⟨rfl, rfl⟩ := trodVars_none hV
  have k0 := h0
  have lt0 : ∀ x ∈ p0, x.block < W.heap.size := by obtain ⟨m, hm⟩ := k0; exact DataW.trod_lt m _ _ _ hm
  obtain ⟨m0, y0, r0_, rfl, w0_⟩ := open_policy (hval 0 28 v0 rfl rfl) h0
  have w0 := And.intro w0_ (by obtain ⟨a0_, c0_, rfl⟩ := w0_.2.1.size; exact agg2_len (j := 0) hsz rfl rfl Tryz.underlying28 (by kernel_rfl) (by kernel_rfl) Tryz.underlying26 (by decide +kernel) (hval 0 28 _ rfl rfl) h0)
  have k1 := h1
  have lt1 : ∀ x ∈ p1, x.block < W.heap.size := by obtain ⟨m, hm⟩ := k1; exact DataW.trod_lt m _ _ _ hm
  obtain ⟨a1, rfl, -, -, w1⟩ := open_int Tryz.underlying35 (hval 1 35 v1 rfl rfl) h1
  have k2 := h2
  have lt2 : ∀ x ∈ p2, x.block < W.heap.size := by obtain ⟨m, hm⟩ := k2; exact DataW.trod_lt m _ _ _ hm
  obtain ⟨m2, y2, r2_, rfl, w2_⟩ := open_snap (hval 2 52 v2 rfl rfl) h2
  have w2 := And.intro w2_ (by obtain ⟨a2_, c2_, rfl⟩ := w2_.2.1.size; exact agg2_len (j := 2) hsz rfl rfl Tryz.underlying52 (by kernel_rfl) (by kernel_rfl) Tryz.underlying50 (by decide +kernel) (hval 2 52 _ rfl rfl) h2)
  have k3 := h3
  have lt3 : ∀ x ∈ p3, x.block < W.heap.size := by obtain ⟨m, hm⟩ := k3; exact DataW.trod_lt m _ _ _ hm
  obtain ⟨a3, rfl, -, -, w3⟩ := open_int Tryz.underlying35 (hval 3 35 v3 rfl rfl) h3
  have k4 := h4
  have lt4 : ∀ x ∈ p4, x.block < W.heap.size := by obtain ⟨m, hm⟩ := k4; exact DataW.trod_lt m _ _ _ hm
  obtain ⟨l4, w4⟩ := open_bytessl (hval 4 53 v4 rfl rfl) h4
  have k5 := h5
  have lt5 : ∀ x ∈ p5, x.block < W.heap.size := by obtain ⟨m, hm⟩ := k5; exact DataW.trod_lt m _ _ _ hm
  obtain ⟨l5, w5⟩ := open_far (hval 5 54 v5 rfl rfl) h5
  have k6 := h6
  have lt6 : ∀ x ∈ p6, x.block < W.heap.size := by obtain ⟨m, hm⟩ := k6; exact DataW.trod_lt m _ _ _ hm
  obtain ⟨a6, rfl, -, -, w6⟩ := open_int Tryz.underlying5 (hval 6 5 v6 rfl rfl) h6
  have k7 := h7
  have lt7 : ∀ x ∈ p7, x.block < W.heap.size := by obtain ⟨m, hm⟩ := k7; exact DataW.trod_lt m _ _ _ hm
  obtain ⟨l7, w7⟩ := open_bytes Tryz.underlying22 Tryz.underlying5 (by kernel_rfl) (hval 7 22 v7 rfl rfl) h7
  have k8 := h8
  have lt8 : ∀ x ∈ p8, x.block < W.heap.size := by obtain ⟨m, hm⟩ := k8; exact DataW.trod_lt m _ _ _ hm
  obtain ⟨a8, rfl, -, -, w8⟩ := open_int Tryz.underlying23 (hval 8 23 v8 rfl rfl) h8
  have k9 := h9
  have lt9 : ∀ x ∈ p9, x.block < W.heap.size := by obtain ⟨m, hm⟩ := k9; exact DataW.trod_lt m _ _ _ hm
  obtain ⟨l9, w9⟩ := open_nums (hval 9 24 v9 rfl rfl) h9
  clear hA0 hval0 hsz
  refine (walk m0 y0 r0_ a1 m2 y2 r2_ a3 v4 l4 v5 l5 a6 v7 l7 a8 v9 l9 W w0 w1 w2 w3 w4 w5 w6 w7 w8 w9).mono fun e W' ⟨he, bel⟩ => ?_
  subst he
  exact ⟨_, rfl, _, _, _, [], _, [], hW', trodAll_mk1 (shut_bool Tryz.underlying4 _), (trodAll_cons_mk (Below.trod laidOut (by kernel_rfl) (of_decide_eq_true (by kernel_rfl)) k0 bel lt0) (trodAll_cons_mk (Below.trod laidOut (by kernel_rfl) (of_decide_eq_true (by kernel_rfl)) k1 bel lt1) (trodAll_cons_mk (Below.trod laidOut (by kernel_rfl) (of_decide_eq_true (by kernel_rfl)) k2 bel lt2) (trodAll_cons_mk (Below.trod laidOut (by kernel_rfl) (of_decide_eq_true (by kernel_rfl)) k3 bel lt3) (trodAll_cons_mk (Below.trod laidOut (by kernel_rfl) (of_decide_eq_true (by kernel_rfl)) k4 bel lt4) (trodAll_cons_mk (Below.trod laidOut (by kernel_rfl) (of_decide_eq_true (by kernel_rfl)) k5 bel lt5) (trodAll_cons_mk (Below.trod laidOut (by kernel_rfl) (of_decide_eq_true (by kernel_rfl)) k6 bel lt6) (trodAll_cons_mk (Below.trod laidOut (by kernel_rfl) (of_decide_eq_true (by kernel_rfl)) k7 bel lt7) (trodAll_cons_mk (Below.trod laidOut (by kernel_rfl) (of_decide_eq_true (by kernel_rfl)) k8 bel lt8) (trodAll_cons_mk (Below.trod laidOut (by kernel_rfl) (of_decide_eq_true (by kernel_rfl)) k9 bel lt9) trodAll_mk0)))))))))), rfl, bel.frame _, fun h => by cases h⟩

theorem over : Rows.enterAsksRow.holds Tryz.pinned (OpenSpec.ofChange Rows.enterAsksSpec) :=
  OpenClaim.holds_of_wide 6 Tryz.f6 rfl rfl rfl rfl rfl rfl rfl ⟨rfl, rfl, rfl, rfl, rfl⟩ rfl rfl rfl rfl rfl (by kernel_rfl) Tryz.func6 (by kernel_rfl)
    (of_decide_eq_true (by kernel_rfl)) (by unfold Func.isWrapper; first | (rw [if_pos (by decide +kernel)]; kernel_rfl) | (rw [if_neg (by decide +kernel)]; exact ⟨rfl, rfl⟩))
    (fun os started H enc _ => lifted os started H enc)

theorem proved : Rows.EnterAsksSaid := over
#print axioms proved
end Go.Proofs.YtknlojlcahgnoaaGreat.enterAsks
