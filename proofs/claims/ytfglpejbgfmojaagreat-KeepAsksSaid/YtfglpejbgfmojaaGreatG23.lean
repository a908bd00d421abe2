/- Walks: (*Tree).Find. -/
import Derived.Test.YtfglpejbgfmojaaGreatG21

/- Walks: (*Tree).Find. -/
namespace Go.Proofs.YtfglpejbgfmojaaGreat
open Go.RowKit
attribute [local go_sem] Oper.semAt_some
set_option linter.unusedVariables false
set_option linter.unusedSimpArgs false

set_option maxHeartbeats 400000 in
set_option maxRecDepth 100000 in
theorem node_way (n : Nat) (k : ByteArray) (w : World) : Calls Tryz.prog 133 #[.pointer (some ⟨n, 0, none⟩), .string k] w fun x w' =>
    x = .returned (.func (.func 178) #[] #[.pointer (some ⟨w.heap.size, 0, none⟩), .pointer (some ⟨w.heap.size + 1, 0, none⟩)]) ∧ w' = (w.alloc (.cells #[.pointer (some ⟨n, 0, none⟩)] 183)).alloc (.cells #[.string k] 9) := by
  go_enter Tryz.func133, Tryz.ntmps133
  go_wp2
  go_ret
  exact ⟨rfl, rfl⟩

def rl0 : Rl := ⟨⟨#[]⟩, 0, 0, 0⟩
/-- what Find tells -/
def findV (o : Option Rl) : Value := match o with
  | some r => .tuple #[.agg r.cells, .bool true]
  | none => .tuple #[.agg rl0.cells, .bool false]
def ruleP (o : Option (Nat × Rl)) : Value := match o with
  | some r => .pointer (some ⟨r.1, 0, none⟩)
  | none => .pointer none
theorem lastR_p (xs : List Nd) (x : Nd) : ruleP (lastR (xs ++ [x])) = match x.rule with | some r => x.rp | none => ruleP (lastR xs) := by
  rw [lastR_snoc]
  unfold Nd.rp
  cases x.rule <;> rfl

theorem kblk_row {b : Nat} {C : Array Value} {ty : TypeId} {X Y : World} {row : Option Nat} (h : Blk X b C ty) (hg : X.grownBy Y row) (hr : ∀ r, row = some r → b ≠ r) : Blk Y b C ty :=
  (hg.block b h.lt (fun e => hr b e.symm rfl)).trans h
theorem res_cell_tmp {P : Program} {fn : Func} {tmps : Array Value} {w : World} {p q : Tmp} {ty t : TypeId} {g : Nat} {C : Array Value} {d : TypeDesc} {v : Value} (h : fn.results = #[.cell p ty, .tmp q])
    (hp : tmps.getD p undef = .pointer (some ⟨g, 0, none⟩)) (hq : tmps.getD q undef = v) (hB : Blk w g C t) (hu : P.underlying ty = some d) (hd : aggKind d = true) (hi : (P.info? ty).map (·.size) = some C.size) :
    (results fn tmps).run P w = .ok (.tuple #[.agg C, v]) w := by
  have hp' : tmps[p]?.getD undef = .pointer (some ⟨g, 0, none⟩) := by simpa using hp
  have hq' : tmps[q]?.getD undef = v := by simpa using hq
  simp [results, h, hp', hq', asAddr, run_loadVar_blk hB hu hd hi]
theorem four_set {w W : World} {S D : Nat} {C : Array Value} {t : TypeId} (hB : Blk W S C t) (hC : C.size = 4) (hS : w.heap.size ≤ S) (hx : Ext w W) (hne : S ≠ D) (hD : w.heap.size ≤ D) (hd : W.heap[D]? = some (.deferred (some []))) (a b c d : Value) :
    ((((W.setCell ⟨S, 0, none⟩ a).setCell ⟨S, 1, none⟩ b).setCell ⟨S, 2, none⟩ c).setCell ⟨S, 3, none⟩ d).heap[D]? = some (.deferred (some [])) ∧
    Blk (((((W.setCell ⟨S, 0, none⟩ a).setCell ⟨S, 1, none⟩ b).setCell ⟨S, 2, none⟩ c).setCell ⟨S, 3, none⟩ d).putObj D (.deferred none)) S #[a, b, c, d] t ∧
    Ext w (((((W.setCell ⟨S, 0, none⟩ a).setCell ⟨S, 1, none⟩ b).setCell ⟨S, 2, none⟩ c).setCell ⟨S, 3, none⟩ d).putObj D (.deferred none)) := by
  have hds : D ≠ S := fun e => hne e.symm
  have hg := grownBy_putObj' ((((W.setCell ⟨S, 0, none⟩ a).setCell ⟨S, 1, none⟩ b).setCell ⟨S, 2, none⟩ c).setCell ⟨S, 3, none⟩ d) D (.deferred none)
  refine ⟨?_, ?_, ?_⟩
  · rw [Below.heap_setCell _ _ _ _ hds, Below.heap_setCell _ _ _ _ hds, Below.heap_setCell _ _ _ _ hds, Below.heap_setCell _ _ _ _ hds]
    exact hd
  · refine kblk_row ?_ hg (fun r e => by cases e; exact hne)
    have := (((hB.set 0 a).set 1 b).set 2 c).set 3 d
    have e : (((C.setIfInBounds 0 a).setIfInBounds 1 b).setIfInBounds 2 c).setIfInBounds 3 d = #[a, b, c, d] := by
      obtain ⟨l⟩ := C
      match l, hC with
      | [x, y, z, u], _ => simp
    rw [e] at this
    exact this
  · exact kext_from ((((hx.setCell hS _).setCell hS _).setCell hS _).setCell hS _) hg (fun r e => by cases e; exact hD)
/-- the rounds: last holds the last rule -/
def FindI (w : World) (g : Nat) (pre : List Nd) (W : World) : Prop := Blk W g #[ruleP (lastR pre)] 178 ∧ Blk W w.heap.size rl0.cells 29 ∧ Ext w W

theorem way_seq (n lo root bn bk n₀ g : Nat) (many : Int) (ns : NSet) (k : ByteArray) (hk : k.size ≤ maxLen) (x : Nd) (xs : List Nd) (w0 w : World) (hT : TreeAt w0 lo root many ns) (hx : x ∈ ns) (hxp : x.plen = 0) (hw : Way ns k.data.toList x xs) (h0 : Sees w0 w)
    (b1 : Blk w bn #[.pointer (some ⟨x.a, 0, none⟩)] 183) (b2 : Blk w bk #[.string k] 9) (l1 : w0.heap.size ≤ bn) (l2 : w0.heap.size ≤ bk) (l3 : bn < n₀) (l4 : bk < n₀) (l5 : w0.heap.size ≤ g) (g1 : bn ≠ g) (g2 : bk ≠ g) (gk : bn ≠ bk) :
    SeqR Fence.wide n Tryz.prog 178 #[.pointer (some ⟨bn, 0, none⟩), .pointer (some ⟨bk, 0, none⟩)] encN (KeptBut n₀ g) (fun r => r = bn ∨ r = bk) xs w :=
  fun l J W hW hJ hY hj => way_1 n l bn bk n₀ g lo root many ns k.data.toList (by rw [data_len]; exact hk) xs J w0 W hT hY hJ l1 l2 l3 l4 l5 g1 g2 gk
    ⟨fun b hb => by
      have hbw : b < w.heap.size := by have := b1.lt; omega
      exact (Ext.block hW hbw).trans (h0 b hb), Or.inl ⟨x, k, [], xs, hx, b1.ext hW, b2.ext hW, by rw [hxp, List.drop_zero], by omega, by rw [hxp]; simp, hw, rfl, hj⟩⟩

set_option maxHeartbeats 2000000 in
set_option maxRecDepth 100000 in
theorem tree_Find (lo root : Nat) (many : Int) (ns : NSet) (rs : List Rl) (k : ByteArray) (w : World) (hT : TreeAt w lo root many ns) (hh : HoldsR ns rs) (hk : k.size ≤ maxLen) :
    Calls Tryz.prog 95 #[.pointer (some ⟨root, 0, none⟩), .string k] w fun x w' => x = .returned (findV (bestR rs k.data.toList)) ∧ Ext w w' := by
  obtain ⟨r, hr, hra, hrp, hrl⟩ := hT.trie.root
  obtain ⟨xs, hw⟩ := way_exists hT.trie k.data.toList k.data.toList.length r hr (by omega)
  have hbest := Lib.hid (way_best hT.trie hh hr hrp hw)
  have hall := Lib.hid ((way_all hT.trie hw hr).1)
  have HT := Lib.hid hT
  have HW := Lib.hid hw
  have HK := Lib.hid hk
  have HRL := Lib.hid hrl
  subst hra
  refine (callsIn_wide (n := 9)).1 ?_
  refine callsIn_of_wp_marks Tryz.func95 rfl trivial ?_ rfl
  simp only [Tryz.ntmps95, List.size_toArray, List.length_cons, List.length_nil, Nat.reduceAdd, Nat.reduceSub, Array.replicate_succ, Array.replicate_zero, List.push_toArray, List.append_toArray, List.nil_append, List.cons_append]
  clear hT hw hh hrp hrl
  gi_wp2_with fail
  refine ⟨trivial, (callsIn_wide.2 (node_way r.a k _)).mono ?_⟩
  rintro x w1 ⟨rfl, rfl⟩
  gi_wp2_with fail
  have bS : Blk ((((w.alloc (.cells rl0.cells 29)).alloc (.cells #[.pointer none] 178)).alloc (.cells #[.pointer (some ⟨r.a, 0, none⟩)] 183)).alloc (.cells #[.string k] 9)) w.heap.size rl0.cells 29 := (((Blk.new w _ _).alloc _).alloc _).alloc _
  have bL : Blk ((((w.alloc (.cells rl0.cells 29)).alloc (.cells #[.pointer none] 178)).alloc (.cells #[.pointer (some ⟨r.a, 0, none⟩)] 183)).alloc (.cells #[.string k] 9)) (w.heap.size + 1) #[.pointer none] 178 := ((Blk.new' _ _ _ (by simp)).alloc _).alloc _
  have bN : Blk ((((w.alloc (.cells rl0.cells 29)).alloc (.cells #[.pointer none] 178)).alloc (.cells #[.pointer (some ⟨r.a, 0, none⟩)] 183)).alloc (.cells #[.string k] 9)) (w.heap.size + 1 + 1) #[.pointer (some ⟨r.a, 0, none⟩)] 183 := (Blk.new' _ _ _ (by simp)).alloc _
  have bK : Blk ((((w.alloc (.cells rl0.cells 29)).alloc (.cells #[.pointer none] 178)).alloc (.cells #[.pointer (some ⟨r.a, 0, none⟩)] 183)).alloc (.cells #[.string k] 9)) (w.heap.size + 1 + 1 + 1) #[.string k] 9 := Blk.new' _ _ _ (by simp)
  have hx1 : Ext w ((((w.alloc (.cells rl0.cells 29)).alloc (.cells #[.pointer none] 178)).alloc (.cells #[.pointer (some ⟨r.a, 0, none⟩)] 183)).alloc (.cells #[.string k] 9)) := ((((Ext.refl w).alloc _).alloc _).alloc _).alloc _
  have hl := bK.lt
  simp only [rl0, Rl.cells] at bS bL bN bK hx1 hl
  generalize (((w.alloc (.cells #[.string ⟨#[]⟩, .int .u64 0, .int .u64 0, .int .u8 0] 29)).alloc (.cells #[.pointer none] 178)).alloc (.cells #[.pointer (some ⟨r.a, 0, none⟩)] 183)).alloc (.cells #[.string k] 9) = w1 at *
  refine wpIn_range_R rfl (by omega) (gf := 178) (lb := #[.pointer (some ⟨w.heap.size + 1 + 1, 0, none⟩), .pointer (some ⟨w.heap.size + 1 + 1 + 1, 0, none⟩)]) rfl trivial (enters_of Tryz.func178 (by kernel_rfl) rfl)
    (way_seq (9 - 1) lo r.a (w.heap.size + 1 + 1) (w.heap.size + 1 + 1 + 1) w1.heap.size (w.heap.size + 1) many ns k HK.out r xs w w1 HT.out hr HRL.out HW.out hx1.sees bN bK (by omega) (by omega) (by omega) (by omega) (by omega) (by omega) (by omega) (by omega)) (Ext.refl _)
    (fun r hr => by rcases hr with rfl | rfl <;> omega) (fun h k => h.trans k) (fun W l o hl => KeptBut.put W o hl) (fun _ => rfl)
    (FindI w (w.heap.size + 1))
    (fun pre X Y row h hg hrow => ⟨kblk_row h.1 hg (fun r e => by have := hrow r e; omega), kblk_row h.2.1 hg (fun r e => by have := hrow r e; omega), kext_from h.2.2 hg (fun r e => by have := hrow r e; omega)⟩)
    ⟨bL, bS, hx1⟩
    (fun x => { tmps := #[.pointer (some ⟨r.a, 0, none⟩), .string k, undef, undef, .pointer (some ⟨w.heap.size, 0, none⟩), .bool false, .pointer (some ⟨w.heap.size + 1, 0, none⟩), .pointer (some ⟨x.a, 0, none⟩), .pointer (some ⟨r.a, 0, none⟩), .bool true, .pointer (some ⟨r.a, 0, none⟩), .pointer (some ⟨r.a, 0, none⟩), .pointer (some ⟨r.a, 0, none⟩), .string k, .func (.func 178) #[] #[.pointer (some ⟨w.heap.size + 1 + 1, 0, none⟩), .pointer (some ⟨w.heap.size + 1 + 1 + 1, 0, none⟩)], .pointer (some ⟨x.a, 0, none⟩), undef, undef, undef, undef, undef, undef, undef, undef, undef, undef, undef, undef, undef, undef, undef], defers := [] }) ?assign ?body ?done
  case assign =>
    intro L x W K hK
    simp only [encN]
    gi_wp2
    exact hK
  case body =>
    rintro L pre x W ⟨bL2, bS2, hxw⟩ ⟨rest, hrest⟩
    have hxn : x ∈ ns := (hall.out x (by rw [hrest]; simp)).1
    obtain ⟨-, d1, -⟩ := Nd.cell0 ((HT.out.ext hxw).cells x hxn)
    have HLP := Lib.hid (lastR_p pre x)
    have fL := bL2.free 0
    have cL : W.cell? ⟨w.heap.size + 1, 0, none⟩ = some (ruleP (lastR pre)) := bL2.cell 0
    have hxR := Lib.hid hxw
    have HS2 := Lib.hid bS2
    have HL2 := Lib.hid bL2
    clear hrest hxw bS2 bL2
    cases hxr : x.rule with
    | none =>
      have e1 : x.rp = .pointer none := by simp [Nd.rp, hxr]
      have e2 : ruleP (lastR (pre ++ [x])) = ruleP (lastR pre) := by rw [HLP.out, hxr]
      rw [e1] at d1
      clear e1 hxr
      have E2 := Lib.hid e2
      clear e2
      gi_wp2
      exact ⟨KeepsFrom.refl _ _, KeptBut.refl _ _ _, by rw [E2.out]; exact HL2.out, HS2.out, hxR.out⟩
    | some q =>
      have e1 : x.rp = .pointer (some ⟨q.1, 0, none⟩) := by simp [Nd.rp, hxr]
      have e2 : ruleP (lastR (pre ++ [x])) = .pointer (some ⟨q.1, 0, none⟩) := by rw [HLP.out, hxr]; exact e1
      rw [e1] at d1
      clear e1 hxr
      have E2 := Lib.hid e2
      clear e2
      gi_wp2
      exact ⟨(KeepsOthers.setCell _ _ _).from _, (KeptBut.refl _ _ _).setCell _ _, by rw [E2.out]; exact HL2.out.set 0 _, HS2.out.other (by show w.heap.size ≠ w.heap.size + 1; omega) _, hxR.out.setCell (Nat.le_succ _) _⟩
  case done =>
    rintro D W hD ⟨bL2, bS2, hxw⟩ hDf
    have cL : W.cell? ⟨w.heap.size + 1, 0, none⟩ = some (ruleP (lastR xs)) := bL2.cell 0
    have hc := bS2.cell
    have hf := bS2.free
    have hzl := bS2.lt
    have hS0 : w.heap.size ≠ D := by omega
    have HXW := Lib.hid hxw
    have HS2 := Lib.hid bS2
    have HDF := Lib.hid hDf
    clear bL2 hDf
    cases hq : lastR xs with
    | none =>
      have hv : findV (bestR rs k.data.toList) = .tuple #[.agg rl0.cells, .bool false] := by rw [hbest.out, hq]; rfl
      have HV := Lib.hid hv
      rw [hq] at cL
      simp only [ruleP] at cL
      simp only [rl0, Rl.cells] at hc
      clear hv hq hxw bS2
      gi_wp2
      obtain ⟨z1, z2, z3⟩ := four_set HS2.out rfl (Nat.le_refl _) HXW.out hS0 (by omega) HDF.out (.string ⟨#[]⟩) (.int .u64 0) (.int .u64 0) (.int .u8 0)
      refine ⟨by simp, .inl ⟨_, _, rfl, run_takeDeferred z1, ?_⟩⟩
      refine ⟨.tuple #[.agg rl0.cells, .bool false], ?_, by rw [HV.out], z3⟩
      exact res_cell_tmp Tryz.results95 rfl rfl z2 Tryz.underlying29 rfl (by kernel_rfl)
    | some q =>
      have hv : findV (bestR rs k.data.toList) = .tuple #[.agg q.2.cells, .bool true] := by rw [hbest.out, hq]; rfl
      have HV := Lib.hid hv
      have hqn : ∃ y ∈ ns, y.rule = some q := by
        obtain ⟨y, hy, e, -⟩ := (lastR_char xs (way_all HT.out.trie HW.out hr).2.2).2 q hq
        exact ⟨y, (hall.out y hy).1, e⟩
      obtain ⟨y, hy, hyr⟩ := hqn
      have bQ := (HT.out.rules y hy q hyr).ext hxw
      have hne : q.1 ≠ w.heap.size := by have := (HT.out.rules y hy q hyr).lt; omega
      rw [hq] at cL
      simp only [ruleP] at cL
      clear hv hq hxw bS2 hyr
      obtain ⟨qa, qp, qe, qb, qk⟩ := q
      simp only [Rl.cells] at bQ cL hne HV
      have dq0 : W.cell? ⟨qa, 0, none⟩ = some (.string qp) := bQ.cell 0
      have dq1 : W.cell? ⟨qa, 1, none⟩ = some (.int .u64 qe) := bQ.cell 1
      have dq2 : W.cell? ⟨qa, 2, none⟩ = some (.int .u64 qb) := bQ.cell 2
      have dq3 : W.cell? ⟨qa, 3, none⟩ = some (.int .u8 qk) := bQ.cell 3
      clear bQ
      simp only [rl0, Rl.cells] at hc
      gi_wp2
      obtain ⟨z1, z2, z3⟩ := four_set HS2.out rfl (Nat.le_refl _) HXW.out hS0 (by omega) HDF.out (.string qp) (.int .u64 qe) (.int .u64 qb) (.int .u8 qk)
      refine ⟨by simp, .inl ⟨_, _, rfl, run_takeDeferred z1, ?_⟩⟩
      refine ⟨.tuple #[.agg #[.string qp, .int .u64 qe, .int .u64 qb, .int .u8 qk], .bool true], ?_, by rw [HV.out], z3⟩
      exact res_cell_tmp Tryz.results95 rfl rfl z2 Tryz.underlying29 rfl (by kernel_rfl)
end Go.Proofs.YtfglpejbgfmojaaGreat
