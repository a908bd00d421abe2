/- Walks: slices.AppendSeq and Collect over the active slots. -/
import Derived.Test.YtnlmbmbalmkiiaaIter
import Derived.Maps.AppendAt
namespace Go.Proofs.Ytnlmbmbalmkiiaa
open Go.RowKit
attribute [local go_sem] Oper.semAt_some
set_option linter.unusedVariables false
set_option linter.unusedSimpArgs false

theorem active_stops (bx t mb c n₀ n : Nat) (most clock : Int) (l : SMap) (w : World) (hb : w.cell? ⟨bx, 0, none⟩ = some (.pointer (some ⟨t, 0, none⟩))) (ht : TabAt w t mb most clock l c) (hok : TabOk l c) (hn0 : 0 ≤ clock) (hn1 : clock < 18446744073709551616)
    (l1 : bx < n₀) (l2 : t < n₀) (l3 : mb < n₀) (l4 : n₀ ≤ w.heap.size) :
    SeqStopsK Fence.wide n Try.prog 62 #[.pointer (some ⟨bx, 0, none⟩)] (fun s : Slot => #[s.val]) (KpT n₀) (fun xs => xs.Perm (actives clock l)) (fun pre => ∃ rest, (pre ++ rest).Perm (actives clock l)) (actives clock l).length w :=
  fun L J Jx W hW hJ _ hY h0 => active_1 n L bx t mb c n₀ most clock l J Jx hY W hJ (Ext.keep hW hb) (ht.ext hW) hok hn0 hn1 l1 l2 l3 (Nat.le_trans l4 (Ext.sz hW)) h0

def flatS (l : List Slot) : List Value := l.flatMap fun s => s.cells.toList
theorem flatS_snoc (l : List Slot) (s : Slot) : flatS (l ++ [s]) = flatS l ++ s.cells.toList := by unfold flatS; rw [List.flatMap_append]; simp
theorem flatS_len (l : List Slot) : (flatS l).length = l.length * 8 := by
  induction l with
  | nil => rfl
  | cons s l ih =>
    show (s.cells.toList ++ flatS l).length = _
    rw [List.length_append, ih, List.length_cons]
    simp [Slot.cells]
    omega
theorem cells_new (w : World) (C : Array Value) (t : TypeId) : ∀ j u, C.toList[j]? = some u → (w.alloc (.cells C t)).cell? ((⟨w.heap.size, 0, none⟩ : Addr).add j) = some u := by
  intro j u h
  rw [addr_add', Nat.zero_add, (Blk.new w C t).cell]
  simpa using h
where addr_add' : ∀ {b o j : Nat}, (⟨b, o, none⟩ : Addr).add j = ⟨b, o + j, none⟩ := by intro b o j; unfold Addr.add; split <;> simp_all

theorem slot_info : (Try.prog.info? 52).map (fun i => (i.zero, i.size, i.bytes)) = some (some slot0.val, 8, 80) := by kernel_rfl

/-- what has been gathered, between two rounds -/
def GatherI (w : World) (pre : List Slot) (W : World) : Prop :=
  (∃ v, Boxed W w.heap.size 47 v ∧ W.ownsRow w.heap.size 52 8 v pre.length (flatS pre) ∧ (v = .slice none 0 0 ↔ pre = [])) ∧ Below w.heap.size w W
def SlotAx (w : World) (bx : Nat) (x : Slot) (a' : Act) (W : World) : Prop :=
  ∃ Bx, w.heap.size < Bx ∧ Blk W Bx x.cells 52 ∧ a' = { tmps := #[.slice none 0 0, .func (.func 62) #[] #[.pointer (some ⟨bx, 0, none⟩)], .pointer (some ⟨w.heap.size, 0, none⟩), undef, .slice none 0 0, .pointer (some ⟨Bx, 0, none⟩), .func (.func 62) #[] #[.pointer (some ⟨bx, 0, none⟩)], x.val, undef, undef, undef, undef, undef], defers := [] }

set_option maxHeartbeats 4000000 in
set_option maxRecDepth 100000 in
theorem append_seq (bx t mb c : Nat) (most clock : Int) (l : SMap) (w : World) (hb : w.cell? ⟨bx, 0, none⟩ = some (.pointer (some ⟨t, 0, none⟩))) (ht : TabAt w t mb most clock l c) (hok : TabOk l c) (hn0 : 0 ≤ clock) (hn1 : clock < 18446744073709551616) (hlen : (actives clock l).length ≤ 1000000) :
    Calls Try.prog 85 #[.slice none 0 0, .func (.func 62) #[] #[.pointer (some ⟨bx, 0, none⟩)]] w fun e W' =>
      ∃ (v : Value) (xs : List Slot), e = .returned v ∧ xs.Perm (actives clock l) ∧ W'.ownsRow w.heap.size 52 8 v xs.length (flatS xs) ∧ (v = .slice none 0 0 ↔ xs = []) ∧ Ext w W' := by
  refine (callsIn_wide (n := 9)).1 ?_
  have hbl := cell_lt hb
  have htl := ht.blk.lt
  have hml := ht.map.lt
  obtain ⟨i0, hi, hz0, hz1, hz2⟩ := info_parts slot_info
  refine callsIn_of_wp_marks Try.func85 rfl trivial ?_ rfl
  simp only [Try.ntmps85, List.size_toArray, List.length_cons, List.length_nil, Nat.reduceAdd, Nat.reduceSub, Array.replicate_succ, Array.replicate_zero, List.push_toArray, List.append_toArray, List.nil_append, List.cons_append]
  have hxw : Ext w (w.alloc (.cells #[.slice none 0 0] 47)) := (Ext.refl w).alloc _
  gi_wp2
  have bO := Boxed.new w 47 (.slice none 0 0)
  refine wpIn_rangeFunc_ownH rfl (by omega) (gf := 62) (lb := #[.pointer (some ⟨bx, 0, none⟩)]) rfl trivial (enters_of Try.func62 (by kernel_rfl) rfl)
    (active_stops bx t mb c w.heap.size (9 - 1) most clock l _ (hxw.keep hb) (ht.ext hxw) hok hn0 hn1 hbl htl hml hxw.sz) (fun h k => ⟨belowK_t h.1 k.1, walksK_t h.2 k.2⟩) (fun W l o o' a1 a2 a3 a4 => ⟨belowK_b (by simp) W l o o' a1 a2 a3 a4, walksK_b W l o o' a1 a2 a3 a4⟩) (Below.refl _ _) (fun _ => rfl)
    (GatherI w) (fun _ _ _ => False)
    (OwnFrom.and (Own.from (holdsRow_own w.heap.size w.heap.size 47 52 8 (fun pre : List Slot => pre.length) flatS (fun pre v => v = .slice none 0 0 ↔ pre = [])) _) (ownFrom_below (Nat.le_refl _) (by simp)))
    (fun _ _ _ _ _ hs _ _ => hs)
    ⟨⟨_, bO, World.ownsRow_nil _ _ _ _, by simp⟩, hxw⟩
    (SlotAx w bx) ?hAx ?assign ?body ?done ?stop
  case hAx =>
    rintro x a' s X Y row ⟨Bx, h1, h2, h3⟩ hg hr
    exact ⟨Bx, h1, (hg.block Bx h2.lt (fun e => by obtain ⟨_, o, ho, hc⟩ := hr Bx e.symm; rw [show X.heap[Bx]? = _ from h2] at ho; cases ho; cases hc)).trans h2, h3⟩
  case assign =>
    rintro L pre x W K ⟨⟨v, hv, hrow, hnil⟩, hB⟩ hK
    obtain ⟨k, sp, se, sbu, srk, sk, sa, sb⟩ := x
    simp only [Slot.val, Slot.cells]
    gi_wp2
    exact hK _ _ ((KeepsOthers.alloc _ _).from _) ⟨(Below.refl _ W).alloc hB.size _, (KeepsOthers.alloc _ _).walks⟩ ⟨⟨v, hv.alloc _, hrow.alloc _, hnil⟩, hB.alloc hB.size _⟩ ⟨W.heap.size, hv.lt, Blk.new W _ _, rfl⟩
  case body =>
    rintro L pre x a' W hl ⟨r, hr⟩ ⟨⟨v, hv, hrow, hnil⟩, hB⟩ ⟨Bx, hBx, bX, rfl⟩ hlt
    obtain ⟨k, sp, se, sbu, srk, sk, sa, sb⟩ := x
    simp only [Slot.val, Slot.cells] at bX ⊢
    have hc := hv.cell
    have hcx := bX.cell
    have hlx := bX.lt
    have hml : (1000000 : Nat) + 1 ≤ maxLen := by decide
    gi_wp2_with (gi_at_builtin; refine wpListIn_append_own _ rfl _ _ 47 rfl w.heap.size 52 i0 slot0.val 8 80 Try.underlying47 hi hz0 hz1 hz2 rfl (by decide) _ _ _ rfl (hrow.alloc _) ⟨W.heap.size, 0, none⟩ 1 1 [.string k, .string sp, .int .u64 se, .int .u64 sbu, .int .u8 srk, .int .u8 sk, .int .u64 sa, .int .u64 sb] rfl rfl (cells_new W #[.string k, .string sp, .int .u64 se, .int .u64 sbu, .int .u8 srk, .int .u8 sk, .int .u64 sa, .int .u64 sb] 52) (by simp [Value.oneCell']) (by omega) (by omega) (by have := hB.size; simp; omega) ?_; intro v' w1 hown' hgrow _; obtain ⟨g', cap', rfl⟩ := ownsRow_succ hown'; obtain ⟨hv1, hv2, hr2, hk2, hb2⟩ := hv.appended (by decide) hrow hB.size (Nat.le_refl _) hown' hgrow; have hc1 := hv1.cell; have hf1 := hv1.frozen)
    exact ⟨hk2.from _, ⟨hb2, hk2.walks⟩, ⟨⟨_, hv2, by rw [flatS_snoc]; simpa [Slot.cells] using hr2, by simp⟩, hB.trans hb2⟩⟩
  case done =>
    rintro D ys W hD hperm ⟨⟨v, hv, hrow, hnil⟩, hB⟩ hK
    have hc := hv.cell
    gi_wp2
    refine ⟨by simp, .inl ⟨_, _, rfl, run_takeDeferred hK, ?_⟩⟩
    exact ⟨_, results_tmp rfl _ _ _, v, ys, rfl, hperm, ownsRow_putObj hrow _ hK rfl, hnil, hB.trans (belowK_b (w := w) (Nat.le_refl _) W D _ _ (by simp at hD; omega) hK rfl rfl)⟩
  case stop =>
    rintro D c pre W _ _ h _
    exact h.elim
end Go.Proofs.Ytnlmbmbalmkiiaa
