/- Plain: who stays, and what is of it. Walks: keep.both. Rows of rules of the call's own. -/
import Derived.Deep.RegionHeld3
import Derived.Test.YtfglpejbgfmojaaGreatG41
import Derived.Test.YtfglpejbgfmojaaGreatG42
import Derived.Test.YtfglpejbgfmojaaGreatG28
import Derived.Test.YtfglpejbgfmojaaGreatG34
import Derived.Test.YtfglpejbgfmojaaGreatG40

/- Plain: who stays, and what is of it. -/
namespace Go.Proofs.YtfglpejbgfmojaaGreat
set_option linter.unusedVariables false
set_option linter.unusedSimpArgs false

/-- slots that are active, by right keys and rules -/
structure Act (clock : Int) (xs : List Slot) : Prop where
  up : Rises xs
  ok : ∀ s ∈ xs, SlotOk s
  good : ∀ s ∈ xs, Good clock s
  key : ∀ s ∈ xs, keyOk s.key = true
  fill : ∀ s ∈ xs, 0 < s.fill clock
theorem Act.kind {clock : Int} {xs : List Slot} (h : Act clock xs) : ∀ s ∈ xs, SlotOk s ∧ rightKind s.sk = true := fun s hs => ⟨h.ok s hs, fill_right (h.fill s hs)⟩
theorem Act.of {clock : Int} {l : SMap} {all : List Slot} {c : Nat} (g : Gd clock l) (h : Rel clock l all) (hok : TabOk l c) (hn0 : 0 ≤ clock) (hn1 : clock < 18446744073709551616) : Act clock (slotsOf clock l) := by
  have e := h.slots hok hn0 hn1
  have hm : ∀ s ∈ slotsOf clock l, ∃ n, (s, n) ∈ l := fun s hs => actives_mem ((slotsOf_perm clock l).mem_iff.1 hs)
  refine ⟨by rw [e]; exact h.up.filter _, fun s hs => ?_, fun s hs => ?_, fun s hs => ?_, fun s hs => ?_⟩
  · obtain ⟨n, hn⟩ := hm s hs; exact hok.ok _ hn
  · obtain ⟨n, hn⟩ := hm s hs; exact g.good _ hn
  · obtain ⟨n, hn⟩ := hm s hs; exact g.key _ hn
  · rw [e] at hs; exact (rSlots_mem hs).2
theorem Act.eNum {clock : Int} {l : SMap} (g : Gd clock l) : ∀ s ∈ slotsOf clock l, s.e < 20000 ∨ 90000 < s.e := fun s hs => by
  obtain ⟨n, hn⟩ := actives_mem ((slotsOf_perm clock l).mem_iff.1 hs)
  exact g.num _ hn
theorem kept_cap {s : Slot} {r : Rl} (he : r.e = s.e) (hb : r.b = s.b) (herr : r.err = 0) : r.cap = s.e * s.b := by
  unfold Rl.err at herr
  unfold Rl.cap ruleCap
  rw [if_pos herr, he, hb]
/-- who stays is as full as he was -/
theorem kept_sg {clock : Int} {s : Slot} {r : Rl} (g : Good clock s) (he : r.e = s.e) (hb : r.b = s.b) (herr : r.err = 0) (hn0 : 0 ≤ clock) (hn1 : clock < 9223372036854775808) : sg clock (keptS clock r s) = sg clock s ∧ Good clock (keptS clock r s) := by
  obtain ⟨c1, c2, c3⟩ := g.cap
  have hf := g.sane.fill_le c2 hn0
  have hrk := (ruleErr_zero herr).2.2.2.2
  have hkk : r.k = 1 ∨ r.k = 2 ∨ r.k = 3 := by unfold rightKind at hrk; simp at hrk; omega
  have hcap := kept_cap he hb herr
  have := Sane.ofF (clock := clock) hkk hf.1 hf.2 hn0 (by omega)
  refine ⟨?_, herr, ?_⟩
  · unfold sg keptS
    simp only
    rw [hcap, he, hb, this.2]
  · show Sane r.k (kOfA r.k clock r.cap (kFill s.sk s.sa s.sb clock r.cap)) (kOfB r.k clock) clock (r.e * r.b)
    rw [hcap, he, hb]
    exact this.1
theorem good_err {clock : Int} {s : Slot} (g : Good clock s) (hk : keyOk s.key = true) (hf : 0 < s.fill clock) (hn0 : 0 ≤ clock) : slotErr clock s = 0 := by
  obtain ⟨c1, c2, c3⟩ := g.cap
  have h1 := g.sane.fill_le c2 hn0
  have h2 : s.fill clock = kFill s.sk s.sa s.sb clock (s.e * s.b) := g.fill
  unfold slotErr
  rw [if_neg (by rw [hk]; decide), if_neg (by rw [g.rule]; decide), if_neg (by rw [fill_right hf]; decide), if_neg (by omega)]
theorem Act.err {clock : Int} {xs : List Slot} (h : Act clock xs) (hn0 : 0 ≤ clock) : firstErr clock xs = 0 :=
  firstErr_no clock xs fun i hi => good_err (h.good _ (List.getElem_mem hi)) (h.key _ (List.getElem_mem hi)) (h.fill _ (List.getElem_mem hi)) hn0
theorem sorted_of_rises : ∀ (xs : List Slot), Rises xs → sortedB (xs.map (·.key)) = true
  | [], _ => rfl
  | [x], _ => rfl
  | x :: y :: l, h => by
    obtain ⟨h1, h2⟩ := List.pairwise_cons.1 h
    have ih := sorted_of_rises (y :: l) h2
    simp only [List.map_cons, sortedB, Bool.and_eq_true] at ih ⊢
    exact ⟨by unfold keyLt; simpa using h1 y List.mem_cons_self, ih⟩
theorem Act.ofErr {clock : Int} {xs : List Slot} (h : Act clock xs) (hn0 : 0 ≤ clock) (most : Int) : ofErr most clock xs = if most < 1 ∨ 1000000 < most then 29 else if most < xs.length then 50 else 0 := by
  unfold Go.Proofs.YtfglpejbgfmojaaGreat.ofErr
  rw [h.err hn0, sorted_of_rises xs h.up]
  simp only [ne_eq, not_true_eq_false, if_false, Bool.true_eq_false]
theorem Act.all {clock : Int} {xs : List Slot} (h : Act clock xs) : rSlots clock xs = xs := by
  unfold rSlots
  exact List.filter_eq_self.2 fun s hs => by simpa using h.fill s hs
/-- the slots of a table of some are those -/
theorem Act.put {clock most : Int} {xs : List Slot} (h : Act clock xs) (he : Go.Proofs.YtfglpejbgfmojaaGreat.ofErr most clock xs = 0) (hn0 : 0 ≤ clock) (hn1 : clock < 18446744073709551616) : slotsOf clock (putTo xs).1 = xs := by
  rw [(of_rel he h.ok).1.slots (putTo_ok xs h.ok) hn0 hn1, h.all]
theorem kept_mem {clock : Int} {rs : List Rl} {xs : List Slot} {q : Slot} (h : q ∈ keptL clock rs xs) : ∃ s ∈ xs, ∃ r, staysR rs s = some r ∧ q = keptS clock r s := by
  unfold keptL at h
  rw [List.mem_filterMap] at h
  obtain ⟨s, hs, hm⟩ := h
  cases hr : staysR rs s with
  | none => rw [hr] at hm; cases hm
  | some r => rw [hr] at hm; exact ⟨s, hs, r, hr, by simpa using hm.symm⟩
theorem Act.kept {clock : Int} {rs : List Rl} {xs : List Slot} (h : Act clock xs) (hro : ∀ r ∈ rs, RlOk r) (hn0 : 0 ≤ clock) (hn1 : clock < 9223372036854775808) : Act clock (keptL clock rs xs) := by
  have hg : ∀ q ∈ keptL clock rs xs, ∃ s ∈ xs, ∃ r, staysR rs s = some r ∧ q = keptS clock r s ∧ sg clock q = sg clock s ∧ Good clock q := by
    intro q hq
    obtain ⟨s, hs, r, hr, rfl⟩ := kept_mem hq
    obtain ⟨-, he, hb, herr⟩ := staysR_some hr
    have := kept_sg (h.good s hs) he hb herr hn0 hn1
    exact ⟨s, hs, r, hr, rfl, this.1, this.2⟩
  refine ⟨?_, fun q hq => ?_, fun q hq => ?_, fun q hq => ?_, fun q hq => ?_⟩
  · unfold keptL
    refine List.Pairwise.filterMap _ ?_ h.up
    intro a a' haa b hb b' hb'
    cases hr : staysR rs a with
    | none => rw [hr] at hb; cases hb
    | some r =>
      cases hr' : staysR rs a' with
      | none => rw [hr'] at hb'; cases hb'
      | some r' =>
        rw [hr] at hb
        rw [hr'] at hb'
        have e1 : b = keptS clock r a := by simpa using hb.symm
        have e2 : b' = keptS clock r' a' := by simpa using hb'.symm
        rw [e1, e2]
        exact haa
  · obtain ⟨s, hs, r, hr, rfl⟩ := kept_mem hq
    exact (keptS_ok (hro r (staysR_mem hr)) (h.ok s hs) (staysR_some hr).2.2.2 hn0 (by omega)).1
  · obtain ⟨s, hs, r, hr, rfl, h1, h2⟩ := hg q hq
    exact h2
  · obtain ⟨s, hs, r, hr, rfl, h1, h2⟩ := hg q hq
    exact h.key s hs
  · obtain ⟨s, hs, r, hr, rfl, h1, h2⟩ := hg q hq
    rw [h2.fill, h1, ← (h.good s hs).fill]
    exact h.fill s hs
theorem kept_gone (clock : Int) (rs : List Rl) : ∀ (xs : List Slot), (keptL clock rs xs).length + (goneL rs xs).length = xs.length
  | [] => rfl
  | s :: xs => by
    have ih := kept_gone clock rs xs
    unfold keptL goneL at ih ⊢
    cases hr : staysR rs s with
    | none =>
      rw [List.filterMap_cons_none (by rw [hr]; rfl), List.filter_cons_of_pos (by rw [hr]; rfl), List.length_cons, List.length_cons]
      omega
    | some r =>
      rw [List.filterMap_cons_some (by rw [hr]; rfl), List.filter_cons_of_neg (by rw [hr]; simp), List.length_cons, List.length_cons]
      omega
/-- who stayed stays again -/
theorem stays_again {clock : Int} {rs : List Rl} {s : Slot} {r : Rl} (h : staysR rs s = some r) : staysR rs (keptS clock r s) = some r := by
  obtain ⟨hb, -, -, herr⟩ := staysR_some h
  unfold staysR
  have e : (keptS clock r s).key = s.key := rfl
  rw [e, hb]
  simp only
  rw [if_pos ⟨rfl, rfl, herr⟩]
theorem kept_again {clock : Int} {s : Slot} {r : Rl} (g : Good clock s) (he : r.e = s.e) (hb : r.b = s.b) (herr : r.err = 0) (hn0 : 0 ≤ clock) (hn1 : clock < 9223372036854775808) : keptS clock r (keptS clock r s) = keptS clock r s := by
  have h1 := (kept_sg g he hb herr hn0 hn1).1
  have hcap := kept_cap he hb herr
  have h2 : kFill (keptS clock r s).sk (keptS clock r s).sa (keptS clock r s).sb clock r.cap = kFill s.sk s.sa s.sb clock r.cap := by
    have := congrArg (fun y : Sig => y.2.2.2) h1
    unfold sg at this
    simp only at this
    have e1 : (keptS clock r s).e = s.e := he
    have e2 : (keptS clock r s).b = s.b := hb
    rw [e1, e2, ← hcap] at this
    exact this
  have h3 : keptS clock r (keptS clock r s) = ⟨s.key, r.p, r.e, r.b, r.k, r.k, kOfA r.k clock r.cap (kFill (keptS clock r s).sk (keptS clock r s).sa (keptS clock r s).sb clock r.cap), kOfB r.k clock⟩ := rfl
  rw [h3, h2]
  rfl
theorem Act.twice {clock : Int} {rs : List Rl} {xs : List Slot} (h : Act clock xs) (hn0 : 0 ≤ clock) (hn1 : clock < 9223372036854775808) : keptL clock rs (keptL clock rs xs) = keptL clock rs xs ∧ goneL rs (keptL clock rs xs) = [] := by
  have hm : ∀ q ∈ keptL clock rs xs, ∃ r, staysR rs q = some r ∧ keptS clock r q = q := by
    intro q hq
    obtain ⟨s, hs, r, hr, rfl⟩ := kept_mem hq
    obtain ⟨-, he, hb, herr⟩ := staysR_some hr
    exact ⟨r, stays_again hr, kept_again (h.good s hs) he hb herr hn0 hn1⟩
  generalize keptL clock rs xs = ys at *
  constructor
  · induction ys with
    | nil => rfl
    | cons y ys ih =>
      obtain ⟨r, h1, h2⟩ := hm y List.mem_cons_self
      have ih := ih fun q hq => hm q (List.mem_cons_of_mem _ hq)
      unfold keptL at ih ⊢
      rw [List.filterMap_cons_some (b := y) (by rw [h1]; simp [h2]), ih]
  · unfold goneL
    refine List.filter_eq_nil_iff.2 fun q hq => ?_
    obtain ⟨r, h1, h2⟩ := hm q hq
    rw [h1]
    simp
/-- by rules of other numbers nobody stays -/
theorem none_stays {clock : Int} {rs : List Rl} {xs : List Slot} (h : ∀ s ∈ xs, staysR rs s = none) : keptL clock rs xs = [] ∧ goneL rs xs = xs := by
  constructor
  · unfold keptL
    refine List.filterMap_eq_nil_iff.2 fun s hs => ?_
    rw [h s hs]
    rfl
  · unfold goneL
    refine List.filter_eq_self.2 fun s hs => ?_
    rw [h s hs]
    rfl
theorem stays_other {rs : List Rl} {s : Slot} (h : ∀ r ∈ rs, r.e ≠ s.e) : staysR rs s = none := by
  cases hr : staysR rs s with
  | none => rfl
  | some r => exact absurd (staysR_some hr).2.1 (h r (staysR_mem hr))
end Go.Proofs.YtfglpejbgfmojaaGreat

/- Walks: keep.both. -/
namespace Go.Proofs.YtfglpejbgfmojaaGreat
open Go.RowKit
set_option linter.unusedVariables false
set_option linter.unusedSimpArgs false

set_option maxHeartbeats 2000000 in
set_option maxRecDepth 100000 in
theorem keep_both (hst : StaysLaw) (t mb c : Nat) (most clock most' : Int) (m : SMap) (rv : Value) (rs : List Rl) (w : World) (ht : TabAt w t mb most clock m c) (hok : TabOk m c) (hsk : ∀ s ∈ slotsOf clock m, SlotOk s ∧ rightKind s.sk = true)
    (hr : RulesAt w rv rs) (hro : ∀ r ∈ rs, RlOk r) (hrl : rs.length ≤ maxLen) (hn0 : 0 ≤ clock) (hn1 : clock < 18446744073709551616) (hlen : m.length ≤ 1000000) :
    Calls Tryz.prog 42 #[.pointer (some ⟨t, 0, none⟩), .agg #[.int .i64 most', rv]] w (PartEnd w clock rs (slotsOf clock m)) := by
  obtain ⟨ra, rc, rfl⟩ := hr.size
  have HSL := Lib.hid (fun W (hx : Ext w W) => table_Slots t mb c most clock m W (ht.ext hx) hok hn0 hn1 hlen)
  have HCK := Lib.hid (fun W (hx : Ext w W) => table_ClockX t mb c most clock m W (ht.ext hx) hn0 hn1)
  have HNW := Lib.hid (fun W (hx : Ext w W) => prefix_New (.slice ra rs.length rc) rs W (hr.ext Rl.size4 hx) hro hrl)
  have hsl : (slotsOf clock m).length ≤ 1000000 := Nat.le_trans (by rw [slotsOf_len]; exact actives_len clock m) hlen
  have HPT := Lib.hid (fun (lo root : Nat) (many : Int) (ns : NSet) (v : Value) (W : World) (hT : TreeAt W lo root many ns) (hh : HoldsR ns rs) (hv : SlotsAt W v (slotsOf clock m)) => keep_parted hst lo root many clock ns rs v (slotsOf clock m) W hT hh hro hv hsk hn0 hn1 hsl)
  have bp := Blk.new w #[.int .i64 most', .slice ra rs.length rc] 25
  have hx0 : Ext w (w.alloc (.cells #[.int .i64 most', .slice ra rs.length rc] 25)) := (Ext.refl w).alloc _
  clear ht hok hsk hr hro hrl hn0 hn1 hlen hsl
  go_enter Tryz.func42, Tryz.ntmps42
  go_upto_region 1 with fail
  generalize w.alloc (.cells #[.int .i64 most', .slice ra rs.length rc] 25) = w0 at *
  have p1 : w0.cell? ⟨w.heap.size, 1, none⟩ = some (.slice ra rs.length rc) := bp.cell 1
  clear bp
  go_region_held3 (fun w' => w'.cell? ⟨w.heap.size, 1, none⟩ = some (.slice ra rs.length rc))
    (first | exact p1 | exact hxl.keep p1)
    (first
      | (go_at_call 22; (with_reducible refine (HSL.out _ (Ext.trans hx0 (Ext.refl _).drew)).mono ?_); rintro x w1 ⟨v, rfl, hrow, hx1⟩; have hxl : Ext w0 w1 := Ext.trans (Ext.refl _).drew hx1)
      | (go_at_call 82; (with_reducible refine (HNW.out _ (hx0.trans hxl)).mono ?_); rintro x w2 ⟨⟨u, rfl, root, ns, many, rfl, hT, hH⟩, hx2⟩; have hrow2 := hrow.at.ext hx2; have hxl := hxl.trans hx2)
      | (go_at_call 23; (with_reducible refine (HCK.out _ (hx0.trans hxl)).mono ?_); rintro x w3 ⟨rfl, hx3⟩; have hrow3 := hrow2.ext hx3; have hT3 := hT.ext hx3; have hxl := hxl.trans hx3)
      | (go_at_call 81; (with_reducible refine (HPT.out _ _ _ _ _ _ hT3 hH hrow3).mono ?_); rintro x w4 ⟨yes, no, rfl, hy, hn, hx4⟩; have hlow := Nat.le_trans (Ext.sz hx0) (Ext.sz hxl); have hy4 := hy.low hlow; have hn4 := hn.low hlow; have hxl := hxl.trans hx4))
  all_goals
    go_wp2
    go_ret2
    exact ⟨_, _, rfl, hy4, hn4, hx0.trans hxl⟩
end Go.Proofs.YtfglpejbgfmojaaGreat

/- Rows of rules of the call's own. -/
namespace Go.Proofs.YtfglpejbgfmojaaGreat
open Go.RowKit
set_option linter.unusedVariables false
set_option linter.unusedSimpArgs false

abbrev RuleRow (base : Nat) (w : World) (v : Value) (l : List Rl) : Prop := RowOf Rl.cells 4 29 base w v l
theorem rule_info : (Tryz.prog.info? 29).map (fun i => (i.zero, i.size, i.bytes)) = some (some (.agg #[.string ⟨#[]⟩, .int .u64 0, .int .u64 0, .int .u8 0]), 4, 40) := by kernel_rfl
theorem rulerow_more {base : Nat} {w : World} {v : Value} {l l' : List Rl} {r : Rl} (h : w.ownsRow base 29 4 v (l.length + 1) (flatE Rl.cells l ++ r.cells.toList)) (e : l' = l ++ [r]) : RuleRow base w v l' := by
  subst e
  refine RowOf.mk' h (by simp) (flatE_snoc _ _ _).symm ?_
  obtain ⟨g, cap, rfl⟩ := ownsRow_succ h
  simp
/-- a slice that was written out, of one rule -/
theorem rulerow_one {base b : Nat} {w : World} {r : Rl} (h : Blk w b r.cells 29) (hb : base ≤ b) : RuleRow base w (.slice (some ⟨b, 0, none⟩) 1 1) [r] :=
  RowOf.mk' (n := 1) (xs := r.cells.toList) ⟨by simp [Rl.cells], Or.inr ⟨b, 1, r.cells, rfl, hb, h, Nat.le_refl _, by decide, by simp [Rl.cells], by simp [Rl.cells]⟩⟩ rfl (by simp [flatE]) (by simp)
theorem RuleRow.at {base : Nat} {w : World} {v : Value} {l : List Rl} (h : RuleRow base w v l) : RulesAt w v l := RowOf.elems Rl.size4 h
/-- a block of another make stays as it is while a row grows -/
theorem Blk.grownNe {y z : World} {base size n k : Nat} {e t : TypeId} {v : Value} {xs : List Value} {C : Array Value} (hb : Blk y k C t) (g : y.grownBy z v.ownBlock) (o : y.ownsRow base e size v n xs) (ne : e ≠ t) : Blk z k C t := by
  refine (g.block k (lt_of_block hb) ?_).trans hb
  intro q
  obtain ⟨-, ⟨rfl, -⟩ | ⟨g', cap, cur, rfl, h2, h3, -⟩⟩ := o
  · cases q
  · have e1 : k = g' := by simpa [Value.ownBlock] using q
    subst e1
    have e2 := h3.symm.trans hb
    simp at e2
    exact ne e2.2
end Go.Proofs.YtfglpejbgfmojaaGreat
