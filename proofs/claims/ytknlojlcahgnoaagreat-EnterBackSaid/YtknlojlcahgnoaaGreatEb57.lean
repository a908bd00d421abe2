/- Walk: enter.Enter. -/
import Derived.Sort.CutIn
import Derived.Test.YtknlojlcahgnoaaGreatEb55
import Derived.Test.YtknlojlcahgnoaaGreatEb26
import Derived.Test.YtknlojlcahgnoaaGreatEb4
import Derived.Test.YtknlojlcahgnoaaGreatEb51

namespace Go.Proofs.YtknlojlcahgnoaaGreat
open Go.RowKit
attribute [local go_sem] Oper.semAt_some
set_option linter.unusedVariables false
set_option linter.unusedSimpArgs false

set_option maxHeartbeats 400000 in
set_option maxRecDepth 100000 in
theorem enter_still (a : Option Addr) (m c : Nat) (now : Int) (w : World) : Calls Tryz.prog 66 #[.slice a m c, .int .u64 now] w fun x w' =>
    x = .returned (.func (.func 124) #[] #[.pointer (some ⟨w.heap.size, 0, none⟩), .pointer (some ⟨w.heap.size + 1, 0, none⟩)]) ∧ w' = (w.alloc (.cells #[.slice a m c] 50)).alloc (.cells #[.int .u64 now] 35) := by
  go_enter Tryz.func66, Tryz.ntmps66
  go_wp2
  go_ret
  exact ⟨rfl, rfl⟩

theorem entRight_zero {most clock : Int} {rs : List Rl} {es : List Ent} (h : entRight most clock rs es = 0) : 1 ≤ most ∧ most ≤ 1000000 ∧ rs.length ≤ 1000 ∧ clock ≤ 9223372036854775807 ∧ (es.length : Int) ≤ most := by
  by_cases h1 : cfgErr most rs = 0
  · by_cases h2 : 9223372036854775807 < clock
    · rw [entRight_big h1 h2] at h; cases h
    · by_cases h3 : most < es.length
      · rw [entRight_many h1 h2 h3] at h; cases h
      · obtain ⟨a, b, c⟩ := cfgErr_zero h1
        exact ⟨a, b, c, by omega, by omega⟩
  · rw [entRight_cfg h1] at h; exact absurd h h1
theorem KeptBut.lt {n₀ g : Nat} {X Y : World} (h : KeptBut n₀ g X Y) {b : Nat} (hb : b < n₀) (hne : b ≠ g) (hX : n₀ ≤ X.heap.size := by omega) : b < Y.heap.size := by
  have e := h b hb hne
  rw [Array.getElem?_eq_getElem (show b < X.heap.size by omega)] at e
  exact (Array.getElem?_eq_some_iff.1 e).1
theorem KeptBut.size {g : Nat} {X Y : World} (h : KeptBut X.heap.size g X Y) (h0 : 0 < X.heap.size) (hne : X.heap.size - 1 ≠ g) : X.heap.size ≤ Y.heap.size := by
  have := h.lt (b := X.heap.size - 1) (by omega) hne (Nat.le_refl _)
  omega
theorem own_row {W W' : World} {base k n : Nat} {E : TypeId} {v : Value} {xs : List Value} {row : Option Nat} (h : W.ownsRow base E k v n xs) (hg : W.grownBy W' row) (hr : ∀ r, row = some r → ∃ o : Obj, W.heap[r]? = some o ∧ o.isCells = false) : W'.ownsRow base E k v n xs := by
  obtain ⟨h0, h | ⟨g, cap, cur, h1, h2, h3, h4⟩⟩ := h
  · exact ⟨h0, Or.inl h⟩
  · refine ⟨h0, Or.inr ⟨g, cap, cur, h1, h2, (hg.block g (lt_of_block h3) (fun e => ?_)).trans h3, h4⟩⟩
    obtain ⟨o, ho, hc⟩ := hr g e.symm
    rw [h3] at ho
    cases ho
    cases hc
theorem own_lowE {W : World} {base k n : Nat} {E : TypeId} {v : Value} {xs : List Value} (h : W.ownsRow base E k v n xs) {r : Nat} (hr : v.ownBlock = some r) : base ≤ r := by
  obtain ⟨-, ⟨rfl, -⟩ | ⟨g', cap, cur, rfl, h5, -⟩⟩ := h
  · cases hr
  · cases hr
    exact h5
/-- the slot of an entry -/
def entSlot (now : Int) (rs : List Rl) (e : Ent) : Slot :=
  ⟨e.key, (bestD rs e.key).p, (bestD rs e.key).e, (bestD rs e.key).b, (bestD rs e.key).k, if rightKind (bestD rs e.key).k then (bestD rs e.key).k else 0, kOfA (bestD rs e.key).k now (rCap (bestD rs e.key)) (e.till - now), kOfB (bestD rs e.key).k now⟩
def entSlots (now : Int) (rs : List Rl) (es : List Ent) : List Slot := (es.filter (actE now)).map (entSlot now rs)
theorem OfIs.from {w W w' : World} {most clock : Int} {xs : List Slot} {x : Ending} (h : OfIs W most clock xs x w') (e : Ext w W) : OfIs w most clock xs x w' := by
  obtain ⟨p, h1, h2, h3⟩ := h
  have hs := e.sz
  refine ⟨p, h1, e.trans h2, ?_⟩
  rcases h3 with ⟨a, t, m, b, c, d, f⟩ | h
  · exact Or.inl ⟨a, t, m, b, by omega, by omega, f⟩
  · exact Or.inr h
/-- what enter.Enter hands back -/
def EnterIs (w : World) (most cl clk : Int) (rs : List Rl) (es : List Ent) (x : Ending) (w' : World) : Prop :=
  (entRight most clk rs es ≠ 0 ∧ x = .returned (.tuple #[.pointer none, .int .u16 (entRight most clk rs es)]) ∧ Ext w w') ∨
  (entRight most clk rs es = 0 ∧ OfIs w most (max cl clk) (entSlots (max cl clk) rs es) x w')
/-- what has been gathered, between two rounds -/
def EnterI (w w1 : World) (g : Nat) (now : Int) (rs : List Rl) (pre : List Ent) (W : World) : Prop :=
  (∃ v, Blk W g #[v] 118 ∧ SlotRow w1.heap.size W v (pre.map (entSlot now rs))) ∧ KeptBut w1.heap.size g w1 W ∧ Ext w W

theorem entSlot_ok {now : Int} {rs : List Rl} {e : Ent} (h0 : 0 ≤ now) (h1 : now < 18446744073709551616) (hr : ∀ r ∈ rs, RlOk r) (he : EntOk e) (ha : now < e.till) : SlotOk (entSlot now rs e) := by
  obtain ⟨q1, q2, q3, q4, q5, q6, q7⟩ := bestD_ok hr e.key
  obtain ⟨o1, o2, o3⟩ := he
  have hcu : 0 ≤ rCap (bestD rs e.key) ∧ rCap (bestD rs e.key) ≤ 4611686018427387904 := ruleCap_u _ _ _ _ q2 q4
  have hku := kOf_u (bestD rs e.key).k now (rCap (bestD rs e.key)) (e.till - now) h0 h1 hcu.1 (by omega) (by omega) (by omega)
  have hsk : 0 ≤ (if rightKind (bestD rs e.key).k then (bestD rs e.key).k else 0) ∧ (if rightKind (bestD rs e.key).k then (bestD rs e.key).k else 0) < 256 := by split <;> omega
  exact ⟨o1, q1, q2, q3, q4, q5, q6, q7, hsk.1, hsk.2, hku.1, hku.2.1, hku.2.2.1, hku.2.2.2⟩
theorem entSlots_ok {now : Int} {rs : List Rl} {es : List Ent} (h0 : 0 ≤ now) (h1 : now < 18446744073709551616) (hr : ∀ r ∈ rs, RlOk r) (he : ∀ e ∈ es, EntOk e) : ∀ s ∈ entSlots now rs es, SlotOk s := by
  intro s hs
  obtain ⟨e, h2, rfl⟩ := List.mem_map.1 hs
  obtain ⟨h3, h4⟩ := List.mem_filter.1 h2
  exact entSlot_ok h0 h1 hr (he e h3) (of_decide_eq_true h4)
theorem OfIs.done {w W W' : World} {most clock : Int} {xs : List Slot} {x : Ending} {D : Nat} (h : OfIs W most clock xs x W') (e : Ext w W) (h1 : w.heap.size ≤ D) (h2 : D < W.heap.size) : OfIs w most clock xs x (W'.putObj D (.deferred none)) := by
  obtain ⟨p, hx, he, hc⟩ := h
  have hs := e.sz
  have hg := grownBy_putObj' W' D (.deferred none)
  refine ⟨p, hx, kext_from (e.trans he) hg (fun r q => by cases q; exact h1), ?_⟩
  rcases hc with ⟨a, t, m, b, c, d, f⟩ | h
  · exact Or.inl ⟨a, t, m, b, by omega, by omega, ⟨(World.putObj_heap_other (by omega)).trans f.blk, (World.putObj_heap_other (by omega)).trans f.map⟩⟩
  · exact Or.inr h
theorem ent_done {w w6 W wd w7 : World} {g : Nat} {now : Int} {rs : List Rl} {pre : List Ent} {e : Ent} {v v' : Value}
    (hg : g < w6.heap.size) (hwg : w.heap.size ≤ g) (hz : w6.heap.size ≤ W.heap.size)
    (h1 : Blk W g #[v] 118) (h2 : SlotRow w6.heap.size W v (pre.map (entSlot now rs))) (h3 : KeptBut w6.heap.size g w6 W) (h4 : Ext w W)
    (hxd : Ext W wd) (hown : w7.ownsRow w6.heap.size 145 8 v' ((pre.map (entSlot now rs)).length + 1) (flatE Slot.cells (pre.map (entSlot now rs)) ++ (entSlot now rs e).cells.toList))
    (hgrow : wd.grownBy w7 v.ownBlock) :
    KeepsFrom w6.heap.size W (w7.setCell ⟨g, 0, none⟩ v') ∧ KeptBut w6.heap.size g W (w7.setCell ⟨g, 0, none⟩ v') ∧ EnterI w w6 g now rs (pre ++ [e]) (w7.setCell ⟨g, 0, none⟩ v') := by
  have hge : ∀ r, v.ownBlock = some r → w6.heap.size ≤ r ∧ ∃ o : Obj, wd.heap[r]? = some o ∧ o.isCells = true := by
    intro r hr
    obtain ⟨-, ⟨rfl, -⟩ | ⟨g', cap, cur, rfl, h5, h6, -⟩⟩ := h2.own
    · cases hr
    · cases hr
      exact ⟨h5, _, (hxd.block (lt_of_block h6)).trans h6, rfl⟩
  have hw6 := h4.sz
  have hsz := hxd.sz
  have b7 : Blk w7 g #[v] 118 := kblk_from (h1.ext hxd) hgrow (fun r hr => by have := (hge r hr).1; omega)
  have k0 : KeepsOthers W wd := ⟨hxd.sz, fun k o hk _ => (hxd.block (Array.getElem?_eq_some_iff.1 hk).1).trans hk⟩
  have k1 : KeepsOthers wd w7 := KeepsOthers.of_grownBy hgrow (fun j o hj ho => by
    obtain ⟨-, o', ho', hc'⟩ := hge j hj
    rw [ho'] at ho
    cases ho
    exact hc')
  have kb : KeptBut w6.heap.size g W (w7.setCell ⟨g, 0, none⟩ v') := by
    refine KeptBut.setCell ?_ 0 v'
    intro b hb hne
    exact (hgrow.block b (by omega) (fun q => by have := (hge b q.symm).1; omega)).trans (hxd.block (by omega))
  refine ⟨((k0.trans k1).trans (KeepsOthers.setCell _ _ _)).from _, kb, ⟨v', b7.set 0 v', row_more (ownsRow_setCell_below hown hg v') (by simp)⟩, h3.trans kb, ?_⟩
  exact (kext_from (h4.trans hxd) hgrow (fun r hr => by have := (hge r hr).1; omega)).setCell hwg v'

/-- a state in new memory -/
def StEnd (W : World) (sk sa sb : Int) (s : Value) (W' : World) : Prop := ∃ B, s = .pointer (some ⟨B, 0, none⟩) ∧ W.heap.size ≤ B ∧ Blk W' B #[.int .u8 sk, .int .u64 sa, .int .u64 sb] 140 ∧ Ext W W'
set_option maxHeartbeats 4000000 in
set_option maxRecDepth 100000 in
theorem enter_Enter (most : Int) (rv : Value) (rs : List Rl) (cl clk : Int) (ev : Value) (es : List Ent) (w : World) (hm0 : -9223372036854775808 ≤ most) (hm1 : most ≤ 9223372036854775807) (hr : RulesAt w rv rs) (hro : ∀ r ∈ rs, RlOk r) (hrl : rs.length ≤ 1000000000)
    (hc0 : 0 ≤ cl) (hc1 : cl < 18446744073709551616) (hn0 : 0 ≤ clk) (hn1 : clk < 18446744073709551616) (hv : EntsAt w ev es) (heo : ∀ e ∈ es, EntOk e) (hel : es.length ≤ 1000000000) :
    Calls Tryz.prog 29 #[.agg #[.int .i64 most, rv], .int .u64 cl, .agg #[.int .u64 clk, ev]] w fun x w' => EnterIs w most cl clk rs es x w' := by
  obtain ⟨ra, rc, rfl⟩ := hr.size
  obtain ⟨ea, ec, rfl⟩ := hv.size
  have hx0 : Ext w ((w.alloc (.cells #[.int .i64 most, .slice ra rs.length rc] 28)).alloc (.cells #[.int .u64 clk, .slice ea es.length ec] 52)) := ((Ext.refl w).alloc _).alloc _
  have bP := (Blk.new w #[.int .i64 most, .slice ra rs.length rc] 28).alloc (.cells #[.int .u64 clk, .slice ea es.length ec] 52)
  have bS := Blk.new' (w.alloc (.cells #[.int .i64 most, .slice ra rs.length rc] 28)) #[.int .u64 clk, .slice ea es.length ec] 52 (b := w.heap.size + 1) (by simp)
  have HVB : Hid (es ≠ [] → ∀ b o n c', (Value.slice ea es.length ec) = .slice (some ⟨b, o, none⟩) n c' → b < w.heap.size) := by
    intro hne b o n c' e
    obtain ⟨b', o', e', hbl, -⟩ := hv.cells Ent.size2 (by decide) 0 (List.length_pos_iff.2 hne)
    subst e'
    cases e
    exact hbl
  have HR := Lib.hid (hr.ext Rl.size4 hx0)
  have HV := Lib.hid (hv.ext Ent.size2 hx0)
  have HRO := Lib.hid hro
  have HEO := Lib.hid heo
  have hER := enter_Right most (.slice ra rs.length rc) rs clk (.slice ea es.length ec) es _ hm0 hm1 HR.out hro hrl hn0 hn1 HV.out heo hel
  unfold EnterIs
  obtain ⟨E, hE⟩ : ∃ E, entRight most clk rs es = E := ⟨_, rfl⟩
  rw [hE] at hER ⊢
  have HE := Lib.hid hE
  have HER := Lib.hid hER
  clear hr hv hro heo hER hE
  have HX0 := Lib.hid hx0
  have HBP := Lib.hid bP
  have HBS := Lib.hid bS
  have cP := bP.cell
  have cS := bS.cell
  have hpl := bP.lt
  clear hx0 bP bS
  refine (callsIn_wide (n := 9)).1 ?_
  refine callsIn_of_wp_marks Tryz.func29 rfl trivial ?_ rfl
  simp only [Tryz.ntmps29, List.size_toArray, List.length_cons, List.length_nil, Nat.reduceAdd, Nat.reduceSub, Array.replicate_succ, Array.replicate_zero, List.push_toArray, List.append_toArray, List.nil_append, List.cons_append]
  gi_upto_region 1 with fail
  generalize (w.alloc (.cells #[.int .i64 most, .slice ra rs.length rc] 28)).alloc (.cells #[.int .u64 clk, .slice ea es.length ec] 52) = w0 at *
  gi_wp2_with fail
  refine ⟨trivial, (callsIn_wide.2 HER.out).mono ?_⟩
  rintro x w1 ⟨rfl, hx1⟩
  have HX1 := Lib.hid (HX0.out.trans hx1)
  have bP1 := HBP.out.ext hx1
  have bS1 := HBS.out.ext hx1
  have cP1 := bP1.cell
  have cS1 := bS1.cell
  have HBP1 := Lib.hid bP1
  have HBS1 := Lib.hid bS1
  have HR1 := Lib.hid (HR.out.ext Rl.size4 hx1)
  have HV1 := Lib.hid (HV.out.ext Ent.size2 hx1)
  clear hx1 bP1 bS1 HER cP cS
  by_cases h0 : E = 0
  · subst h0
    have hER := entRight_zero HE.out
    obtain ⟨hz1, hz2, hz3, hz4, hz5⟩ := hER
    have hrl2 : rs.length ≤ maxLen := Nat.le_trans hz3 (by decide)
    have HRL := Lib.hid hrl2
    obtain ⟨now, hnow⟩ : ∃ q, max cl clk = q := ⟨_, rfl⟩
    have hw0 : 0 ≤ now := by omega
    have hw1 : now < 18446744073709551616 := by omega
    have HN := Lib.hid hnow
    clear hrl2 hnow
    gi_upto_region 5 with fail
    rw [HN.out]
    have hx2 : Ext w1 (w1.alloc (.cells #[.int .u64 now] 35)) := (Ext.refl w1).alloc _
    have bN := Blk.new w1 #[.int .u64 now] 35
    generalize w1.alloc (.cells #[.int .u64 now] 35) = w2 at *
    have cP2 := (HBP1.out.ext hx2).cell
    have cS2 := (HBS1.out.ext hx2).cell
    have cN2 := bN.cell 0
    have HX2 := Lib.hid (HX1.out.trans hx2)
    have HBN := Lib.hid bN
    have HPN := Lib.hid (prefix_New _ rs w2 (HR1.out.ext Rl.size4 hx2) HRO.out HRL.out)
    have HV2 := Lib.hid (HV1.out.ext Ent.size2 hx2)
    have HBP2 := Lib.hid (HBP1.out.ext hx2)
    have HBS2 := Lib.hid (HBS1.out.ext hx2)
    clear hx2 bN cP1 cS1
    gi_wp2_with fail
    refine ⟨trivial, (callsIn_wide.2 HPN.out).mono ?_⟩
    rintro x w3 ⟨⟨u, rfl, root, ns, many, rfl, hT, hH⟩, hx3⟩
    have cP3 := (HBP2.out.ext hx3).cell
    have cS3 := (HBS2.out.ext hx3).cell
    have cN3 := (HBN.out.ext hx3).cell 0
    have HX3 := Lib.hid (HX2.out.trans hx3)
    have HBN3 := Lib.hid (HBN.out.ext hx3)
    have HV3 := Lib.hid (HV2.out.ext Ent.size2 hx3)
    have HBP3 := Lib.hid (HBP2.out.ext hx3)
    have HBS3 := Lib.hid (HBS2.out.ext hx3)
    have HTT := Lib.hid hT
    have HHH := Lib.hid hH
    have hl1 := (HBN.out.ext hx3).lt
    have hl2 := (HBP2.out.ext hx3).lt
    have hl3 := (HBS2.out.ext hx3).lt
    clear hx3 hT hH cP2 cS2 cN2
    gi_upto_region 7 with fail
    have hx4 : Ext w3 ((w3.alloc (.cells #[.pointer (some ⟨root, 0, none⟩)] 132)).alloc (.cells #[.slice none 0 0] 118)) := ((Ext.refl w3).alloc _).alloc _
    have bT4 := (Blk.new w3 #[.pointer (some ⟨root, 0, none⟩)] 132).alloc (.cells #[.slice none 0 0] 118)
    have bG4 := Blk.new' (w3.alloc (.cells #[.pointer (some ⟨root, 0, none⟩)] 132)) #[.slice none 0 0] 118 (b := w3.heap.size + 1) (by simp)
    have hs4 : ((w3.alloc (.cells #[.pointer (some ⟨root, 0, none⟩)] 132)).alloc (.cells #[.slice none 0 0] 118)).heap.size = w3.heap.size + 2 := by simp
    generalize (w3.alloc (.cells #[.pointer (some ⟨root, 0, none⟩)] 132)).alloc (.cells #[.slice none 0 0] 118) = w4 at *
    have cS4 := (HBS3.out.ext hx4).cell
    have cN4 := (HBN3.out.ext hx4).cell 0
    clear cP3 cS3 cN3
    gi_wp2_with fail
    refine ⟨trivial, (callsIn_wide.2 (enter_still ea es.length ec now w4)).mono ?_⟩
    rintro x w5 ⟨rfl, rfl⟩
    gi_wp2_with fail
    have hx6 : Ext w4 ((w4.alloc (.cells #[.slice ea es.length ec] 50)).alloc (.cells #[.int .u64 now] 35)) := ((Ext.refl w4).alloc _).alloc _
    have bL6 := (Blk.new w4 #[.slice ea es.length ec] 50).alloc (.cells #[.int .u64 now] 35)
    have bM6 := Blk.new' (w4.alloc (.cells #[.slice ea es.length ec] 50)) #[.int .u64 now] 35 (b := w4.heap.size + 1) (by simp)
    rw [hs4] at bL6 bM6
    have hs6 : ((w4.alloc (.cells #[.slice ea es.length ec] 50)).alloc (.cells #[.int .u64 now] 35)).heap.size = w3.heap.size + 4 := by simp; omega
    generalize (w4.alloc (.cells #[.slice ea es.length ec] 50)).alloc (.cells #[.int .u64 now] 35) = w6 at *
    have HT6 := Lib.hid ((HTT.out.ext hx4).ext hx6)
    have HV6 := Lib.hid ((HV3.out.ext Ent.size2 hx4).ext Ent.size2 hx6)
    have bG6 := bG4.ext hx6
    have HBT6 := Lib.hid (bT4.ext hx6)
    have HBN6 := Lib.hid ((HBN3.out.ext hx4).ext hx6)
    have HBP6 := Lib.hid ((HBP3.out.ext hx4).ext hx6)
    have HX6 := Lib.hid ((HX3.out.trans hx4).trans hx6)
    have HX36 := Lib.hid (hx4.trans hx6)
    have HEL : Hid (es.length ≤ 1000000) := by show es.length ≤ 1000000; omega
    refine wpIn_range_S rfl (by omega) (gf := 124) (lb := #[.pointer (some ⟨w3.heap.size + 2, 0, none⟩), .pointer (some ⟨w3.heap.size + 2 + 1, 0, none⟩)]) rfl trivial (enters_of Tryz.func124 (by kernel_rfl) rfl)
      (encs := encE) (Kp := KeptBut w6.heap.size (w3.heap.size + 1)) (R := fun _ => False) (xs := es.filter (actE now)) (w0 := w6) ?hseq (Ext.refl _)
      (fun r hr => hr.elim) (fun h k => h.trans k) (fun W l o hl => KeptBut.put W o hl) (fun _ => rfl)
      (EnterI w w6 (w3.heap.size + 1) now rs) ?hI ?h0
      (fun x a' W => ∃ Bx, w6.heap.size ≤ Bx ∧ Blk W Bx x.cells 80 ∧ a' = { tmps := #[.agg #[.int .i64 most, .slice ra rs.length rc], .int .u64 cl, .agg #[.int .u64 clk, .slice ea es.length ec], .pointer (some ⟨w.heap.size, 0, none⟩), undef, .pointer (some ⟨w.heap.size + 1, 0, none⟩), .pointer none, .int .u16 0, .int .u16 0, .pointer (some ⟨w1.heap.size, 0, none⟩), .pointer (some ⟨w3.heap.size, 0, none⟩), .pointer (some ⟨w3.heap.size + 1, 0, none⟩), .pointer (some ⟨Bx, 0, none⟩), undef, undef, undef, undef, .agg #[.int .i64 most, .slice ra rs.length rc], .agg #[.int .u64 clk, .slice ea es.length ec], .int .u16 0, .int .u16 0, .bool false, undef, .int .u64 cl, .pointer (some ⟨w.heap.size + 1, 0, none⟩), .int .u64 clk, .int .u64 now, .pointer (some ⟨w.heap.size, 1, none⟩), .slice ra rs.length rc, .pointer (some ⟨root, 0, none⟩), .pointer (some ⟨w.heap.size + 1, 1, none⟩), .slice ea es.length ec, .int .u64 now, .func (.func 124) #[] #[.pointer (some ⟨w3.heap.size + 2, 0, none⟩), .pointer (some ⟨w3.heap.size + 2 + 1, 0, none⟩)], .agg #[.string x.key, .int .u64 x.till], undef, undef, undef, undef, undef, undef, undef, undef, undef, undef, undef, undef, undef, undef, undef, undef, undef, undef, undef, undef, undef, undef, undef, undef, undef, undef, undef, undef, undef, undef, undef, undef, undef, undef, undef], defers := [] }) ?hAx ?assign ?body ?done
    case hseq =>
      intro l J W hW hJ hY hj
      have hzW := hW.sz
      exact still_1 (9 - 1) l (w3.heap.size + 2) (w3.heap.size + 2 + 1) w6.heap.size (w3.heap.size + 1) now ea ec es J W hY hJ (HV6.out.ext Ent.size2 hW) HEO.out (fun hne b o n c' e => by have := HVB.out hne b o n c' e; omega) ((bL6.ext hW).cell 0) ((bM6.ext hW).cell 0) hw0 hw1 HEL.out (by omega) (by omega) (by omega) (by omega) (by omega) hj
    case hI =>
      rintro s W W' row ⟨⟨v, h1, h2⟩, h3, h4⟩ hg hrow
      have hge : ∀ r, row = some r → w6.heap.size ≤ r := fun r e => by rcases hrow r e with q | q; exact q.elim; exact q.1
      refine ⟨⟨v, kblk_row h1 hg (fun r e => by have := hge r e; omega), ⟨own_row h2.own hg fun r e => ?_, h2.nil⟩⟩, fun b hb hne => (hg.block b (h3.lt hb hne) (fun e => by have := hge b e.symm; omega)).trans (h3 b hb hne), kext_from h4 hg (fun r e => by have := hge r e; omega)⟩
      rcases hrow r e with q | q
      · exact q.elim
      · exact q.2
    case h0 => exact ⟨⟨.slice none 0 0, bG6, RowOf.empty _ _ _ _ _⟩, KeptBut.refl _ _ _, HX6.out⟩
    case hAx =>
      rintro x a' W l o o' hl ho hc ⟨Bx, h1, h2, h3⟩
      refine ⟨Bx, h1, ?_, h3⟩
      have hne : Bx ≠ l := fun e => by
        subst e
        rw [show W.heap[Bx]? = _ from h2] at ho
        cases ho
        cases hc
      exact (World.putObj_heap_other hne).trans h2
    case assign =>
      rintro L pre x W K ⟨⟨v, h1, h2⟩, h3, h4⟩ hK
      obtain ⟨ky, till⟩ := x
      have hz := h3.size (by omega) (by omega)
      simp only [encE]
      gi_wp2
      exact hK _ _ ((KeepsOthers.alloc _ _).from _) ((KeptBut.refl _ _ _).alloc hz _) ⟨⟨v, h1.alloc _, h2.ext ((Ext.refl W).alloc _)⟩, h3.alloc (Nat.le_refl _) _, h4.alloc _⟩ ⟨W.heap.size, hz, Blk.new W _ _, rfl⟩
    case body =>
      rintro L pre x a' W ⟨⟨v, h1, h2⟩, h3, h4⟩ ⟨Bx, hBx, bX, rfl⟩ ⟨rest, hrest⟩
      obtain ⟨ky, till⟩ := x
      have hmem : (⟨ky, till⟩ : Ent) ∈ es.filter (actE now) := by rw [hrest]; simp
      obtain ⟨hin, hac⟩ := List.mem_filter.1 hmem
      have hact : now < till := of_decide_eq_true hac
      obtain ⟨o1, o2, o3⟩ := HEO.out _ hin
      simp only at o1 o2 o3
      have hpl2 : pre.length + 1 ≤ 1000000 := by
        have e1 := congrArg List.length hrest
        have e2 := List.length_filter_le (actE now) es
        rw [List.length_append, List.length_cons] at e1
        have := HEL.out
        omega
      have hz := h3.size (by omega) (by omega)
      have hsee : Sees w3 W := fun b hb => (h3 b (by omega) (by omega)).trans (HX36.out.block hb)
      have HTW := Lib.hid (TreeAt.sees HTT.out hsee)
      have bTW : Blk W w3.heap.size #[.pointer (some ⟨root, 0, none⟩)] 132 := (h3 w3.heap.size (by omega) (by omega)).trans HBT6.out
      have bNW : Blk W w1.heap.size #[.int .u64 now] 35 := (h3 w1.heap.size (by omega) (by omega)).trans HBN6.out
      have cT := bTW.cell 0
      have cNW := bNW.cell 0
      have cX0 : W.cell? ⟨Bx, 0, none⟩ = some (.string ky) := bX.cell 0
      have cX1 : W.cell? ⟨Bx, 1, none⟩ = some (.int .u64 till) := bX.cell 1
      have HFIND := Lib.hid (fun (V : World) (hV : Ext W V) => tree_Find w2.heap.size root many ns rs ky V (HTW.out.ext hV) HHH.out o1)
      rw [findV_D] at HFIND
      have hbo := bestD_ok HRO.out ky
      have hsl : entSlot now rs ⟨ky, till⟩ = ⟨ky, (bestD rs ky).p, (bestD rs ky).e, (bestD rs ky).b, (bestD rs ky).k, if rightKind (bestD rs ky).k then (bestD rs ky).k else 0, kOfA (bestD rs ky).k now (rCap (bestD rs ky)) (till - now), kOfB (bestD rs ky).k now⟩ := rfl
      generalize hb : bestD rs ky = r at *
      generalize (bestR rs ky.data.toList).isSome = bo at *
      have hfind : ∀ (V : World), Ext W V → Calls Tryz.prog 67 #[.pointer (some ⟨root, 0, none⟩), .string ky] V fun x w' => x = .returned (.tuple #[.agg #[.string r.p, .int .u64 r.e, .int .u64 r.b, .int .u8 r.k], .bool bo]) ∧ Ext V w' := HFIND.out
      clear HFIND
      have HFIND := Lib.hid hfind
      have HSL := Lib.hid hsl
      have HB1 := Lib.hid h1
      have HB2 := Lib.hid h2
      have HB3 := Lib.hid h3
      have HB4 := Lib.hid h4
      have HBX := Lib.hid bX
      have HBTW := Lib.hid bTW
      have HBNW := Lib.hid bNW
      have hg1 : w3.heap.size + 1 < W.heap.size := h1.lt
      clear hfind hsl h1 h2 h3 h4 hsee hmem hin hac hrest hb bX bTW bNW
      gi_wp2_with fail
      refine ⟨trivial, (CallsIn.inRound L (callsIn_wide.2 (HFIND.out _ (Ext.refl _)))).mono ?_⟩
      rintro xx Wa ⟨rfl, hxa⟩
      gi_upto_region 10 with fail
      have bR := Blk.new Wa #[.string r.p, .int .u64 r.e, .int .u64 r.b, .int .u8 r.k] 37
      have hxb : Ext W (Wa.alloc (.cells #[.string r.p, .int .u64 r.e, .int .u64 r.b, .int .u8 r.k] 37)) := hxa.alloc _
      have hra : Wa.heap.size < (Wa.alloc (.cells #[.string r.p, .int .u64 r.e, .int .u64 r.b, .int .u8 r.k] 37)).heap.size := bR.lt
      have hwa := hxa.sz
      generalize Wa.alloc (.cells #[.string r.p, .int .u64 r.e, .int .u64 r.b, .int .u8 r.k] 37) = Wb at *
      have cR0 : Wb.cell? ⟨Wa.heap.size, 0, none⟩ = some (.string r.p) := bR.cell 0
      have cR1 : Wb.cell? ⟨Wa.heap.size, 1, none⟩ = some (.int .u64 r.e) := bR.cell 1
      have cR2 : Wb.cell? ⟨Wa.heap.size, 2, none⟩ = some (.int .u64 r.b) := bR.cell 2
      have cR3 : Wb.cell? ⟨Wa.heap.size, 3, none⟩ = some (.int .u8 r.k) := bR.cell 3
      have dX1 : Wb.cell? ⟨Bx, 1, none⟩ = some (.int .u64 till) := (HBX.out.ext hxb).cell 1
      have dN : Wb.cell? ⟨w1.heap.size, 0, none⟩ = some (.int .u64 now) := (HBNW.out.ext hxb).cell 0
      obtain ⟨q1, q2, q3, q4, q5, q6, q7⟩ := hbo
      have hcu := ruleCap_u r.p r.e r.b r.k q2 q4
      have HCAP := Lib.hid (fun V : World => rule_Cap r.p r.e r.b r.k V q1 q2 q3 q4 q5)
      have hrc : ruleCap r.p r.e r.b r.k = rCap r := rfl
      rw [hrc] at HCAP hcu
      generalize rCap r = C at *
      have hfl : 0 ≤ till - now ∧ till - now < 18446744073709551616 := by omega
      have hku := kOf_u r.k now C (till - now) hw0 hw1 hcu.1 (by omega) hfl.1 hfl.2
      have hof : ∀ V : World, Calls Tryz.prog 68 #[.int .u8 r.k, .int .u64 now, .int .u64 C, .int .u64 (till - now)] V fun e w' => e = .returned (.tuple #[.agg #[.int .u8 (if rightKind r.k then r.k else 0), .int .u64 (kOfA r.k now C (till - now)), .int .u64 (kOfB r.k now)], .int .u16 (if rightKind r.k then 0 else 27)]) ∧ Ext V w' :=
        fun V => kernel_Of r.k now C (till - now) V hw0 hw1 hcu.1 (by omega) hfl.1 hfl.2
      have hsk : 0 ≤ (if rightKind r.k then r.k else 0) ∧ (if rightKind r.k then r.k else 0) < 256 := by split <;> omega
      generalize (if rightKind r.k then r.k else 0) = sk at *
      generalize kOfA r.k now C (till - now) = sa at *
      generalize kOfB r.k now = sb at *
      generalize (if rightKind r.k then (0 : Int) else 27) = er at *
      have HOF := Lib.hid hof
      have HXB := Lib.hid hxb
      have bXb : Blk Wb Bx #[.string ky, .int .u64 till] 80 := HBX.out.ext hxb
      have bNb : Blk Wb w1.heap.size #[.int .u64 now] 35 := HBNW.out.ext hxb
      have bRb : Blk Wb Wa.heap.size #[.string r.p, .int .u64 r.e, .int .u64 r.b, .int .u8 r.k] 37 := bR
      have HBR := Lib.hid bR
      have hwr : IntKind.u64.wrap (till - now) = till - now := by simp [IntKind.wrap, IntKind.signed, IntKind.bits]; omega
      clear hof hrc hxb hxa bR hku hcu cT cNW cX0 cX1
      gi_cut [15, 16] from 17 (fun s15 s16 wx => StEnd Wb sk sa sb s15 wx)
      case first =>
        have hHeld : (fun w' : World => (∀ o, w'.cell? ⟨Wa.heap.size, o, none⟩ = (#[.string r.p, .int .u64 r.e, .int .u64 r.b, .int .u8 r.k] : Array Value)[o]?) ∧ (∀ o, w'.cell? ⟨Bx, o, none⟩ = (#[.string ky, .int .u64 till] : Array Value)[o]?) ∧ (∀ o, w'.cell? ⟨w1.heap.size, o, none⟩ = (#[.int .u64 now] : Array Value)[o]?) ∧ Ext Wb w') Wb.drew := ⟨bRb.drew.cell, bXb.drew.cell, bNb.drew.cell, (Ext.refl _).drew⟩
        refine wpIn_region_round (S := fun w' => (∀ o, w'.cell? ⟨Wa.heap.size, o, none⟩ = (#[.string r.p, .int .u64 r.e, .int .u64 r.b, .int .u8 r.k] : Array Value)[o]?) ∧ (∀ o, w'.cell? ⟨Bx, o, none⟩ = (#[.string ky, .int .u64 till] : Array Value)[o]?) ∧ (∀ o, w'.cell? ⟨w1.heap.size, o, none⟩ = (#[.int .u64 now] : Array Value)[o]?) ∧ Ext Wb w') (by kernel_rfl) (by kernel_rfl) (by rintro ⟨a, w, h⟩; exact h) ?_
        refine wpAnyH_take (i := 0) (v := ?_) rfl (by kernel_rfl) (by kernel_rfl) (by kernel_rfl) (fun _ _ _ h => h) (Or.inl ⟨by rfl, ?_⟩) (by assumption) ?_
        rotate_left
        · intro w hSw
          (try dsimp only at hSw)
          obtain ⟨t0, t1, t2, t3⟩ := hSw
          go_simp
          try with_reducible rfl
        try simp only [Go.Act.put, List.getElem_toArray, List.getElem_cons_zero, List.getElem_cons_succ, List.setIfInBounds_toArray, List.set_cons_zero, List.set_cons_succ]
        refine wpAnyH_take (i := 1) (v := ?_) rfl (by kernel_rfl) (by kernel_rfl) (by kernel_rfl) (fun _ _ _ h => h) (Or.inl ⟨by rfl, ?_⟩) (by assumption) ?_
        rotate_left
        · intro w hSw
          (try dsimp only at hSw)
          obtain ⟨t0, t1, t2, t3⟩ := hSw
          go_simp
          try with_reducible rfl
        try simp only [Go.Act.put, List.getElem_toArray, List.getElem_cons_zero, List.getElem_cons_succ, List.setIfInBounds_toArray, List.set_cons_zero, List.set_cons_succ]
        refine wpAnyH_take (i := 2) (v := ?_) rfl (by kernel_rfl) (by kernel_rfl) (by kernel_rfl) (fun _ _ _ h => h) (Or.inl ⟨by rfl, ?_⟩) (by assumption) ?_
        rotate_left
        · intro w hSw
          (try dsimp only at hSw)
          obtain ⟨t0, t1, t2, t3⟩ := hSw
          go_simp
          try with_reducible rfl
        try simp only [Go.Act.put, List.getElem_toArray, List.getElem_cons_zero, List.getElem_cons_succ, List.setIfInBounds_toArray, List.set_cons_zero, List.set_cons_succ]
        refine wpAnyH_take (i := 3) (v := ?_) rfl (by kernel_rfl) (by kernel_rfl) (by kernel_rfl) (fun _ _ _ h => h) (Or.inl ⟨by rfl, ?_⟩) (by assumption) ?_
        rotate_left
        · intro w hSw
          (try dsimp only at hSw)
          obtain ⟨t0, t1, t2, t3⟩ := hSw
          go_simp
          try with_reducible rfl
        try simp only [Go.Act.put, List.getElem_toArray, List.getElem_cons_zero, List.getElem_cons_succ, List.setIfInBounds_toArray, List.set_cons_zero, List.set_cons_succ]
        refine wpAnyH_take (i := 5) (v := ?_) rfl (by kernel_rfl) (by kernel_rfl) (by kernel_rfl) (fun _ _ _ h => h) (Or.inl ⟨by rfl, ?_⟩) (by assumption) ?_
        rotate_left
        · intro w hSw
          (try dsimp only at hSw)
          obtain ⟨t0, t1, t2, t3⟩ := hSw
          go_simp
          try with_reducible rfl
        try simp only [Go.Act.put, List.getElem_toArray, List.getElem_cons_zero, List.getElem_cons_succ, List.setIfInBounds_toArray, List.set_cons_zero, List.set_cons_succ]
        refine wpAnyH_take (i := 6) (v := ?_) rfl (by kernel_rfl) (by kernel_rfl) (by kernel_rfl) (fun _ _ _ h => h) (Or.inl ⟨by rfl, ?_⟩) (by assumption) ?_
        rotate_left
        · intro w hSw
          (try dsimp only at hSw)
          obtain ⟨t0, t1, t2, t3⟩ := hSw
          go_simp
          try with_reducible rfl
        try simp only [Go.Act.put, List.getElem_toArray, List.getElem_cons_zero, List.getElem_cons_succ, List.setIfInBounds_toArray, List.set_cons_zero, List.set_cons_succ]
        refine wpAnyH_take (i := 7) (v := ?_) rfl (by kernel_rfl) (by kernel_rfl) (by kernel_rfl) (fun _ _ _ h => h) (Or.inl ⟨by rfl, ?_⟩) (by assumption) ?_
        rotate_left
        · intro w hSw
          (try dsimp only at hSw)
          obtain ⟨t0, t1, t2, t3⟩ := hSw
          go_simp
          try with_reducible rfl
        try simp only [Go.Act.put, List.getElem_toArray, List.getElem_cons_zero, List.getElem_cons_succ, List.setIfInBounds_toArray, List.set_cons_zero, List.set_cons_succ]
        refine wpAnyH_take (i := 8) (v := ?_) rfl (by kernel_rfl) (by kernel_rfl) (by kernel_rfl) (fun _ _ _ h => h) (Or.inl ⟨by rfl, ?_⟩) (by assumption) ?_
        rotate_left
        · intro w hSw
          (try dsimp only at hSw)
          obtain ⟨t0, t1, t2, t3⟩ := hSw
          go_simp
          try with_reducible rfl
        try simp only [Go.Act.put, List.getElem_toArray, List.getElem_cons_zero, List.getElem_cons_succ, List.setIfInBounds_toArray, List.set_cons_zero, List.set_cons_succ]
        have hSE : ∀ V : World, Ext Wb V → (fun w' : World => (∀ o, w'.cell? ⟨Wa.heap.size, o, none⟩ = (#[.string r.p, .int .u64 r.e, .int .u64 r.b, .int .u8 r.k] : Array Value)[o]?) ∧ (∀ o, w'.cell? ⟨Bx, o, none⟩ = (#[.string ky, .int .u64 till] : Array Value)[o]?) ∧ (∀ o, w'.cell? ⟨w1.heap.size, o, none⟩ = (#[.int .u64 now] : Array Value)[o]?) ∧ Ext Wb w') V := fun V e => ⟨(bRb.ext e).cell, (bXb.ext e).cell, (bNb.ext e).cell, e⟩
        refine wpAnyH_ready (rs := [4, 13]) (by kernel_rfl) (by simp) ?_
        refine AllReadyH.cons rfl (fun K hK => ?_) (AllReadyH.cons rfl (fun K hK => ?_) AllReadyH.nil)
        · go_simp
          refine (HCAP.out _).mono ?_
          rintro xx Wc ⟨rfl, hxc⟩
          refine hK _ _ (hSE _ (Ext.trans (Ext.refl _).drew hxc)) (fun hHeld => ?_)
          clear hK K
          try simp only [Go.Act.put, List.getElem_toArray, List.getElem_cons_zero, List.getElem_cons_succ, List.setIfInBounds_toArray, List.set_cons_zero, List.set_cons_succ]
          refine wpAnyH_ready (rs := [9, 13]) (by kernel_rfl) (by simp) ?_
          refine AllReadyH.cons rfl (fun K hK => ?_) (AllReadyH.cons rfl (fun K hK => ?_) AllReadyH.nil)
          · go_simp
            refine (HOF.out _).mono ?_
            rintro xx Wd ⟨rfl, hxd⟩
            refine hK _ _ (hSE _ (Ext.trans (Ext.trans (Ext.refl _).drew hxc) hxd)) (fun hHeld => ?_)
            clear hK K
            try simp only [Go.Act.put, List.getElem_toArray, List.getElem_cons_zero, List.getElem_cons_succ, List.setIfInBounds_toArray, List.set_cons_zero, List.set_cons_succ]
            refine wpAnyH_take (i := 10) (v := ?_) rfl (by kernel_rfl) (by kernel_rfl) (by kernel_rfl) (fun _ _ _ h => h) (Or.inl ⟨by rfl, ?_⟩) (by assumption) ?_
            rotate_left
            · intro w hSw
              (try dsimp only at hSw)
              obtain ⟨t0, t1, t2, t3⟩ := hSw
              go_simp
              try with_reducible rfl
            try simp only [Go.Act.put, List.getElem_toArray, List.getElem_cons_zero, List.getElem_cons_succ, List.setIfInBounds_toArray, List.set_cons_zero, List.set_cons_succ]
            refine wpAnyH_take (i := 11) (v := ?_) rfl (by kernel_rfl) (by kernel_rfl) (by kernel_rfl) (fun _ _ _ h => h) (Or.inl ⟨by rfl, ?_⟩) (by assumption) ?_
            rotate_left
            · intro w hSw
              (try dsimp only at hSw)
              obtain ⟨t0, t1, t2, t3⟩ := hSw
              go_simp
              try with_reducible rfl
            try simp only [Go.Act.put, List.getElem_toArray, List.getElem_cons_zero, List.getElem_cons_succ, List.setIfInBounds_toArray, List.set_cons_zero, List.set_cons_succ]
            refine wpAnyH_take (i := 12) (v := ?_) rfl (by kernel_rfl) (by kernel_rfl) (by kernel_rfl) (fun _ _ _ h => h) (Or.inl ⟨by rfl, ?_⟩) (by assumption) ?_
            rotate_left
            · intro w hSw
              (try dsimp only at hSw)
              obtain ⟨t0, t1, t2, t3⟩ := hSw
              go_simp
              try with_reducible rfl
            try simp only [Go.Act.put, List.getElem_toArray, List.getElem_cons_zero, List.getElem_cons_succ, List.setIfInBounds_toArray, List.set_cons_zero, List.set_cons_succ]
            refine wpAnyH_ready (rs := [13]) (by kernel_rfl) (by simp) ?_
            refine AllReadyH.cons rfl (fun K hK => ?_) AllReadyH.nil
            go_simp
            refine hK _ _ (hSE _ ((Ext.trans (Ext.trans (Ext.refl _).drew hxc) hxd).alloc _)) (fun hHeld => ?_)
            clear hK K
            try simp only [Go.Act.put, List.getElem_toArray, List.getElem_cons_zero, List.getElem_cons_succ, List.setIfInBounds_toArray, List.set_cons_zero, List.set_cons_succ]
            have zb := Blk.new Wd #[.int .u8 0, .int .u64 0, .int .u64 0] 140
            have zc := zb.cell
            have zf := zb.free
            have zl := zb.lt
            have hxE : Ext Wb (Wd.alloc (.cells #[.int .u8 sk, .int .u64 sa, .int .u64 sb] 140)) := ((Ext.trans (Ext.trans (Ext.refl _).drew hxc) hxd).alloc (.cells #[.int .u8 sk, .int .u64 sa, .int .u64 sb] 140))
            refine wpAnyH_ready (rs := [14]) (by kernel_rfl) (by simp) ?_
            refine AllReadyH.cons rfl (fun K hK => ?_) AllReadyH.nil
            go_simp
            refine hK _ _ (hSE _ hxE) (fun hHeld => ?_)
            clear hK K
            try simp only [Go.Act.put, List.getElem_toArray, List.getElem_cons_zero, List.getElem_cons_succ, List.setIfInBounds_toArray, List.set_cons_zero, List.set_cons_succ]
            refine wpAnyH_take (i := 15) (v := ?_) rfl (by kernel_rfl) (by kernel_rfl) (by kernel_rfl) (fun _ _ _ h => h) (Or.inl ⟨by rfl, ?_⟩) (by assumption) ?_
            rotate_left
            · intro w hSw
              (try dsimp only at hSw)
              obtain ⟨t0, t1, t2, t3⟩ := hSw
              go_simp
              try with_reducible rfl
            try simp only [Go.Act.put, List.getElem_toArray, List.getElem_cons_zero, List.getElem_cons_succ, List.setIfInBounds_toArray, List.set_cons_zero, List.set_cons_succ]
            refine wpAnyH_done (by kernel_rfl) ?_ _
            gi_wp2_with fail
            gi_meet
            exact ⟨_, rfl, (Ext.trans (Ext.trans (Ext.refl _).drew hxc) hxd).sz, Blk.new Wd _ _, hxE⟩
          · go_simp
            refine hK _ _ (hSE _ ((Ext.trans (Ext.refl _).drew hxc).alloc _)) (fun hHeld => ?_)
            clear hK K
            try simp only [Go.Act.put, List.getElem_toArray, List.getElem_cons_zero, List.getElem_cons_succ, List.setIfInBounds_toArray, List.set_cons_zero, List.set_cons_succ]
            refine wpAnyH_ready (rs := [9]) (by kernel_rfl) (by simp) ?_
            refine AllReadyH.cons rfl (fun K hK => ?_) AllReadyH.nil
            go_simp
            refine (HOF.out _).mono ?_
            rintro xx Wd ⟨rfl, hxd⟩
            refine hK _ _ (hSE _ (Ext.trans ((Ext.trans (Ext.refl _).drew hxc).alloc _) hxd)) (fun hHeld => ?_)
            clear hK K
            try simp only [Go.Act.put, List.getElem_toArray, List.getElem_cons_zero, List.getElem_cons_succ, List.setIfInBounds_toArray, List.set_cons_zero, List.set_cons_succ]
            refine wpAnyH_take (i := 10) (v := ?_) rfl (by kernel_rfl) (by kernel_rfl) (by kernel_rfl) (fun _ _ _ h => h) (Or.inl ⟨by rfl, ?_⟩) (by assumption) ?_
            rotate_left
            · intro w hSw
              (try dsimp only at hSw)
              obtain ⟨t0, t1, t2, t3⟩ := hSw
              go_simp
              try with_reducible rfl
            try simp only [Go.Act.put, List.getElem_toArray, List.getElem_cons_zero, List.getElem_cons_succ, List.setIfInBounds_toArray, List.set_cons_zero, List.set_cons_succ]
            refine wpAnyH_take (i := 11) (v := ?_) rfl (by kernel_rfl) (by kernel_rfl) (by kernel_rfl) (fun _ _ _ h => h) (Or.inl ⟨by rfl, ?_⟩) (by assumption) ?_
            rotate_left
            · intro w hSw
              (try dsimp only at hSw)
              obtain ⟨t0, t1, t2, t3⟩ := hSw
              go_simp
              try with_reducible rfl
            try simp only [Go.Act.put, List.getElem_toArray, List.getElem_cons_zero, List.getElem_cons_succ, List.setIfInBounds_toArray, List.set_cons_zero, List.set_cons_succ]
            refine wpAnyH_take (i := 12) (v := ?_) rfl (by kernel_rfl) (by kernel_rfl) (by kernel_rfl) (fun _ _ _ h => h) (Or.inl ⟨by rfl, ?_⟩) (by assumption) ?_
            rotate_left
            · intro w hSw
              (try dsimp only at hSw)
              obtain ⟨t0, t1, t2, t3⟩ := hSw
              go_simp
              try with_reducible rfl
            try simp only [Go.Act.put, List.getElem_toArray, List.getElem_cons_zero, List.getElem_cons_succ, List.setIfInBounds_toArray, List.set_cons_zero, List.set_cons_succ]
            have hwc := (Ext.trans (Ext.refl Wb).drew hxc).sz
            have zb := (Blk.new Wc #[.int .u8 0, .int .u64 0, .int .u64 0] 140).ext hxd
            have zc := zb.cell
            have zf := zb.free
            have zl := zb.lt
            have hxE : Ext Wb (((Wd.setCell ⟨Wc.heap.size, 0, none⟩ (.int .u8 sk)).setCell ⟨Wc.heap.size, 1, none⟩ (.int .u64 sa)).setCell ⟨Wc.heap.size, 2, none⟩ (.int .u64 sb)) := ((((Ext.trans ((Ext.trans (Ext.refl _).drew hxc).alloc _) hxd).setCell (by exact hwc) _).setCell (by exact hwc) _).setCell (by exact hwc) _)
            refine wpAnyH_ready (rs := [14]) (by kernel_rfl) (by simp) ?_
            refine AllReadyH.cons rfl (fun K hK => ?_) AllReadyH.nil
            go_simp
            refine hK _ _ (hSE _ hxE) (fun hHeld => ?_)
            clear hK K
            try simp only [Go.Act.put, List.getElem_toArray, List.getElem_cons_zero, List.getElem_cons_succ, List.setIfInBounds_toArray, List.set_cons_zero, List.set_cons_succ]
            refine wpAnyH_take (i := 15) (v := ?_) rfl (by kernel_rfl) (by kernel_rfl) (by kernel_rfl) (fun _ _ _ h => h) (Or.inl ⟨by rfl, ?_⟩) (by assumption) ?_
            rotate_left
            · intro w hSw
              (try dsimp only at hSw)
              obtain ⟨t0, t1, t2, t3⟩ := hSw
              go_simp
              try with_reducible rfl
            try simp only [Go.Act.put, List.getElem_toArray, List.getElem_cons_zero, List.getElem_cons_succ, List.setIfInBounds_toArray, List.set_cons_zero, List.set_cons_succ]
            refine wpAnyH_done (by kernel_rfl) ?_ _
            gi_wp2_with fail
            gi_meet
            exact ⟨_, rfl, hwc, ((zb.set 0 _).set 1 _).set 2 _, hxE⟩
        · go_simp
          refine hK _ _ (hSE _ (((Ext.refl Wb).drew).alloc _)) (fun hHeld => ?_)
          clear hK K
          try simp only [Go.Act.put, List.getElem_toArray, List.getElem_cons_zero, List.getElem_cons_succ, List.setIfInBounds_toArray, List.set_cons_zero, List.set_cons_succ]
          refine wpAnyH_ready (rs := [4]) (by kernel_rfl) (by simp) ?_
          refine AllReadyH.cons rfl (fun K hK => ?_) AllReadyH.nil
          go_simp
          refine (HCAP.out _).mono ?_
          rintro xx Wc ⟨rfl, hxc⟩
          refine hK _ _ (hSE _ (Ext.trans (((Ext.refl Wb).drew).alloc _) hxc)) (fun hHeld => ?_)
          clear hK K
          try simp only [Go.Act.put, List.getElem_toArray, List.getElem_cons_zero, List.getElem_cons_succ, List.setIfInBounds_toArray, List.set_cons_zero, List.set_cons_succ]
          refine wpAnyH_ready (rs := [9]) (by kernel_rfl) (by simp) ?_
          refine AllReadyH.cons rfl (fun K hK => ?_) AllReadyH.nil
          go_simp
          refine (HOF.out _).mono ?_
          rintro xx Wd ⟨rfl, hxd⟩
          refine hK _ _ (hSE _ (Ext.trans (Ext.trans (((Ext.refl Wb).drew).alloc _) hxc) hxd)) (fun hHeld => ?_)
          clear hK K
          try simp only [Go.Act.put, List.getElem_toArray, List.getElem_cons_zero, List.getElem_cons_succ, List.setIfInBounds_toArray, List.set_cons_zero, List.set_cons_succ]
          refine wpAnyH_take (i := 10) (v := ?_) rfl (by kernel_rfl) (by kernel_rfl) (by kernel_rfl) (fun _ _ _ h => h) (Or.inl ⟨by rfl, ?_⟩) (by assumption) ?_
          rotate_left
          · intro w hSw
            (try dsimp only at hSw)
            obtain ⟨t0, t1, t2, t3⟩ := hSw
            go_simp
            try with_reducible rfl
          try simp only [Go.Act.put, List.getElem_toArray, List.getElem_cons_zero, List.getElem_cons_succ, List.setIfInBounds_toArray, List.set_cons_zero, List.set_cons_succ]
          refine wpAnyH_take (i := 11) (v := ?_) rfl (by kernel_rfl) (by kernel_rfl) (by kernel_rfl) (fun _ _ _ h => h) (Or.inl ⟨by rfl, ?_⟩) (by assumption) ?_
          rotate_left
          · intro w hSw
            (try dsimp only at hSw)
            obtain ⟨t0, t1, t2, t3⟩ := hSw
            go_simp
            try with_reducible rfl
          try simp only [Go.Act.put, List.getElem_toArray, List.getElem_cons_zero, List.getElem_cons_succ, List.setIfInBounds_toArray, List.set_cons_zero, List.set_cons_succ]
          refine wpAnyH_take (i := 12) (v := ?_) rfl (by kernel_rfl) (by kernel_rfl) (by kernel_rfl) (fun _ _ _ h => h) (Or.inl ⟨by rfl, ?_⟩) (by assumption) ?_
          rotate_left
          · intro w hSw
            (try dsimp only at hSw)
            obtain ⟨t0, t1, t2, t3⟩ := hSw
            go_simp
            try with_reducible rfl
          try simp only [Go.Act.put, List.getElem_toArray, List.getElem_cons_zero, List.getElem_cons_succ, List.setIfInBounds_toArray, List.set_cons_zero, List.set_cons_succ]
          have zb : Blk Wd Wb.heap.size #[.int .u8 0, .int .u64 0, .int .u64 0] 140 := ((Blk.new Wb.drew #[.int .u8 0, .int .u64 0, .int .u64 0] 140).ext hxc).ext hxd
          have zc := zb.cell
          have zf := zb.free
          have zl := zb.lt
          have hxE : Ext Wb (((Wd.setCell ⟨Wb.heap.size, 0, none⟩ (.int .u8 sk)).setCell ⟨Wb.heap.size, 1, none⟩ (.int .u64 sa)).setCell ⟨Wb.heap.size, 2, none⟩ (.int .u64 sb)) := ((((Ext.trans (Ext.trans (((Ext.refl Wb).drew).alloc _) hxc) hxd).setCell (by exact Nat.le_refl _) _).setCell (by exact Nat.le_refl _) _).setCell (by exact Nat.le_refl _) _)
          refine wpAnyH_ready (rs := [14]) (by kernel_rfl) (by simp) ?_
          refine AllReadyH.cons rfl (fun K hK => ?_) AllReadyH.nil
          go_simp
          refine hK _ _ (hSE _ hxE) (fun hHeld => ?_)
          clear hK K
          try simp only [Go.Act.put, List.getElem_toArray, List.getElem_cons_zero, List.getElem_cons_succ, List.setIfInBounds_toArray, List.set_cons_zero, List.set_cons_succ]
          refine wpAnyH_take (i := 15) (v := ?_) rfl (by kernel_rfl) (by kernel_rfl) (by kernel_rfl) (fun _ _ _ h => h) (Or.inl ⟨by rfl, ?_⟩) (by assumption) ?_
          rotate_left
          · intro w hSw
            (try dsimp only at hSw)
            obtain ⟨t0, t1, t2, t3⟩ := hSw
            go_simp
            try with_reducible rfl
          try simp only [Go.Act.put, List.getElem_toArray, List.getElem_cons_zero, List.getElem_cons_succ, List.setIfInBounds_toArray, List.set_cons_zero, List.set_cons_succ]
          refine wpAnyH_done (by kernel_rfl) ?_ _
          gi_wp2_with fail
          gi_meet
          exact ⟨_, rfl, Nat.le_refl _, ((zb.set 0 _).set 1 _).set 2 _, hxE⟩
      case rest =>
        obtain ⟨B, rfl, hB, bS, hxc⟩ := hcut
        have hxd := HXB.out.trans hxc
        have bG := HB1.out.ext hxd
        have cG := bG.cell 0
        have cK : wc.cell? ⟨Bx, 0, none⟩ = some (.string ky) := (HBX.out.ext hxd).cell 0
        have cR := (HBR.out.ext hxc).cell
        have cS := bS.cell
        have hzd := hxd.sz
        have HS6 := Lib.hid bS
        have HXD := Lib.hid hxd
        have hpl3 : (pre.map (entSlot now rs)).length + 1 ≤ 1000000 := by rw [List.length_map]; exact hpl2
        obtain ⟨i0, hi, hz0, hz1, hz2⟩ := info_parts slot_info
        have hml : (1000000 : Nat) + 1 ≤ maxLen := by decide
        have HOWN := Lib.hid (own_ext HB2.out.own hxd)
        clear hxd bG bS hxc
        gi_wp2_with (gi_at_builtin; refine wpListIn_append_own _ rfl (.tmp 55) (.tmp 61) 118 rfl w6.heap.size 145 i0 slot0.val 8 80 Tryz.underlying118 hi hz0 hz1 hz2 rfl (by decide) _ _ _ rfl (HOWN.out.alloc _) ⟨wc.heap.size, 0, none⟩ 1 1 [.string ky, .string r.p, .int .u64 r.e, .int .u64 r.b, .int .u8 r.k, .int .u8 sk, .int .u64 sa, .int .u64 sb] rfl rfl (cells_new wc #[.string ky, .string r.p, .int .u64 r.e, .int .u64 r.b, .int .u8 r.k, .int .u8 sk, .int .u64 sa, .int .u64 sb] 145) (by simp [Value.oneCell']) (by omega) (by omega) (by simp; omega) ?_; intro v' w7 hown' hgrow _; obtain ⟨g', cap', rfl⟩ := ownsRow_succ hown'; have bG7 := kblk_from ((HB1.out.ext HXD.out).alloc (.cells #[.string ky, .string r.p, .int .u64 r.e, .int .u64 r.b, .int .u8 r.k, .int .u8 sk, .int .u64 sa, .int .u64 sb] 145)) hgrow (fun q hq => by have := own_lowE HB2.out.own hq; omega); have cG7 := bG7.cell 0; have cF7 := bG7.free; have HGR := Lib.hid hgrow; have HOW := Lib.hid hown'; clear hgrow hown' bG7)
        exact ent_done (by omega) (by omega) (by omega) HB1.out HB2.out HB3.out HB4.out (HXD.out.alloc _) (by rw [HSL.out]; have q := HOW.out; rw [List.length_map] at q ⊢; exact q) HGR.out
    case done =>
      rintro D W hD ⟨⟨v, h1, h2⟩, h3, h4⟩ hDf
      have hdl := lt_of_block hDf
      have hz := h3.size (by omega) (by omega)
      have bPW : Blk W w.heap.size #[.int .i64 most, .slice ra rs.length rc] 28 := (h3 _ (by omega) (by omega)).trans HBP6.out
      have bNW : Blk W w1.heap.size #[.int .u64 now] 35 := (h3 w1.heap.size (by omega) (by omega)).trans HBN6.out
      have cP := bPW.cell 0
      have cN := bNW.cell 0
      have cG := h1.cell 0
      have hok := entSlots_ok hw0 hw1 HRO.out HEO.out
      have hll : (entSlots now rs es).length ≤ 1000000 := by
        unfold entSlots
        rw [List.length_map]
        exact Nat.le_trans (List.length_filter_le _ _) HEL.out
      have hT := table_Of most now v (entSlots now rs es) W h2.slots hok hll hw0 hw1 hm0 hm1
      have HT := Lib.hid hT
      have H4 := Lib.hid h4
      clear hok hT h1 h2 h3 h4 bPW bNW
      have HDF := Lib.hid hDf
      clear hDf
      gi_wp2_with fail
      refine ⟨trivial, (callsIn_wide.2 HT.out).mono ?_⟩
      rintro x W' hof
      have hof2 := hof
      obtain ⟨p, rfl, hxo, -⟩ := hof2
      have HOF2 := Lib.hid hof
      have hD2 : W'.heap[D]? = some (.deferred (some [])) := (hxo.block hdl).trans HDF.out
      clear hof
      gi_wp2_with fail
      refine ⟨by simp, .inl ⟨_, _, rfl, run_takeDeferred hD2, ?_⟩⟩
      have HFIN := HOF2.out.done H4.out (by have := HX6.out.sz; omega) hdl
      exact ⟨.tuple #[.pointer p, .int .u16 (ofErr most now (entSlots now rs es))], by simp [results, Tryz.results29, go_sem], by dsimp only; rw [HN.out]; exact HFIN⟩
  · have e1 : (E != 0) = true := by simpa using h0
    have HH0 := Lib.hid h0
    clear h0
    gi_wp2_with fail
    exact ⟨.tuple #[.pointer none, .int .u16 E], by simp [results, Tryz.results29, go_sem], Or.inl ⟨HH0.out, rfl, HX1.out⟩⟩
end Go.Proofs.YtknlojlcahgnoaaGreat
