/- The contract of keep.judge.stays, proved; keep.Keep and keep.Lost by it. Walks: what is told of a table whose slots are known, and of it by other rules. Plain: where who stays, and who goes, stands among all. Walks: keep.both and keep.Keep of a table that is none. -/
import Derived.Test.YtfglpejbgfmojaaGreatG46
import Derived.Test.YtfglpejbgfmojaaGreatG48
import Derived.Test.YtfglpejbgfmojaaGreatG44
import Derived.Test.YtfglpejbgfmojaaGreatG37
import Derived.Test.YtfglpejbgfmojaaGreatG40
import Derived.Test.YtfglpejbgfmojaaGreatG38

/- The contract of keep.judge.stays, proved; keep.Keep and keep.Lost by it. -/
namespace Go.Proofs.YtfglpejbgfmojaaGreat
open Go.RowKit
set_option linter.unusedVariables false

theorem staysLaw : StaysLaw := by
  intro lo root many clock ns rs s w hT hh hok hs hk hn0 hn1
  cases hr : staysR rs s with
  | none =>
    rw [staysV_none hr]
    exact keep_stays_no lo root many clock ns rs s w hT hh hok hs hr
  | some r =>
    rw [staysV_some hr]
    obtain ⟨h1, h2, h3, h4⟩ := staysR_some hr
    exact keep_stays_yes lo root many clock ns rs s r w hT hh (hok r (firstAt_mem ((bestR_char _ rs).2 r h1).first).1) hs hk h1 h2 h3 h4 hn0 hn1
end Go.Proofs.YtfglpejbgfmojaaGreat

/- Walks: what is told of a table whose slots are known, and of it by other rules. -/
namespace Go.Proofs.YtfglpejbgfmojaaGreat
open Go.RowKit
set_option linter.unusedVariables false
set_option linter.unusedSimpArgs false

/-- a table whose active slots are these -/
structure HasTab (w : World) (t m c : Nat) (most clock : Int) (l : SMap) (xs : List Slot) : Prop where
  tab : TabAt w t m most clock l c
  ok : TabOk l c
  slots : slotsOf clock l = xs
  act : Act clock xs
  len : l.length ≤ 1000000
  n0 : 0 ≤ clock
  n1 : clock < 4294967296
theorem HasTab.ext {w w' : World} {t m c : Nat} {most clock : Int} {l : SMap} {xs : List Slot} (h : HasTab w t m c most clock l xs) (e : Ext w w') : HasTab w' t m c most clock l xs :=
  ⟨h.tab.ext e, h.ok, h.slots, h.act, h.len, h.n0, h.n1⟩
theorem HasTab.lenX {w : World} {t m c : Nat} {most clock : Int} {l : SMap} {xs : List Slot} (h : HasTab w t m c most clock l xs) : xs.length ≤ l.length := by
  rw [← h.slots, slotsOf_len]; exact actives_len clock l
theorem RelAt.has {B : Nat} {w : World} {t m c : Nat} {most clock : Int} {l : SMap} {v : Value} {all : List Slot} (h : RelAt B w t m c most clock l v all 30) (g : Gd clock l) : HasTab w t m c most clock l (rSlots clock all) := by
  have := h.lenL
  have e := h.rel.slots h.ok h.n0 h.n1
  have ha := Act.of g h.rel h.ok h.n0 h.n1
  rw [e] at ha
  exact ⟨h.tab, h.ok, e, ha, by omega, h.n0, g.low⟩
theorem table_ActiveA {t m c : Nat} {most clock : Int} {l : SMap} {xs : List Slot} (w : World) (h : HasTab w t m c most clock l xs) :
    Calls Tryz.prog 18 #[.pointer (some ⟨t, 0, none⟩)] w fun e w' => e = .returned (.int .i64 (xs.length : Int)) ∧ Ext w w' := by
  have := h.n1
  have q := table_Active t m c most clock l w h.tab h.ok h.n0 (by omega) h.len
  rw [h.slots] at q
  exact q
theorem table_SlotsA {t m c : Nat} {most clock : Int} {l : SMap} {xs : List Slot} (w : World) (h : HasTab w t m c most clock l xs) :
    Calls Tryz.prog 22 #[.pointer (some ⟨t, 0, none⟩)] w fun e w' => ∃ v, e = .returned v ∧ SlotsAt w' v xs ∧ Ext w w' := by
  have := h.n1
  have q := table_Slots t m c most clock l w h.tab h.ok h.n0 (by omega) h.len
  rw [h.slots] at q
  refine q.mono ?_
  rintro x w' ⟨v, rfl, hs, hx⟩
  exact ⟨v, rfl, hs.at, hx⟩
theorem table_EntriesA {t m c : Nat} {most clock : Int} {l : SMap} {xs : List Slot} (w : World) (h : HasTab w t m c most clock l xs) :
    Calls Tryz.prog 24 #[.pointer (some ⟨t, 0, none⟩)] w fun e w' => ∃ v, e = .returned v ∧ EntSlice w.heap.size w' v (xs.map (entOf clock)) ∧ Ext w w' := by
  have := h.n1
  have q := table_Entries t m c most clock l w h.tab h.ok h.n0 (by omega) h.len
  unfold entsOf at q
  rw [h.slots] at q
  exact q
theorem table_ClockA {t m c : Nat} {most clock : Int} {l : SMap} {xs : List Slot} (w : World) (h : HasTab w t m c most clock l xs) :
    Calls Tryz.prog 23 #[.pointer (some ⟨t, 0, none⟩)] w fun e w' => e = .returned (.int .u64 clock) ∧ Ext w w' := by
  have := h.n1
  exact table_ClockX t m c most clock l w h.tab h.n0 (by omega)
def keepErr (most : Int) (n : Nat) : Int := if most < 1 ∨ 1000000 < most then 29 else if most < n then 50 else 0
/-- what Keep tells -/
def KeptA (w : World) (most clock : Int) (kept gone : List Slot) (x : Ending) (w' : World) : Prop := Ext w w' ∧
  ((keepErr most kept.length = 0 ∧ ∃ t m c l, x = .returned (.tuple #[.pointer (some ⟨t, 0, none⟩), .int .i64 (gone.length : Int), .int .u16 0]) ∧ HasTab w' t m c most clock l kept) ∨
   (keepErr most kept.length ≠ 0 ∧ x = .returned (.tuple #[.pointer none, .int .i64 0, .int .u16 (keepErr most kept.length)])))
theorem keep_KeepA {t m c : Nat} {most clock : Int} {l : SMap} {xs : List Slot} (w : World) (h : HasTab w t m c most clock l xs) (most' : Int) (rv : Value) (rs : List Rl) (hr : RulesAt w rv rs) (hro : ∀ r ∈ rs, RlOk r) (hrl : rs.length ≤ maxLen)
    (hm0 : -9223372036854775808 ≤ most') (hm1 : most' ≤ 9223372036854775807) :
    Calls Tryz.prog 20 #[.pointer (some ⟨t, 0, none⟩), .agg #[.int .i64 most', rv]] w (KeptA w most' clock (keptL clock rs xs) (goneL rs xs)) := by
  have h1 := h.n1
  have hq := keep_Keep staysLaw t m c most clock most' l rv rs w h.tab h.ok (by rw [h.slots]; exact h.act.kind) hr hro hrl h.n0 (by omega) hm0 hm1 h.len
  rw [h.slots] at hq
  have hk := h.act.kept hro h.n0 (by omega)
  have he := hk.ofErr h.n0 most'
  have hl := keptL_len clock rs xs
  have hl2 := h.lenX
  have hl3 := h.len
  refine hq.mono ?_
  rintro x w' ⟨p, hx, hc⟩
  refine ⟨hx, ?_⟩
  have e2 : ofErr most' clock (keptL clock rs xs) = keepErr most' (keptL clock rs xs).length := he
  rcases hc with ⟨e, tt, mm, rfl, h4, h5, hT, rfl⟩ | ⟨e, rfl, rfl⟩
  · refine Or.inl ⟨e2.symm.trans e, tt, mm, _, _, rfl, ⟨hT, putTo_ok _ hk.ok, hk.put e h.n0 (by omega), hk, ?_, h.n0, h1⟩⟩
    have := putTo_len (keptL clock rs xs)
    omega
  · exact Or.inr ⟨fun q => e (e2.trans q), by rw [e2]⟩
theorem keep_LostA {t m c : Nat} {most clock : Int} {l : SMap} {xs : List Slot} (w : World) (h : HasTab w t m c most clock l xs) (most' : Int) (rv : Value) (rs : List Rl) (hr : RulesAt w rv rs) (hro : ∀ r ∈ rs, RlOk r) (hrl : rs.length ≤ maxLen) :
    Calls Tryz.prog 19 #[.pointer (some ⟨t, 0, none⟩), .agg #[.int .i64 most', rv]] w fun x w' => ∃ v, x = .returned v ∧ KeyRow w.heap.size w' v ((goneL rs xs).map (·.key)) ∧ Ext w w' := by
  have h1 := h.n1
  have hq := keep_Lost staysLaw t m c most clock most' l rv rs w h.tab h.ok (by rw [h.slots]; exact h.act.kind) hr hro hrl h.n0 (by omega) h.len
  rw [h.slots] at hq
  exact hq
end Go.Proofs.YtfglpejbgfmojaaGreat

/- Plain: where who stays, and who goes, stands among all. -/
namespace Go.Proofs.YtfglpejbgfmojaaGreat
set_option linter.unusedVariables false
set_option linter.unusedSimpArgs false

theorem keptL_app (clock : Int) (rs : List Rl) (a b : List Slot) : keptL clock rs (a ++ b) = keptL clock rs a ++ keptL clock rs b := by unfold keptL; exact List.filterMap_append
theorem goneL_app (rs : List Rl) (a b : List Slot) : goneL rs (a ++ b) = goneL rs a ++ goneL rs b := by unfold goneL; exact List.filter_append _ _
theorem split_at (xs : List Slot) {k : Nat} (h : k < xs.length) : xs = xs.take k ++ (xs[k] :: xs.drop (k + 1)) := by
  rw [List.getElem_cons_drop h, List.take_append_drop]
theorem keptL_yes {clock : Int} {rs : List Rl} {s : Slot} {r : Rl} (h : staysR rs s = some r) (l : List Slot) : keptL clock rs (s :: l) = keptS clock r s :: keptL clock rs l ∧ goneL rs (s :: l) = goneL rs l := by
  unfold keptL goneL
  exact ⟨List.filterMap_cons_some (by rw [h]; rfl), List.filter_cons_of_neg (by rw [h]; simp)⟩
theorem keptL_no {clock : Int} {rs : List Rl} {s : Slot} (h : staysR rs s = none) (l : List Slot) : keptL clock rs (s :: l) = keptL clock rs l ∧ goneL rs (s :: l) = s :: goneL rs l := by
  unfold keptL goneL
  exact ⟨List.filterMap_cons_none (by rw [h]; rfl), List.filter_cons_of_pos (by rw [h]; rfl)⟩
theorem kept_at {clock : Int} {rs : List Rl} {xs : List Slot} {k : Nat} (h : k < xs.length) {r : Rl} (hr : staysR rs xs[k] = some r) :
    (keptL clock rs xs)[(keptL clock rs (xs.take k)).length]? = some (keptS clock r xs[k]) ∧ (keptL clock rs (xs.take (k + 1))).length = (keptL clock rs (xs.take k)).length + 1 ∧ (goneL rs (xs.take (k + 1))).length = (goneL rs (xs.take k)).length := by
  have e := congrArg (keptL clock rs) (split_at xs h)
  rw [keptL_app, (keptL_yes (clock := clock) hr _).1] at e
  refine ⟨?_, ?_, ?_⟩
  · rw [e, List.getElem?_append_right (Nat.le_refl _), Nat.sub_self]
    rfl
  · rw [List.take_succ_eq_append_getElem h, (keptL_snoc_yes (clock := clock) hr).1, List.length_append]; rfl
  · rw [List.take_succ_eq_append_getElem h, (keptL_snoc_yes (clock := clock) hr).2]
theorem gone_at {clock : Int} {rs : List Rl} {xs : List Slot} {k : Nat} (h : k < xs.length) (hr : staysR rs xs[k] = none) :
    (goneL rs xs)[(goneL rs (xs.take k)).length]? = some xs[k] ∧ (keptL clock rs (xs.take (k + 1))).length = (keptL clock rs (xs.take k)).length ∧ (goneL rs (xs.take (k + 1))).length = (goneL rs (xs.take k)).length + 1 := by
  have e := congrArg (goneL rs) (split_at xs h)
  rw [goneL_app, (keptL_no (clock := clock) hr _).2] at e
  refine ⟨?_, ?_, ?_⟩
  · rw [e, List.getElem?_append_right (Nat.le_refl _), Nat.sub_self]
    rfl
  · rw [List.take_succ_eq_append_getElem h, (keptL_snoc_no (clock := clock) hr).1]
  · rw [List.take_succ_eq_append_getElem h, (keptL_snoc_no (clock := clock) hr).2, List.length_append]; rfl
theorem kept_next {clock : Int} {rs : List Rl} {xs : List Slot} (hu : Rises xs) {k : Nat} (h : k < xs.length) (hr : staysR rs xs[k] = none) {y : Slot} (hy : (keptL clock rs xs)[(keptL clock rs (xs.take k)).length]? = some y) : y.key ≠ xs[k].key := by
  have e := congrArg (keptL clock rs) (split_at xs h)
  rw [keptL_app, (keptL_no (clock := clock) hr _).1] at e
  rw [e, List.getElem?_append_right (Nat.le_refl _), Nat.sub_self] at hy
  have hm : y ∈ keptL clock rs (xs.drop (k + 1)) := List.mem_of_getElem? hy
  obtain ⟨s, hs, r, -, rfl⟩ := kept_mem hm
  have hp : Rises (xs.take k ++ (xs[k] :: xs.drop (k + 1))) := by rw [← split_at xs h]; exact hu
  have hp2 := (List.pairwise_cons.1 (List.pairwise_append.1 hp).2.1).1 s hs
  intro q
  have q' : s.key = xs[k].key := q
  rw [q'] at hp2
  exact List.lt_irrefl _ hp2
theorem Act.entOf {clock : Int} {rs : List Rl} {xs : List Slot} (h : Act clock xs) (hn0 : 0 ≤ clock) (hn1 : clock < 9223372036854775808) {s : Slot} (hs : s ∈ xs) {r : Rl} (hr : staysR rs s = some r) : Go.Proofs.YtfglpejbgfmojaaGreat.entOf clock (keptS clock r s) = Go.Proofs.YtfglpejbgfmojaaGreat.entOf clock s := by
  obtain ⟨-, he, hb, herr⟩ := staysR_some hr
  obtain ⟨h1, h2⟩ := kept_sg (h.good s hs) he hb herr hn0 hn1
  have hf : (keptS clock r s).fill clock = s.fill clock := by rw [h2.fill, h1, ← (h.good s hs).fill]
  unfold Go.Proofs.YtfglpejbgfmojaaGreat.entOf
  rw [hf]
  rfl
theorem kept_kind {clock : Int} {rs : List Rl} {xs : List Slot} {q : Slot} (h : q ∈ keptL clock rs xs) : q.sk = q.rk := by
  obtain ⟨s, hs, r, hr, rfl⟩ := kept_mem h
  rfl
end Go.Proofs.YtfglpejbgfmojaaGreat

/- Walks: keep.both and keep.Keep of a table that is none. -/
namespace Go.Proofs.YtfglpejbgfmojaaGreat
open Go.RowKit
set_option linter.unusedVariables false
set_option linter.unusedSimpArgs false

set_option maxHeartbeats 2000000 in
set_option maxRecDepth 100000 in
theorem keep_bothN (w : World) : Calls Tryz.prog 42 #[.pointer none, .agg #[.int .i64 3, .slice none 0 0]] w fun x w' => ∃ yes no, x = .returned (.tuple #[yes, no]) ∧ SlotRow w.heap.size w' yes [] ∧ SlotRow w.heap.size w' no [] ∧ Ext w w' := by
  have HSL := Lib.hid (fun W => slots_nil W)
  have HCK := Lib.hid (fun W => table_ClockN W)
  have HNW := Lib.hid (fun W => prefix_New (.slice none 0 0) [] W (ElemsAt.nil _ _ _) (fun r hr => by cases hr) (by decide))
  have HPT := Lib.hid (fun (lo root : Nat) (many : Int) (ns : NSet) (W : World) (hT : TreeAt W lo root many ns) (hh : HoldsR ns []) => keep_parted staysLaw lo root many 0 ns [] (.slice none 0 0) [] W hT hh (fun r hr => by cases hr) ⟨none, 0, rfl, fun h => absurd rfl h⟩ (fun s hs => by cases hs) (by decide) (by decide) (by decide))
  have bp := Blk.new w #[.int .i64 3, .slice none 0 0] 25
  have hx0 : Ext w (w.alloc (.cells #[.int .i64 3, .slice none 0 0] 25)) := (Ext.refl w).alloc _
  go_enter Tryz.func42, Tryz.ntmps42
  go_upto_region 1 with fail
  generalize w.alloc (.cells #[.int .i64 3, .slice none 0 0] 25) = w0 at *
  have p1 : w0.cell? ⟨w.heap.size, 1, none⟩ = some (.slice none 0 0) := bp.cell 1
  clear bp
  go_region_held3 (fun w' => w'.cell? ⟨w.heap.size, 1, none⟩ = some (.slice none 0 0))
    (first | exact p1 | exact hxl.keep p1)
    (first
      | (go_at_call 22; (with_reducible refine (HSL.out _).mono ?_); rintro x w1 ⟨rfl, hx1⟩; have hxl : Ext w0 w1 := Ext.trans (Ext.refl _).drew hx1)
      | (go_at_call 82; (with_reducible refine (HNW.out _).mono ?_); rintro x w2 ⟨⟨u, rfl, root, ns, many, rfl, hT, hH⟩, hx2⟩; have hxl := hxl.trans hx2)
      | (go_at_call 23; (with_reducible refine (HCK.out _).mono ?_); rintro x w3 ⟨rfl, hw3⟩; have hx3 : Ext w2 w3 := (by rw [hw3]; exact Ext.refl _); clear hw3; have hT3 := hT.ext hx3; have hxl := hxl.trans hx3)
      | (go_at_call 81; (with_reducible refine (HPT.out _ _ _ _ _ hT3 hH).mono ?_); rintro x w4 ⟨yes, no, rfl, hy, hn, hx4⟩; have hlow := Nat.le_trans (Ext.sz hx0) (Ext.sz hxl); have hy4 := hy.low hlow; have hn4 := hn.low hlow; have hxl := hxl.trans hx4))
  all_goals
    go_wp2
    go_ret2
    exact ⟨_, _, rfl, hy4, hn4, hx0.trans hxl⟩

set_option maxHeartbeats 2000000 in
set_option maxRecDepth 100000 in
theorem keep_KeepN (w : World) : Calls Tryz.prog 20 #[.pointer none, .agg #[.int .i64 3, .slice none 0 0]] w fun x w' => ∃ t m c l, x = .returned (.tuple #[.pointer (some ⟨t, 0, none⟩), .int .i64 0, .int .u16 0]) ∧ HasTab w' t m c 3 0 l [] ∧ Ext w w' := by
  have HCK := Lib.hid (fun W => table_ClockN W)
  have hx0 : Ext w (w.alloc (.cells #[.int .i64 3, .slice none 0 0] 25)) := (Ext.refl w).alloc _
  have bp := Blk.new w #[.int .i64 3, .slice none 0 0] 25
  have HOF := Lib.hid (fun (v : Value) (W : World) (hv : SlotsAt W v []) => table_Of 3 0 v [] W hv (fun s hs => by cases hs) (by decide) (by decide) (by decide) (by decide) (by decide))
  go_enter Tryz.func20, Tryz.ntmps20
  have hpc := bp.cell
  go_wp2_with fail
  generalize w.alloc (.cells #[.int .i64 3, .slice none 0 0] 25) = w0 at *
  refine (keep_bothN _).mono ?_
  rintro x w1 ⟨yes, no, rfl, hy, hn, hx1⟩
  obtain ⟨ya, yc, rfl⟩ := hy.size
  obtain ⟨na, nc, rfl⟩ := hn.size
  have HY := Lib.hid (show SlotsAt w1 (.slice ya 0 yc) [] from hy.slots)
  have hx01 := hx0.trans hx1
  have p0 : w1.cell? ⟨w.heap.size, 0, none⟩ = some (.int .i64 3) := (bp.ext hx1).cell 0
  clear hy hn hpc bp
  go_upto_region 2 with fail
  go_region_held3 (fun w' => w'.cell? ⟨w.heap.size, 0, none⟩ = some (.int .i64 3))
    (first | exact p0 | exact hx2.keep p0 | exact hx3.keep p0)
    (first
      | (go_at_call 23; (with_reducible refine (HCK.out _).mono ?_); rintro x w2 ⟨rfl, hw2⟩; have hx2 : Ext w1 w2 := (by rw [hw2]; exact (Ext.refl _).drew); clear hw2)
      | (go_at_call 43; (with_reducible refine (HOF.out _ _ (HY.out.ext hx2)).mono ?_); rintro x w3 ⟨p, rfl, hx3', hcase⟩; have hx3 := Ext.trans hx2 hx3'; have HCS := Lib.hid hcase; clear hcase))
  all_goals
    rcases HCS.out with ⟨hE, tt, tm, rfl, h1, h2, hT⟩ | ⟨hE, rfl⟩
    · have HT := Lib.hid hT
      have hE0 : ofErr 3 0 [] = 0 := by decide
      have hz : ((0 : Int) != 0) = false := rfl
      clear hT HCS
      rw [hE0]
      clear hE
      go_wp2
      go_ret3
      exact ⟨_, _, _, _, rfl, ⟨HT.out, TabOk.nil 0, by unfold slotsOf; rw [show actives 0 (putTo []).1 = [] from rfl, List.mergeSort_nil], ⟨List.Pairwise.nil, fun s h => (by cases h), fun s h => (by cases h), fun s h => (by cases h), fun s h => (by cases h)⟩, by decide, by decide, by decide⟩, Ext.trans hx01 hx3⟩
    · exact absurd (show ofErr 3 0 [] = 0 by decide) hE
end Go.Proofs.YtfglpejbgfmojaaGreat
