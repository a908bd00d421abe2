/- Walks: slices.SortStableFunc at rules, slices.Clone, config.Order. -/
import Derived.Test.YtknlojlcahgnoaaGreatEb33
import Derived.Test.YtknlojlcahgnoaaGreatEb46

namespace Go.Proofs.YtknlojlcahgnoaaGreat
open Go.RowKit Go.Shelf Go.Sort
set_option linter.unusedVariables false
set_option linter.unusedSimpArgs false

set_option maxHeartbeats 1000000 in
set_option maxRecDepth 100000 in
theorem order_1 (x y : Rl) (W : World) : Calls Tryz.prog 51 #[.agg x.cells, .agg y.cells] W fun e w' => e = .returned (.int .i64 (rlCmp x y)) ∧ ∃ q os', w' = grow (W.drewN q) os' := by
  obtain ⟨k, sa, sb, sk⟩ := x
  obtain ⟨k2, sa2, sb2, sk2⟩ := y
  simp only [rlCmp, Rl.cells]
  generalize hr : cmpB k k2 = r
  have HR := Lib.hid hr
  clear hr
  go_enter Tryz.func51, Tryz.ntmps51
  go_wp2_with (go_at_call 52; (with_reducible refine (cmp_Compare k k2 _).mono ?_); rw [HR.out]; rintro e w' ⟨rfl, rfl⟩)
  go_ret
  exact ⟨rfl, 0, _, by rw [alloc_eq_grow, alloc_eq_grow, grow_grow]; rfl⟩

/-- rules in memory of the call's own; it may be empty without being nil -/
abbrev RuleOwn (base : Nat) (w : World) (v : Value) (l : List Rl) : Prop := w.ownsRow base 37 4 v l.length (flatE Rl.cells l)
theorem RuleOwn.at {base : Nat} {w : World} {v : Value} {l : List Rl} (h : RuleOwn base w v l) : RulesAt w v l := by
  obtain ⟨h0, ⟨rfl, h1⟩ | ⟨g, cap, cur, rfl, h2, h3, h4, h5, h6, h7⟩⟩ := h
  · have : l = [] := List.length_eq_zero_iff.1 h1
    subst this
    exact ElemsAt.nil _ _ _
  · refine ⟨_, _, rfl, fun hne => ⟨g, 0, rfl, fun j hj i hi => ?_⟩⟩
    rw [Nat.zero_add, Blk.cell (t := 37) (show Blk w g cur 37 from h3), ← flatE_get (enc := Rl.cells) Rl.size4 l j i hj hi, ← h7, List.getElem?_take_of_lt (by omega), Array.getElem?_toList]
theorem RuleOwn.ext {base : Nat} {w w' : World} {v : Value} {l : List Rl} (h : RuleOwn base w v l) (e : Ext w w') : RuleOwn base w' v l := own_ext h e
theorem RuleOwn.size {base : Nat} {w : World} {v : Value} {l : List Rl} (h : RuleOwn base w v l) : ∃ a c, v = .slice a l.length c := by
  obtain ⟨h0, ⟨rfl, h1⟩ | ⟨g, cap, cur, rfl, -⟩⟩ := h
  · exact ⟨none, 0, by rw [h1]⟩
  · exact ⟨_, _, rfl⟩
theorem RuleOwn.low {b base : Nat} {w : World} {v : Value} {l : List Rl} (h : RuleOwn base w v l) (hb : b ≤ base) : RuleOwn b w v l := by
  obtain ⟨h0, h | ⟨g, cap, cur, h1, h2, h3⟩⟩ := h
  · exact ⟨h0, Or.inl h⟩
  · exact ⟨h0, Or.inr ⟨g, cap, cur, h1, Nat.le_trans hb h2, h3⟩⟩
theorem Blk.two {w : World} {b : Nat} {a0 a1 : Value} {t : TypeId} (h : Blk w b #[a0, a1] t) (v0 v1 : Value) : Blk ((w.setCell ⟨b, 0, none⟩ v0).setCell ⟨b, 1, none⟩ v1) b #[v0, v1] t := by
  have h0 : Blk _ b #[v0, a1] t := h.set 0 v0
  exact h0.set 1 v1
theorem flatR_get : ∀ (l : List Rl) (t : Nat), t < l.length * 4 → (flatE Rl.cells l)[t]? = some ((rlEnc l.toArray[t / 4]!)[t % 4]!) := by
  intro l t ht
  have hj : t / 4 < l.length := by omega
  have h := flatE_get (enc := Rl.cells) Rl.size4 l (t / 4) (t % 4) hj (by omega)
  rw [show t / 4 * 4 + t % 4 = t by omega] at h
  rw [h]
  have e : l.toArray[t / 4]! = l[t / 4] := by rw [getElem!_pos l.toArray (t / 4) (by simpa using hj)]; simp
  rw [e]
  unfold rlEnc
  have h4 : t % 4 < (l[t / 4].cells.toList).length := by simp [Rl.cells]; omega
  rw [getElem!_pos (l[t / 4].cells.toList) (t % 4) h4]
  rw [Array.getElem?_eq_getElem (by simpa using h4)]
  simp
theorem holds_rules {w : World} {g n : Nat} {xs : List Rl} {cur : Array Value} (hn : n = xs.length) (hg : w.heap[g]? = some (.cells cur 37 (0, 0))) (hcur : cur.toList.take (n * 4) = flatE Rl.cells xs) : HoldsK rlEnc 4 w g 0 xs.toArray := by
  subst hn
  intro j hj
  have hj' : j < xs.length * 4 := by simpa using hj
  have h1 : cur[j]? = (flatE Rl.cells xs)[j]? := by
    rw [← hcur, List.getElem?_take_of_lt hj', Array.getElem?_toList]
  constructor
  · rw [Nat.zero_add, Blk.cell (t := 37) (show Blk w g cur 37 from hg), h1, flatR_get xs j hj', get_flatK _ _ _ _ (by simpa using hj')]
    rfl
  · exact Blk.free (t := 37) (show Blk w g cur 37 from hg) _
/-- what became of the row's own block -/
theorem swk_block {w W : World} {g : Nat} {d : Array Rl} {cur : Array Value} {t : TypeId} (S : SWK rlEnc 4 w g 0 d W) (hg : w.heap[g]? = some (.cells cur t (0, 0))) : (∃ cur', W.heap[g]? = some (.cells cur' t (0, 0)) ∧ cur'.size = cur.size) ∧ ExtB g w W := by
  obtain ⟨n, os, rfl⟩ := S
  have hlt : g < w.heap.size := lt_of_block hg
  have hsz : g < (putRowK rlEnc 4 (Sort.ahead w n) g 0 d).heap.size := by simpa [putRowK, Sort.putRow, mapBlock, Sort.ahead] using hlt
  constructor
  · refine ⟨putCells id 0 (flatK rlEnc 4 d) cur, ?_, by simp [putCells]⟩
    · unfold sortWorldK
      rw [heap_grow_old _ _ hsz]
      simp only [putRowK, Sort.putRow, mapBlock, Sort.ahead, Array.getElem?_modify, if_true]
      show Option.map _ w.heap[g]? = _
      rw [hg]
      rfl
  · refine ⟨rfl, rfl, rfl, size_sortWorldK_c rlEnc 4 w g 0 n d os, fun k hk hne => ?_⟩
    have hk2 : k < (putRowK rlEnc 4 (Sort.ahead w n) g 0 d).heap.size := by simpa [putRowK, Sort.putRow, mapBlock, Sort.ahead] using hk
    unfold sortWorldK
    rw [heap_grow_old _ _ hk2]
    have : g ≠ k := fun e => hne e.symm
    simp [putRowK, Sort.putRow, mapBlock, Sort.ahead, Array.getElem?_modify, this]
theorem row_holds {w : World} {base g cap : Nat} {d : Array Rl} {cur : Array Value} (hg : w.heap[g]? = some (.cells cur 37 (0, 0))) (hb : base ≤ g) (hn : d.size ≤ cap) (hc : cap ≤ maxLen) (hs : cur.size = cap * 4) (hH : HoldsK rlEnc 4 w g 0 d) : RuleOwn base w (.slice (some ⟨g, 0, none⟩) d.size cap) d.toList := by
  have hl : (flatE Rl.cells d.toList).length = d.size * 4 := by rw [flatE_len Rl.size4, Array.length_toList]
  refine ⟨by rw [hl, Array.length_toList], Or.inr ⟨g, cap, cur, by rw [Array.length_toList], hb, hg, by rw [Array.length_toList]; exact hn, hc, hs, ?_⟩⟩
  rw [Array.length_toList]
  refine List.ext_getElem? fun t => ?_
  by_cases ht : t < d.size * 4
  · rw [List.getElem?_take_of_lt ht, Array.getElem?_toList, flatR_get _ _ (by rw [Array.length_toList]; exact ht)]
    have h1 := (hH t (by simpa using ht)).1
    rw [Nat.zero_add, Blk.cell (t := 37) (show Blk w g cur 37 from hg), get_flatK _ _ _ _ (by simpa using ht)] at h1
    rw [h1]
    rfl
  · rw [List.getElem?_eq_none (by rw [List.length_take]; omega), List.getElem?_eq_none (by omega)]
/-- the row is in order, and nothing else is otherwise -/
def OrdEnd (base : Nat) (w w' : World) (v : Value) (l : List Rl) : Prop := RuleOwn base w' v l ∧ ∃ g, base ≤ g ∧ ExtB g w w'
theorem sort_rules_own (base g cap : Nat) (l : List Rl) (w : World) (cur : Array Value) (hb : base ≤ g) (hg : w.heap[g]? = some (.cells cur 37 (0, 0))) (hc : l.length ≤ cap) (hm : cap ≤ maxLen) (hs : cur.size = cap * 4) (hcur : cur.toList.take (l.length * 4) = flatE Rl.cells l) (hlen : l.length < 1152921504606846976) :
    Calls Tryz.prog 50 #[.slice (some ⟨g, 0, none⟩) l.length cap, .func (.func 51) #[] #[]] w fun e w' => e = .returned (.tuple #[]) ∧ OrdEnd base w w' (.slice (some ⟨g, 0, none⟩) l.length cap) (ordL Rl.key l) := by
  have hH := holds_rules (xs := l) rfl hg hcur
  have eg : ∀ args w, (callFunc 51 args).run Tryz.prog w = .ok (.enter 51 args) w := enters_of Tryz.func51 (by kernel_rfl) rfl
  have R : RowK rlEnc 4 w g 0 l.toArray := ⟨fun x => rfl, fun x v hv => by simp [rlEnc, Rl.cells] at hv; rcases hv with rfl | rfl | rfl | rfl <;> rfl, hH, lt_of_block hg⟩
  have hst := stable_any 51 #[] eg g 0 cap l.length l.toArray w (fun _ _ _ _ x y => order_1 x y _) R (by simp) hlen (SWK.start hH)
  have HST := Lib.hid hst
  have R : Aside _ := R
  have HSZ := Lib.hid hs
  have HG := Lib.hid hg
  clear hst hH eg hs hcur hg
  go_enter Tryz.func50, Tryz.ntmps50
  go_wp2_with (go_at_call 101; (refine HST.out.mono ?_); rintro ee w1 ⟨rfl, hw1⟩)
  go_end0
  obtain ⟨d', hd', S⟩ := hw1
  have hd2 : d'.toList = ordL Rl.key l := by rw [hd']
  have hds : d'.size = l.length := by rw [← Array.length_toList, hd2, ordL_len]
  obtain ⟨⟨cur', h1, h2⟩, h3⟩ := swk_block S HG.out
  have hH' := S.holds R.out.hblk R.out.hH (by rw [hds]; simp)
  have hr := row_holds (base := base) (cap := cap) h1 hb (by omega) hm (by rw [h2, HSZ.out]) hH'
  rw [hds, hd2] at hr
  exact ⟨rfl, hr, g, hb, h3⟩
set_option maxHeartbeats 1000000 in
set_option maxRecDepth 100000 in
theorem insert_nil (c : Nat) (fv : Value) (w : World) : Calls Tryz.prog 149 #[.slice none 0 c, .int .i64 0, .int .i64 0, fv] w fun e w' => e = .returned (.tuple #[]) ∧ w' = w := by
  go_enter Tryz.func149, Tryz.ntmps149
  go_wp2
  go_loop [8] (fun i => i = .int .i64 1) (fun _ => 0)
  case atStart => rfl
  case round =>
    obtain rfl := hrel
    go_wp2
    go_end0
    exact ⟨rfl, rfl⟩
set_option maxHeartbeats 1000000 in
set_option maxRecDepth 100000 in
theorem sort_rules_nil (c : Nat) (fv : Value) (w : World) : Calls Tryz.prog 50 #[.slice none 0 c, fv] w fun e w' => e = .returned (.tuple #[]) ∧ w' = w := by
  have hs : Calls Tryz.prog 101 #[.slice none 0 c, .int .i64 0, fv] w fun e w' => e = .returned (.tuple #[]) ∧ w' = w := by
    go_enter Tryz.func101, Tryz.ntmps101
    go_wp2
    go_loop [7, 8] (fun a b => a = .int .i64 0 ∧ b = .int .i64 20) (fun _ _ => 0)
    case atStart => exact ⟨rfl, rfl⟩
    case round =>
      obtain ⟨rfl, rfl⟩ := hrel
      go_wp2_with (go_at_call 149; (refine (insert_nil c fv w).mono ?_); rintro ee w1 ⟨rfl, rfl⟩)
      go_loop [6] (fun a => a = .int .i64 20) (fun _ => 0)
      case atStart => rfl
      case round =>
        obtain rfl := hrel
        go_wp2
        go_end0
        exact ⟨rfl, rfl⟩
  have HS := Lib.hid hs
  clear hs
  go_enter Tryz.func50, Tryz.ntmps50
  go_wp2_with (go_at_call 101; (refine HS.out.mono ?_); rintro ee w1 ⟨rfl, rfl⟩)
  go_end0
  exact ⟨rfl, rfl⟩
theorem sort_rules (base : Nat) (v : Value) (l : List Rl) (w : World) (h : RuleOwn base w v l) (hlen : l.length < 1152921504606846976) :
    Calls Tryz.prog 50 #[v, .func (.func 51) #[] #[]] w fun e w' => e = .returned (.tuple #[]) ∧ OrdEnd base w w' v (ordL Rl.key l) := by
  obtain ⟨h0, ⟨rfl, h1⟩ | ⟨g, cap, cur, rfl, h2, h3, h4, h5, h6, h7⟩⟩ := h
  · obtain rfl : l = [] := List.length_eq_zero_iff.1 h1
    refine (sort_rules_nil 0 _ w).mono ?_
    rintro e w' ⟨rfl, rfl⟩
    have e : ordL Rl.key ([] : List Rl) = [] := by unfold ordL; simp
    rw [e]
    exact ⟨rfl, World.ownsRow_nil _ _ _ _, base, Nat.le_refl _, ExtB.refl _ _⟩
  · exact sort_rules_own base g cap l w cur h2 h3 h4 h5 h6 h7 hlen

theorem eql_nil {P : Program} (t e : TypeId) (a : Option Addr) (l c : Nat) (w : World) (h : P.underlying t = some (.slice e)) : (binOp .eql t (.slice a l c) (.slice none 0 0)).run P w = .ok (.bool a.isNone) w := by
  simp [binOp, run_equal_slice_nil w t e a l c h]
set_option maxHeartbeats 4000000 in
set_option maxRecDepth 100000 in
theorem clone_rules (v : Value) (l : List Rl) (w : World) (h : RulesAt w v l) (hlen : l.length ≤ 1000000000) :
    Calls Tryz.prog 49 #[v] w fun e w' => ∃ v', e = .returned v' ∧ RuleOwn w.heap.size w' v' l ∧ Ext w w' := by
  obtain ⟨a, c, rfl, hl⟩ := h
  cases a with
  | none =>
    have hl0 : l = [] := Classical.byContradiction fun hne => by obtain ⟨b, o, h1, -⟩ := hl hne; cases h1
    subst hl0
    clear hl
    have heq := fun W => eql_nil (P := Tryz.prog) 26 37 none 0 c W Tryz.underlying26
    go_enter Tryz.func49, Tryz.ntmps49
    go_wp2
    go_ret
    exact ⟨_, rfl, World.ownsRow_nil _ _ _ _, Ext.refl _⟩
  | some ad =>
    have HL := Lib.hid hl
    have hml : (1000000000 : Nat) + 1 ≤ maxLen := by decide
    obtain ⟨i0, hi, hz0, hz1, hz2⟩ := info_parts rule_info
    have HI := Lib.hid (And.intro hi (And.intro hz0 (And.intro hz1 hz2)))
    clear hi hz0 hz1 hz2 hl
    have heq := fun W => eql_nil (P := Tryz.prog) 26 37 (some ad) l.length c W Tryz.underlying26
    have HFL := Lib.hid (flatE_len (enc := Rl.cells) Rl.size4 l)
    have HNW : Hid (∀ j u, (flatE Rl.cells l)[j]? = some u → (w.alloc (.cells #[] 37)).cell? (ad.add j) = some u) := by
      intro j u hu
      have hj : j < l.length * 4 := by
        have := (List.getElem?_eq_some_iff.1 hu).1
        rwa [HFL.out] at this
      obtain ⟨b, o, he, hc⟩ := HL.out (by intro e; subst e; simp at hj)
      cases he
      have h1 := hc (j / 4) (by omega) (j % 4) (by omega)
      rw [← flatE_get (enc := Rl.cells) Rl.size4 l (j / 4) (j % 4) (by omega) (by omega), show j / 4 * 4 + j % 4 = j by omega, hu] at h1
      rw [Addr.add_lit]
      exact ((Ext.refl w).alloc _).keep h1
    have HOC : Hid (∀ u ∈ flatE Rl.cells l, u.oneCell' = true) := by
      intro u hu
      unfold flatE at hu
      rw [List.mem_flatMap] at hu
      obtain ⟨r, -, hr⟩ := hu
      simp [Rl.cells] at hr
      rcases hr with rfl | rfl | rfl | rfl <;> rfl
    go_enter Tryz.func49, Tryz.ntmps49
    go_wp2_with (first
      | (at_builtin; refine wpList_append_own _ rfl (.tmp 5) (.tmp 6) 26 rfl w.heap.size 37 i0 (.agg #[.string ⟨#[]⟩, .int .u64 0, .int .u64 0, .int .u8 0]) 4 40 Tryz.underlying26 HI.out.1 HI.out.2.1 HI.out.2.2.1 HI.out.2.2.2 rfl (by decide) _ 0 [] rfl (World.ownsRow_made w #[] 0 (Nat.le_refl _) (Nat.zero_le _) rfl) ad l.length c (flatE Rl.cells l) rfl HFL.out HNW.out HOC.out (by omega) (by omega) (by simp) ?_; rintro v' w9 hown hgrow -)
      | fail)
    have hx := Ext.grownAt ((Ext.refl w).alloc (.cells #[] 37)) (World.ownsRow_made (base := w.heap.size) (e := 37) (size := 4) w #[] 0 (Nat.le_refl _) (Nat.zero_le _) rfl) (Nat.le_refl _) hgrow
    have HX := Lib.hid hx
    have HO := Lib.hid hown
    clear hx hown hgrow
    go_wp2
    go_ret
    refine ⟨_, rfl, ?_, HX.out⟩
    have := HO.out
    rwa [Nat.zero_add, List.nil_append] at this
set_option maxHeartbeats 4000000 in
set_option maxRecDepth 100000 in
theorem config_Order (most : Int) (v : Value) (l : List Rl) (w : World) (h : RulesAt w v l) (hlen : l.length ≤ 1000000000) :
    Calls Tryz.prog 19 #[.agg #[.int .i64 most, v]] w fun e w' => ∃ v', e = .returned (.agg #[.int .i64 most, v']) ∧ RuleOwn w.heap.size w' v' (ordL Rl.key l) ∧ Ext w w' := by
  obtain ⟨a, c, rfl⟩ := h.size
  have hx0 : Ext w ((w.alloc (.cells #[.int .i64 most, .slice a l.length c] 28)).alloc (.cells #[.int .i64 0, .slice none 0 0] 28)) := ((Ext.refl w).alloc _).alloc _
  have HC := Lib.hid (clone_rules (.slice a l.length c) l _ (h.ext Rl.size4 hx0) hlen)
  have HLEN : Hid (l.length < 1152921504606846976) := by show l.length < 1152921504606846976; omega
  have bP := (Blk.new w #[.int .i64 most, .slice a l.length c] 28).alloc (.cells #[.int .i64 0, .slice none 0 0] 28)
  have bR := Blk.new' (w.alloc (.cells #[.int .i64 most, .slice a l.length c] 28)) #[.int .i64 0, .slice none 0 0] 28 (b := w.heap.size + 1) (by simp)
  clear h
  go_enter Tryz.func19, Tryz.ntmps19
  go_upto_region 1 with fail
  have hsz0 : ((w.alloc (.cells #[.int .i64 most, .slice a l.length c] 28)).alloc (.cells #[.int .i64 0, .slice none 0 0] 28)).heap.size = w.heap.size + 2 := by simp
  generalize (w.alloc (.cells #[.int .i64 most, .slice a l.length c] 28)).alloc (.cells #[.int .i64 0, .slice none 0 0] 28) = w0 at *
  have cP := bP.cell
  have fP := bP.free
  have HP := Lib.hid bP
  have HR := Lib.hid bR
  have HX0 := Lib.hid hx0
  have HZ := Lib.hid hsz0
  clear bP bR hx0 hsz0
  go_wp2_with (first
    | (go_at_call 49; (refine HC.out.mono ?_); rintro ee w1 ⟨v', rfl, hown, hx1⟩
       obtain ⟨va, vc, rfl⟩ := hown.size
       have bP1 := HP.out.ext hx1
       have bP2 := bP1.set 1 (.slice va l.length vc)
       have xB : ExtB w.heap.size w1 (w1.setCell ⟨w.heap.size, 1, none⟩ (.slice va l.length vc)) := (ExtB.refl _ _).setCell 1 _
       have HOS := Lib.hid (own_extB hown xB (by have := HZ.out; omega))
       have bR2 := Lib.hid ((HR.out.ext hx1).extB xB (by omega))
       have cP1 := bP1.cell
       have fP1 := bP1.free
       have cP2 := bP2.cell
       have fP2 := bP2.free
       have HP2 := Lib.hid bP2
       have HX2 := Lib.hid ((HX0.out.trans hx1).own xB (Nat.le_refl _))
       clear bP1 bP2 hown hx1 xB)
    | (go_at_call 50; (refine (sort_rules w0.heap.size _ l _ HOS.out HLEN.out).mono ?_); rintro ee w2 ⟨rfl, hord, g, hg, hxg⟩
       have bP3 := HP2.out.extB hxg (by have := HZ.out; omega)
       have bR3 := bR2.out.extB hxg (by have := HZ.out; omega)
       have HO3 := Lib.hid hord
       have HX3 := Lib.hid (HX2.out.own hxg (by have := HZ.out; omega))
       have cP3 := bP3.cell
       have fP3 := bP3.free
       have cR3 := bR3.cell
       have fR3 := bR3.free
       have HR3 := Lib.hid bR3
       clear bP3 bR3 hord hxg)
    | fail)
  go_wp2
  refine ret_cell Tryz.results19 rfl (Blk.two HR3.out (.int .i64 most) (.slice va l.length vc)) Tryz.underlying28 rfl (by kernel_rfl) ?_
  refine ⟨_, rfl, ?_, ?_⟩
  · exact RuleOwn.low (own_extB HO3.out (((ExtB.refl (w.heap.size + 1) _).setCell 0 _).setCell 1 _) (by have := HZ.out; omega)) (by have := HZ.out; omega)
  · exact HX3.out.own (((ExtB.refl (w.heap.size + 1) _).setCell 0 _).setCell 1 _) (by omega)
end Go.Proofs.YtknlojlcahgnoaaGreat
