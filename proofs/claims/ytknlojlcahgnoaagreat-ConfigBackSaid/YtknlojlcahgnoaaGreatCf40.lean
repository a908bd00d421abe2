/- Walks: slices.SortStableFunc at rules, slices.Clone, config.Order. Walks: config.prefixes, config.Right. -/
import Derived.Test.YtknlojlcahgnoaaGreatCf27
import Derived.Test.YtknlojlcahgnoaaGreatCf39
import Derived.Test.YtknlojlcahgnoaaGreatCf18
import Derived.Test.YtknlojlcahgnoaaGreatCf3

namespace Go.Proofs.YtknlojlcahgnoaaGreat
open Go.RowKit Go.Shelf Go.Sort
set_option linter.unusedVariables false
set_option linter.unusedSimpArgs false

set_option maxHeartbeats 1000000 in
set_option maxRecDepth 100000 in
theorem order_1 (x y : Rl) (W : World) : Calls Tryz.prog 51 #[.agg x.cells, .agg y.cells] W fun e w' => e = .returned (.int .i64 (rlCmp x y)) ∧ ∃ q os', w' = grow (W.drewN q) os' := by
  obtain ⟨k, sa, sb, sk⟩ := x
  obtain ⟨k2, sa2, sb2, sk2⟩ := y
  simp only [rlCmp, Rl.cells]
  generalize hr : cmpB k k2 = r
  have HR := Lib.hid hr
  clear hr
  go_enter Tryz.func51, Tryz.ntmps51
  go_wp2_with (go_at_call 52; (with_reducible refine (cmp_Compare k k2 _).mono ?_); rw [HR.out]; rintro e w' ⟨rfl, rfl⟩)
  go_ret
  exact ⟨rfl, 0, _, by rw [alloc_eq_grow, alloc_eq_grow, grow_grow]; rfl⟩

/-- rules in memory of the call's own; it may be empty without being nil -/
abbrev RuleOwn (base : Nat) (w : World) (v : Value) (l : List Rl) : Prop := w.ownsRow base 37 4 v l.length (flatE Rl.cells l)
theorem RuleOwn.at {base : Nat} {w : World} {v : Value} {l : List Rl} (h : RuleOwn base w v l) : RulesAt w v l := by
  obtain ⟨h0, ⟨rfl, h1⟩ | ⟨g, cap, cur, rfl, h2, h3, h4, h5, h6, h7⟩⟩ := h
  · have : l = [] := List.length_eq_zero_iff.1 h1
    subst this
    exact ElemsAt.nil _ _ _
  · refine ⟨_, _, rfl, fun hne => ⟨g, 0, rfl, fun j hj i hi => ?_⟩⟩
    rw [Nat.zero_add, Blk.cell (t := 37) (show Blk w g cur 37 from h3), ← flatE_get (enc := Rl.cells) Rl.size4 l j i hj hi, ← h7, List.getElem?_take_of_lt (by omega), Array.getElem?_toList]
theorem RuleOwn.ext {base : Nat} {w w' : World} {v : Value} {l : List Rl} (h : RuleOwn base w v l) (e : Ext w w') : RuleOwn base w' v l := own_ext h e
theorem RuleOwn.size {base : Nat} {w : World} {v : Value} {l : List Rl} (h : RuleOwn base w v l) : ∃ a c, v = .slice a l.length c := by
  obtain ⟨h0, ⟨rfl, h1⟩ | ⟨g, cap, cur, rfl, -⟩⟩ := h
  · exact ⟨none, 0, by rw [h1]⟩
  · exact ⟨_, _, rfl⟩
theorem RuleOwn.low {b base : Nat} {w : World} {v : Value} {l : List Rl} (h : RuleOwn base w v l) (hb : b ≤ base) : RuleOwn b w v l := by
  obtain ⟨h0, h | ⟨g, cap, cur, h1, h2, h3⟩⟩ := h
  · exact ⟨h0, Or.inl h⟩
  · exact ⟨h0, Or.inr ⟨g, cap, cur, h1, Nat.le_trans hb h2, h3⟩⟩
theorem Blk.two {w : World} {b : Nat} {a0 a1 : Value} {t : TypeId} (h : Blk w b #[a0, a1] t) (v0 v1 : Value) : Blk ((w.setCell ⟨b, 0, none⟩ v0).setCell ⟨b, 1, none⟩ v1) b #[v0, v1] t := by
  have h0 : Blk _ b #[v0, a1] t := h.set 0 v0
  exact h0.set 1 v1
theorem flatR_get : ∀ (l : List Rl) (t : Nat), t < l.length * 4 → (flatE Rl.cells l)[t]? = some ((rlEnc l.toArray[t / 4]!)[t % 4]!) := by
  intro l t ht
  have hj : t / 4 < l.length := by omega
  have h := flatE_get (enc := Rl.cells) Rl.size4 l (t / 4) (t % 4) hj (by omega)
  rw [show t / 4 * 4 + t % 4 = t by omega] at h
  rw [h]
  have e : l.toArray[t / 4]! = l[t / 4] := by rw [getElem!_pos l.toArray (t / 4) (by simpa using hj)]; simp
  rw [e]
  unfold rlEnc
  have h4 : t % 4 < (l[t / 4].cells.toList).length := by simp [Rl.cells]; omega
  rw [getElem!_pos (l[t / 4].cells.toList) (t % 4) h4]
  rw [Array.getElem?_eq_getElem (by simpa using h4)]
  simp
theorem holds_rules {w : World} {g n : Nat} {xs : List Rl} {cur : Array Value} (hn : n = xs.length) (hg : w.heap[g]? = some (.cells cur 37 (0, 0))) (hcur : cur.toList.take (n * 4) = flatE Rl.cells xs) : HoldsK rlEnc 4 w g 0 xs.toArray := by
  subst hn
  intro j hj
  have hj' : j < xs.length * 4 := by simpa using hj
  have h1 : cur[j]? = (flatE Rl.cells xs)[j]? := by
    rw [← hcur, List.getElem?_take_of_lt hj', Array.getElem?_toList]
  constructor
  · rw [Nat.zero_add, Blk.cell (t := 37) (show Blk w g cur 37 from hg), h1, flatR_get xs j hj', get_flatK _ _ _ _ (by simpa using hj')]
    rfl
  · exact Blk.free (t := 37) (show Blk w g cur 37 from hg) _
/-- what became of the row's own block -/
theorem swk_block {w W : World} {g : Nat} {d : Array Rl} {cur : Array Value} {t : TypeId} (S : SWK rlEnc 4 w g 0 d W) (hg : w.heap[g]? = some (.cells cur t (0, 0))) : (∃ cur', W.heap[g]? = some (.cells cur' t (0, 0)) ∧ cur'.size = cur.size) ∧ ExtB g w W := by
  obtain ⟨n, os, rfl⟩ := S
  have hlt : g < w.heap.size := lt_of_block hg
  have hsz : g < (putRowK rlEnc 4 (Sort.ahead w n) g 0 d).heap.size := by simpa [putRowK, Sort.putRow, mapBlock, Sort.ahead] using hlt
  constructor
  · refine ⟨putCells id 0 (flatK rlEnc 4 d) cur, ?_, by simp [putCells]⟩
    · unfold sortWorldK
      rw [heap_grow_old _ _ hsz]
      simp only [putRowK, Sort.putRow, mapBlock, Sort.ahead, Array.getElem?_modify, if_true]
      show Option.map _ w.heap[g]? = _
      rw [hg]
      rfl
  · refine ⟨rfl, rfl, rfl, size_sortWorldK_c rlEnc 4 w g 0 n d os, fun k hk hne => ?_⟩
    have hk2 : k < (putRowK rlEnc 4 (Sort.ahead w n) g 0 d).heap.size := by simpa [putRowK, Sort.putRow, mapBlock, Sort.ahead] using hk
    unfold sortWorldK
    rw [heap_grow_old _ _ hk2]
    have : g ≠ k := fun e => hne e.symm
    simp [putRowK, Sort.putRow, mapBlock, Sort.ahead, Array.getElem?_modify, this]
theorem row_holds {w : World} {base g cap : Nat} {d : Array Rl} {cur : Array Value} (hg : w.heap[g]? = some (.cells cur 37 (0, 0))) (hb : base ≤ g) (hn : d.size ≤ cap) (hc : cap ≤ maxLen) (hs : cur.size = cap * 4) (hH : HoldsK rlEnc 4 w g 0 d) : RuleOwn base w (.slice (some ⟨g, 0, none⟩) d.size cap) d.toList := by
  have hl : (flatE Rl.cells d.toList).length = d.size * 4 := by rw [flatE_len Rl.size4, Array.length_toList]
  refine ⟨by rw [hl, Array.length_toList], Or.inr ⟨g, cap, cur, by rw [Array.length_toList], hb, hg, by rw [Array.length_toList]; exact hn, hc, hs, ?_⟩⟩
  rw [Array.length_toList]
  refine List.ext_getElem? fun t => ?_
  by_cases ht : t < d.size * 4
  · rw [List.getElem?_take_of_lt ht, Array.getElem?_toList, flatR_get _ _ (by rw [Array.length_toList]; exact ht)]
    have h1 := (hH t (by simpa using ht)).1
    rw [Nat.zero_add, Blk.cell (t := 37) (show Blk w g cur 37 from hg), get_flatK _ _ _ _ (by simpa using ht)] at h1
    rw [h1]
    rfl
  · rw [List.getElem?_eq_none (by rw [List.length_take]; omega), List.getElem?_eq_none (by omega)]
/-- the row is in order, and nothing else is otherwise -/
def OrdEnd (base : Nat) (w w' : World) (v : Value) (l : List Rl) : Prop := RuleOwn base w' v l ∧ ∃ g, base ≤ g ∧ ExtB g w w'
theorem sort_rules_own (base g cap : Nat) (l : List Rl) (w : World) (cur : Array Value) (hb : base ≤ g) (hg : w.heap[g]? = some (.cells cur 37 (0, 0))) (hc : l.length ≤ cap) (hm : cap ≤ maxLen) (hs : cur.size = cap * 4) (hcur : cur.toList.take (l.length * 4) = flatE Rl.cells l) (hlen : l.length < 1152921504606846976) :
    Calls Tryz.prog 50 #[.slice (some ⟨g, 0, none⟩) l.length cap, .func (.func 51) #[] #[]] w fun e w' => e = .returned (.tuple #[]) ∧ OrdEnd base w w' (.slice (some ⟨g, 0, none⟩) l.length cap) (ordL Rl.key l) := by
  have hH := holds_rules (xs := l) rfl hg hcur
  have eg : ∀ args w, (callFunc 51 args).run Tryz.prog w = .ok (.enter 51 args) w := enters_of Tryz.func51 (by kernel_rfl) rfl
  have R : RowK rlEnc 4 w g 0 l.toArray := ⟨fun x => rfl, fun x v hv => by simp [rlEnc, Rl.cells] at hv; rcases hv with rfl | rfl | rfl | rfl <;> rfl, hH, lt_of_block hg⟩
  have hst := stable_any 51 #[] eg g 0 cap l.length l.toArray w (fun _ _ _ _ x y => order_1 x y _) R (by simp) hlen (SWK.start hH)
  have HST := Lib.hid hst
  have R : Aside _ := R
  have HSZ := Lib.hid hs
  have HG := Lib.hid hg
  clear hst hH eg hs hcur hg
  go_enter Tryz.func50, Tryz.ntmps50
  go_wp2_with (go_at_call 101; (refine HST.out.mono ?_); rintro ee w1 ⟨rfl, hw1⟩)
  go_end0
  obtain ⟨d', hd', S⟩ := hw1
  have hd2 : d'.toList = ordL Rl.key l := by rw [hd']
  have hds : d'.size = l.length := by rw [← Array.length_toList, hd2, ordL_len]
  obtain ⟨⟨cur', h1, h2⟩, h3⟩ := swk_block S HG.out
  have hH' := S.holds R.out.hblk R.out.hH (by rw [hds]; simp)
  have hr := row_holds (base := base) (cap := cap) h1 hb (by omega) hm (by rw [h2, HSZ.out]) hH'
  rw [hds, hd2] at hr
  exact ⟨rfl, hr, g, hb, h3⟩
set_option maxHeartbeats 1000000 in
set_option maxRecDepth 100000 in
theorem insert_nil (c : Nat) (fv : Value) (w : World) : Calls Tryz.prog 149 #[.slice none 0 c, .int .i64 0, .int .i64 0, fv] w fun e w' => e = .returned (.tuple #[]) ∧ w' = w := by
  go_enter Tryz.func149, Tryz.ntmps149
  go_wp2
  go_loop [8] (fun i => i = .int .i64 1) (fun _ => 0)
  case atStart => rfl
  case round =>
    obtain rfl := hrel
    go_wp2
    go_end0
    exact ⟨rfl, rfl⟩
set_option maxHeartbeats 1000000 in
set_option maxRecDepth 100000 in
theorem sort_rules_nil (c : Nat) (fv : Value) (w : World) : Calls Tryz.prog 50 #[.slice none 0 c, fv] w fun e w' => e = .returned (.tuple #[]) ∧ w' = w := by
  have hs : Calls Tryz.prog 101 #[.slice none 0 c, .int .i64 0, fv] w fun e w' => e = .returned (.tuple #[]) ∧ w' = w := by
    go_enter Tryz.func101, Tryz.ntmps101
    go_wp2
    go_loop [7, 8] (fun a b => a = .int .i64 0 ∧ b = .int .i64 20) (fun _ _ => 0)
    case atStart => exact ⟨rfl, rfl⟩
    case round =>
      obtain ⟨rfl, rfl⟩ := hrel
      go_wp2_with (go_at_call 149; (refine (insert_nil c fv w).mono ?_); rintro ee w1 ⟨rfl, rfl⟩)
      go_loop [6] (fun a => a = .int .i64 20) (fun _ => 0)
      case atStart => rfl
      case round =>
        obtain rfl := hrel
        go_wp2
        go_end0
        exact ⟨rfl, rfl⟩
  have HS := Lib.hid hs
  clear hs
  go_enter Tryz.func50, Tryz.ntmps50
  go_wp2_with (go_at_call 101; (refine HS.out.mono ?_); rintro ee w1 ⟨rfl, rfl⟩)
  go_end0
  exact ⟨rfl, rfl⟩
theorem sort_rules (base : Nat) (v : Value) (l : List Rl) (w : World) (h : RuleOwn base w v l) (hlen : l.length < 1152921504606846976) :
    Calls Tryz.prog 50 #[v, .func (.func 51) #[] #[]] w fun e w' => e = .returned (.tuple #[]) ∧ OrdEnd base w w' v (ordL Rl.key l) := by
  obtain ⟨h0, ⟨rfl, h1⟩ | ⟨g, cap, cur, rfl, h2, h3, h4, h5, h6, h7⟩⟩ := h
  · obtain rfl : l = [] := List.length_eq_zero_iff.1 h1
    refine (sort_rules_nil 0 _ w).mono ?_
    rintro e w' ⟨rfl, rfl⟩
    have e : ordL Rl.key ([] : List Rl) = [] := by unfold ordL; simp
    rw [e]
    exact ⟨rfl, World.ownsRow_nil _ _ _ _, base, Nat.le_refl _, ExtB.refl _ _⟩
  · exact sort_rules_own base g cap l w cur h2 h3 h4 h5 h6 h7 hlen

theorem eql_nil {P : Program} (t e : TypeId) (a : Option Addr) (l c : Nat) (w : World) (h : P.underlying t = some (.slice e)) : (binOp .eql t (.slice a l c) (.slice none 0 0)).run P w = .ok (.bool a.isNone) w := by
  simp [binOp, run_equal_slice_nil w t e a l c h]
set_option maxHeartbeats 4000000 in
set_option maxRecDepth 100000 in
theorem clone_rules (v : Value) (l : List Rl) (w : World) (h : RulesAt w v l) (hlen : l.length ≤ 1000000000) :
    Calls Tryz.prog 49 #[v] w fun e w' => ∃ v', e = .returned v' ∧ RuleOwn w.heap.size w' v' l ∧ Ext w w' := by
  obtain ⟨a, c, rfl, hl⟩ := h
  cases a with
  | none =>
    have hl0 : l = [] := Classical.byContradiction fun hne => by obtain ⟨b, o, h1, -⟩ := hl hne; cases h1
    subst hl0
    clear hl
    have heq := fun W => eql_nil (P := Tryz.prog) 26 37 none 0 c W Tryz.underlying26
    go_enter Tryz.func49, Tryz.ntmps49
    go_wp2
    go_ret
    exact ⟨_, rfl, World.ownsRow_nil _ _ _ _, Ext.refl _⟩
  | some ad =>
    have HL := Lib.hid hl
    have hml : (1000000000 : Nat) + 1 ≤ maxLen := by decide
    obtain ⟨i0, hi, hz0, hz1, hz2⟩ := info_parts rule_info
    have HI := Lib.hid (And.intro hi (And.intro hz0 (And.intro hz1 hz2)))
    clear hi hz0 hz1 hz2 hl
    have heq := fun W => eql_nil (P := Tryz.prog) 26 37 (some ad) l.length c W Tryz.underlying26
    have HFL := Lib.hid (flatE_len (enc := Rl.cells) Rl.size4 l)
    have HNW : Hid (∀ j u, (flatE Rl.cells l)[j]? = some u → (w.alloc (.cells #[] 37)).cell? (ad.add j) = some u) := by
      intro j u hu
      have hj : j < l.length * 4 := by
        have := (List.getElem?_eq_some_iff.1 hu).1
        rwa [HFL.out] at this
      obtain ⟨b, o, he, hc⟩ := HL.out (by intro e; subst e; simp at hj)
      cases he
      have h1 := hc (j / 4) (by omega) (j % 4) (by omega)
      rw [← flatE_get (enc := Rl.cells) Rl.size4 l (j / 4) (j % 4) (by omega) (by omega), show j / 4 * 4 + j % 4 = j by omega, hu] at h1
      rw [Addr.add_lit]
      exact ((Ext.refl w).alloc _).keep h1
    have HOC : Hid (∀ u ∈ flatE Rl.cells l, u.oneCell' = true) := by
      intro u hu
      unfold flatE at hu
      rw [List.mem_flatMap] at hu
      obtain ⟨r, -, hr⟩ := hu
      simp [Rl.cells] at hr
      rcases hr with rfl | rfl | rfl | rfl <;> rfl
    go_enter Tryz.func49, Tryz.ntmps49
    go_wp2_with (first
      | (at_builtin; refine wpList_append_own _ rfl (.tmp 5) (.tmp 6) 26 rfl w.heap.size 37 i0 (.agg #[.string ⟨#[]⟩, .int .u64 0, .int .u64 0, .int .u8 0]) 4 40 Tryz.underlying26 HI.out.1 HI.out.2.1 HI.out.2.2.1 HI.out.2.2.2 rfl (by decide) _ 0 [] rfl (World.ownsRow_made w #[] 0 (Nat.le_refl _) (Nat.zero_le _) rfl) ad l.length c (flatE Rl.cells l) rfl HFL.out HNW.out HOC.out (by omega) (by omega) (by simp) ?_; rintro v' w9 hown hgrow -)
      | fail)
    have hx := Ext.grownAt ((Ext.refl w).alloc (.cells #[] 37)) (World.ownsRow_made (base := w.heap.size) (e := 37) (size := 4) w #[] 0 (Nat.le_refl _) (Nat.zero_le _) rfl) (Nat.le_refl _) hgrow
    have HX := Lib.hid hx
    have HO := Lib.hid hown
    clear hx hown hgrow
    go_wp2
    go_ret
    refine ⟨_, rfl, ?_, HX.out⟩
    have := HO.out
    rwa [Nat.zero_add, List.nil_append] at this
set_option maxHeartbeats 4000000 in
set_option maxRecDepth 100000 in
theorem config_Order (most : Int) (v : Value) (l : List Rl) (w : World) (h : RulesAt w v l) (hlen : l.length ≤ 1000000000) :
    Calls Tryz.prog 19 #[.agg #[.int .i64 most, v]] w fun e w' => ∃ v', e = .returned (.agg #[.int .i64 most, v']) ∧ RuleOwn w.heap.size w' v' (ordL Rl.key l) ∧ Ext w w' := by
  obtain ⟨a, c, rfl⟩ := h.size
  have hx0 : Ext w ((w.alloc (.cells #[.int .i64 most, .slice a l.length c] 28)).alloc (.cells #[.int .i64 0, .slice none 0 0] 28)) := ((Ext.refl w).alloc _).alloc _
  have HC := Lib.hid (clone_rules (.slice a l.length c) l _ (h.ext Rl.size4 hx0) hlen)
  have HLEN : Hid (l.length < 1152921504606846976) := by show l.length < 1152921504606846976; omega
  have bP := (Blk.new w #[.int .i64 most, .slice a l.length c] 28).alloc (.cells #[.int .i64 0, .slice none 0 0] 28)
  have bR := Blk.new' (w.alloc (.cells #[.int .i64 most, .slice a l.length c] 28)) #[.int .i64 0, .slice none 0 0] 28 (b := w.heap.size + 1) (by simp)
  clear h
  go_enter Tryz.func19, Tryz.ntmps19
  go_upto_region 1 with fail
  have hsz0 : ((w.alloc (.cells #[.int .i64 most, .slice a l.length c] 28)).alloc (.cells #[.int .i64 0, .slice none 0 0] 28)).heap.size = w.heap.size + 2 := by simp
  generalize (w.alloc (.cells #[.int .i64 most, .slice a l.length c] 28)).alloc (.cells #[.int .i64 0, .slice none 0 0] 28) = w0 at *
  have cP := bP.cell
  have fP := bP.free
  have HP := Lib.hid bP
  have HR := Lib.hid bR
  have HX0 := Lib.hid hx0
  have HZ := Lib.hid hsz0
  clear bP bR hx0 hsz0
  go_wp2_with (first
    | (go_at_call 49; (refine HC.out.mono ?_); rintro ee w1 ⟨v', rfl, hown, hx1⟩
       obtain ⟨va, vc, rfl⟩ := hown.size
       have bP1 := HP.out.ext hx1
       have bP2 := bP1.set 1 (.slice va l.length vc)
       have xB : ExtB w.heap.size w1 (w1.setCell ⟨w.heap.size, 1, none⟩ (.slice va l.length vc)) := (ExtB.refl _ _).setCell 1 _
       have HOS := Lib.hid (own_extB hown xB (by have := HZ.out; omega))
       have bR2 := Lib.hid ((HR.out.ext hx1).extB xB (by omega))
       have cP1 := bP1.cell
       have fP1 := bP1.free
       have cP2 := bP2.cell
       have fP2 := bP2.free
       have HP2 := Lib.hid bP2
       have HX2 := Lib.hid ((HX0.out.trans hx1).own xB (Nat.le_refl _))
       clear bP1 bP2 hown hx1 xB)
    | (go_at_call 50; (refine (sort_rules w0.heap.size _ l _ HOS.out HLEN.out).mono ?_); rintro ee w2 ⟨rfl, hord, g, hg, hxg⟩
       have bP3 := HP2.out.extB hxg (by have := HZ.out; omega)
       have bR3 := bR2.out.extB hxg (by have := HZ.out; omega)
       have HO3 := Lib.hid hord
       have HX3 := Lib.hid (HX2.out.own hxg (by have := HZ.out; omega))
       have cP3 := bP3.cell
       have fP3 := bP3.free
       have cR3 := bR3.cell
       have fR3 := bR3.free
       have HR3 := Lib.hid bR3
       clear bP3 bR3 hord hxg)
    | fail)
  go_wp2
  refine ret_cell Tryz.results19 rfl (Blk.two HR3.out (.int .i64 most) (.slice va l.length vc)) Tryz.underlying28 rfl (by kernel_rfl) ?_
  refine ⟨_, rfl, ?_, ?_⟩
  · exact RuleOwn.low (own_extB HO3.out (((ExtB.refl (w.heap.size + 1) _).setCell 0 _).setCell 1 _) (by have := HZ.out; omega)) (by have := HZ.out; omega)
  · exact HX3.out.own (((ExtB.refl (w.heap.size + 1) _).setCell 0 _).setCell 1 _) (by omega)
end Go.Proofs.YtknlojlcahgnoaaGreat

namespace Go.Proofs.YtknlojlcahgnoaaGreat
open Go.RowKit
set_option linter.unusedVariables false
set_option linter.unusedSimpArgs false

/-- texts in a row of the call's own -/
abbrev PfxRow (base : Nat) (w : World) (v : Value) (l : List ByteArray) : Prop := RowOf (fun k => #[.string k]) 1 9 base w v l
theorem pfxrow_more {base : Nat} {w : World} {v : Value} {l l' : List ByteArray} {s : ByteArray} (h : w.ownsRow base 9 1 v (l.length + 1) (flatE (fun k => #[Value.string k]) l ++ [.string s])) (e : l' = l ++ [s]) : PfxRow base w v l' := by
  subst e
  refine RowOf.mk' h (by simp) (flatE_snoc _ _ _).symm ?_
  obtain ⟨g, cap, rfl⟩ := ownsRow_succ h
  simp
theorem pfxrow_strs {base : Nat} {w : World} {v : Value} {l : List ByteArray} (h : PfxRow base w v l) (heach : ∀ s ∈ l, s.size ≤ maxLen) : StrSlice w v l := by
  obtain ⟨a, c, rfl⟩ := h.size
  refine ⟨⟨a, c, rfl, fun hne => ?_⟩, h.len, heach⟩
  have h0 : 0 < l.length := List.length_pos_iff.2 hne
  obtain ⟨b, c', hv, -, -, -⟩ := RowOf.cells (enc := fun k => #[Value.string k]) (k := 1) (fun _ => rfl) h 0 h0
  simp at hv
  refine ⟨b, 0, hv.1, fun j hj => ?_⟩
  obtain ⟨b', c'', hv', -, -, hc⟩ := RowOf.cells (enc := fun k => #[Value.string k]) (k := 1) (fun _ => rfl) h j hj
  simp at hv'
  have : b' = b := by
    have := hv.1.symm.trans hv'.1
    simp at this
    exact this.symm
  subst this
  have := hc 0 (by decide)
  simpa using this
theorem pfx_info : (Tryz.prog.info? 9).map (fun i => (i.zero, i.size, i.bytes)) = some (some (.string ⟨#[]⟩), 1, 16) := by kernel_rfl

set_option maxHeartbeats 2000000 in
set_option maxRecDepth 100000 in
theorem config_prefixes (v : Value) (rs : List Rl) (w : World) (hv : RulesAt w v rs) (hlen : rs.length ≤ 1000000) :
    Calls Tryz.prog 82 #[v] w fun x w' => ∃ v', x = .returned v' ∧ PfxRow w.heap.size w' v' (rs.map (·.p)) ∧ Ext w w' := by
  obtain ⟨a, c, rfl⟩ := hv.size
  have HV := Lib.hid hv
  have hml : (1000000 : Nat) + 1 ≤ maxLen := by decide
  obtain ⟨i0, hi, hz0, hz1, hz2⟩ := info_parts pfx_info
  have HI := Lib.hid (And.intro hi (And.intro hz0 (And.intro hz1 hz2)))
  clear hv hi hz0 hz1 hz2
  go_enter Tryz.func82, Tryz.ntmps82
  go_wp2
  go_loopw [3, 8] (fun o i wr => ∃ (k : Nat), k ≤ rs.length ∧ i = .int .i64 k ∧ PfxRow w.heap.size wr o ((rs.take k).map (·.p)) ∧ Ext w wr) (fun _ i _ => rs.length - (intOf i).toNat)
  case atStart => exact ⟨0, by omega, rfl, RowOf.empty _ _ _ _ _, Ext.refl _⟩
  case round =>
    obtain ⟨k, hk, rfl, hrow, hx⟩ := hrel
    have HROW := Lib.hid hrow
    have hxs := Ext.sz hx
    have HX := Lib.hid hx
    clear hrow
    by_cases hlt : k < rs.length
    · obtain ⟨b, o, rfl, hbl, hc⟩ := (HV.out.ext Rl.size4 hx).cells Rl.size4 (by decide) k hlt
      have c0 : wr.cell? ⟨b, o + k * 4, none⟩ = some (.string rs[k].p) := hc 0 (by decide)
      have c1 : wr.cell? ⟨b, o + k * 4 + 1, none⟩ = some (.int .u64 rs[k].e) := hc 1 (by decide)
      have c2 : wr.cell? ⟨b, o + k * 4 + 2, none⟩ = some (.int .u64 rs[k].b) := hc 2 (by decide)
      have c3 : wr.cell? ⟨b, o + k * 4 + 3, none⟩ = some (.int .u8 rs[k].k) := hc 3 (by decide)
      have htk : (rs.take (k + 1)).map (·.p) = (rs.take k).map (·.p) ++ [rs[k].p] := by rw [List.take_succ_eq_append_getElem hlt, List.map_append]; rfl
      have htl : ((rs.take k).map (·.p)).length ≤ k := by rw [List.length_map, List.length_take]; omega
      have HTL := Lib.hid htl
      obtain ⟨r, hr⟩ : ∃ r, rs[k] = r := ⟨_, rfl⟩
      rw [hr] at c0 c1 c2 c3 htk
      have HTK := Lib.hid htk
      clear hc hr htk htl hx
      go_upto_region 5 with fail
      have bS : Blk (wr.alloc (.cells #[.string r.p, .int .u64 r.e, .int .u64 r.b, .int .u8 r.k] 37)) wr.heap.size r.cells 37 := Blk.new wr _ _
      have hxa : Ext wr (wr.alloc (.cells #[.string r.p, .int .u64 r.e, .int .u64 r.b, .int .u8 r.k] 37)) := (Ext.refl wr).alloc _
      generalize wr.alloc (.cells #[.string r.p, .int .u64 r.e, .int .u64 r.b, .int .u8 r.k] 37) = wa at *
      have s0 : wa.cell? ⟨wr.heap.size, 0, none⟩ = some (.string r.p) := bS.cell 0
      have HXA := Lib.hid hxa
      have hsa := Ext.sz hxa
      clear bS hxa c0 c1 c2 c3
      go_wp2_with (first
        | (at_builtin; refine wpList_append_own _ rfl (.tmp 12) (.tmp 15) 32 rfl w.heap.size 9 i0 (.string ⟨#[]⟩) 1 16 Tryz.underlying32 HI.out.1 HI.out.2.1 HI.out.2.2.1 HI.out.2.2.2 rfl (by decide) _ _ _ rfl ((own_ext HROW.out.own HXA.out).alloc _) ⟨wa.heap.size, 0, none⟩ 1 1 [.string r.p] rfl rfl (blk_news (C := #[.string r.p]) (Blk.new _ _ _)) (by simp [Value.oneCell']) (by have := HTL.out; omega) (by have := HTL.out; omega) (by simp; omega) ?_; rintro v' w4 hown hgrow -)
        | fail)
      have hx4 : Ext w w4 := Ext.grownAt ((HX.out.trans HXA.out).alloc _) ((own_ext HROW.out.own HXA.out).alloc _) (Nat.le_refl _) hgrow
      have hrow4 : PfxRow w.heap.size w4 v' ((rs.take (k + 1)).map (·.p)) := pfxrow_more hown HTK.out
      clear hown hgrow
      go_wp2
      go_roundw
      case rel => exact ⟨k + 1, by omega, by go_num, hrow4, hx4⟩
      case measure => simp [intOf]; omega
    · have hkl : k = rs.length := by omega
      have HK := Lib.hid hkl
      clear hkl
      go_wp2
      go_ret
      refine ⟨_, rfl, ?_, HX.out⟩
      have := HROW.out
      rwa [HK.out, List.take_of_length_le (Nat.le_refl _)] at this

def rErr (r : Rl) : Int := ruleErr r.p r.e r.b r.k
/-- what is wrong with rules that are right each -/
def restL : List Rl → Int
  | [] => 31
  | r :: t => if r.p = ⟨#[]⟩ then (if sortedB ((r :: t).map (·.p)) = true then 0 else 28) else 31
def cfgRest (rs : List Rl) : Int := restL (ordL Rl.key rs)
/-- what is wrong with a policy -/
def cfgErr (most : Int) (rs : List Rl) : Int :=
  if most < 1 ∨ 1000000 < most then 29 else if 1000 < rs.length then 32 else
  match rs.find? (fun r => decide (rErr r ≠ 0)) with
  | some r => rErr r
  | none => cfgRest rs
theorem cfgErr_most {most : Int} {rs : List Rl} (h : most < 1 ∨ 1000000 < most) : cfgErr most rs = 29 := by unfold cfgErr; rw [if_pos h]
theorem cfgErr_many {most : Int} {rs : List Rl} (h : ¬ (most < 1 ∨ 1000000 < most)) (h2 : 1000 < rs.length) : cfgErr most rs = 32 := by unfold cfgErr; rw [if_neg h, if_pos h2]
theorem cfgErr_rule {most : Int} {rs : List Rl} (h : ¬ (most < 1 ∨ 1000000 < most)) (h2 : ¬ 1000 < rs.length) {k : Nat} (hk : k < rs.length) (h3 : ∀ r ∈ rs.take k, rErr r = 0) (h4 : rErr rs[k] ≠ 0) : cfgErr most rs = rErr rs[k] := by
  have e : rs.find? (fun r => decide (rErr r ≠ 0)) = some rs[k] := by
    rw [List.find?_eq_some_iff_getElem]
    refine ⟨by simpa using h4, k, hk, rfl, fun j hj => ?_⟩
    have := h3 rs[j] (List.mem_iff_getElem.2 ⟨j, by rw [List.length_take]; omega, by rw [List.getElem_take]⟩)
    simpa using this
  unfold cfgErr
  rw [if_neg h, if_neg h2, e]
theorem cfgErr_rest {most : Int} {rs : List Rl} (h : ¬ (most < 1 ∨ 1000000 < most)) (h2 : ¬ 1000 < rs.length) (h3 : ∀ r ∈ rs, rErr r = 0) : cfgErr most rs = cfgRest rs := by
  have e : rs.find? (fun r => decide (rErr r ≠ 0)) = none := by
    rw [List.find?_eq_none]
    intro r hr
    simpa using h3 r hr
  unfold cfgErr
  rw [if_neg h, if_neg h2, e]
theorem emp_of {p : ByteArray} (h : p.toList.isEmpty = true) : p = ⟨#[]⟩ := by
  have e : p.toList = p.data.toList := ByteArray.toList_eq p
  rw [e, List.isEmpty_iff] at h
  cases p with
  | mk d => congr 1; exact Array.toList_eq_nil_iff.1 h
theorem RulesAt.cells0 {w : World} {v : Value} {r : Rl} {t : List Rl} (h : RulesAt w v (r :: t)) : ∃ b o c, v = .slice (some ⟨b, o, none⟩) (t.length + 1) c ∧ b < w.heap.size ∧ w.cell? ⟨b, o, none⟩ = some (.string r.p) := by
  obtain ⟨a, c, rfl, hl⟩ := h
  obtain ⟨b, o, rfl, hc⟩ := hl (by simp)
  have h0 := hc 0 (by simp) 0 (by decide)
  simp [Rl.cells] at h0
  exact ⟨b, o, c, rfl, cell_lt h0, h0⟩
theorem pol_rules (W : World) (a0 a1 : Value) : (Instr.field 28 (.agg #[a0, a1]) 1).run Tryz.prog W = .ok a1 W := by kernel_rfl
set_option maxHeartbeats 2000000 in
set_option maxRecDepth 100000 in
theorem config_Right (most : Int) (v : Value) (rs : List Rl) (w : World) (hm0 : -9223372036854775808 ≤ most) (hm1 : most ≤ 9223372036854775807) (hv : RulesAt w v rs) (hro : ∀ r ∈ rs, RlOk r) (hlen : rs.length ≤ 1000000000) :
    Calls Tryz.prog 35 #[.agg #[.int .i64 most, v]] w fun x w' => x = .returned (.int .u16 (cfgErr most rs)) ∧ Ext w w' := by
  obtain ⟨a, c, rfl⟩ := hv.size
  have hx0 : Ext w (w.alloc (.cells #[.int .i64 most, .slice a rs.length c] 28)) := (Ext.refl w).alloc _
  have bP := Blk.new w #[.int .i64 most, .slice a rs.length c] 28
  have HV := Lib.hid (hv.ext Rl.size4 hx0)
  have HRO := Lib.hid hro
  have HLEN := Lib.hid hlen
  by_cases h1 : most < 1
  · have hE := cfgErr_most (rs := rs) (Or.inl h1)
    rw [hE]
    clear hE hv hro
    have h1d : decide (most < 1) = true := decide_eq_true h1
    have hx := Lib.hid hx0
    clear hx0
    have cP := bP.cell
    go_enter Tryz.func35, Tryz.ntmps35
    go_wp2
    go_ret
    exact ⟨rfl, hx.out⟩
  by_cases h2 : 1000000 < most
  · have hE := cfgErr_most (rs := rs) (Or.inr h2)
    rw [hE]
    clear hE hv hro
    have h1d : decide (most < 1) = false := decide_eq_false h1
    have h2d : decide (1000000 < most) = true := decide_eq_true h2
    have hx := Lib.hid hx0
    clear hx0
    have cP := bP.cell
    go_enter Tryz.func35, Tryz.ntmps35
    go_wp2
    go_ret
    exact ⟨rfl, hx.out⟩
  have h12 : ¬ (most < 1 ∨ 1000000 < most) := by omega
  have h1d : decide (most < 1) = false := decide_eq_false h1
  have h2d : decide (1000000 < most) = false := decide_eq_false h2
  by_cases h3 : 1000 < rs.length
  · have hE := cfgErr_many h12 h3
    rw [hE]
    clear hE hv hro h12
    have h3d : decide (1000 < rs.length) = true := decide_eq_true h3
    have h3z : (1000 : Int) < (rs.length : Int) := by omega
    have hx := Lib.hid hx0
    clear hx0
    have cP := bP.cell
    go_enter Tryz.func35, Tryz.ntmps35
    go_wp2
    go_ret
    exact ⟨rfl, hx.out⟩
  have h3d : decide (1000 < rs.length) = false := decide_eq_false h3
  have h3z : ¬ (1000 : Int) < (rs.length : Int) := by omega
  have H12 := Lib.hid h12
  have hpr := pol_rules
  have hX0 := Lib.hid hx0
  have cP := bP.cell
  have BP := Lib.hid bP
  clear hv hro h12 hx0 bP
  go_enter Tryz.func35, Tryz.ntmps35
  go_upto_region 1 with fail
  generalize w.alloc (.cells #[.int .i64 most, .slice a rs.length c] 28) = w0 at *
  go_wp2
  go_loopw [22] (fun i wr => ∃ (k : Nat), k ≤ rs.length ∧ i = .int .i64 k ∧ Hid (∀ r ∈ rs.take k, rErr r = 0) ∧ Ext w0 wr) (fun i _ => rs.length - (intOf i).toNat)
  case atStart => exact ⟨0, by omega, rfl, fun r hr => by simp at hr, Ext.refl _⟩
  case round =>
    obtain ⟨k, hk, rfl, HALL, hx⟩ := hrel
    have hxs := Ext.sz hx
    have HX := Lib.hid hx
    by_cases hlt : k < rs.length
    · obtain ⟨b, o, rfl, hbl, hc⟩ := (HV.out.ext Rl.size4 hx).cells Rl.size4 (by decide) k hlt
      have c0 : wr.cell? ⟨b, o + k * 4, none⟩ = some (.string rs[k].p) := hc 0 (by decide)
      have c1 : wr.cell? ⟨b, o + k * 4 + 1, none⟩ = some (.int .u64 rs[k].e) := hc 1 (by decide)
      have c2 : wr.cell? ⟨b, o + k * 4 + 2, none⟩ = some (.int .u64 rs[k].b) := hc 2 (by decide)
      have c3 : wr.cell? ⟨b, o + k * 4 + 3, none⟩ = some (.int .u8 rs[k].k) := hc 3 (by decide)
      have hok := HRO.out rs[k] (List.getElem_mem hlt)
      have hbad := fun h => cfgErr_rule H12.out h3 hlt HALL.out h
      have hgood : rErr rs[k] = 0 → ∀ r ∈ rs.take (k + 1), rErr r = 0 := fun h r hr => by
        rw [List.take_succ_eq_append_getElem hlt] at hr
        rcases List.mem_append.1 hr with hr | hr
        · exact HALL.out r hr
        · obtain rfl := List.mem_singleton.1 hr; exact h
      obtain ⟨r, hr⟩ : ∃ r, rs[k] = r := ⟨_, rfl⟩
      rw [hr] at c0 c1 c2 c3 hok hbad hgood
      have HBAD := Lib.hid hbad
      have HGOOD := Lib.hid hgood
      clear hc hr hx hbad hgood
      obtain ⟨o1, o2, o3, o4, o5, o6, o7⟩ := hok
      have HC := Lib.hid (fun W : World => rule_Right r.p r.e r.b r.k W o1 o2 o3 o4 o5)
      obtain ⟨E, hE⟩ : ∃ E, ruleErr r.p r.e r.b r.k = E := ⟨_, rfl⟩
      rw [show rErr r = E from hE] at HBAD HGOOD
      rw [hE] at HC
      go_upto_region 8 with fail
      have bS : Blk (wr.alloc (.cells #[.string r.p, .int .u64 r.e, .int .u64 r.b, .int .u8 r.k] 37)) wr.heap.size r.cells 37 := Blk.new wr _ _
      have hxa : Ext wr (wr.alloc (.cells #[.string r.p, .int .u64 r.e, .int .u64 r.b, .int .u8 r.k] 37)) := (Ext.refl wr).alloc _
      generalize wr.alloc (.cells #[.string r.p, .int .u64 r.e, .int .u64 r.b, .int .u8 r.k] 37) = wa at *
      have s0 : wa.cell? ⟨wr.heap.size, 0, none⟩ = some (.string r.p) := bS.cell 0
      have s1 : wa.cell? ⟨wr.heap.size, 1, none⟩ = some (.int .u64 r.e) := bS.cell 1
      have s2 : wa.cell? ⟨wr.heap.size, 2, none⟩ = some (.int .u64 r.b) := bS.cell 2
      have s3 : wa.cell? ⟨wr.heap.size, 3, none⟩ = some (.int .u8 r.k) := bS.cell 3
      have HXA := Lib.hid hxa
      clear bS hxa c0 c1 c2 c3 hE
      by_cases h0 : E = 0
      · have HG0 := Lib.hid (HGOOD.out h0)
        clear HGOOD HBAD
        subst h0
        go_wp2_with (first
          | (go_at_call 81; (refine (HC.out _).mono ?_); rintro ee w1 ⟨rfl, hx1⟩; have HX1 := Lib.hid hx1; clear hx1)
          | fail)
        go_roundw
        case rel => exact ⟨k + 1, by omega, by go_num, HG0.out, (HX.out.trans HXA.out).trans HX1.out⟩
        case measure => simp [intOf]; omega
      · have e1 : (E != 0) = true := by simpa using h0
        have e2 : (E == 0) = false := by simpa using h0
        go_wp2_with (first
          | (go_at_call 81; (refine (HC.out _).mono ?_); rintro ee w1 ⟨rfl, hx1⟩; have HX1 := Lib.hid hx1; clear hx1)
          | fail)
        go_ret
        exact ⟨ret_int (HBAD.out h0).symm, hX0.out.trans ((HX.out.trans HXA.out).trans HX1.out)⟩
    · have hkl : k = rs.length := by omega
      have hall : ∀ r ∈ rs, rErr r = 0 := by have := HALL.out; rwa [hkl, List.take_of_length_le (Nat.le_refl _)] at this
      have hR : cfgErr most rs = restL (ordL Rl.key rs) := cfgErr_rest H12.out h3 hall
      have cQ := (BP.out.ext hx).cell
      have HO := Lib.hid (config_Order most (.slice a rs.length c) rs wr (HV.out.ext Rl.size4 hx) HLEN.out)
      have hmem : ∀ x ∈ ordL Rl.key rs, RlOk x := fun x hx => HRO.out x ((ordL_perm rs).mem_iff.1 hx)
      have hll : (ordL Rl.key rs).length ≤ 1000000 := by rw [ordL_len]; omega
      clear hkl hall hx HALL
      generalize ordL Rl.key rs = L at *
      have HMEM := Lib.hid hmem
      have HLL := Lib.hid hll
      have HR := Lib.hid hR
      clear hmem hR
      cases L with
      | nil =>
        clear HMEM hll HLL
        go_wp2_with (first
          | (go_at_call 19; (refine HO.out.mono ?_); rintro ee w1 ⟨v', rfl, hown, hx1⟩
             obtain ⟨va, vc, rfl⟩ := hown.size
             have HX1 := Lib.hid hx1
             clear hown hx1)
          | fail)
        go_ret
        exact ⟨ret_int HR.out.symm, hX0.out.trans (HX.out.trans HX1.out)⟩
      | cons r t =>
        simp only [List.length_cons] at hll
        have ht0 : decide (t.length + 1 = 0) = false := by simp
        by_cases hp : r.p = ⟨#[]⟩
        · have hpe4 : r.p.toList.isEmpty = true := by rw [hp, ByteArray.toList_eq]; rfl
          have hpe5 : decide (r.p = ⟨#[]⟩) = true := by simpa using hp
          have HRE : Hid (cfgErr most rs = if sortedB ((r :: t).map (·.p)) = true then 0 else 28) := by show _ = _; rw [HR.out]; show (if r.p = ⟨#[]⟩ then _ else _) = _; rw [if_pos hp]
          have hstr : ∀ s ∈ (r :: t).map (·.p), s.size ≤ maxLen := fun s hs => by
            rw [List.mem_map] at hs
            obtain ⟨x, hx, rfl⟩ := hs
            exact (HMEM.out x hx).1
          have HSTR := Lib.hid hstr
          have hl2 : ((r :: t).map (·.p)).length ≤ 1000000 := by rw [List.length_map]; exact HLL.out
          have HL2 := Lib.hid hl2
          clear hstr hl2 hp HMEM HR
          have hpf : ∀ (v : Value) (w : World), RulesAt w v (r :: t) → Calls Tryz.prog 82 #[v] w fun x w' => ∃ v', x = .returned v' ∧ PfxRow w.heap.size w' v' ((r :: t).map (·.p)) ∧ Ext w w' := fun v w h => config_prefixes v (r :: t) w h HLL.out
          obtain ⟨PL, hPL⟩ : ∃ PL, (r :: t).map (·.p) = PL := ⟨_, rfl⟩
          rw [hPL] at hpf HSTR HL2 HRE
          obtain ⟨V, hV⟩ : ∃ V, sortedB PL = V := ⟨_, rfl⟩
          have hks : ∀ (v : Value) (w : World), StrSlice w v PL → Calls Tryz.prog 71 #[v] w fun x w' => x = .returned (.bool V) ∧ Ext w w' := fun v w h => by
            have := key_Sorted v PL w h HL2.out
            rwa [hV] at this
          rw [hV] at HRE
          have HPP := Lib.hid hpf
          have HKS := Lib.hid hks
          clear hV hPL hpf hks
          cases V with
          | true =>
            go_wp2_with (first
              | (go_at_call 19; (refine HO.out.mono ?_); rintro ee w1 ⟨v', rfl, hown, hx1⟩
                 obtain ⟨b, o, vc, rfl, hbl, hc⟩ := RulesAt.cells0 (RuleOwn.at hown)
                 have c0 : w1.cell? ⟨b, o, none⟩ = some (.string r.p) := hc
                 have HX1 := Lib.hid hx1
                 have HPF := Lib.hid (HPP.out (.slice (some ⟨b, o, none⟩) (t.length + 1) vc) w1 (RuleOwn.at hown))
                 clear hown hx1 hc)
              | (go_at_call 82; (refine HPF.out.mono ?_); rintro ee w2 ⟨v2, rfl, hrow, hx2⟩
                 obtain ⟨va2, vc2, rfl⟩ := hrow.size
                 have HX2 := Lib.hid hx2
                 have HSL := Lib.hid (HKS.out _ w2 (pfxrow_strs hrow HSTR.out))
                 clear hrow hx2)
              | (go_at_call 71; (refine HSL.out.mono ?_); rintro ee w3 ⟨rfl, hx3⟩
                 have HX3 := Lib.hid hx3
                 clear hx3)
              | fail)
            go_ret
            exact ⟨ret_int (by rw [HRE.out]; rfl), hX0.out.trans (HX.out.trans (HX1.out.trans (HX2.out.trans HX3.out)))⟩
          | false =>
            go_wp2_with (first
              | (go_at_call 19; (refine HO.out.mono ?_); rintro ee w1 ⟨v', rfl, hown, hx1⟩
                 obtain ⟨b, o, vc, rfl, hbl, hc⟩ := RulesAt.cells0 (RuleOwn.at hown)
                 have c0 : w1.cell? ⟨b, o, none⟩ = some (.string r.p) := hc
                 have HX1 := Lib.hid hx1
                 have HPF := Lib.hid (HPP.out (.slice (some ⟨b, o, none⟩) (t.length + 1) vc) w1 (RuleOwn.at hown))
                 clear hown hx1 hc)
              | (go_at_call 82; (refine HPF.out.mono ?_); rintro ee w2 ⟨v2, rfl, hrow, hx2⟩
                 obtain ⟨va2, vc2, rfl⟩ := hrow.size
                 have HX2 := Lib.hid hx2
                 have HSL := Lib.hid (HKS.out _ w2 (pfxrow_strs hrow HSTR.out))
                 clear hrow hx2)
              | (go_at_call 71; (refine HSL.out.mono ?_); rintro ee w3 ⟨rfl, hx3⟩
                 have HX3 := Lib.hid hx3
                 clear hx3)
              | fail)
            go_ret
            exact ⟨ret_int (by rw [HRE.out]; rfl), hX0.out.trans (HX.out.trans (HX1.out.trans (HX2.out.trans HX3.out)))⟩
        · have hpe2 : decide (r.p = ⟨#[]⟩) = false := by simpa using hp
          have hpe4 : r.p.toList.isEmpty = false := by
            by_cases q : r.p.toList.isEmpty = true
            · exact absurd (emp_of q) hp
            · simpa using q
          have HRE : Hid (cfgErr most rs = 31) := by show _ = _; rw [HR.out]; show (if r.p = ⟨#[]⟩ then _ else _) = _; rw [if_neg hp]
          clear hp HMEM HLL HR
          go_wp2_with (first
            | (go_at_call 19; (refine HO.out.mono ?_); rintro ee w1 ⟨v', rfl, hown, hx1⟩
               obtain ⟨b, o, vc, rfl, hbl, hc⟩ := RulesAt.cells0 (RuleOwn.at hown)
               have c0 : w1.cell? ⟨b, o, none⟩ = some (.string r.p) := hc
               have HX1 := Lib.hid hx1
               clear hown hx1 hc)
            | fail)
          go_ret
          exact ⟨ret_int HRE.out.symm, hX0.out.trans (HX.out.trans HX1.out)⟩
end Go.Proofs.YtknlojlcahgnoaaGreat
