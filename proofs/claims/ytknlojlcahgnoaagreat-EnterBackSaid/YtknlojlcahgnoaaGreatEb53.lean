/- Walks: slices.IndexFunc of entries; enter.Right. Walk: enter.Right. (Printed by a program of mine.) -/
import Derived.Deep.RegionHeld3
import Derived.Deep.CutBlock
import Derived.Test.YtknlojlcahgnoaaGreatEb50

namespace Go.Proofs.YtknlojlcahgnoaaGreat
open Go.RowKit
set_option linter.unusedVariables false
set_option linter.unusedSimpArgs false

set_option maxHeartbeats 2000000 in
set_option maxRecDepth 100000 in
theorem enter_bad (bt bs bf : Nat) (clock : Int) (rs : List Rl) (e : Ent) (w : World) (h : WrongAt w bt bs bf clock rs) (hro : ∀ r ∈ rs, RlOk r) (he : EntOk e) (hn0 : 0 ≤ clock) (hn1 : clock < 18446744073709551616) :
    Calls Tryz.prog 77 #[.agg #[.string e.key, .int .u64 e.till], .pointer (some ⟨bf, 0, none⟩)] w fun x w' => x = .returned (.bool (entErr clock rs e != 0)) ∧ Ext w w' := by
  have hx0 : Ext w (w.alloc (.cells #[.string e.key, .int .u64 e.till] 80)) := (Ext.refl w).alloc _
  have HW := Lib.hid (enter_wrong bt bs bf clock rs e _ (h.ext hx0) hro he hn0 hn1)
  have c1 := hx0.keep h.fn
  generalize entErr clock rs e = E at *
  have HX := Lib.hid hx0
  clear h hro he hx0
  by_cases hE : E = 0
  · subst hE
    go_enter Tryz.func77, Tryz.ntmps77
    go_wp2_with (first | (go_at_call 73; (refine HW.out.mono ?_); rintro ee w1 ⟨rfl, hx1⟩; have HX1 := Lib.hid hx1; clear hx1) | fail)
    go_ret
    exact ⟨rfl, HX.out.trans HX1.out⟩
  · have e1 : (E != 0) = true := by simpa using hE
    have e2 : (E == 0) = false := by simpa using hE
    rw [e1]
    go_enter Tryz.func77, Tryz.ntmps77
    go_wp2_with (first | (go_at_call 73; (refine HW.out.mono ?_); rintro ee w1 ⟨rfl, hx1⟩; have HX1 := Lib.hid hx1; clear hx1) | fail)
    go_ret
    exact ⟨rfl, HX.out.trans HX1.out⟩

/-- the first entry that is wrong -/
def badAt (clock : Int) (rs : List Rl) (es : List Ent) : Int := match es.findIdx? (fun e => decide (entErr clock rs e ≠ 0)) with
  | some k => k
  | none => -1
theorem badAt_some {clock : Int} {rs : List Rl} {es : List Ent} {k : Nat} (hk : k < es.length) (h : ∀ e ∈ es.take k, entErr clock rs e = 0) (hb : entErr clock rs es[k] ≠ 0) : badAt clock rs es = k ∧ es.find? (fun e => decide (entErr clock rs e ≠ 0)) = some es[k] := by
  have hj : ∀ j (hj : j < k), entErr clock rs (es[j]'(by omega)) = 0 := fun j hj => h _ (List.mem_iff_getElem.2 ⟨j, by rw [List.length_take]; omega, by rw [List.getElem_take]⟩)
  have e1 : es.findIdx? (fun e => decide (entErr clock rs e ≠ 0)) = some k := by
    rw [List.findIdx?_eq_some_iff_getElem]
    exact ⟨hk, by simpa using hb, fun j hj' => by simpa using hj j hj'⟩
  have e2 : es.find? (fun e => decide (entErr clock rs e ≠ 0)) = some es[k] := by
    rw [List.find?_eq_some_iff_getElem]
    exact ⟨by simpa using hb, k, hk, rfl, fun j hj' => by simpa using hj j hj'⟩
  unfold badAt
  rw [e1]
  exact ⟨rfl, e2⟩
theorem badAt_none {clock : Int} {rs : List Rl} {es : List Ent} (h : ∀ e ∈ es, entErr clock rs e = 0) : badAt clock rs es = -1 ∧ es.find? (fun e => decide (entErr clock rs e ≠ 0)) = none := by
  have e1 : es.findIdx? (fun e => decide (entErr clock rs e ≠ 0)) = none := by
    rw [List.findIdx?_eq_none_iff]
    intro e he
    simpa using h e he
  have e2 : es.find? (fun e => decide (entErr clock rs e ≠ 0)) = none := by
    rw [List.find?_eq_none]
    intro e he
    simpa using h e he
  unfold badAt
  rw [e1]
  exact ⟨rfl, e2⟩

set_option maxHeartbeats 2000000 in
set_option maxRecDepth 100000 in
theorem index_func (bt bs bf : Nat) (clock : Int) (rs : List Rl) (v : Value) (es : List Ent) (w : World) (h : WrongAt w bt bs bf clock rs) (hro : ∀ r ∈ rs, RlOk r) (hv : EntsAt w v es) (he : ∀ e ∈ es, EntOk e) (hlen : es.length ≤ 1000000) (hn0 : 0 ≤ clock) (hn1 : clock < 18446744073709551616) :
    Calls Tryz.prog 76 #[v, .func (.func 77) #[] #[.pointer (some ⟨bf, 0, none⟩)]] w fun x w' => x = .returned (.int .i64 (badAt clock rs es)) ∧ Ext w w' := by
  obtain ⟨a, c, rfl⟩ := hv.size
  have HV := Lib.hid hv
  have HW := Lib.hid h
  have HRO := Lib.hid hro
  have HE := Lib.hid he
  clear hv h hro he
  go_enter Tryz.func76, Tryz.ntmps76
  go_wp2
  go_loopw [8] (fun i wr => ∃ (k : Nat), k ≤ es.length ∧ i = .int .i64 k ∧ Hid (∀ e ∈ es.take k, entErr clock rs e = 0) ∧ Ext w wr) (fun i _ => es.length - (intOf i).toNat)
  case atStart => exact ⟨0, by omega, rfl, fun e he => by simp at he, Ext.refl _⟩
  case round =>
    obtain ⟨k, hk, rfl, HALL, hx⟩ := hrel
    have HX := Lib.hid hx
    by_cases hlt : k < es.length
    · obtain ⟨b, o, rfl, hbl, hc⟩ := (HV.out.ext Ent.size2 hx).cells Ent.size2 (by decide) k hlt
      have c0 : wr.cell? ⟨b, o + k * 2, none⟩ = some (.string es[k].key) := hc 0 (by decide)
      have c1 : wr.cell? ⟨b, o + k * 2 + 1, none⟩ = some (.int .u64 es[k].till) := hc 1 (by decide)
      have hb := enter_bad bt bs bf clock rs es[k] wr (HW.out.ext hx) HRO.out (HE.out _ (List.getElem_mem hlt)) hn0 hn1
      have hbad := fun h => (badAt_some (clock := clock) (rs := rs) hlt HALL.out h).1
      have hgood : entErr clock rs es[k] = 0 → ∀ e ∈ es.take (k + 1), entErr clock rs e = 0 := fun h e he => by
        rw [List.take_succ_eq_append_getElem hlt] at he
        rcases List.mem_append.1 he with he | he
        · exact HALL.out e he
        · obtain rfl := List.mem_singleton.1 he; exact h
      generalize es[k] = e at *
      have HB := Lib.hid hb
      have HBAD := Lib.hid hbad
      have HGOOD := Lib.hid hgood
      clear hc hx hb hbad hgood
      by_cases h0 : entErr clock rs e = 0
      · have h0' : (entErr clock rs e != 0) = false := by simpa using h0
        rw [h0'] at HB
        have HG := Lib.hid (HGOOD.out h0)
        clear h0 h0' HBAD HGOOD
        go_wp2_with (first | (go_at_call 77; (refine HB.out.mono ?_); rintro ee w1 ⟨rfl, hx1⟩; have HX1 := Lib.hid hx1; clear hx1) | fail)
        go_roundw
        case rel => exact ⟨k + 1, by omega, by go_num, HG.out, HX.out.trans HX1.out⟩
        case measure => simp [intOf]; omega
      · have h0' : (entErr clock rs e != 0) = true := by simpa using h0
        rw [h0'] at HB
        have HG := Lib.hid (HBAD.out h0)
        clear h0 h0' HBAD HGOOD
        go_wp2_with (first | (go_at_call 77; (refine HB.out.mono ?_); rintro ee w1 ⟨rfl, hx1⟩; have HX1 := Lib.hid hx1; clear hx1) | fail)
        go_ret
        exact ⟨ret_int HG.out.symm, HX.out.trans HX1.out⟩
    · have hkl : k = es.length := by omega
      have HN := Lib.hid (badAt_none (clock := clock) (rs := rs) (es := es) (by have := HALL.out; rwa [hkl, List.take_of_length_le (Nat.le_refl _)] at this)).1
      clear hkl HALL hx
      go_wp2
      go_ret
      exact ⟨ret_int HN.out.symm, HX.out⟩

theorem entRight_cfg {most clock : Int} {rs : List Rl} {es : List Ent} (h : cfgErr most rs ≠ 0) : entRight most clock rs es = cfgErr most rs := if_pos h
theorem entRight_big {most clock : Int} {rs : List Rl} {es : List Ent} (h : cfgErr most rs = 0) (h2 : 9223372036854775807 < clock) : entRight most clock rs es = 11 := by
  unfold entRight
  rw [if_neg (by simpa using h), if_pos h2]
theorem entRight_many {most clock : Int} {rs : List Rl} {es : List Ent} (h : cfgErr most rs = 0) (h2 : ¬ 9223372036854775807 < clock) (h3 : most < es.length) : entRight most clock rs es = 32 := by
  unfold entRight
  rw [if_neg (by simpa using h), if_neg h2, if_pos h3]
theorem entRight_order {most clock : Int} {rs : List Rl} {es : List Ent} (h : cfgErr most rs = 0) (h2 : ¬ 9223372036854775807 < clock) (h3 : ¬ most < es.length) (h4 : sortedB (es.map (·.key)) = false) : entRight most clock rs es = 42 := by
  unfold entRight
  rw [if_neg (by simpa using h), if_neg h2, if_neg h3, if_pos h4]
theorem entRight_bad {most clock : Int} {rs : List Rl} {es : List Ent} (h : cfgErr most rs = 0) (h2 : ¬ 9223372036854775807 < clock) (h3 : ¬ most < es.length) (h4 : sortedB (es.map (·.key)) = true) :
    (badAt clock rs es = -1 ∧ entRight most clock rs es = 0) ∨ ∃ (k : Nat) (hk : k < es.length), badAt clock rs es = k ∧ entRight most clock rs es = entErr clock rs es[k] := by
  unfold entRight
  rw [if_neg (by simpa using h), if_neg h2, if_neg h3, if_neg (by simp [h4])]
  cases hq : es.findIdx? (fun e => decide (entErr clock rs e ≠ 0)) with
  | none =>
    left
    rw [List.findIdx?_eq_none_iff] at hq
    have := badAt_none (clock := clock) (rs := rs) (es := es) fun e he => by simpa using hq e he
    rw [this.2]
    exact ⟨this.1, rfl⟩
  | some k =>
    right
    rw [List.findIdx?_eq_some_iff_getElem] at hq
    obtain ⟨hk, h5, h6⟩ := hq
    have := badAt_some (clock := clock) (rs := rs) hk (fun e he => by
      obtain ⟨j, hj, rfl⟩ := List.mem_iff_getElem.1 he
      rw [List.getElem_take]
      have hj' : j < k := by rw [List.length_take] at hj; omega
      simpa using h6 j hj') (by simpa using h5)
    rw [this.2]
    exact ⟨k, hk, this.1, rfl⟩
end Go.Proofs.YtknlojlcahgnoaaGreat

namespace Go.Proofs.YtknlojlcahgnoaaGreat
open Go.RowKit
set_option linter.unusedVariables false
set_option linter.unusedSimpArgs false

theorem cfgErr_zero {most : Int} {rs : List Rl} (h : cfgErr most rs = 0) : 1 ≤ most ∧ most ≤ 1000000 ∧ rs.length ≤ 1000 := by
  by_cases h1 : most < 1 ∨ 1000000 < most
  · rw [cfgErr_most h1] at h; cases h
  · by_cases h2 : 1000 < rs.length
    · rw [cfgErr_many h1 h2] at h; cases h
    · omega
set_option maxHeartbeats 400000 in
set_option maxRecDepth 100000 in
theorem enter_Right (most : Int) (rv : Value) (rs : List Rl) (clock : Int) (ev : Value) (es : List Ent) (w : World) (hm0 : -9223372036854775808 ≤ most) (hm1 : most ≤ 9223372036854775807) (hr : RulesAt w rv rs) (hro : ∀ r ∈ rs, RlOk r) (hrl : rs.length ≤ 1000000000)
    (hn0 : 0 ≤ clock) (hn1 : clock < 18446744073709551616) (hv : EntsAt w ev es) (heo : ∀ e ∈ es, EntOk e) (hel : es.length ≤ 1000000000) :
    Calls Tryz.prog 30 #[.agg #[.int .i64 most, rv], .agg #[.int .u64 clock, ev]] w fun x w' => x = .returned (.int .u16 (entRight most clock rs es)) ∧ Ext w w' := by
  obtain ⟨ra, rc, rfl⟩ := hr.size
  obtain ⟨ea, ec, rfl⟩ := hv.size
  have hx0 : Ext w ((w.alloc (.cells #[.int .i64 most, .slice ra rs.length rc] 28)).alloc (.cells #[.int .u64 clock, .slice ea es.length ec] 52)) := ((Ext.refl w).alloc _).alloc _
  have bP := (Blk.new w #[.int .i64 most, .slice ra rs.length rc] 28).alloc (.cells #[.int .u64 clock, .slice ea es.length ec] 52)
  have bS := Blk.new' (w.alloc (.cells #[.int .i64 most, .slice ra rs.length rc] 28)) #[.int .u64 clock, .slice ea es.length ec] 52 (b := w.heap.size + 1) (by simp)
  have HR := Lib.hid (hr.ext Rl.size4 hx0)
  have HV := Lib.hid (hv.ext Ent.size2 hx0)
  have HRO := Lib.hid hro
  have HEO := Lib.hid heo
  have hcr := config_Right most (.slice ra rs.length rc) rs _ hm0 hm1 HR.out hro hrl
  obtain ⟨E, hE⟩ : ∃ E, cfgErr most rs = E := ⟨_, rfl⟩
  rw [hE] at hcr
  have HE := Lib.hid hE
  have HCR := Lib.hid hcr
  clear hr hv hro heo hcr hE hm0 hm1
  have HX0 := Lib.hid hx0
  have HBP := Lib.hid bP
  have HBS := Lib.hid bS
  have cP := bP.cell
  have cS := bS.cell
  have hpl := bP.lt
  clear hx0 bP bS
  by_cases h0 : E = 0
  · subst h0
    have hz := cfgErr_zero HE.out
    obtain ⟨z1, z2, z3⟩ := hz
    have hmz : (most : Int) ≤ 1000000 := z2
    by_cases h2 : 9223372036854775807 < clock
    · have q2 : decide (clock > 9223372036854775807) = true := decide_eq_true h2
      have HRES := Lib.hid (entRight_big (es := es) HE.out h2)
      clear h2
      go_enter Tryz.func30, Tryz.ntmps30
      go_upto_region 1 with fail
      generalize (w.alloc (.cells #[.int .i64 most, .slice ra rs.length rc] 28)).alloc (.cells #[.int .u64 clock, .slice ea es.length ec] 52) = w0 at *
      go_wp2_with (first
          | (go_at_call 35; (refine HCR.out.mono ?_); rintro ee w1 ⟨rfl, hx1⟩
             have cP1 := (HBP.out.ext hx1).cell
             have cS1 := (HBS.out.ext hx1).cell
             have HX1 := Lib.hid hx1
             have HV1 := Lib.hid (HV.out.ext Ent.size2 hx1)
             clear hx1)
          | fail)
      go_ret
      exact ⟨ret_int HRES.out.symm, HX0.out.trans HX1.out⟩
    · have q2 : decide (clock > 9223372036854775807) = false := decide_eq_false h2
      by_cases h3 : most < es.length
      · have q3 : decide ((es.length : Int) > most) = true := decide_eq_true h3
        have HRES := Lib.hid (entRight_many (es := es) HE.out h2 h3)
        clear h2
        go_enter Tryz.func30, Tryz.ntmps30
        go_upto_region 1 with fail
        generalize (w.alloc (.cells #[.int .i64 most, .slice ra rs.length rc] 28)).alloc (.cells #[.int .u64 clock, .slice ea es.length ec] 52) = w0 at *
        go_wp2_with (first
            | (go_at_call 35; (refine HCR.out.mono ?_); rintro ee w1 ⟨rfl, hx1⟩
               have cP1 := (HBP.out.ext hx1).cell
               have cS1 := (HBS.out.ext hx1).cell
               have HX1 := Lib.hid hx1
               have HV1 := Lib.hid (HV.out.ext Ent.size2 hx1)
               clear hx1)
            | fail)
        go_ret
        exact ⟨ret_int HRES.out.symm, HX0.out.trans HX1.out⟩
      · have q3 : decide ((es.length : Int) > most) = false := decide_eq_false h3
        have hel2 : es.length ≤ 1000000 := by omega
        have HEL := Lib.hid hel2
        have hstr : ∀ s ∈ es.map (·.key), s.size ≤ maxLen := fun s hs => by
          rw [List.mem_map] at hs
          obtain ⟨x, hx, rfl⟩ := hs
          exact (HEO.out x hx).1
        have HSTR := Lib.hid hstr
        have hks : ∀ (V : Bool), sortedB (es.map (·.key)) = V → ∀ (v : Value) (w : World), StrSlice w v (es.map (·.key)) → Calls Tryz.prog 71 #[v] w fun x w' => x = .returned (.bool V) ∧ Ext w w' := fun V hV v w h => by
          have := key_Sorted v _ w h (by rw [List.length_map]; exact HEL.out)
          rwa [hV] at this
        clear hstr
        have hpp : ∀ (v : Value) (w : World), EntsAt w v es → Calls Tryz.prog 72 #[v] w fun x w' => ∃ v', x = .returned v' ∧ PfxRow w.heap.size w' v' (es.map (·.key)) ∧ Ext w w' := fun v w h => enter_keys v es w h hel2
        have hord := fun h => entRight_order (es := es) HE.out h2 h3 h
        have hbad := fun h => entRight_bad (es := es) HE.out h2 h3 h
        obtain ⟨PL, hPL⟩ : ∃ PL, es.map (·.key) = PL := ⟨_, rfl⟩
        rw [hPL] at hpp HSTR hks hord hbad
        have HPP := Lib.hid hpp
        clear hPL hpp h2 hel2
        by_cases h4 : sortedB PL = false
        · have HRES := Lib.hid (hord h4)
          have HKS := Lib.hid (hks false h4)
          clear h4 hks hord hbad
          go_enter Tryz.func30, Tryz.ntmps30
          go_upto_region 1 with fail
          generalize (w.alloc (.cells #[.int .i64 most, .slice ra rs.length rc] 28)).alloc (.cells #[.int .u64 clock, .slice ea es.length ec] 52) = w0 at *
          go_wp2_with (first
              | (go_at_call 35; (refine HCR.out.mono ?_); rintro ee w1 ⟨rfl, hx1⟩
                 have cP1 := (HBP.out.ext hx1).cell
                 have cS1 := (HBS.out.ext hx1).cell
                 have HX1 := Lib.hid hx1
                 have HV1 := Lib.hid (HV.out.ext Ent.size2 hx1)
                 clear hx1)
              | (go_at_call 72; (refine (HPP.out _ w1 HV1.out).mono ?_); rintro ee w2 ⟨v2, rfl, hrow, hx2⟩
                 obtain ⟨va2, vc2, rfl⟩ := hrow.size
                 have HX2 := Lib.hid (HX1.out.trans hx2)
                 have HSL := Lib.hid (HKS.out _ w2 (pfxrow_strs hrow HSTR.out))
                 clear hrow hx2)
              | (go_at_call 71; (refine HSL.out.mono ?_); rintro ee w3 ⟨rfl, hx3⟩
                 have HX3 := Lib.hid (HX2.out.trans hx3)
                 have cP3 := (HBP.out.ext HX3.out).cell
                 have cS3 := (HBS.out.ext HX3.out).cell
                 clear hx3)
              | fail)
          go_ret
          exact ⟨ret_int HRES.out.symm, HX0.out.trans HX3.out⟩
        · have h4' : sortedB PL = true := by simpa using h4
          have hres := hbad h4'
          have HRES := Lib.hid hres
          have HKS := Lib.hid (hks true h4')
          have hrl2 : rs.length ≤ maxLen := Nat.le_trans (show rs.length ≤ 1000 by omega) (by decide)
          have HRL := Lib.hid hrl2
          clear h4 h4' hks hres hrl2 hord hbad
          go_enter Tryz.func30, Tryz.ntmps30
          go_upto_region 1 with fail
          generalize (w.alloc (.cells #[.int .i64 most, .slice ra rs.length rc] 28)).alloc (.cells #[.int .u64 clock, .slice ea es.length ec] 52) = w0 at *
          go_upto_region 12 with (first
              | (go_at_call 35; (refine HCR.out.mono ?_); rintro ee w1 ⟨rfl, hx1⟩
                 have cP1 := (HBP.out.ext hx1).cell
                 have cS1 := (HBS.out.ext hx1).cell
                 have HX1 := Lib.hid hx1
                 have HV1 := Lib.hid (HV.out.ext Ent.size2 hx1)
                 clear hx1)
              | (go_at_call 72; (refine (HPP.out _ w1 HV1.out).mono ?_); rintro ee w2 ⟨v2, rfl, hrow, hx2⟩
                 obtain ⟨va2, vc2, rfl⟩ := hrow.size
                 have HX2 := Lib.hid (HX1.out.trans hx2)
                 have HSL := Lib.hid (HKS.out _ w2 (pfxrow_strs hrow HSTR.out))
                 clear hrow hx2)
              | (go_at_call 71; (refine HSL.out.mono ?_); rintro ee w3 ⟨rfl, hx3⟩
                 have HX3 := Lib.hid (HX2.out.trans hx3)
                 have cP3 := (HBP.out.ext HX3.out).cell
                 have cS3 := (HBS.out.ext HX3.out).cell
                 clear hx3)
              | (go_at_call 65; (refine (prefix_New _ rs w3 (HR.out.ext Rl.size4 HX3.out) HRO.out HRL.out).mono ?_); rintro ee w4 ⟨⟨u, rfl, root, ns, many, rfl, hT, hH⟩, hx4⟩
                 have HX4 := Lib.hid (HX3.out.trans hx4)
                 have cP4 := (HBP.out.ext HX4.out).cell
                 have cS4 := (HBS.out.ext HX4.out).cell
                 have HTT := Lib.hid hT
                 have HHH := Lib.hid hH
                 clear hx4 hT hH)
              | fail)
          have hx5 : Ext w4 ((w4.alloc (.cells #[.pointer (some ⟨root, 0, none⟩)] 132)).alloc (.cells #[.func (.func 73) #[] #[.pointer (some ⟨w4.heap.size, 0, none⟩), .pointer (some ⟨w.heap.size + 1, 0, none⟩)]] 151)) := ((Ext.refl w4).alloc _).alloc _
          have bT := (Blk.new w4 #[.pointer (some ⟨root, 0, none⟩)] 132).alloc (.cells #[.func (.func 73) #[] #[.pointer (some ⟨w4.heap.size, 0, none⟩), .pointer (some ⟨w.heap.size + 1, 0, none⟩)]] 151)
          have bF := Blk.new' (w4.alloc (.cells #[.pointer (some ⟨root, 0, none⟩)] 132)) #[.func (.func 73) #[] #[.pointer (some ⟨w4.heap.size, 0, none⟩), .pointer (some ⟨w.heap.size + 1, 0, none⟩)]] 151 (b := w4.heap.size + 1) (by simp)
          generalize (w4.alloc (.cells #[.pointer (some ⟨root, 0, none⟩)] 132)).alloc (.cells #[.func (.func 73) #[] #[.pointer (some ⟨w4.heap.size, 0, none⟩), .pointer (some ⟨w.heap.size + 1, 0, none⟩)]] 151) = w5 at *
          have bS5 := (HBS.out.ext HX4.out).ext hx5
          have hwr : WrongAt w5 w4.heap.size (w.heap.size + 1) (w4.heap.size + 1) clock rs := ⟨⟨_, root, many, ns, bT.cell 0, HTT.out.ext hx5, HHH.out⟩, bS5.cell 0, bF.cell 0⟩
          have hv5 := (HV.out.ext Ent.size2 HX4.out).ext Ent.size2 hx5
          have HIX := Lib.hid (index_func w4.heap.size (w.heap.size + 1) (w4.heap.size + 1) clock rs (.slice ea es.length ec) es w5 hwr HRO.out hv5 HEO.out HEL.out hn0 hn1)
          have cS5 := bS5.cell
          have HWR := Lib.hid hwr
          have HV5 := Lib.hid hv5
          have HB5 := Lib.hid bS5
          have HX5 := Lib.hid (HX4.out.trans hx5)
          have hfc := bF.cell 0
          have HF5 := Lib.hid hfc
          clear hx5 bT bF bS5 hwr hv5 cP4 cS4 cP3 cS3 cP1 cS1 hfc
          rcases HRES.out with ⟨r1, r2⟩ | ⟨kk, hkk, r1, r2⟩
          · rw [r1] at HIX
            have HR2 := Lib.hid r2
            clear r1 r2 HRES
            go_wp2_with (first
              | (go_at_call 76; (refine HIX.out.mono ?_); rintro ee w6 ⟨rfl, hx6⟩
                 have HX6 := Lib.hid (HX5.out.trans hx6)
                 clear hx6)
              | fail)
            go_ret
            exact ⟨ret_int HR2.out.symm, HX0.out.trans HX6.out⟩
          · rw [r1] at HIX
            have HR2 := Lib.hid r2
            clear r1 r2 HRES
            have hkz : ¬ (kk : Int) < 0 := by omega
            have hkd : decide ((kk : Int) < 0) = false := decide_eq_false hkz
            go_upto_region 15 with (first
              | (go_at_call 76; (refine HIX.out.mono ?_); rintro ee w6 ⟨rfl, hx6⟩
                 have HX6 := Lib.hid (HX5.out.trans hx6)
                 have HV6 := Lib.hid (HV5.out.ext Ent.size2 hx6)
                 have HW6 := Lib.hid (HWR.out.ext hx6)
                 have hf6 := hx6.keep HF5.out
                 have hs6 := (HB5.out.ext hx6).cell 1
                 clear hx6)
              | fail)
            obtain ⟨b, o, rfl, hbl, hc⟩ := HV6.out.cells Ent.size2 (by decide) kk hkk
            have c0 : w6.cell? ⟨b, o + kk * 2, none⟩ = some (.string es[kk].key) := hc 0 (by decide)
            have c1 : w6.cell? ⟨b, o + kk * 2 + 1, none⟩ = some (.int .u64 es[kk].till) := hc 1 (by decide)
            have hcc := fun (W : World) (hW : Ext w6 W) => enter_wrong w4.heap.size (w.heap.size + 1) (w4.heap.size + 1) clock rs es[kk] W (HW6.out.ext hW) HRO.out (HEO.out _ (List.getElem_mem hkk)) hn0 hn1
            have hs6' : w6.cell? ⟨w.heap.size + 1, 1, none⟩ = some (.slice (some ⟨b, o, none⟩) es.length ec) := hs6
            generalize es[kk] = e at *
            generalize entErr clock rs e = EE at *
            have HCC := Lib.hid hcc
            have hkk2 : (kk : Int) < (es.length : Int) := by omega
            clear hc hcc hs6 cS5 cS cP
            go_region_held3 (fun w' => w'.cell? ⟨w4.heap.size + 1, 0, none⟩ = some (.func (.func 73) #[] #[.pointer (some ⟨w4.heap.size, 0, none⟩), .pointer (some ⟨w.heap.size + 1, 0, none⟩)]) ∧ w'.cell? ⟨w.heap.size + 1, 1, none⟩ = some (.slice (some ⟨b, o, none⟩) es.length ec) ∧ w'.cell? ⟨b, o + kk * 2, none⟩ = some (.string e.key) ∧ w'.cell? ⟨b, o + kk * 2 + 1, none⟩ = some (.int .u64 e.till) ∧ Ext w6 w')
              (first | (refine ⟨?_, ?_, ?_, ?_, ?_⟩ <;> first | assumption | exact (Ext.refl _).drew | exact Ext.refl _ | exact Ext.trans (by assumption) hx7 | exact Ext.trans ((Ext.refl _).drew) hx7 | exact hx7.keep (by assumption)))
              ((go_at_call 73; (refine (HCC.out _ (by first | assumption | exact (Ext.refl _).drew)).mono ?_); rintro ee w7 ⟨rfl, hx7⟩))
            go_wp2
            go_ret
            exact ⟨ret_int HR2.out.symm, (HX0.out.trans HX6.out).trans (Ext.trans (Ext.refl _).drew hx7)⟩
  · have e1 : (E != 0) = true := by simpa using h0
    have HRES := Lib.hid ((entRight_cfg (es := es) (clock := clock) (by rw [HE.out]; exact h0)).trans HE.out)
    go_enter Tryz.func30, Tryz.ntmps30
    go_upto_region 1 with fail
    generalize (w.alloc (.cells #[.int .i64 most, .slice ra rs.length rc] 28)).alloc (.cells #[.int .u64 clock, .slice ea es.length ec] 52) = w0 at *
    go_wp2_with (first
        | (go_at_call 35; (refine HCR.out.mono ?_); rintro ee w1 ⟨rfl, hx1⟩
           have cP1 := (HBP.out.ext hx1).cell
           have cS1 := (HBS.out.ext hx1).cell
           have HX1 := Lib.hid hx1
           have HV1 := Lib.hid (HV.out.ext Ent.size2 hx1)
           clear hx1)
        | fail)
    go_ret
    exact ⟨ret_int HRES.out.symm, HX0.out.trans HX1.out⟩
end Go.Proofs.YtknlojlcahgnoaaGreat
