/- The walk of tollerlaw14.TableMost. -/
import Derived.Test.YtnlmbmbalmkiiaaKnown14
import Derived.Test.YtnlmbmbalmkiiaaMostB
import Derived.Test.YtnlmbmbalmkiiaaNameW
import Derived.Test.YtnlmbmbalmkiiaaOther
import Derived.Test.YtnlmbmbalmkiiaaRetry
import Derived.Test.YtnlmbmbalmkiiaaGrow
import Derived.Deep.DeepCutAuto
import Derived.Deep.CutRange
import Derived.Deep.CutBlock
namespace Go.Proofs.Ytnlmbmbalmkiiaa
open Go.RowKit
set_option linter.unusedVariables false
set_option linter.unusedSimpArgs false

theorem SlotSlice.extB {base g : Nat} {w w' : World} {v : Value} {l : List Slot} (h : SlotSlice base w v l) (e : ExtB g w w') (hg : g < base) : SlotSlice base w' v l := by
  obtain ⟨⟨a, c, hv, hf⟩, hn⟩ := h
  refine ⟨⟨a, c, hv, fun hne => ?_⟩, hn⟩
  obtain ⟨b, h1, h2, h3, h4⟩ := hf hne
  have hp : 0 < l.length := List.length_pos_iff.2 hne
  have c0 : w.cell? ⟨b, 0 * 8 + 0, none⟩ = some (.string l[0].key) := h3 0 hp 0 (by omega)
  have hb := e.block b (cell_lt c0) (by omega)
  refine ⟨b, h1, h2, fun j hj i hi => ?_, fun o ho => ?_⟩
  · rw [← h3 j hj i hi]; simp [World.cell?, hb]
  · rw [← h4 o ho]; simp [World.frozen?, hb]
theorem SlotSlice.ext {base : Nat} {w w' : World} {v : Value} {l : List Slot} (h : SlotSlice base w v l) (e : Ext w w') : SlotSlice base w' v l := by
  obtain ⟨⟨a, c, hv, hf⟩, hn⟩ := h
  refine ⟨⟨a, c, hv, fun hne => ?_⟩, hn⟩
  obtain ⟨b, h1, h2, h3, h4⟩ := hf hne
  have hp : 0 < l.length := List.length_pos_iff.2 hne
  have c0 : w.cell? ⟨b, 0 * 8 + 0, none⟩ = some (.string l[0].key) := h3 0 hp 0 (by omega)
  have hb := e.block (cell_lt c0)
  refine ⟨b, h1, h2, fun j hj i hi => ?_, fun o ho => ?_⟩
  · rw [← h3 j hj i hi]; simp [World.cell?, hb]
  · rw [← h4 o ho]; simp [World.frozen?, hb]

set_option maxHeartbeats 4000000 in
set_option maxRecDepth 100000 in
theorem most_walk (m : Int) (v : Value) (l : List Deed) (w : World) (hv : DeedSlice w v l) (hm0 : 0 ≤ m) (hm1 : m < 256) :
    Calls Try.prog 5 #[.int .u8 m, v] w fun x w' => x = .returned (.bool true) ∧ Ext w w' := by
  have HV := Lib.hid hv
  clear hv
  go_enter Try.func5, Try.ntmps5
  go_wp2_with fail
  refine (law14_Heavy v l _ HV.out).mono ?_
  rintro x w1 ⟨⟨hvn, rfl⟩, hx1⟩
  by_cases hbig : 500 < hvn
  · go_wp2_with fail
    refine (law14_known _).mono ?_
    rintro x w2 ⟨rfl, hx2⟩
    go_wp2
    go_ret
    exact ⟨rfl, (by repeat (first | with_reducible exact Ext.refl _ | with_reducible assumption | with_reducible refine Ext.alloc ?_ _ | with_reducible refine Ext.drew ?_ | (with_reducible refine Ext.setCell ?_ (by first | exact Nat.le_refl _ | (dsimp only; omega) | (simp; done) | (simp; omega)) _) | with_reducible refine Ext.trans ?_ (by with_reducible assumption)))⟩
  · have hv2 : m.tmod 5 = m % 5 := Int.tmod_eq_emod_of_nonneg hm0
    have hv3 : IntKind.u8.wrap (m % 5) = m % 5 := by simp [IntKind.wrap, IntKind.signed, IntKind.bits]; omega
    have hm5 : 0 ≤ m % 5 ∧ m % 5 < 5 := by omega
    obtain ⟨hm50, hm51⟩ := hm5
    go_wp2_with fail
    generalize hN : 1 + m % 5 = N at *
    have hN1 : 1 ≤ N := by omega
    have hN5 : N ≤ 5 := by omega
    clear hN hm50 hm51 hv2 hv3
    refine (table_New N _ (by omega) (by omega)).mono ?_
    rintro x w2 ⟨rfl, ht2, hx2⟩
    have hmo : mostOf N = N := by unfold mostOf; omega
    rw [hmo] at ht2
    obtain ⟨n, rfl⟩ : ∃ n : Nat, N = (n : Int) := ⟨N.toNat, by omega⟩
    have HT := Lib.hid ht2
    have HV2 := Lib.hid (HV.out.ext hx1)
    obtain ⟨⟨va, vc, rfl, hl⟩, hlen, heach⟩ := HV2.out
    unfold maxLen at hlen
    have HL := Lib.hid hl
    have HE := Lib.hid heach
    have HX := Lib.hid hx2
    clear hl heach HV HV2 ht2 hx2 hmo
    generalize hm1 : w1.heap.size = m1 at *
    go_wp2_with fail
    go_loopw [7] (fun j wr => ∃ (i : Nat) (lt : SMap) (ct : Nat) (clk : Int), i ≤ l.length ∧ i ≤ 40 ∧ j = .int .i64 i ∧ 0 ≤ clk ∧ clk ≤ 40 * i ∧ TabAt wr (m1 + 1) m1 n clk lt ct ∧ MostInv lt ct n clk ∧ Ext w1 wr) (fun j _ => 40 - (intOf j).toNat)
    case atStart => exact ⟨0, [], 0, 0, by omega, by omega, rfl, by omega, by omega, HT.out, MostInv.nil _ _ _, HX.out⟩
    case round =>
      obtain ⟨i, lt, ct, clk, hi1, hi2, rfl, hcl0, hcl1, hT, hM, hxr⟩ := hrel
      have HTT := Lib.hid hT
      have HM := Lib.hid hM
      have hltn := hM.len
      clear hT hM
      by_cases hi : i < l.length ∧ i < 40
      · obtain ⟨hi3, hi4⟩ := hi
        obtain ⟨bb, oo, rfl, hcc⟩ := HL.out (by intro e; rw [e] at hi3; simp at hi3)
        have hdd := HE.out l[i] (List.getElem_mem _)
        obtain ⟨d0, d1, d2, d3, d4, d5, d6⟩ := deed_cells hcc hxr i hi3
        have hbl : bb < w1.heap.size := by
          have := hcc i hi3 1 (by omega)
          exact cell_lt (v := .int .u32 l[i].wait) this
        generalize l[i] = dd at *
        have hdk0 := hdd.k0
        have hdk1 := hdd.k1
        have hdr0 := hdd.r0
        have hdr1 := hdd.r1
        have hdw0 := hdd.w0
        have hdw1 := hdd.w1
        have HD := Lib.hid (hdd.ext hxr)
        clear hcc hdd
        have hnm := nameOf_ok dd
        generalize hname : nameOf dd = name at *
        have HNAME := Lib.hid hname
        have HNM := Lib.hid hnm
        clear hname hnm
        go_wp2_with fail
        refine (law14_Name dd _ HD.out).mono ?_
        rintro x w3 ⟨rfl, hx3⟩
        rw [HNAME.out]
        replace d4 := hx3.keep d4
        clear d2 d3 d5 d6
        have hv4 : dd.rule.tmod 2 = dd.rule % 2 := Int.tmod_eq_emod_of_nonneg hdr0
        have hv5 : IntKind.u8.wrap (dd.rule % 2) = dd.rule % 2 := by simp [IntKind.wrap, IntKind.signed, IntKind.bits]; omega
        have hlo := rule_low (j := dd.rule % 2) (by omega)
        have hbo := rule_bounds (j := dd.rule % 2) (by omega) (by omega)
        generalize hp2 : rP (dd.rule % 2) = p2 at *
        generalize he2 : rE (dd.rule % 2) = e2 at *
        generalize hb2 : rB (dd.rule % 2) = b2 at *
        generalize hk2 : rK (dd.rule % 2) = k2 at *
        have HRY := Lib.hid (And.intro hp2 (And.intro he2 (And.intro hb2 hk2)))
        obtain ⟨g1, g2, g3, g4, g5, g6, g7⟩ := hbo
        obtain ⟨hr, hcap⟩ := hlo
        have HR := Lib.hid hr
        have HCAP := Lib.hid hcap
        clear hp2 he2 hb2 hk2 hr hcap
        go_wp2_with fail
        refine (law14_RuleY (dd.rule % 2) e2 b2 k2 p2 _ (by omega) (by omega) HRY).mono ?_
        rintro x w4 ⟨rfl, hx4⟩
        have br := Blk.new w4 #[.string p2, .int .u64 e2, .int .u64 b2, .int .u8 k2] 30
        have hxa : Ext wr (w4.alloc (.cells #[.string p2, .int .u64 e2, .int .u64 b2, .int .u8 k2] 30)) := (hx3.trans hx4).alloc _
        have hG : wr.heap.size ≤ w4.heap.size := (hx3.trans hx4).sz
        clear hv4 hv5
        go_upto_region 12 with fail
        generalize w4.alloc (.cells #[.string p2, .int .u64 e2, .int .u64 b2, .int .u8 k2] 30) = wa at *
        generalize w4.heap.size = G at *
        clear d4 hx3 hx4
        have HB := Lib.hid br
        clear br
        go_wp2_with fail
        refine (table_Slots (m1 + 1) m1 ct n clk lt _ (HTT.out.ext hxa) HM.out.ok hcl0 (by omega) (by omega)).mono ?_
        rintro x w5 ⟨v5, rfl, hs5, hx5⟩
        obtain ⟨sa, sc, rfl⟩ := hs5.size
        have hsl : (slotsOf clk lt).length ≤ n := Nat.le_trans (by rw [slotsOf_len]; exact actives_len clk lt) hltn
        generalize hsls : slotsOf clk lt = sl at *
        have HS5 := Lib.hid hs5
        have HSL := Lib.hid hsls
        clear hs5 hsls
        have hx5a := hxa.trans hx5
        have HB5 := Lib.hid (HB.out.ext hx5)
        clear HB
        obtain ⟨wo, rfl⟩ : ∃ wo : World, wo = wr := ⟨_, rfl⟩
        go_wp2_with fail
        go_loopw [10, 12] (fun wv jv wq => ∃ j : Nat, j ≤ sl.length ∧ jv = .int .i64 j ∧ wv = .bool (wasIn (sl.take j) name e2 b2) ∧ Ext w5 wq) (fun _ jv _ => sl.length - (intOf jv).toNat)
        case atStart => exact ⟨0, by omega, rfl, rfl, Ext.refl _⟩
        case round =>
          obtain ⟨j, hj, rfl, rfl, hxq⟩ := hrel
          by_cases hjl : j < sl.length
          · obtain ⟨bs, rfl, -, hbs, c0, c2, c3⟩ := slot_cells HS5.out hxq j hjl
            have hstep : wasIn (sl.take (j + 1)) name e2 b2 = (wasIn (sl.take j) name e2 b2 || (decide (sl[j].key = name) && decide (sl[j].e = e2) && decide (sl[j].b = b2))) := by
              unfold wasIn
              rw [List.take_succ_eq_append_getElem hjl, List.any_append]
              simp
            have heq : (sl[j].key.toList == name.toList) = decide (sl[j].key = name) := toList_beq _ _
            have b1 := (HB5.out.ext hxq).cell 1
            have b2' := (HB5.out.ext hxq).cell 2
            have hb1 : wr.cell? ⟨G, 1, none⟩ = wr.cell? ⟨G, 1, none⟩ := rfl
            generalize wasIn (sl.take j) name e2 b2 = wj at *
            generalize sl[j].key = kj at *
            generalize sl[j].e = ej at *
            generalize sl[j].b = bj at *
            have hc1 := (HB5.out.ext hxq).cell 1
            have hc2 := (HB5.out.ext hxq).cell 2
            clear b1 b2'
            have HST := Lib.hid hstep
            have HSZ := Lib.hid hj
            clear hstep
            have fin : ∀ (bo : Bool) (W : World), bo = wasIn (sl.take (j + 1)) name e2 b2 → Ext w5 W → ∃ j1 : Nat, j1 ≤ sl.length ∧ Value.int .i64 ((j : Int) + 1) = .int .i64 j1 ∧ Value.bool bo = .bool (wasIn (sl.take j1) name e2 b2) ∧ Ext w5 W := by
              intro bo W hbo hW
              exact ⟨j + 1, by omega, rfl, by rw [hbo], hW⟩
            have FIN := Lib.hid fin
            clear fin
            cases hwj : wj with
            | true =>
              subst hwj
              go_upto_region 17 with fail
              go_quiet (fail)
              go_wp2
              go_roundw
              case rel => exact FIN.out _ _ (by rw [HST.out]; simp) (hxq.trans (Ext.drewNs _ _))
              case measure => show sl.length - ((j : Int) + 1).toNat < sl.length - (j : Int).toNat; omega
            | false =>
              subst hwj
              by_cases q1 : kj = name
              · rw [decide_eq_true q1] at heq
                by_cases q2 : ej = e2
                · have he2 : (ej == e2) = true := by simp [q2]
                  subst q2
                  by_cases q3 : bj = b2
                  · subst q3
                    go_upto_region 17 with fail
                    go_quiet (fail)
                    go_wp2
                    go_roundw
                    case rel => exact FIN.out _ _ (by rw [HST.out]; simp [q1]) (hxq.trans (Ext.drewNs _ _))
                    case measure => show sl.length - ((j : Int) + 1).toNat < sl.length - (j : Int).toNat; omega
                  · have hb3 : (bj == b2) = false := by simpa using q3
                    have hb4 : decide (bj = b2) = false := by simpa using q3
                    go_upto_region 17 with fail
                    go_quiet (fail)
                    go_wp2
                    go_roundw
                    case rel => exact FIN.out _ _ (by rw [HST.out]; simp [hb4]) (hxq.trans (Ext.drewNs _ _))
                    case measure => show sl.length - ((j : Int) + 1).toNat < sl.length - (j : Int).toNat; omega
                · have he3 : (ej == e2) = false := by simpa using q2
                  have he4 : decide (ej = e2) = false := by simpa using q2
                  go_upto_region 17 with fail
                  go_quiet (fail)
                  go_wp2
                  go_roundw
                  case rel => exact FIN.out _ _ (by rw [HST.out]; simp [he4]) (hxq.trans (Ext.drewNs _ _))
                  case measure => show sl.length - ((j : Int) + 1).toNat < sl.length - (j : Int).toNat; omega
              · rw [decide_eq_false q1] at heq
                go_upto_region 17 with fail
                go_quiet (fail)
                go_wp2
                go_roundw
                case rel => exact FIN.out _ _ (by rw [HST.out]; simp [q1]) (hxq.trans (Ext.drewNs _ _))
                case measure => show sl.length - ((j : Int) + 1).toNat < sl.length - (j : Int).toNat; omega
          · rw [List.take_of_length_le (by omega)]
            generalize hwas : wasIn sl name e2 b2 = was at *
            have HWAS := Lib.hid hwas
            clear hwas
            have hxp := hx5a.trans hxq
            go_wp2_with fail
            refine (table_Active (m1 + 1) m1 ct n clk lt _ (HTT.out.ext hxp) HM.out.ok hcl0 (by omega) (by omega)).mono ?_
            rw [HSL.out]
            rintro x w6 ⟨rfl, hx6⟩
            have hxp6 := hxp.trans hx6
            have hbG := (HB5.out.ext hxq).ext hx6
            have e0 : w6.cell? ⟨G, 0, none⟩ = some (.string p2) := hbG.cell 0
            have e1 : w6.cell? ⟨G, 1, none⟩ = some (.int .u64 e2) := hbG.cell 1
            have e2' : w6.cell? ⟨G, 2, none⟩ = some (.int .u64 b2) := hbG.cell 2
            have e3 : w6.cell? ⟨G, 3, none⟩ = some (.int .u8 k2) := hbG.cell 3
            have hsz : name.size ≤ maxLen := by
              have h2 : 13 ≤ maxLen := by decide
              have h3 := HNM.out.2
              omega
            obtain ⟨code, err, lim, left, reset, aft, nan, ret, hV, hco0, hco1, hif⟩ := most_any HM.out (k := name) (p := p2) (e := e2) (b := b2) (rk := k2) (w := 1) HNM.out.1 HR.out
            rw [HSL.out, HWAS.out] at hif
            have HV1 := Lib.hid hV
            have HIF := Lib.hid hif
            clear hV hif
            go_wp2_with fail
            refine (charge_any (m1 + 1) m1 ct name p2 n clk e2 b2 k2 1 lt _ (HTT.out.ext hxp6) HM.out.ok hcl0 (by omega) hsz g7 g1 g2 g3 g4 g5 g6 (by omega) (by omega)).mono ?_
            rw [HV1.out]
            rintro x w7 ⟨rfl, ht7, hok7, hx7⟩
            have hM7 := most_charge HM.out HR.out HCAP.out (by have := HCAP.out; omega) hcl0 (by omega) hok7
            have hl7 := hM7.len
            have hm7 : (slotsOf clk (cgL n clk lt ct name p2 e2 b2 k2 1)).length ≤ n := Nat.le_trans (by rw [slotsOf_len]; exact actives_len _ _) hl7
            generalize cgL n clk lt ct name p2 e2 b2 k2 1 = lq at *
            generalize cgC n clk lt ct name p2 e2 b2 k2 1 = cq at *
            have HM7 := Lib.hid hM7
            have HT7 := Lib.hid (ht7.ext ((Ext.refl w7).alloc (.cells #[.int .u8 code, .int .u16 err, .int .u64 lim, .int .u64 left, .int .u64 reset, .int .u64 aft, .int .u64 nan, .bool ret, .int .i64 0, .slice none 0 0] 36)))
            have HB7 := Lib.hid (Blk.new w7 #[.int .u8 code, .int .u16 err, .int .u64 lim, .int .u64 left, .int .u64 reset, .int .u64 aft, .int .u64 nan, .bool ret, .int .i64 0, .slice none 0 0] 36)
            have hb7 : wo.heap.size ≤ w7.heap.size := by
              have := hxp6.sz
              have := hx7.size
              omega
            have hxw : ExtB m1 w6 (w7.alloc (.cells #[.int .u8 code, .int .u16 err, .int .u64 lim, .int .u64 left, .int .u64 reset, .int .u64 aft, .int .u64 nan, .bool ret, .int .i64 0, .slice none 0 0] 36)) := hx7.alloc _
            have hSW := (HS5.out.ext (hxq.trans hx6)).extB hxw (by have := HTT.out.map.lt; have := hxa.sz; omega)
            have HSW := Lib.hid hSW
            clear hM7 ht7 hok7 hSW hbG e0 e1 e2' e3
            go_upto_region 20 with fail
            generalize w7.alloc (.cells #[.int .u8 code, .int .u16 err, .int .u64 lim, .int .u64 left, .int .u64 reset, .int .u64 aft, .int .u64 nan, .bool ret, .int .i64 0, .slice none 0 0] 36) = wb at *
            generalize w7.heap.size = gb at *
            have hcb : ∀ s, (grown wb s).cell? ⟨gb, 0, none⟩ = some (.int .u8 code) := fun s => grown_cell (HB7.out.cell 0) s
            have hxwo : ExtB m1 wo wb := (hxp6.toB m1).trans hxw
            have hslN : (sl.length : Int) < 9223372036854775807 := by omega
            have hsq : (slotsOf clk lq).length ≤ n := hm7
            have hgt : decide ((n : Int) < ((slotsOf clk lq).length : Int)) = false := decide_eq_false (by omega)
            have HAC := Lib.hid (fun W (hx : Ext wb W) => table_Active (m1 + 1) m1 cq n clk lq W (HT7.out.ext hx) HM7.out.ok hcl0 (by omega) (by omega))
            have HHO := Lib.hid (fun W (hx : Ext wb W) => law14_holds wa.heap.size (.slice sa sl.length sc) sl name W (HSW.out.ext hx) (by omega))
            generalize (slotsOf clk lq).length = aq at *
            generalize hho : holdsK sl name = ho at *
            have HHOE := Lib.hid hho
            clear hho hm7
            go_cut [121] from 27 to 140 (fun s wq => s = .bool false ∧ Ext wb wq)
            case first =>
              rcases HIF.out with rfl | ⟨hn, hcd⟩
              · clear hsz
                have hgn : ¬ (n < aq) := by omega
                have hgm : decide (n < aq) = false := decide_eq_false hgn
                refine wp_region_grow (by kernel_rfl) (by kernel_rfl) ?_
                repeat (go_big_quiet_step (first
                      | (go_at_call 19; exact grow_call (HAC.out _ (grown_ext wb _)))
                      | (go_at_call 20; exact grow_same (HHO.out _ (grown_ext wb _)))))
                refine wpQuiet_nil ?_
                rintro _ ⟨sg, rfl⟩
                go_wp2
                go_meet
                exact ⟨rfl, grown_ext wb sg⟩
              · clear hsz
                have hgn : ¬ (n < aq) := by omega
                have hgm : decide (n < aq) = false := decide_eq_false hgn
                have hne2 : ¬ name.toList = [] := fun q => hn (toList_inj (by rw [q, ByteArray.toList_eq]))
                have hne1 : name.toList.isEmpty = false := by simpa using hne2
                have hne3 : (name.toList == []) = false := by simpa using hne2
                have hsplit : (was = true ∧ ¬ code = 3) ∨ (was = false ∧ ¬ n ≤ sl.length ∧ ¬ code = 3) ∨ (was = false ∧ n ≤ sl.length ∧ ho = true ∧ ¬ code = 3) ∨ (was = false ∧ n ≤ sl.length ∧ ho = false ∧ code = 3) := by
                  cases was <;> cases ho <;> by_cases q : n ≤ sl.length <;> simp [q] at hcd ⊢ <;> omega
                have HNE := Lib.hid hn
                clear hcd hn
                rcases hsplit with ⟨rfl, hc⟩ | ⟨rfl, q, hc⟩ | ⟨rfl, q, rfl, hc⟩ | ⟨rfl, q, rfl, rfl⟩
                · have hc1 : (code == 3) = false := by simpa using hc
                  have hc2 : decide (code = 3) = false := by simpa using hc
                  refine wp_region_grow (by kernel_rfl) (by kernel_rfl) ?_
                  repeat (go_big_quiet_step (first
                        | (go_at_call 19; exact grow_call (HAC.out _ (grown_ext wb _)))
                        | (go_at_call 20; exact grow_same (HHO.out _ (grown_ext wb _)))))
                  refine wpQuiet_nil ?_
                  rintro _ ⟨sg, rfl⟩
                  go_wp2
                  go_meet
                  exact ⟨rfl, grown_ext wb sg⟩
                · have hc1 : (code == 3) = false := by simpa using hc
                  have hc2 : decide (code = 3) = false := by simpa using hc
                  have hq2 : decide (n ≤ sl.length) = false := by simpa using q
                  refine wp_region_grow (by kernel_rfl) (by kernel_rfl) ?_
                  repeat (go_big_quiet_step (first
                        | (go_at_call 19; exact grow_call (HAC.out _ (grown_ext wb _)))
                        | (go_at_call 20; exact grow_same (HHO.out _ (grown_ext wb _)))))
                  refine wpQuiet_nil ?_
                  rintro _ ⟨sg, rfl⟩
                  go_wp2
                  go_meet
                  exact ⟨rfl, grown_ext wb sg⟩
                · have hc1 : (code == 3) = false := by simpa using hc
                  have hc2 : decide (code = 3) = false := by simpa using hc
                  refine wp_region_grow (by kernel_rfl) (by kernel_rfl) ?_
                  repeat (go_big_quiet_step (first
                        | (go_at_call 19; exact grow_call (HAC.out _ (grown_ext wb _)))
                        | (go_at_call 20; exact grow_same (HHO.out _ (grown_ext wb _)))))
                  refine wpQuiet_nil ?_
                  rintro _ ⟨sg, rfl⟩
                  go_wp2
                  go_meet
                  exact ⟨rfl, grown_ext wb sg⟩
                · refine wp_region_grow (by kernel_rfl) (by kernel_rfl) ?_
                  repeat (go_big_quiet_step (first
                        | (go_at_call 19; exact grow_call (HAC.out _ (grown_ext wb _)))
                        | (go_at_call 20; exact grow_same (HHO.out _ (grown_ext wb _)))))
                  refine wpQuiet_nil ?_
                  rintro _ ⟨sg, rfl⟩
                  go_wp2
                  go_meet
                  exact ⟨rfl, grown_ext wb sg⟩
            case rest =>
              obtain ⟨rfl, hxc⟩ := hcut
              have HT8 := Lib.hid (HT7.out.ext hxc)
              have hxo : ExtB m1 wo wc := hxwo.trans (hxc.toB m1)
              have hm1b : m1 < wo.heap.size := HTT.out.map.lt
              have hxf : Ext w1 wc := hxr.own hxo (by omega)
              have f0 : wc.cell? ⟨bb, oo + i * 7, none⟩ = some (.int .u8 dd.kind) := hxo.keep d0 (by dsimp only; omega)
              have f1 : wc.cell? ⟨bb, oo + i * 7 + 1, none⟩ = some (.int .u32 dd.wait) := hxo.keep d1 (by dsimp only; omega)
              clear d0 d1 hcb hgt hslN
              by_cases hk : dd.kind % 4 = 0
              · have hv6 : dd.wait.tmod 40 = dd.wait % 40 := Int.tmod_eq_emod_of_nonneg hdw0
                have hv7 : IntKind.u64.wrap (dd.wait % 40) = dd.wait % 40 := by rw [wrap_u64]; omega
                have hv8 : IntKind.u64.wrap (clk + dd.wait % 40) = clk + dd.wait % 40 := by rw [wrap_u64]; omega
                have hmx : max clk (clk + dd.wait % 40) = clk + dd.wait % 40 := by omega
                go_upto_region 23 with fail
                go_region_held3 (fun w' => w'.cell? ⟨bb, oo + i * 7 + 1, none⟩ = some (.int .u32 dd.wait))
                  (first | exact f1)
                  (first
                    | (go_at_call 15; (with_reducible refine (table_Clock (m1 + 1) m1 cq n clk lq _ (HT8.out.ext ((Ext.refl _).drew)) hcl0 (by omega)).mono ?_); rintro x w8 ⟨rfl, ht8, hx8⟩; have f1 := hx8.keep f1 (by dsimp only; omega))
                    | (go_at_call 14; (with_reducible refine (table_Tick (m1 + 1) m1 cq n clk (clk + dd.wait % 40) lq _ ht8 hcl0 (by omega) (by omega) (by omega)).mono ?_); rw [hmx]; rintro x w9 ⟨rfl, ht9, hx9⟩; have f1 := hx9.keep f1 (by dsimp only; omega)))
                have hA9 : ExtB (m1 + 1) wc w9 := ((((Ext.refl _).drew).toB _).trans hx8).trans hx9
                clear hx8 hx9 ht8
                go_wp2
                go_roundw
                case rel => exact ⟨i + 1, lq, cq, clk + dd.wait % 40, by omega, by omega, by go_num, by omega, by omega, ht9, HM7.out.later (by omega), hxf.own hA9 (by omega)⟩
                case measure => simp [intOf]; omega
              · have hk' : (dd.kind % 4 == 0) = false := by simpa using hk
                go_wp2
                go_roundw
                case rel => exact ⟨i + 1, lq, cq, clk, by omega, by omega, by go_num, by omega, by omega, HT8.out, HM7.out, hxf⟩
                case measure => simp [intOf]; omega
      · rcases (by omega : ¬ i < l.length ∨ (i < l.length ∧ ¬ i < 40)) with hi3 | ⟨hi3, hi4⟩
        all_goals
          have hm1b : m1 < wr.heap.size := HTT.out.map.lt
          have hv8 : IntKind.u64.wrap (clk + 1000000) = clk + 1000000 := by rw [wrap_u64]; omega
          have hmx : max clk (clk + 1000000) = clk + 1000000 := by omega
          have hdr := most_drained HM.out hcl0 (by omega)
          have HM9 := HM.out.later (now := clk + 1000000) (by omega)
          have hrl := rule_low (j := 0) (Or.inl rfl)
          have hbo := rule_bounds (j := 0) (by omega) (by omega)
          generalize hp2 : rP 0 = p2 at *
          generalize he2 : rE 0 = e2 at *
          generalize hb2 : rB 0 = b2 at *
          generalize hk2 : rK 0 = k2 at *
          have HRY := Lib.hid (And.intro hp2 (And.intro he2 (And.intro hb2 hk2)))
          obtain ⟨g1, g2, g3, g4, g5, g6, g7⟩ := hbo
          obtain ⟨hr, hcap⟩ := hrl
          obtain ⟨err, lim, left, reset, aft, nan, ret, hV⟩ := most_new HM9 (k := ⟨#[110, 101, 119]⟩) (by decide) hr hdr (by omega) (by omega) (by omega)
          have HV1 := Lib.hid (show cgV n (clk + 1000000) lt ⟨#[110, 101, 119]⟩ p2 e2 b2 k2 1 = .agg #[.int .u8 1, .int .u16 err, .int .u64 lim, .int .u64 left, .int .u64 reset, .int .u64 aft, .int .u64 nan, .bool ret, .int .i64 0, .slice none 0 0] from hV)
          have hfld := fun W => ans_code W (.int .u8 1) (.int .u16 err) (.int .u64 lim) (.int .u64 left) (.int .u64 reset) (.int .u64 aft) (.int .u64 nan) (.bool ret) (.int .i64 0) (.slice none 0 0)
          have HDR := Lib.hid hdr
          have HM9' := Lib.hid HM9
          clear hp2 he2 hb2 hk2 hr hcap hV hdr HM9
          go_wp2_with fail
          refine (table_Clock (m1 + 1) m1 ct n clk lt _ HTT.out hcl0 (by omega)).mono ?_
          rintro x w5 ⟨rfl, ht5, hx5⟩
          go_wp2_with fail
          refine (table_Tick (m1 + 1) m1 ct n clk (clk + 1000000) lt _ ht5 hcl0 (by omega) (by omega) (by omega)).mono ?_
          rw [hmx]
          rintro x w6 ⟨rfl, ht6, hx6⟩
          have HT6 := Lib.hid ht6
          have hxe : ExtB (m1 + 1) wr w6 := hx5.trans hx6
          clear ht5 ht6 hx5 hx6
          go_wp2_with fail
          refine (law14_known _).mono ?_
          rintro x w7 ⟨rfl, hx7⟩
          go_wp2_with fail
          refine (table_Active (m1 + 1) m1 ct n (clk + 1000000) lt _ (HT6.out.ext hx7) HM9'.out.ok (by omega) (by omega) (by omega)).mono ?_
          rw [HDR.out]
          rintro x w8 ⟨rfl, hx8⟩
          go_wp2_with fail
          refine (table_Slots (m1 + 1) m1 ct n (clk + 1000000) lt _ ((HT6.out.ext hx7).ext hx8) HM9'.out.ok (by omega) (by omega) (by omega)).mono ?_
          rw [HDR.out]
          rintro x w9 ⟨v9, rfl, hs9, hx9⟩
          obtain rfl := hs9.nil.2 rfl
          clear hs9
          go_wp2_with fail
          refine (law14_RuleY 0 e2 b2 k2 p2 _ (by omega) (by omega) HRY).mono ?_
          rintro x w10 ⟨rfl, hx10⟩
          go_wp2_with fail
          refine (charge_any (m1 + 1) m1 ct ⟨#[110, 101, 119]⟩ p2 n (clk + 1000000) e2 b2 k2 1 lt _ ((((HT6.out.ext hx7).ext hx8).ext hx9).ext hx10) HM9'.out.ok (by omega) (by omega) (by decide) g7 g1 g2 g3 g4 g5 g6 (by omega) (by omega)).mono ?_
          rw [HV1.out]
          rintro x w11 ⟨rfl, -, -, hx11⟩
          have hend : Ext w1 w11 := ((((((hxr.own hxe (by omega)).trans hx7).trans hx8).trans hx9).trans hx10).own hx11 (by omega))
          go_wp2
          go_ret
          exact ⟨rfl, hx1.trans hend⟩
end Go.Proofs.Ytnlmbmbalmkiiaa
