/- Walk: tollerlaw17.EnterLate. -/
import Derived.Test.YtknlojlcahgnoaaGreatG50
import Derived.Test.YtknlojlcahgnoaaGreatG51
import Derived.Test.YtknlojlcahgnoaaGreatG52

/- Walk: tollerlaw17.EnterLate. -/
namespace Go.Proofs.YtknlojlcahgnoaaGreat
open Go.RowKit
set_option linter.unusedVariables false
set_option linter.unusedSimpArgs false

theorem ents_row {base : Nat} {w : World} {v : Value} {l : List Ent} (h : EntRow base w v l) : EntsAt w v l := by
  obtain ⟨a, c, hv⟩ := h.size
  refine ⟨a, c, hv, fun hl => ?_⟩
  obtain ⟨b, c', hv', -, -, -⟩ := RowOf.cells (enc := Ent.cells) (k := 2) Ent.size2 h 0 (List.length_pos_iff.2 hl)
  rw [hv] at hv'
  cases hv'
  refine ⟨b, 0, rfl, fun j hj i hi => ?_⟩
  obtain ⟨b', c', hv', -, -, hq⟩ := RowOf.cells (enc := Ent.cells) (k := 2) Ent.size2 h j hj
  rw [hv] at hv'
  cases hv'
  rw [Nat.zero_add]
  exact hq i hi
set_option maxHeartbeats 4000000 in
set_option maxRecDepth 100000 in
theorem law17_EnterLate (n : Int) (xv : Value) (xl : List Nms) (cv : Value) (ks : List (List UInt8)) (clk d : Int) (fv : Value) (far : List Int) (w : World) (hn0 : 0 ≤ n) (hn1 : n < 65536) (hx : NmsSlice w xv xl) (hk : BytesSl w cv ks) (hc0 : 0 ≤ clk) (hc1 : clk < 18446744073709551616) (hd0 : 0 ≤ d) (hd1 : d < 65536) (hf : FarSl w fv far) :
    Calls Tryz.prog 8 #[.int .u16 n, xv, cv, .int .u64 clk, .int .u16 d, fv] w fun x w' => x = .returned (.bool true) ∧ Ext w w' := by
  have HXS := Lib.hid hx
  have HKS := Lib.hid hk
  have HFS := Lib.hid hf
  obtain ⟨⟨ca, cc, rfl, hl⟩, hlen⟩ := hk
  unfold maxLen at hlen
  have HL := Lib.hid hl
  clear hx hf hl
  go_enter Tryz.func8, Tryz.ntmps8
  go_wp2
  go_loopw [13, 14] (fun t i wr => ∃ (k : Nat) (T : Int), k ≤ ks.length ∧ i = .int .i64 k ∧ t = .int .i64 T ∧ Ext w wr) (fun _ i _ => ks.length - (intOf i).toNat)
  case atStart => exact ⟨0, 0, by omega, rfl, rfl, Ext.refl _⟩
  case round =>
    obtain ⟨k, T, hkk, rfl, rfl, hxr⟩ := hrel
    by_cases hlt : k < ks.length ∧ T ≤ 300
    · obtain ⟨hl1, hl2⟩ := hlt
      obtain ⟨b, oo, rfl, hcc⟩ := HL.out (by intro e; rw [e] at hl1; simp at hl1)
      obtain ⟨kv, hq0, hbs⟩ := hcc k hl1
      have d0 := hxr.keep hq0
      have hbl := hbs.len
      unfold maxLen at hbl
      obtain ⟨ka, kc, hkv, -⟩ := hbs.form
      subst hkv
      clear hcc hq0 hbs
      generalize ks[k].length = kn at *
      generalize hob : oo + k = ob at *
      have hk1 : (k : Int) < (ks.length : Int) := by omega
      go_wp2
      go_roundw
      case rel => exact ⟨k + 1, _, by omega, by go_num, rfl, hxr⟩
      case measure => simp [intOf]; omega
    · by_cases hl1 : k < ks.length
      · have h3 : 300 < T := by omega
        have hk1 : (k : Int) < (ks.length : Int) := by omega
        have hk2 : decide (T ≤ 300) = false := by simp; omega
        clear hlt
        go_wp2_with fail
        refine (law17_known wr).mono ?_
        rintro x w1 ⟨rfl, hx1⟩
        go_wp2
        go_ret
        exact ⟨rfl, hxr.trans hx1⟩
      · have hk1 : ¬ (k : Int) < (ks.length : Int) := by omega
        clear hlt
        by_cases h3 : 300 < T
        · go_wp2_with fail
          refine (law17_known wr).mono ?_
          rintro x w1 ⟨rfl, hx1⟩
          go_wp2
          go_ret
          exact ⟨rfl, hxr.trans hx1⟩
        · have HPO := Lib.hid (law12_Policy n xv xl wr hn0 hn1 (HXS.out.ext hxr))
          have hco : 0 ≤ clk / 4 ∧ clk / 4 < 4611686018427387904 := by omega
          have HSN := Lib.hid (fun (V : World) (e : Ext wr V) => law16_Snap (clk / 4) (.slice ca ks.length cc) ks fv far V hco.1 hco.2 (HKS.out.ext (hxr.trans e)) (HFS.out.ext (hxr.trans e)))
          obtain ⟨c, hc⟩ : ∃ c, clk / 4 = c := ⟨_, rfl⟩
          rw [hc] at hco HSN
          have HXR := Lib.hid hxr
          clear hxr
          go_wp2_with fail
          refine HPO.out.mono ?_
          rintro x w1 ⟨rv, rfl, hrow, hx1⟩
          have hpl := polTo_len n (xl.take 12)
          rw [List.length_take] at hpl
          have hpl2 : (polRs n xl).length ≤ 13 := by unfold polRs; omega
          have hpo : ∀ r ∈ polRs n xl, RlOk r := polTo_ok hn0 (w := w) (xl.take 12) (fun q hq => HXS.out.each q (List.mem_of_mem_take hq))
          obtain ⟨ra, rc, hrv⟩ := hrow.size
          subst hrv
          generalize polRs n xl = rs at *
          have HRU := Lib.hid (rules_row hrow)
          have HPK := Lib.hid hpo
          clear hrow hpo hpl HPO
          go_upto_region 9 with fail
          have bP := Blk.new w1 #[.int .i64 (1 + n % 50), .slice ra rs.length rc] 28
          have e2 : Ext wr (w1.alloc (.cells #[.int .i64 (1 + n % 50), .slice ra rs.length rc] 28)) := hx1.alloc _
          have r2 : RulesAt (w1.alloc (.cells #[.int .i64 (1 + n % 50), .slice ra rs.length rc] 28)) (.slice ra rs.length rc) rs := HRU.out.ext Rl.size4 ((Ext.refl w1).alloc _)
          generalize w1.alloc (.cells #[.int .i64 (1 + n % 50), .slice ra rs.length rc] 28) = w2 at *
          generalize w1.heap.size = p1 at *
          have HE2 := Lib.hid e2
          have HR2 := Lib.hid r2
          have HB2 := Lib.hid bP
          clear e2 r2 bP HRU hx1
          go_wp2_with fail
          refine (HSN.out _ HE2.out).mono ?_
          rintro x w3 ⟨ev, es, rfl, hes, hso, hx3⟩
          obtain ⟨ea, ec, hev⟩ := hes.size
          subst hev
          have HEV := Lib.hid (ents_row hes)
          have HER := Lib.hid hes
          have hel : es.length ≤ 10 := hso.1
          have HSO := Lib.hid hso
          clear hes hso
          have HB3 := Lib.hid (HB2.out.ext hx3)
          have c3 := HB3.out.cell
          go_upto_region 10 with fail
          have b4 := Blk.new w3 #[.int .u64 c, .slice ea es.length ec] 52
          have e4 : Ext w3 (w3.alloc (.cells #[.int .u64 c, .slice ea es.length ec] 52)) := (Ext.refl w3).alloc _
          generalize w3.alloc (.cells #[.int .u64 c, .slice ea es.length ec] 52) = w4 at *
          generalize w3.heap.size = p3 at *
          have HE4 := Lib.hid ((HE2.out.trans hx3).trans e4)
          have HB4 := Lib.hid b4
          have HP4 := Lib.hid (HB3.out.ext e4)
          have HV4 := Lib.hid (HEV.out.ext Ent.size2 e4)
          have HR4 := Lib.hid (HR2.out.ext Rl.size4 (hx3.trans e4))
          have cP := HP4.out.cell
          have cS := HB4.out.cell
          have HRI := Lib.hid (enter_Right (1 + n % 50) (.slice ra rs.length rc) rs c (.slice ea es.length ec) es w4 (by omega) (by omega) HR4.out HPK.out (by omega) hco.1 (by omega) HV4.out HSO.out.2 (by omega))
          clear b4 e4 c3 hx3
          go_wp2_with fail
          refine HRI.out.mono ?_
          rintro x w5 ⟨rfl, hx5⟩
          have HX5 := Lib.hid (HE4.out.trans hx5)
          have HP5 := Lib.hid (HP4.out.ext hx5)
          have HB5 := Lib.hid (HB4.out.ext hx5)
          have HV5 := Lib.hid (HV4.out.ext Ent.size2 hx5)
          have HR5 := Lib.hid (HR4.out.ext Rl.size4 hx5)
          clear hx5 cP cS HRI HP4 HB4 HV4 HR4
          obtain ⟨E, hE⟩ : ∃ E, entRight (1 + n % 50) c rs es = E := ⟨_, rfl⟩
          rw [hE]
          by_cases hE0 : E = 0
          · subst hE0
            obtain ⟨hof, hents⟩ := ent_table (now := c + d) HPK.out HSO.out.2 hE hco.1 (by omega) (by omega)
            have HOFE := Lib.hid hof
            have HENTS := Lib.hid hents
            have HEQ := Lib.hid hE
            clear hof hents hE
            have cP := HP5.out.cell
            have cS := HB5.out.cell
            have k1 : IntKind.u64.wrap d = d := wrap_u (by omega) (by omega)
            have k2 : IntKind.u64.wrap (c + d) = c + d := wrap_u (by omega) (by omega)
            have HEN := Lib.hid (enter_Enter (1 + n % 50) (.slice ra rs.length rc) rs (c + d) c (.slice ea es.length ec) es w5 (by omega) (by omega) HR5.out HPK.out (by omega) (by omega) (by omega) hco.1 (by omega) HV5.out HSO.out.2 (by omega))
            go_upto_region 13 with fail
            go_wp2_with fail
            refine HEN.out.mono ?_
            rintro x w6 hx6
            rcases hx6 with ⟨h0, -⟩ | ⟨-, hof6⟩
            · exact absurd HEQ.out h0
            · rw [show max (c + d) c = c + d by omega] at hof6
              obtain ⟨p, hxv, hx6, hcase⟩ := hof6
              rw [HOFE.out] at hxv hcase
              rcases hcase with ⟨-, t, m, rfl, ht0, hm0, hT⟩ | ⟨h0, -⟩
              rotate_left
              · exact absurd rfl h0
              subst hxv
              have HX6 := Lib.hid (HX5.out.trans hx6)
              have HT6 := Lib.hid hT
              have HB6 := Lib.hid (HB5.out.ext hx6)
              have HV6 := Lib.hid (HV5.out.ext Ent.size2 hx6)
              clear hx6 hT ht0 hm0 cP cS HEN
              go_wp2_with fail
              refine (table_ClockX t m _ (1 + n % 50) (c + d) _ w6 HT6.out (by omega) (by omega)).mono ?_
              rintro x w7 ⟨rfl, hx7⟩
              have HX7 := Lib.hid (HX6.out.trans hx7)
              have HT7 := Lib.hid (HT6.out.ext hx7)
              have HB7 := Lib.hid (HB6.out.ext hx7)
              have HV7 := Lib.hid (HV6.out.ext Ent.size2 hx7)
              clear hx7 HT6 HB6 HV6
              go_wp2_with fail
              go_loopw [20, 21] (fun o i wr => ∃ (j : Nat), j ≤ es.length ∧ i = .int .i64 j ∧ EntRow w7.heap.size wr o ((es.take j).filter (actE (c + d))) ∧ Ext w7 wr) (fun _ i _ => es.length - (intOf i).toNat)
              case atStart => exact ⟨0, by omega, rfl, RowOf.empty _ _ _ _ _, Ext.refl _⟩
              case round =>
                obtain ⟨j, hj, rfl, hrow, hxj⟩ := hrel
                have cS := (HB7.out.ext hxj).cell
                have hqj : ((es.take j).filter (actE (c + d))).length ≤ 10 := Nat.le_trans (List.length_filter_le _ _) (by rw [List.length_take]; omega)
                have HROW := Lib.hid hrow
                obtain ⟨oa, oc, hov⟩ := hrow.size
                subst hov
                clear hrow
                by_cases hlt : j < es.length
                · obtain ⟨b, o, rfl, hbl, hce⟩ := (HV7.out.ext Ent.size2 hxj).cells Ent.size2 (by decide) j hlt
                  have g0 : wr.cell? ⟨b, o + j * 2, none⟩ = some (.string es[j].key) := hce 0 (by omega)
                  have g1 : wr.cell? ⟨b, o + j * 2 + 1, none⟩ = some (.int .u64 es[j].till) := hce 1 (by omega)
                  have htk : (es.take (j + 1)).filter (actE (c + d)) = (es.take j).filter (actE (c + d)) ++ (if c + d < es[j].till then [es[j]] else []) := by
                    rw [List.take_succ_eq_append_getElem hlt, List.filter_append]
                    congr 1
                    by_cases q : c + d < es[j].till <;> simp [actE, q]
                  by_cases hpos : c + d < es[j].till
                  · rw [if_pos hpos] at htk
                    have htk2 : (es.take (j + 1)).filter (actE (c + d)) = (es.take j).filter (actE (c + d)) ++ [⟨es[j].key, es[j].till⟩] := htk
                    have HTK := Lib.hid htk2
                    clear htk htk2 hce
                    generalize es[j].till = tl at *
                    generalize es[j].key = ky at *
                    generalize (es.take j).filter (actE (c + d)) = qs at *
                    have hz7 := hxj.sz
                    have hml : (100 : Nat) ≤ maxLen := by decide
                    obtain ⟨i0, hi, hz0, hz1, hz2⟩ := info_parts entry_infoR
                    have HI := Lib.hid (And.intro hi (And.intro hz0 (And.intro hz1 hz2)))
                    have HXJ := Lib.hid hxj
                    clear hi hz0 hz1 hz2 hxj
                    go_wp2_with (first
                      | (at_builtin; refine wpList_append_own _ rfl (.tmp 95) (.tmp 101) 50 rfl w7.heap.size 80 i0 (.agg #[.string ⟨#[]⟩, .int .u64 0]) 2 24 Tryz.underlying50 HI.out.1 HI.out.2.1 HI.out.2.2.1 HI.out.2.2.2 rfl (by decide) _ _ _ rfl (HROW.out.own.alloc _) ⟨wr.heap.size, 0, none⟩ 1 1 [.string ky, .int .u64 tl] rfl rfl (blk_news (C := #[.string ky, .int .u64 tl]) (Blk.new _ _ _)) (by simp [Value.oneCell']) (by omega) (by omega) (by simp; omega) ?_; rintro v8 w8 hown8 hgrow8 -; have hx8 : Ext w7 w8 := Ext.grownAt (HXJ.out.alloc _) (HROW.out.own.alloc _) (Nat.le_refl _) hgrow8; obtain ⟨g8, cap8, rfl⟩ := ownsRow_succ hown8)
                      | fail)
                    go_roundw
                    case rel => exact ⟨j + 1, by omega, by go_num, by rw [HTK.out]; exact RowOf.mk' hown8 (by simp) (by simp [flatE, Ent.cells]) (by simp), hx8⟩
                    case measure => simp [intOf]; omega
                  · rw [if_neg hpos, List.append_nil] at htk
                    have HTK := Lib.hid htk
                    clear htk hce
                    generalize es[j].till = tl at *
                    generalize es[j].key = ky at *
                    go_wp2
                    go_roundw
                    case rel => exact ⟨j + 1, by omega, by go_num, by rw [HTK.out]; exact HROW.out, hxj⟩
                    case measure => simp [intOf]; omega
                · have hjl : j = es.length := by omega
                  subst hjl
                  have hrowF := HROW.out
                  rw [List.take_length] at hrowF
                  have HSE := Lib.hid (entSlots_ok (now := c + d) (by omega) (by omega) HPK.out HSO.out.2)
                  have hl1 := putTo_len (entSlots (c + d) rs es)
                  have hl2 : (entSlots (c + d) rs es).length ≤ es.length := by
                    unfold entSlots
                    rw [List.length_map]
                    exact List.length_filter_le _ _
                  have HWF := Lib.hid hrowF
                  have HXJ := Lib.hid hxj
                  clear hrowF hxj
                  have hkn := law17_known wr
                  have hte : ∀ V, Ext w7 V → Calls Tryz.prog 32 #[.pointer (some ⟨t, 0, none⟩)] V fun x w' => ∃ v, x = .returned v ∧ EntSlice V.heap.size w' v (es.filter (actE (c + d))) ∧ Ext V w' := fun V e => by
                    have h := table_Entries t m _ (1 + n % 50) (c + d) _ V (HT7.out.ext e) (putTo_ok _ HSE.out) (by omega) (by omega) (by omega)
                    rwa [HENTS.out] at h
                  have HTE := Lib.hid hte
                  have HKN := Lib.hid hkn
                  clear hte hkn
                  rw [List.take_length] at *
                  go_wp2_with fail
                  refine HKN.out.mono ?_
                  rintro x w8 ⟨rfl, hx8⟩
                  go_wp2_with fail
                  refine (HTE.out _ (HXJ.out.trans hx8)).mono ?_
                  rintro x w9 ⟨v9, rfl, hs9, hx9⟩
                  go_wp2_with fail
                  refine (ref14_Entry_yes _ _ v9 _ _ w9 hs9 (HWF.out.ext (hx8.trans hx9))).mono ?_
                  rintro x w10 ⟨rfl, hx10⟩
                  go_wp2
                  go_ret
                  exact ⟨rfl, HXR.out.trans (HX7.out.trans (HXJ.out.trans (hx8.trans (hx9.trans hx10))))⟩
          · have hE1 : (E != 0) = true := by simpa using hE0
            go_wp2_with fail
            refine (law17_known w5).mono ?_
            rintro x w6 ⟨rfl, hx6⟩
            go_wp2
            go_ret
            exact ⟨rfl, HXR.out.trans (HX5.out.trans hx6)⟩
end Go.Proofs.YtknlojlcahgnoaaGreat
