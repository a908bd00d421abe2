/- Walk: tollerlaw17.EnterAsks. -/
import Derived.Test.YtknlojlcahgnoaaGreatEa58
import Derived.Test.YtknlojlcahgnoaaGreatEa57
import Derived.Test.YtknlojlcahgnoaaGreatEa38
import Derived.Test.YtknlojlcahgnoaaGreatEa41
import Derived.Test.YtknlojlcahgnoaaGreatEa59

namespace Go.Proofs.YtknlojlcahgnoaaGreat
open Go.RowKit
set_option linter.unusedVariables false
set_option linter.unusedSimpArgs false

set_option maxHeartbeats 4000000 in
set_option maxRecDepth 100000 in
theorem law17_EnterAsks (pm : Int) (pv : Value) (pl : List Rl) (cl : Int) (sm : Int) (sv : Value) (sl : List Ent) (now : Int) (cv : Value) (ks : List (List UInt8)) (fv : Value) (far : List Int) (q : Int) (rv : Value) (rl : List UInt8) (n : Int) (xv : Value) (xl : List Nms) (w : World)
    (hp0 : -9223372036854775808 ≤ pm) (hp1 : pm ≤ 9223372036854775807) (hp2 : RulesAt w pv pl) (hp3 : ∀ q ∈ pl, RlOk q) (hp4 : pl.length ≤ 140737488355328) (hl0 : 0 ≤ cl) (hl1 : cl < 18446744073709551616)
    (hs0 : 0 ≤ sm) (hs1 : sm < 18446744073709551616) (hs2 : EntsAt w sv sl) (hs3 : ∀ q ∈ sl, EntOk q) (hs4 : sl.length ≤ 140737488355328) (hc0 : 0 ≤ now) (hc1 : now < 18446744073709551616)
    (hk : BytesSl w cv ks) (hf : FarSl w fv far) (hq0 : 0 ≤ q) (hq1 : q < 256) (hr : ByteSlice w rv rl) (hn0 : 0 ≤ n) (hn1 : n < 65536) (hx : NmsSlice w xv xl) :
    Calls Tryz.prog 6 #[.agg #[.int .i64 pm, pv], .int .u64 cl, .agg #[.int .u64 sm, sv], .int .u64 now, cv, fv, .int .u8 q, rv, .int .u16 n, xv] w fun x w' => x = .returned (.bool true) ∧ Ext w w' := by
  obtain ⟨pa, pc, rfl⟩ := hp2.size
  obtain ⟨sa, sc, rfl⟩ := hs2.size
  obtain ⟨⟨ra, rc, rfl, -⟩, -⟩ := id hr
  obtain ⟨⟨xa, xc, rfl, -⟩, -, -⟩ := id hx
  have HKS := Lib.hid hk
  have HFS := Lib.hid hf
  have HXS := Lib.hid hx
  have HRS := Lib.hid hr
  obtain ⟨⟨ca, cc, rfl, hl⟩, hlen⟩ := hk
  obtain ⟨⟨fa, fc, rfl, -⟩, -, -⟩ := id hf
  unfold maxLen at hlen
  have HL := Lib.hid hl
  have HP3 := Lib.hid hp3
  have HS3 := Lib.hid hs3
  have HPV := Lib.hid hp2
  have HSV := Lib.hid hs2
  have x0 : Ext w ((w.alloc (.cells #[.int .i64 pm, .slice pa pl.length pc] 28)).alloc (.cells #[.int .u64 sm, .slice sa sl.length sc] 52)) := ((Ext.refl w).alloc _).alloc _
  have bP := (Blk.new w #[.int .i64 pm, .slice pa pl.length pc] 28).alloc (.cells #[.int .u64 sm, .slice sa sl.length sc] 52)
  have bS := Blk.new' (w.alloc (.cells #[.int .i64 pm, .slice pa pl.length pc] 28)) #[.int .u64 sm, .slice sa sl.length sc] 52 (b := w.heap.size + 1) (by simp)
  have HKN := Lib.hid (fun W => law17_known W)
  obtain ⟨T0, hT0⟩ : ∃ T0 : Int, (sl.length : Int) + (pl.length : Int) = T0 := ⟨_, rfl⟩
  have hTw : IntKind.i64.wrap T0 = T0 := by simp [IntKind.wrap, IntKind.signed, IntKind.bits]; omega
  clear hf hx hr hl hp2 hp3 hs2 hs3
  go_enter Tryz.func6, Tryz.ntmps6
  go_upto_region 1 with fail
  generalize (w.alloc (.cells #[.int .i64 pm, .slice pa pl.length pc] 28)).alloc (.cells #[.int .u64 sm, .slice sa sl.length sc] 52) = w0 at *
  have cP := bP.cell
  have cS := bS.cell
  have HX0 := Lib.hid x0
  have HBP := Lib.hid bP
  have HBS := Lib.hid bS
  clear bP bS x0
  go_upto_region 2 with fail
  go_wp2_with fail
  clear cP cS
  go_loopw [21, 22] (fun t i wr => ∃ (k : Nat) (T : Int), k ≤ ks.length ∧ i = .int .i64 k ∧ t = .int .i64 T ∧ (T0 ≤ 300 ∨ T = T0) ∧ Ext w0 wr) (fun _ i _ => ks.length - (intOf i).toNat)
  case atStart => exact ⟨0, T0, by omega, rfl, rfl, Or.inr rfl, Ext.refl _⟩
  case round =>
    obtain ⟨k, T, hkk, rfl, rfl, hTT, hxr⟩ := hrel
    have HTT := Lib.hid hTT
    clear hTT
    by_cases hlt : k < ks.length ∧ T ≤ 300
    · obtain ⟨hl1', hl2⟩ := hlt
      have hT3 : T0 ≤ 300 := by have := HTT.out; omega
      obtain ⟨b, oo, rfl, hcc⟩ := HL.out (by intro e; rw [e] at hl1'; simp at hl1')
      obtain ⟨kv, hq0', hbs⟩ := hcc k hl1'
      have d0 := (HX0.out.trans hxr).keep hq0'
      have hbl := hbs.len
      unfold maxLen at hbl
      obtain ⟨ka, kc, hkv, -⟩ := hbs.form
      subst hkv
      clear hcc hq0' hbs
      generalize ks[k].length = kn at *
      generalize hob : oo + k = ob at *
      have hk1 : (k : Int) < (ks.length : Int) := by omega
      have HT3 := Lib.hid hT3
      clear hT3 hT0
      go_wp2
      go_roundw
      case rel => exact ⟨k + 1, _, by omega, by go_num, rfl, Or.inl HT3.out, hxr⟩
      case measure => simp [intOf]; omega
    · have HXR := Lib.hid hxr
      have hend : ¬ ((k : Int) < (ks.length : Int)) ∨ 300 < T := by omega
      have HEND := Lib.hid hend
      by_cases h3 : 300 < T
      · have hk2 : decide (T ≤ 300) = false := by simp; omega
        clear hlt hxr hend hT0
        by_cases hkl : (k : Int) < (ks.length : Int)
        · go_wp2_with fail
          refine (HKN.out _).mono ?_
          rintro x w1 ⟨rfl, hx1⟩
          go_wp2
          go_ret
          exact ⟨rfl, HX0.out.trans (HXR.out.trans hx1)⟩
        · go_wp2_with fail
          refine (HKN.out _).mono ?_
          rintro x w1 ⟨rfl, hx1⟩
          go_wp2
          go_ret
          exact ⟨rfl, HX0.out.trans (HXR.out.trans hx1)⟩
      · have hkl : ¬ (k : Int) < (ks.length : Int) := by omega
        have hT3 : T0 ≤ 300 := by have := HTT.out; omega
        have hpl : pl.length ≤ 300 := by omega
        have hsl : sl.length ≤ 300 := by omega
        clear hlt hxr hend hT0 hTw hT3
        by_cases h20 : (20 : Int) < (ks.length : Int)
        · go_wp2_with fail
          refine (HKN.out _).mono ?_
          rintro x w1 ⟨rfl, hx1⟩
          go_wp2
          go_ret
          exact ⟨rfl, HX0.out.trans (HXR.out.trans hx1)⟩
        · go_wp2_with fail
          refine (HKN.out _).mono ?_
          rintro x w1 ⟨rfl, hx1⟩
          have HX1 := Lib.hid (HX0.out.trans (HXR.out.trans hx1))
          have HA1 := Lib.hid (HXR.out.trans hx1)
          clear hx1
          have hco : 0 ≤ now / 4 ∧ now / 4 < 4611686018427387904 := by omega
          have hc8 : 0 ≤ now / 8 ∧ now / 8 < 4611686018427387904 := by omega
          have HSN := Lib.hid (fun (V : World) (e : Ext w V) => law16_Snap (now / 4) _ ks _ far V hco.1 hco.2 (HKS.out.ext e) (HFS.out.ext e))
          have HRU := Lib.hid (fun (V : World) (e : Ext w V) => law15_Rules q _ rl V hq0 hq1 (HRS.out.ext e))
          have HPO := Lib.hid (fun (V : World) (e : Ext w V) => law12_Policy n _ xl V hn0 hn1 (HXS.out.ext e))
          have hpl0 := polTo_len n (xl.take 12)
          rw [List.length_take] at hpl0
          have hpl2 : (polRs n xl).length ≤ 13 := by unfold polRs; omega
          have hpo : ∀ r ∈ polRs n xl, RlOk r := polTo_ok hn0 (w := w) (xl.take 12) (fun q hq => HXS.out.each q (List.mem_of_mem_take hq))
          have HPK := Lib.hid hpo
          generalize polRs n xl = rs at *
          obtain ⟨most, hmost⟩ : ∃ most, 1 + n % 50 = most := ⟨_, rfl⟩
          rw [hmost] at HPO
          have hm0 : 1 ≤ most := by omega
          have hm1 : most ≤ 50 := by omega
          obtain ⟨c, hc⟩ : ∃ c, now / 4 = c := ⟨_, rfl⟩
          rw [hc] at hco HSN
          obtain ⟨c8, hc8e⟩ : ∃ c8, now / 8 = c8 := ⟨_, rfl⟩
          rw [hc8e] at hc8
          have hq5 : IntKind.u64.wrap (q * 50) = q * 50 := wrap_u (by omega) (by omega)
          have hqu : IntKind.u64.wrap q = q := wrap_u (by omega) (by omega)
          have hqs : IntKind.u64.wrap (c + q * 50) = c + q * 50 := wrap_u (by omega) (by omega)
          clear hpo hpl0 hmost
          go_wp2_with fail
          refine (HSN.out _ HX1.out).mono ?_
          rintro x w2 ⟨ev, es, rfl, hes, hso, hx2⟩
          obtain ⟨ea, ec, hev⟩ := hes.size
          subst hev
          have HEV := Lib.hid (ents_row hes)
          have hel : es.length ≤ 10 := hso.1
          have HSO := Lib.hid hso
          have HX2 := Lib.hid (HX1.out.trans hx2)
          have HA2 := Lib.hid (HA1.out.trans hx2)
          clear hes hso hx2 HSN
          go_upto_region 9 with fail
          have b3 := Blk.new w2 #[.int .u64 c, .slice ea es.length ec] 52
          have e3 : Ext w2 (w2.alloc (.cells #[.int .u64 c, .slice ea es.length ec] 52)) := (Ext.refl w2).alloc _
          generalize w2.alloc (.cells #[.int .u64 c, .slice ea es.length ec] 52) = w3 at *
          generalize w2.heap.size = p2 at *
          have HB3 := Lib.hid b3
          have HE3 := Lib.hid e3
          have HX3 := Lib.hid (HX2.out.trans e3)
          have HA3 := Lib.hid (HA2.out.trans e3)
          have HEV3 := Lib.hid (HEV.out.ext Ent.size2 e3)
          clear b3 e3 HEV HX2 HA2
          go_wp2_with fail
          refine (HRU.out _ HX3.out).mono ?_
          rintro x w4 ⟨m4, rv4, rs4, rfl, hm40, hm41, hr4, hro4, hrl4, hx4⟩
          obtain ⟨ra4, rc4, rfl⟩ := hr4.size
          have HR4 := Lib.hid hr4
          have HRO4 := Lib.hid hro4
          have HX4 := Lib.hid (HX3.out.trans hx4)
          have HF4 := Lib.hid hx4
          clear hr4 hro4 hx4
          go_upto_region 10 with fail
          have b5 := Blk.new w4 #[.int .i64 m4, .slice ra4 rs4.length rc4] 28
          have e5 : Ext w4 (w4.alloc (.cells #[.int .i64 m4, .slice ra4 rs4.length rc4] 28)) := (Ext.refl w4).alloc _
          generalize w4.alloc (.cells #[.int .i64 m4, .slice ra4 rs4.length rc4] 28) = w5 at *
          generalize w4.heap.size = p4 at *
          have HB5 := Lib.hid b5
          have HX5 := Lib.hid (HX4.out.trans e5)
          have HR5 := Lib.hid (HR4.out.ext Rl.size4 e5)
          have HF5 := Lib.hid (HF4.out.trans e5)
          clear b5 e5 HX4 HF4 HR4
          go_wp2_with fail
          refine (HPO.out _ HX5.out).mono ?_
          rintro x w6 ⟨rv6, rfl, hrow6, hx6⟩
          have hr6 : RulesAt w6 rv6 rs := RuleRow.at hrow6
          obtain ⟨ra6, rc6, rfl⟩ := hr6.size
          have HR6 := Lib.hid hr6
          have HX6 := Lib.hid (HX5.out.trans hx6)
          have HF6 := Lib.hid hx6
          clear hrow6 hr6 hx6
          go_upto_region 11 with fail
          have b7 := Blk.new w6 #[.int .i64 most, .slice ra6 rs.length rc6] 28
          have e7 : Ext w6 (w6.alloc (.cells #[.int .i64 most, .slice ra6 rs.length rc6] 28)) := (Ext.refl w6).alloc _
          generalize w6.alloc (.cells #[.int .i64 most, .slice ra6 rs.length rc6] 28) = w7 at *
          generalize w6.heap.size = p6 at *
          have HBV := Lib.hid b7
          have HX7 := Lib.hid (HX6.out.trans e7)
          have HRV := Lib.hid (HR6.out.ext Rl.size4 e7)
          have HF7 := Lib.hid (HF6.out.trans e7)
          have HG7 := Lib.hid (HF5.out.trans HF7.out)
          have HH7 := Lib.hid (HA3.out.trans HG7.out)
          have HRQ := Lib.hid (HR5.out.ext Rl.size4 HF7.out)
          have HBQ := Lib.hid (HB5.out.ext HF7.out)
          have HBO := Lib.hid (HB3.out.ext HG7.out)
          have HEO := Lib.hid (HEV3.out.ext Ent.size2 HG7.out)
          have HBP7 := Lib.hid (HBP.out.ext HH7.out)
          have HBS7 := Lib.hid (HBS.out.ext HH7.out)
          have HPV7 := Lib.hid (HPV.out.ext Rl.size4 HX7.out)
          have HSV7 := Lib.hid (HSV.out.ext Ent.size2 HX7.out)
          clear b7 e7 HR6 HX6 HF6 HR5 HB5 HB3 HEV3 HX5 HX3 HA3 HF5 HBP HBS HPV HSV HX1 HA1 HE3
          have HCUR := Lib.hid (Ext.refl w7)
          have cA := HBP7.out.cell
          have cB := HBS7.out.cell
          go_wp2_with fail
          refine (law17_asks pm _ pl cl sm _ sl _ hp0 hp1 (HPV7.out.ext Rl.size4 HCUR.out) HP3.out (by omega) hl0 hl1 hs0 hs1 (HSV7.out.ext Ent.size2 HCUR.out) HS3.out (by omega)).mono ?_
          rintro x wz ⟨rfl, hz⟩
          have HCUR := Lib.hid (HCUR.out.trans hz)
          clear hz cA cB
          have cA := (HBQ.out.ext HCUR.out).cell
          have cB := (HBO.out.ext HCUR.out).cell
          go_wp2_with fail
          refine (law17_asks m4 _ rs4 c8 c _ es _ (by omega) (by omega) (HRQ.out.ext Rl.size4 HCUR.out) HRO4.out (by omega) (by omega) (by omega) hco.1 (by omega) (HEO.out.ext Ent.size2 HCUR.out) HSO.out.2 (by omega)).mono ?_
          rintro x wz ⟨rfl, hz⟩
          have HCUR := Lib.hid (HCUR.out.trans hz)
          clear hz cA cB
          have cA := (HBV.out.ext HCUR.out).cell
          have cB := (HBO.out.ext HCUR.out).cell
          go_wp2_with fail
          refine (law17_asks most _ rs (c + q * 50) c _ es _ (by omega) (by omega) (HRV.out.ext Rl.size4 HCUR.out) HPK.out (by omega) (by omega) (by omega) hco.1 (by omega) (HEO.out.ext Ent.size2 HCUR.out) HSO.out.2 (by omega)).mono ?_
          rintro x wz ⟨rfl, hz⟩
          have HCUR := Lib.hid (HCUR.out.trans hz)
          clear hz cA cB
          have cA := (HBV.out.ext HCUR.out).cell
          have cB := (HBO.out.ext HCUR.out).cell
          go_wp2_with fail
          refine (law17_asks most _ rs cl c _ es _ (by omega) (by omega) (HRV.out.ext Rl.size4 HCUR.out) HPK.out (by omega) hl0 hl1 hco.1 (by omega) (HEO.out.ext Ent.size2 HCUR.out) HSO.out.2 (by omega)).mono ?_
          rintro x wz ⟨rfl, hz⟩
          have HCUR := Lib.hid (HCUR.out.trans hz)
          clear hz cA cB
          have cA := (HBP7.out.ext HCUR.out).cell
          have cB := (HBO.out.ext HCUR.out).cell
          go_wp2_with fail
          refine (law17_asks pm _ pl c c _ es _ hp0 hp1 (HPV7.out.ext Rl.size4 HCUR.out) HP3.out (by omega) hco.1 (by omega) hco.1 (by omega) (HEO.out.ext Ent.size2 HCUR.out) HSO.out.2 (by omega)).mono ?_
          rintro x wz ⟨rfl, hz⟩
          have HCUR := Lib.hid (HCUR.out.trans hz)
          clear hz cA cB
          have cA := (HBV.out.ext HCUR.out).cell
          have cB := (HBS7.out.ext HCUR.out).cell
          go_wp2_with fail
          refine (law17_asks most _ rs cl sm _ sl _ (by omega) (by omega) (HRV.out.ext Rl.size4 HCUR.out) HPK.out (by omega) hl0 hl1 hs0 hs1 (HSV7.out.ext Ent.size2 HCUR.out) HS3.out (by omega)).mono ?_
          rintro x wz ⟨rfl, hz⟩
          go_wp2_with fail
          go_ret
          exact ⟨rfl, HX7.out.trans (HCUR.out.trans hz)⟩
end Go.Proofs.YtknlojlcahgnoaaGreat
