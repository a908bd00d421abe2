/- Walk: tollerlaw15.asks. Walk: tollerlaw15.KeepAsks. -/
import Derived.Test.YtfglpejbgfmojaaGreatG50
import Derived.Test.YtfglpejbgfmojaaGreatG51
import Derived.Test.YtfglpejbgfmojaaGreatG53

/- Walk: tollerlaw15.asks. -/
namespace Go.Proofs.YtfglpejbgfmojaaGreat
open Go.RowKit
set_option linter.unusedVariables false
set_option linter.unusedSimpArgs false

theorem law15_startR (q : Int) (v : Value) (ds : List Deed) (w : World) (hv : DeedSlice w v ds) (hq0 : 0 ≤ q) (hq1 : q < 256) :
    Calls Tryz.prog 17 #[.int .u8 q, v] w fun x w' => ∃ t m c most clock l all a cp, x = .returned (.tuple #[.pointer (some ⟨t, 0, none⟩), .agg #[.int .i64 most, .int .u64 clock, .slice a all.length cp]]) ∧ HasTab w' t m c most clock l (rSlots clock all) ∧ SlotsAt w' (.slice a all.length cp) all ∧ (∀ s ∈ all, SlotOk s) ∧ all.length ≤ 30 ∧ Ext w w' := by
  refine (law15_BothG q v ds w hv hq0 hq1).mono ?_
  rintro x w' ⟨B, c, clock, l, v', all, rfl, hB, hrel, hx, hg⟩
  have hs := hrel.row.slots
  obtain ⟨a, cp, rfl⟩ := hrel.row.size
  exact ⟨_, _, c, _, clock, l, all, a, cp, rfl, hrel.has hg, hs, hrel.rel.ok, hrel.lenA, hx⟩
theorem strings_same (v v' : Value) (l : List ByteArray) (w : World) (hv : StrsAt w v l) (hv' : StrsAt w v' l) (hlen : l.length ≤ 1000000) :
    Calls Tryz.prog 32 #[v, v'] w fun x w' => x = .returned (.bool true) ∧ Ext w w' := by
  refine (ref11_Strings v v' l l w hv hv' hlen hlen).mono ?_
  rintro x w' ⟨rfl, hx⟩
  exact ⟨by simp, hx⟩
theorem keyrow_strs {base : Nat} {w : World} {v : Value} {l : List ByteArray} (h : KeyRow base w v l) : StrsAt w v l := RowOf.elems (enc := fun k => #[Value.string k]) (fun _ => rfl) h

set_option maxHeartbeats 4000000 in
set_option maxRecDepth 100000 in
theorem law15_asks (q : Int) (v : Value) (ds : List Deed) (pm : Int) (rv : Value) (rs : List Rl) (w : World) (hq0 : 0 ≤ q) (hq1 : q < 256) (hv : DeedSlice w v ds) (hp0 : -9223372036854775808 ≤ pm) (hp1 : pm ≤ 9223372036854775807)
    (hr : RulesAt w rv rs) (hro : ∀ r ∈ rs, RlOk r) (hrl : rs.length ≤ maxLen) :
    Calls Tryz.prog 14 #[.int .u8 q, v, .agg #[.int .i64 pm, rv]] w fun x w' => x = .returned (.bool true) ∧ Ext w w' := by
  have HV := Lib.hid hv
  obtain ⟨a, c, rfl, -⟩ := hv.form
  obtain ⟨ra, rc, rfl⟩ := hr.size
  have HR := Lib.hid hr
  have HRO := Lib.hid hro
  have bP := Blk.new w #[.int .i64 pm, .slice ra rs.length rc] 25
  have hx0 : Ext w (w.alloc (.cells #[.int .i64 pm, .slice ra rs.length rc] 25)) := (Ext.refl w).alloc _
  clear hv hr hro
  go_enter Tryz.func14, Tryz.ntmps14
  go_wp2_with fail
  generalize w.alloc (.cells #[.int .i64 pm, .slice ra rs.length rc] 25) = w0 at *
  generalize hS : w.heap.size = S at *
  refine (law15_startR q _ ds _ (HV.out.ext hx0) hq0 hq1).mono ?_
  rintro x w1 ⟨t, m, cc, most, clock, l, all, a3, c3, rfl, hT, hs, hsok, hlen, hx1⟩
  have hn0 := hT.n0
  have hn1 := hT.n1
  have HT := Lib.hid hT
  have HS := Lib.hid hs
  have HSO := Lib.hid hsok
  have hll : (rSlots clock all).length ≤ 30 := Nat.le_trans (List.length_filter_le _ _) hlen
  have HAK := Lib.hid (hT.act.kept HRO.out hn0 (by omega))
  have b1 := bP.ext hx1
  have hRS := b1.lt
  have bR := Blk.new w1 #[.int .i64 most, .int .u64 clock, .slice a3 all.length c3] 42
  have hxG : Ext w1 (w1.alloc (.cells #[.int .i64 most, .int .u64 clock, .slice a3 all.length c3] 42)) := (Ext.refl w1).alloc _
  have HX1 := Lib.hid (hx0.trans hx1)
  have b2 := b1.ext hxG
  have cP := b2.cell
  clear hT hs hsok hx0 hx1 bP b1
  go_upto_region 4 with fail
  generalize w1.alloc (.cells #[.int .i64 most, .int .u64 clock, .slice a3 all.length c3] 42) = w2 at *
  generalize hR : w1.heap.size = R at *
  have HBP := Lib.hid b2
  have HBR := Lib.hid bR
  have HXG := Lib.hid hxG
  have HX2 := Lib.hid (HX1.out.trans hxG)
  clear b2 bR hxG
  go_wp2_with fail
  refine (keep_KeepA _ (HT.out.ext HXG.out) pm _ rs (HR.out.ext Rl.size4 HX2.out) HRO.out hrl hp0 hp1).mono ?_
  have hkl := keptL_len clock rs (rSlots clock all)
  have hgl := goneL_len rs (rSlots clock all)
  have HRK := Lib.hid (fun W (hx : Ext w2 W) => ref15_Keep most clock pm (.slice a3 all.length c3) (.slice ra rs.length rc) all rs W (HS.out.ext (HXG.out.trans hx)) HSO.out hn0 (by omega) (by omega) (HR.out.ext Rl.size4 (HX2.out.trans hx)) HRO.out hrl hp0 hp1)
  have HLA := Lib.hid (fun W (hx : Ext w2 W) => keep_LostA W (HT.out.ext (HXG.out.trans hx)) pm (.slice ra rs.length rc) rs (HR.out.ext Rl.size4 (HX2.out.trans hx)) HRO.out hrl)
  have HLR := Lib.hid (fun W (hx : Ext w2 W) => ref15_Lost most clock pm (.slice a3 all.length c3) (.slice ra rs.length rc) all rs W (HS.out.ext (HXG.out.trans hx)) HSO.out hn0 (by omega) (by omega) (HR.out.ext Rl.size4 (HX2.out.trans hx)) HRO.out hrl)
  have HSA := Lib.hid (fun W (hx : Ext w2 W) => table_SlotsA W (HT.out.ext (HXG.out.trans hx)))
  have HSR := Lib.hid (fun W (hx : Ext w2 W) => ref14_Slots most clock (.slice a3 all.length c3) all W (HS.out.ext (HXG.out.trans hx)) HSO.out hn0 (by omega) (by omega))
  have hgk := kept_gone clock rs (rSlots clock all)
  have hgm : ((goneL rs (rSlots clock all)).map (·.key)).length ≤ 1000000 := by rw [List.length_map]; omega
  have HSTR := Lib.hid (fun (v v' : Value) (W : World) (h1 : KeyRow 0 W v ((goneL rs (rSlots clock all)).map (·.key))) (h2 : KeyRow 0 W v' ((goneL rs (rSlots clock all)).map (·.key))) => strings_same v v' _ W (keyrow_strs h1) (keyrow_strs h2) hgm)
  have HSAM := Lib.hid (fun (v v' : Value) (W : World) (h1 : SlotsAt W v (rSlots clock all)) (h2 : SlotsAt W v' (rSlots clock all)) => ref14_Same_yes v v' _ W h1 h2 (by omega))
  unfold RefKeepEnd at HRK
  generalize (goneL rs (rSlots clock all)).map (·.key) = gk at *
  generalize hkp : keptL clock rs (rSlots clock all) = kept at *
  generalize hgn : goneL rs (rSlots clock all) = gone at *
  generalize hxs : rSlots clock all = xs at *
  have HSAK := Lib.hid (fun (v v' : Value) (W : World) (h1 : SlotsAt W v kept) (h2 : SlotsAt W v' kept) => ref14_Same_yes v v' _ W h1 h2 (by omega))
  have HSK := Lib.hid (fun (v : Value) (W : World) (h : SlotsAt W v kept) => (ref14_Slots pm clock v kept W h HAK.out.ok hn0 (by omega) (by omega)))
  rw [HAK.out.all] at HSK
  clear hkp hgn hxs hgm
  rintro x w3 ⟨hx3, hcase⟩
  have HX3 := Lib.hid hx3
  have b3 := HBP.out.ext hx3
  have cP := b3.cell
  have r3 := HBR.out.ext hx3
  have cR := r3.cell
  by_cases hE : keepErr pm kept.length = 0
  · rcases hcase with ⟨-, t6, m6, c6, l6, rfl, hT6⟩ | ⟨h, -⟩
    rotate_left
    · exact absurd hE h
    have HT6 := Lib.hid hT6
    have hpm : (1 ≤ pm ∧ pm ≤ 1000000) ∧ (kept.length : Int) ≤ pm := by
      unfold keepErr at hE
      by_cases h1 : pm < 1 ∨ 1000000 < pm
      · rw [if_pos h1] at hE; omega
      · rw [if_neg h1] at hE
        by_cases h2 : pm < (kept.length : Int)
        · rw [if_pos h2] at hE; omega
        · exact ⟨by omega, by omega⟩
    clear hT6 hx3
    go_wp2_with fail
    refine (HRK.out _ HX3.out).mono ?_
    rintro x w4 ⟨hx4, ⟨h, -⟩ | ⟨⟨-, h⟩, -⟩ | ⟨-, v4, rfl, hr4⟩⟩
    · exact absurd hpm.1 h
    · exact absurd hpm.2 (by omega)
    obtain ⟨a4, c4, rfl⟩ := hr4.size
    have HR4 := Lib.hid hr4.slots
    have HX4 := Lib.hid (HX3.out.trans hx4)
    have b4 := b3.ext hx4
    have r4 := r3.ext hx4
    have bS := Blk.new w4 #[.int .i64 pm, .int .u64 clock, .slice a4 kept.length c4] 42
    have hxS : Ext w4 (w4.alloc (.cells #[.int .i64 pm, .int .u64 clock, .slice a4 kept.length c4] 42)) := (Ext.refl w4).alloc _
    have HT4 := Lib.hid (HT6.out.ext (hx4.trans hxS))
    clear hr4 hx4 cP cR
    go_upto_region 6 with fail
    generalize w4.alloc (.cells #[.int .i64 pm, .int .u64 clock, .slice a4 kept.length c4] 42) = w5 at *
    generalize hSS : w4.heap.size = SS at *
    have HXS := Lib.hid hxS
    have b5 := b4.ext hxS
    have r5 := r4.ext hxS
    have HX5 := Lib.hid (HX4.out.trans hxS)
    have cP := b5.cell
    have cR := r5.cell
    clear hxS b4 r4
    go_cut [62] from 37 to 63 (fun x62 wx => x62 = .bool false ∧ Ext w5 wx)
    case first =>
      go_region_held3 (fun w' => (∀ o, w'.cell? ⟨S, o, none⟩ = (#[.int .i64 pm, .slice ra rs.length rc] : Array Value)[o]?) ∧ (∀ o, w'.cell? ⟨R, o, none⟩ = (#[.int .i64 most, .int .u64 clock, .slice a3 all.length c3] : Array Value)[o]?) ∧ Ext w5 w')
        (((try go_split_ands); refine ⟨Blk.cell (b5.ext ?_), Blk.cell (r5.ext ?_), ?_⟩ <;> (repeat (first | with_reducible exact Ext.refl _ | with_reducible assumption | with_reducible refine Ext.alloc ?_ _ | with_reducible refine Ext.drew ?_ | (with_reducible refine Ext.setCell ?_ (by first | exact Nat.le_refl _ | (dsimp only; omega) | (simp; done) | (simp; omega)) _) | with_reducible refine Ext.trans ?_ (by with_reducible assumption)))))
        (first
          | (go_at_call 19; (with_reducible refine (HLA.out _ (Ext.trans HX5.out (by repeat (first | with_reducible exact Ext.refl _ | with_reducible assumption | with_reducible refine Ext.alloc ?_ _ | with_reducible refine Ext.drew ?_ | (with_reducible refine Ext.setCell ?_ (by first | exact Nat.le_refl _ | (dsimp only; omega) | (simp; done) | (simp; omega)) _) | with_reducible refine Ext.trans ?_ (by with_reducible assumption))))).mono ?_); rintro x w6 ⟨v6, rfl, hr6, hx6⟩; obtain ⟨a6, c6, rfl⟩ := hr6.size)
          | (go_at_call 33; (with_reducible refine (HLR.out _ (Ext.trans HX5.out (by repeat (first | with_reducible exact Ext.refl _ | with_reducible assumption | with_reducible refine Ext.alloc ?_ _ | with_reducible refine Ext.drew ?_ | (with_reducible refine Ext.setCell ?_ (by first | exact Nat.le_refl _ | (dsimp only; omega) | (simp; done) | (simp; omega)) _) | with_reducible refine Ext.trans ?_ (by with_reducible assumption))))).mono ?_); rintro x w7 ⟨v7, rfl, hr7, hx7⟩; obtain ⟨a7, c7, rfl⟩ := hr7.size)
          | (go_at_call 32; (with_reducible refine (HSTR.out _ _ _ (RowOf.low (hr6.ext (by repeat (first | with_reducible exact Ext.refl _ | with_reducible assumption | with_reducible refine Ext.alloc ?_ _ | with_reducible refine Ext.drew ?_ | (with_reducible refine Ext.setCell ?_ (by first | exact Nat.le_refl _ | (dsimp only; omega) | (simp; done) | (simp; omega)) _) | with_reducible refine Ext.trans ?_ (by with_reducible assumption)))) (Nat.zero_le _)) (RowOf.low hr7 (Nat.zero_le _))).mono ?_); rintro x w8 ⟨rfl, hx8⟩))
      all_goals
        go_wp2
        go_meet
        exact ⟨rfl, (by repeat (first | with_reducible exact Ext.refl _ | with_reducible assumption | with_reducible refine Ext.alloc ?_ _ | with_reducible refine Ext.drew ?_ | (with_reducible refine Ext.setCell ?_ (by first | exact Nat.le_refl _ | (dsimp only; omega) | (simp; done) | (simp; omega)) _) | with_reducible refine Ext.trans ?_ (by with_reducible assumption)))⟩
    case rest =>
      obtain ⟨rfl, hxc⟩ := hcut
      have bc := b5.ext hxc
      have rc' := r5.ext hxc
      have HXC := Lib.hid (HX5.out.trans hxc)
      have sc := bS.ext hxc
      have cS := sc.cell
      have HTC := Lib.hid (HT4.out.ext hxc)
      have HRC := Lib.hid (HR4.out.ext (HXS.out.trans hxc))
      have cP := bc.cell
      have cR := rc'.cell
      clear hxc
      go_upto_region 8 with fail
      go_region_held3 (fun w' => (∀ o, w'.cell? ⟨R, o, none⟩ = (#[.int .i64 most, .int .u64 clock, .slice a3 all.length c3] : Array Value)[o]?) ∧ (∀ o, w'.cell? ⟨SS, o, none⟩ = (#[.int .i64 pm, .int .u64 clock, .slice a4 kept.length c4] : Array Value)[o]?) ∧ Ext wc w')
        (((try go_split_ands); refine ⟨Blk.cell (rc'.ext ?_), Blk.cell (sc.ext ?_), ?_⟩ <;> (repeat (first | with_reducible exact Ext.refl _ | with_reducible assumption | with_reducible refine Ext.alloc ?_ _ | with_reducible refine Ext.drew ?_ | (with_reducible refine Ext.setCell ?_ (by first | exact Nat.le_refl _ | (dsimp only; omega) | (simp; done) | (simp; omega)) _) | with_reducible refine Ext.trans ?_ (by with_reducible assumption)))))
        (first
          | (go_at_call 22; (with_reducible refine (HSA.out _ (Ext.trans HXC.out (by repeat (first | with_reducible exact Ext.refl _ | with_reducible assumption | with_reducible refine Ext.alloc ?_ _ | with_reducible refine Ext.drew ?_ | (with_reducible refine Ext.setCell ?_ (by first | exact Nat.le_refl _ | (dsimp only; omega) | (simp; done) | (simp; omega)) _) | with_reducible refine Ext.trans ?_ (by with_reducible assumption))))).mono ?_); rintro x w11 ⟨v11, rfl, hs11, hx11⟩; obtain ⟨a11, c11, rfl⟩ := hs11.size)
          | (go_at_call 34; (with_reducible refine (HSR.out _ (Ext.trans HXC.out (by repeat (first | with_reducible exact Ext.refl _ | with_reducible assumption | with_reducible refine Ext.alloc ?_ _ | with_reducible refine Ext.drew ?_ | (with_reducible refine Ext.setCell ?_ (by first | exact Nat.le_refl _ | (dsimp only; omega) | (simp; done) | (simp; omega)) _) | with_reducible refine Ext.trans ?_ (by with_reducible assumption))))).mono ?_); rintro x w12 ⟨v12, rfl, hs12, hx12⟩; obtain ⟨a12, c12, rfl⟩ := hs12.size)
          | (go_at_call 21; (with_reducible refine (HSAM.out _ _ _ (hs11.ext (by repeat (first | with_reducible exact Ext.refl _ | with_reducible assumption | with_reducible refine Ext.alloc ?_ _ | with_reducible refine Ext.drew ?_ | (with_reducible refine Ext.setCell ?_ (by first | exact Nat.le_refl _ | (dsimp only; omega) | (simp; done) | (simp; omega)) _) | with_reducible refine Ext.trans ?_ (by with_reducible assumption)))) hs12.slots).mono ?_); rintro x w13 ⟨rfl, hx13⟩)
          | (go_at_call 22; (with_reducible refine (table_SlotsA _ (HTC.out.ext (by repeat (first | with_reducible exact Ext.refl _ | with_reducible assumption | with_reducible refine Ext.alloc ?_ _ | with_reducible refine Ext.drew ?_ | (with_reducible refine Ext.setCell ?_ (by first | exact Nat.le_refl _ | (dsimp only; omega) | (simp; done) | (simp; omega)) _) | with_reducible refine Ext.trans ?_ (by with_reducible assumption))))).mono ?_); rintro x w14 ⟨v14, rfl, hs14, hx14⟩; obtain ⟨a14, c14, rfl⟩ := hs14.size)
          | (go_at_call 34; (with_reducible refine (HSK.out _ _ (HRC.out.ext (by repeat (first | with_reducible exact Ext.refl _ | with_reducible assumption | with_reducible refine Ext.alloc ?_ _ | with_reducible refine Ext.drew ?_ | (with_reducible refine Ext.setCell ?_ (by first | exact Nat.le_refl _ | (dsimp only; omega) | (simp; done) | (simp; omega)) _) | with_reducible refine Ext.trans ?_ (by with_reducible assumption))))).mono ?_); rintro x w15 ⟨v15, rfl, hs15, hx15⟩; obtain ⟨a15, c15, rfl⟩ := hs15.size)
          | (go_at_call 21; (with_reducible refine (HSAK.out _ _ _ (hs14.ext (by repeat (first | with_reducible exact Ext.refl _ | with_reducible assumption | with_reducible refine Ext.alloc ?_ _ | with_reducible refine Ext.drew ?_ | (with_reducible refine Ext.setCell ?_ (by first | exact Nat.le_refl _ | (dsimp only; omega) | (simp; done) | (simp; omega)) _) | with_reducible refine Ext.trans ?_ (by with_reducible assumption)))) hs15.slots).mono ?_); rintro x w16 ⟨rfl, hx16⟩)
          | (go_at_call 23; (with_reducible refine (table_ClockA _ (HTC.out.ext (by repeat (first | with_reducible exact Ext.refl _ | with_reducible assumption | with_reducible refine Ext.alloc ?_ _ | with_reducible refine Ext.drew ?_ | (with_reducible refine Ext.setCell ?_ (by first | exact Nat.le_refl _ | (dsimp only; omega) | (simp; done) | (simp; omega)) _) | with_reducible refine Ext.trans ?_ (by with_reducible assumption))))).mono ?_); rintro x w17 ⟨rfl, hx17⟩))
      all_goals
        go_wp2
        go_ret
        exact ⟨rfl, HX2.out.trans (HXC.out.trans (by repeat (first | with_reducible exact Ext.refl _ | with_reducible assumption | with_reducible refine Ext.alloc ?_ _ | with_reducible refine Ext.drew ?_ | (with_reducible refine Ext.setCell ?_ (by first | exact Nat.le_refl _ | (dsimp only; omega) | (simp; done) | (simp; omega)) _) | with_reducible refine Ext.trans ?_ (by with_reducible assumption))))⟩
  · have hE' := hE
    rcases hcase with ⟨h, -⟩ | ⟨-, rfl⟩
    · exact absurd h hE
    clear hx3
    go_wp2_with fail
    refine (HRK.out _ HX3.out).mono ?_
    rintro x w4 ⟨hx4, hc4⟩
    obtain ⟨f, hf, rfl, hff⟩ : ∃ f : Int, keepErr pm kept.length = f ∧ x = .returned (.tuple #[.agg #[.int .i64 0, .int .u64 0, .slice none 0 0], .int .i64 0, .int .i64 f]) ∧ (f = 29 ∨ f = 50) := by
      rcases hc4 with ⟨h, rfl⟩ | ⟨⟨h1, h2⟩, rfl⟩ | ⟨⟨h1, h2⟩, -⟩
      · exact ⟨29, by unfold keepErr; rw [if_pos (by omega)], rfl, Or.inl rfl⟩
      · exact ⟨50, by unfold keepErr; rw [if_neg (by omega), if_pos h2], rfl, Or.inr rfl⟩
      · exact absurd (keepErr_ok h1.1 h1.2 h2) hE
    rw [hf]
    clear hc4 hE hE' hf
    have HX4 := Lib.hid (HX3.out.trans hx4)
    have b4 := b3.ext hx4
    have r4 := r3.ext hx4
    have hxS : Ext w4 (w4.alloc (.cells #[.int .i64 0, .int .u64 0, .slice none 0 0] 42)) := (Ext.refl w4).alloc _
    clear hx4 cP cR
    go_upto_region 6 with fail
    generalize w4.alloc (.cells #[.int .i64 0, .int .u64 0, .slice none 0 0] 42) = w5 at *
    generalize hSS : w4.heap.size = SS at *
    have hf1 : IntKind.i64.wrap f = f := by rcases hff with rfl | rfl <;> rfl
    have hf2 : (f != 0) = true := by rcases hff with rfl | rfl <;> rfl
    have hf3 : (f != f) = false := by simp
    clear hff
    have b5 := b4.ext hxS
    have r5 := r4.ext hxS
    have HX5 := Lib.hid (HX4.out.trans hxS)
    have cP := b5.cell
    have cR := r5.cell
    clear hxS b4 r4
    go_cut [62] from 37 to 63 (fun x62 wx => x62 = .bool false ∧ Ext w5 wx)
    case first =>
      go_region_held3 (fun w' => (∀ o, w'.cell? ⟨S, o, none⟩ = (#[.int .i64 pm, .slice ra rs.length rc] : Array Value)[o]?) ∧ (∀ o, w'.cell? ⟨R, o, none⟩ = (#[.int .i64 most, .int .u64 clock, .slice a3 all.length c3] : Array Value)[o]?) ∧ Ext w5 w')
        (((try go_split_ands); refine ⟨Blk.cell (b5.ext ?_), Blk.cell (r5.ext ?_), ?_⟩ <;> (repeat (first | with_reducible exact Ext.refl _ | with_reducible assumption | with_reducible refine Ext.alloc ?_ _ | with_reducible refine Ext.drew ?_ | (with_reducible refine Ext.setCell ?_ (by first | exact Nat.le_refl _ | (dsimp only; omega) | (simp; done) | (simp; omega)) _) | with_reducible refine Ext.trans ?_ (by with_reducible assumption)))))
        (first
          | (go_at_call 19; (with_reducible refine (HLA.out _ (Ext.trans HX5.out (by repeat (first | with_reducible exact Ext.refl _ | with_reducible assumption | with_reducible refine Ext.alloc ?_ _ | with_reducible refine Ext.drew ?_ | (with_reducible refine Ext.setCell ?_ (by first | exact Nat.le_refl _ | (dsimp only; omega) | (simp; done) | (simp; omega)) _) | with_reducible refine Ext.trans ?_ (by with_reducible assumption))))).mono ?_); rintro x w6 ⟨v6, rfl, hr6, hx6⟩; obtain ⟨a6, c6, rfl⟩ := hr6.size)
          | (go_at_call 33; (with_reducible refine (HLR.out _ (Ext.trans HX5.out (by repeat (first | with_reducible exact Ext.refl _ | with_reducible assumption | with_reducible refine Ext.alloc ?_ _ | with_reducible refine Ext.drew ?_ | (with_reducible refine Ext.setCell ?_ (by first | exact Nat.le_refl _ | (dsimp only; omega) | (simp; done) | (simp; omega)) _) | with_reducible refine Ext.trans ?_ (by with_reducible assumption))))).mono ?_); rintro x w7 ⟨v7, rfl, hr7, hx7⟩; obtain ⟨a7, c7, rfl⟩ := hr7.size)
          | (go_at_call 32; (with_reducible refine (HSTR.out _ _ _ (RowOf.low (hr6.ext (by repeat (first | with_reducible exact Ext.refl _ | with_reducible assumption | with_reducible refine Ext.alloc ?_ _ | with_reducible refine Ext.drew ?_ | (with_reducible refine Ext.setCell ?_ (by first | exact Nat.le_refl _ | (dsimp only; omega) | (simp; done) | (simp; omega)) _) | with_reducible refine Ext.trans ?_ (by with_reducible assumption)))) (Nat.zero_le _)) (RowOf.low hr7 (Nat.zero_le _))).mono ?_); rintro x w8 ⟨rfl, hx8⟩))
      all_goals
        go_wp2
        go_meet
        exact ⟨rfl, (by repeat (first | with_reducible exact Ext.refl _ | with_reducible assumption | with_reducible refine Ext.alloc ?_ _ | with_reducible refine Ext.drew ?_ | (with_reducible refine Ext.setCell ?_ (by first | exact Nat.le_refl _ | (dsimp only; omega) | (simp; done) | (simp; omega)) _) | with_reducible refine Ext.trans ?_ (by with_reducible assumption)))⟩
    case rest =>
      obtain ⟨rfl, hxc⟩ := hcut
      have bc := b5.ext hxc
      have rc' := r5.ext hxc
      have HXC := Lib.hid (HX5.out.trans hxc)
      have cP := bc.cell
      have cR := rc'.cell
      clear hxc
      go_upto_region 8 with fail
      have hS0 : (∀ o, wc.drew.cell? ⟨R, o, none⟩ = (#[.int .i64 most, .int .u64 clock, .slice a3 all.length c3] : Array Value)[o]?) ∧ Ext wc wc.drew := ⟨Blk.cell (rc'.drew), (Ext.refl _).drew⟩
      refine wp_region_held_drew (S := fun w' => (∀ o, w'.cell? ⟨R, o, none⟩ = (#[.int .i64 most, .int .u64 clock, .slice a3 all.length c3] : Array Value)[o]?) ∧ Ext wc w') (by kernel_rfl) hS0 (fun hHeld => ?_)
      refine wpAnyH_take (i := 0) (v := ?_) rfl (by kernel_rfl) (by kernel_rfl) (by kernel_rfl) (fun _ _ _ h => h) (Or.inl ⟨by rfl, ?_⟩) (by assumption) ?_
      rotate_left
      · intro w hSw
        (try dsimp only at hSw)
        go_simp
        try with_reducible rfl
      try simp only [Go.Act.put, List.getElem_toArray, List.getElem_cons_zero, List.getElem_cons_succ, List.setIfInBounds_toArray, List.set_cons_zero, List.set_cons_succ]
      refine wpAnyH_take (i := 2) (v := ?_) rfl (by kernel_rfl) (by kernel_rfl) (by kernel_rfl) (fun _ _ _ h => h) (Or.inl ⟨by rfl, ?_⟩) (by assumption) ?_
      rotate_left
      · intro w hSw
        (try dsimp only at hSw)
        go_simp
        try with_reducible rfl
      try simp only [Go.Act.put, List.getElem_toArray, List.getElem_cons_zero, List.getElem_cons_succ, List.setIfInBounds_toArray, List.set_cons_zero, List.set_cons_succ]
      refine wpAnyH_ready (rs := [1]) (by kernel_rfl) (by simp) ?_
      refine AllReadyH.cons rfl (fun K hK => ?_) AllReadyH.nil
      go_simp
      (go_at_call 22; (with_reducible refine (HSA.out _ (Ext.trans HXC.out (by repeat (first | with_reducible exact Ext.refl _ | with_reducible assumption | with_reducible refine Ext.alloc ?_ _ | with_reducible refine Ext.drew ?_ | (with_reducible refine Ext.setCell ?_ (by first | exact Nat.le_refl _ | (dsimp only; omega) | (simp; done) | (simp; omega)) _) | with_reducible refine Ext.trans ?_ (by with_reducible assumption))))).mono ?_); rintro x w11 ⟨v11, rfl, hs11, hx11⟩; obtain ⟨a11, c11, rfl⟩ := hs11.size)
      go_wp2_with fail
      refine hK.out _ _ ?_ (fun hHeld => ?_)
      · exact ⟨Blk.cell (rc'.ext (by repeat (first | with_reducible exact Ext.refl _ | with_reducible assumption | with_reducible refine Ext.alloc ?_ _ | with_reducible refine Ext.drew ?_ | (with_reducible refine Ext.setCell ?_ (by first | exact Nat.le_refl _ | (dsimp only; omega) | (simp; done) | (simp; omega)) _) | with_reducible refine Ext.trans ?_ (by with_reducible assumption)))), (by repeat (first | with_reducible exact Ext.refl _ | with_reducible assumption | with_reducible refine Ext.alloc ?_ _ | with_reducible refine Ext.drew ?_ | (with_reducible refine Ext.setCell ?_ (by first | exact Nat.le_refl _ | (dsimp only; omega) | (simp; done) | (simp; omega)) _) | with_reducible refine Ext.trans ?_ (by with_reducible assumption)))⟩
      clear hK K
      try simp only [Go.Act.put, List.getElem_toArray, List.getElem_cons_zero, List.getElem_cons_succ, List.setIfInBounds_toArray, List.set_cons_zero, List.set_cons_succ]
      refine wpAnyH_ready (rs := [3]) (by kernel_rfl) (by simp) ?_
      refine AllReadyH.cons rfl (fun K hK => ?_) AllReadyH.nil
      go_simp
      (go_at_call 34; (with_reducible refine (HSR.out _ (Ext.trans HXC.out (by repeat (first | with_reducible exact Ext.refl _ | with_reducible assumption | with_reducible refine Ext.alloc ?_ _ | with_reducible refine Ext.drew ?_ | (with_reducible refine Ext.setCell ?_ (by first | exact Nat.le_refl _ | (dsimp only; omega) | (simp; done) | (simp; omega)) _) | with_reducible refine Ext.trans ?_ (by with_reducible assumption))))).mono ?_); rintro x w12 ⟨v12, rfl, hs12, hx12⟩; obtain ⟨a12, c12, rfl⟩ := hs12.size)
      go_wp2_with fail
      refine hK.out _ _ ?_ (fun hHeld => ?_)
      · exact ⟨Blk.cell (rc'.ext (by repeat (first | with_reducible exact Ext.refl _ | with_reducible assumption | with_reducible refine Ext.alloc ?_ _ | with_reducible refine Ext.drew ?_ | (with_reducible refine Ext.setCell ?_ (by first | exact Nat.le_refl _ | (dsimp only; omega) | (simp; done) | (simp; omega)) _) | with_reducible refine Ext.trans ?_ (by with_reducible assumption)))), (by repeat (first | with_reducible exact Ext.refl _ | with_reducible assumption | with_reducible refine Ext.alloc ?_ _ | with_reducible refine Ext.drew ?_ | (with_reducible refine Ext.setCell ?_ (by first | exact Nat.le_refl _ | (dsimp only; omega) | (simp; done) | (simp; omega)) _) | with_reducible refine Ext.trans ?_ (by with_reducible assumption)))⟩
      clear hK K
      try simp only [Go.Act.put, List.getElem_toArray, List.getElem_cons_zero, List.getElem_cons_succ, List.setIfInBounds_toArray, List.set_cons_zero, List.set_cons_succ]
      refine wpAnyH_ready (rs := [4]) (by kernel_rfl) (by simp) ?_
      refine AllReadyH.cons rfl (fun K hK => ?_) AllReadyH.nil
      go_simp
      (go_at_call 21; (with_reducible refine (HSAM.out _ _ _ (hs11.ext (by repeat (first | with_reducible exact Ext.refl _ | with_reducible assumption | with_reducible refine Ext.alloc ?_ _ | with_reducible refine Ext.drew ?_ | (with_reducible refine Ext.setCell ?_ (by first | exact Nat.le_refl _ | (dsimp only; omega) | (simp; done) | (simp; omega)) _) | with_reducible refine Ext.trans ?_ (by with_reducible assumption)))) hs12.slots).mono ?_); rintro x w13 ⟨rfl, hx13⟩)
      go_wp2_with fail
      refine hK.out _ _ ?_ (fun hHeld => ?_)
      · exact ⟨Blk.cell (rc'.ext (by repeat (first | with_reducible exact Ext.refl _ | with_reducible assumption | with_reducible refine Ext.alloc ?_ _ | with_reducible refine Ext.drew ?_ | (with_reducible refine Ext.setCell ?_ (by first | exact Nat.le_refl _ | (dsimp only; omega) | (simp; done) | (simp; omega)) _) | with_reducible refine Ext.trans ?_ (by with_reducible assumption)))), (by repeat (first | with_reducible exact Ext.refl _ | with_reducible assumption | with_reducible refine Ext.alloc ?_ _ | with_reducible refine Ext.drew ?_ | (with_reducible refine Ext.setCell ?_ (by first | exact Nat.le_refl _ | (dsimp only; omega) | (simp; done) | (simp; omega)) _) | with_reducible refine Ext.trans ?_ (by with_reducible assumption)))⟩
      clear hK K
      try simp only [Go.Act.put, List.getElem_toArray, List.getElem_cons_zero, List.getElem_cons_succ, List.setIfInBounds_toArray, List.set_cons_zero, List.set_cons_succ]
      refine wpAnyH_take (i := 5) (v := ?_) rfl (by kernel_rfl) (by kernel_rfl) (by kernel_rfl) (fun _ _ _ h => h) (Or.inl ⟨by rfl, ?_⟩) (by assumption) ?_
      rotate_left
      · intro w hSw
        (try dsimp only at hSw)
        go_simp
        try with_reducible rfl
      try simp only [Go.Act.put, List.getElem_toArray, List.getElem_cons_zero, List.getElem_cons_succ, List.setIfInBounds_toArray, List.set_cons_zero, List.set_cons_succ]
      refine wpAnyH_take (i := 6) (v := ?_) rfl (by kernel_rfl) (by kernel_rfl) (by kernel_rfl) (fun _ _ _ h => h) (Or.inl ⟨by rfl, ?_⟩) (by assumption) ?_
      rotate_left
      · intro w hSw
        (try dsimp only at hSw)
        go_simp
        try with_reducible rfl
      try simp only [Go.Act.put, List.getElem_toArray, List.getElem_cons_zero, List.getElem_cons_succ, List.setIfInBounds_toArray, List.set_cons_zero, List.set_cons_succ]
      refine wpAnyH_take (i := 7) (v := ?_) rfl (by kernel_rfl) (by kernel_rfl) (by kernel_rfl) (fun _ _ _ h => h) (Or.inl ⟨by rfl, ?_⟩) (by assumption) ?_
      rotate_left
      · intro w hSw
        (try dsimp only at hSw)
        go_simp
        try with_reducible rfl
      try simp only [Go.Act.put, List.getElem_toArray, List.getElem_cons_zero, List.getElem_cons_succ, List.setIfInBounds_toArray, List.set_cons_zero, List.set_cons_succ]
      refine wpAnyH_take (i := 8) (v := ?_) rfl (by kernel_rfl) (by kernel_rfl) (by kernel_rfl) (fun _ _ _ h => h) (Or.inl ⟨by rfl, ?_⟩) (by assumption) ?_
      rotate_left
      · intro w hSw
        (try dsimp only at hSw)
        go_simp
        try with_reducible rfl
      try simp only [Go.Act.put, List.getElem_toArray, List.getElem_cons_zero, List.getElem_cons_succ, List.setIfInBounds_toArray, List.set_cons_zero, List.set_cons_succ]
      refine wpAnyH_take (i := 9) (v := undef) rfl (by kernel_rfl) (by kernel_rfl) (by kernel_rfl) (fun _ _ _ h => h) (Or.inr ⟨?_, rfl⟩) (by assumption) ?_
      · go_simp
      try simp only [Go.Act.put, List.getElem_toArray, List.getElem_cons_zero, List.getElem_cons_succ, List.setIfInBounds_toArray, List.set_cons_zero, List.set_cons_succ]
      refine wpAnyH_take (i := 10) (v := undef) rfl (by kernel_rfl) (by kernel_rfl) (by kernel_rfl) (fun _ _ _ h => h) (Or.inr ⟨?_, rfl⟩) (by assumption) ?_
      · go_simp
      try simp only [Go.Act.put, List.getElem_toArray, List.getElem_cons_zero, List.getElem_cons_succ, List.setIfInBounds_toArray, List.set_cons_zero, List.set_cons_succ]
      refine wpAnyH_take (i := 11) (v := undef) rfl (by kernel_rfl) (by kernel_rfl) (by kernel_rfl) (fun _ _ _ h => h) (Or.inr ⟨?_, rfl⟩) (by assumption) ?_
      · go_simp
      try simp only [Go.Act.put, List.getElem_toArray, List.getElem_cons_zero, List.getElem_cons_succ, List.setIfInBounds_toArray, List.set_cons_zero, List.set_cons_succ]
      refine wpAnyH_take (i := 12) (v := undef) rfl (by kernel_rfl) (by kernel_rfl) (by kernel_rfl) (fun _ _ _ h => h) (Or.inr ⟨?_, rfl⟩) (by assumption) ?_
      · go_simp
      try simp only [Go.Act.put, List.getElem_toArray, List.getElem_cons_zero, List.getElem_cons_succ, List.setIfInBounds_toArray, List.set_cons_zero, List.set_cons_succ]
      refine wpAnyH_take (i := 13) (v := undef) rfl (by kernel_rfl) (by kernel_rfl) (by kernel_rfl) (fun _ _ _ h => h) (Or.inr ⟨?_, rfl⟩) (by assumption) ?_
      · go_simp
      try simp only [Go.Act.put, List.getElem_toArray, List.getElem_cons_zero, List.getElem_cons_succ, List.setIfInBounds_toArray, List.set_cons_zero, List.set_cons_succ]
      refine wpAnyH_take (i := 14) (v := undef) rfl (by kernel_rfl) (by kernel_rfl) (by kernel_rfl) (fun _ _ _ h => h) (Or.inr ⟨?_, rfl⟩) (by assumption) ?_
      · go_simp
      try simp only [Go.Act.put, List.getElem_toArray, List.getElem_cons_zero, List.getElem_cons_succ, List.setIfInBounds_toArray, List.set_cons_zero, List.set_cons_succ]
      refine wpAnyH_take (i := 15) (v := undef) rfl (by kernel_rfl) (by kernel_rfl) (by kernel_rfl) (fun _ _ _ h => h) (Or.inr ⟨?_, rfl⟩) (by assumption) ?_
      · go_simp
        change ¬ (none : Option Bool) = some true
        simp
      try simp only [Go.Act.put, List.getElem_toArray, List.getElem_cons_zero, List.getElem_cons_succ, List.setIfInBounds_toArray, List.set_cons_zero, List.set_cons_succ]
      refine wpAnyH_take (i := 16) (v := undef) rfl (by kernel_rfl) (by kernel_rfl) (by kernel_rfl) (fun _ _ _ h => h) (Or.inr ⟨?_, rfl⟩) (by assumption) ?_
      · go_simp
        change ¬ (none : Option Bool) = some true
        simp
      try simp only [Go.Act.put, List.getElem_toArray, List.getElem_cons_zero, List.getElem_cons_succ, List.setIfInBounds_toArray, List.set_cons_zero, List.set_cons_succ]
      refine wpAnyH_take (i := 17) (v := undef) rfl (by kernel_rfl) (by kernel_rfl) (by kernel_rfl) (fun _ _ _ h => h) (Or.inr ⟨?_, rfl⟩) (by assumption) ?_
      · go_simp
        change ¬ (none : Option Bool) = some true
        simp
      try simp only [Go.Act.put, List.getElem_toArray, List.getElem_cons_zero, List.getElem_cons_succ, List.setIfInBounds_toArray, List.set_cons_zero, List.set_cons_succ]
      refine wpAnyH_take (i := 18) (v := undef) rfl (by kernel_rfl) (by kernel_rfl) (by kernel_rfl) (fun _ _ _ h => h) (Or.inr ⟨?_, rfl⟩) (by assumption) ?_
      · go_simp
        change ¬ (none : Option Bool) = some true
        simp
      try simp only [Go.Act.put, List.getElem_toArray, List.getElem_cons_zero, List.getElem_cons_succ, List.setIfInBounds_toArray, List.set_cons_zero, List.set_cons_succ]
      refine wpAnyH_take (i := 19) (v := undef) rfl (by kernel_rfl) (by kernel_rfl) (by kernel_rfl) (fun _ _ _ h => h) (Or.inr ⟨?_, rfl⟩) (by assumption) ?_
      · go_simp
        change ¬ (none : Option Bool) = some true
        simp
      try simp only [Go.Act.put, List.getElem_toArray, List.getElem_cons_zero, List.getElem_cons_succ, List.setIfInBounds_toArray, List.set_cons_zero, List.set_cons_succ]
      refine wpAnyH_take (i := 20) (v := undef) rfl (by kernel_rfl) (by kernel_rfl) (by kernel_rfl) (fun _ _ _ h => h) (Or.inr ⟨?_, rfl⟩) (by assumption) ?_
      · go_simp
      try simp only [Go.Act.put, List.getElem_toArray, List.getElem_cons_zero, List.getElem_cons_succ, List.setIfInBounds_toArray, List.set_cons_zero, List.set_cons_succ]
      refine wpAnyH_take (i := 21) (v := .bool true) rfl (by kernel_rfl) (by kernel_rfl) (by kernel_rfl) (fun _ _ _ h => h) (Or.inl ⟨?ww21, ?hy21⟩) (by assumption) ?_
      case ww21 => go_simp
      case hy21 =>
        intro w hSw
        (try dsimp only at hSw)
        go_simp
      try simp only [Go.Act.put, List.getElem_toArray, List.getElem_cons_zero, List.getElem_cons_succ, List.setIfInBounds_toArray, List.set_cons_zero, List.set_cons_succ]
      refine wpAnyH_take (i := 22) (v := .bool true) rfl (by kernel_rfl) (by kernel_rfl) (by kernel_rfl) (fun _ _ _ h => h) (Or.inl ⟨?ww22, ?hy22⟩) (by assumption) ?_
      case ww22 => go_simp
      case hy22 =>
        intro w hSw
        (try dsimp only at hSw)
        go_simp
      try simp only [Go.Act.put, List.getElem_toArray, List.getElem_cons_zero, List.getElem_cons_succ, List.setIfInBounds_toArray, List.set_cons_zero, List.set_cons_succ]
      refine wpAnyH_take (i := 23) (v := .bool true) rfl (by kernel_rfl) (by kernel_rfl) (by kernel_rfl) (fun _ _ _ h => h) (Or.inl ⟨?ww23, ?hy23⟩) (by assumption) ?_
      case ww23 => go_simp
      case hy23 =>
        intro w hSw
        (try dsimp only at hSw)
        go_simp
      try simp only [Go.Act.put, List.getElem_toArray, List.getElem_cons_zero, List.getElem_cons_succ, List.setIfInBounds_toArray, List.set_cons_zero, List.set_cons_succ]
      refine wpAnyH_done (by kernel_rfl) ?_ _
      all_goals
        go_wp2
        go_ret
        exact ⟨rfl, HX2.out.trans (HXC.out.trans (by repeat (first | with_reducible exact Ext.refl _ | with_reducible assumption | with_reducible refine Ext.alloc ?_ _ | with_reducible refine Ext.drew ?_ | (with_reducible refine Ext.setCell ?_ (by first | exact Nat.le_refl _ | (dsimp only; omega) | (simp; done) | (simp; omega)) _) | with_reducible refine Ext.trans ?_ (by with_reducible assumption))))⟩
end Go.Proofs.YtfglpejbgfmojaaGreat

/- Walk: tollerlaw15.KeepAsks. -/
namespace Go.Proofs.YtfglpejbgfmojaaGreat
open Go.RowKit
set_option linter.unusedVariables false
set_option linter.unusedSimpArgs false

theorem sameR_at {e b e' b' : Int} {Z : Bool} (h : (decide (e = e') && decide (b = b')) = Z) (p p' : ByteArray) (k k' : Int) (w : World) :
    Calls Tryz.prog 13 #[.agg #[.string p, .int .u64 e, .int .u64 b, .int .u8 k], .agg #[.string p', .int .u64 e', .int .u64 b', .int .u8 k']] w fun x w' => x = .returned (.bool Z) ∧ Ext w w' := by
  rw [← h]
  exact ref15_Same p p' e b k e' b' k' w

set_option maxHeartbeats 4000000 in
set_option maxRecDepth 100000 in
theorem keepAsks_walk (q : Int) (v : Value) (ds : List Deed) (pm : Int) (rv : Value) (rs : List Rl) (mq : Int) (cv : Value) (cs : List UInt8) (p : ByteArray) (e b k : Int) (p2 : ByteArray) (e2 b2 k2 : Int) (n : Int) (xv : Value) (xs : List Nms) (w : World)
    (hq0 : 0 ≤ q) (hq1 : q < 256) (hv : DeedSlice w v ds) (hp0 : -9223372036854775808 ≤ pm) (hp1 : pm ≤ 9223372036854775807) (hr : RulesAt w rv rs) (hro : ∀ r ∈ rs, RlOk r) (hrl : rs.length ≤ maxLen) (hm0 : 0 ≤ mq) (hm1 : mq < 256) (hc : ByteSlice w cv cs) (hnn0 : 0 ≤ n) (hnn1 : n < 65536) (hx : NmsSlice w xv xs) :
    Calls Tryz.prog 3 #[.int .u8 q, v, .agg #[.int .i64 pm, rv], .int .u8 mq, cv, .agg #[.string p, .int .u64 e, .int .u64 b, .int .u8 k], .agg #[.string p2, .int .u64 e2, .int .u64 b2, .int .u8 k2], .int .u16 n, xv] w fun x w' => x = .returned (.bool true) ∧ Ext w w' := by
  have HV := Lib.hid hv
  have HC := Lib.hid hc
  have HXN := Lib.hid hx
  have HRO := Lib.hid hro
  have HR := Lib.hid hr
  obtain ⟨a, c, rfl, -⟩ := hv.form
  obtain ⟨ca, cc, rfl, -⟩ := hc.form
  obtain ⟨xa, xc, rfl, -⟩ := hx.form
  obtain ⟨ra, rc, rfl⟩ := hr.size
  obtain ⟨Z, hZ⟩ : ∃ Z, (decide (e = e2) && decide (b = b2)) = Z := ⟨_, rfl⟩
  have HAB := Lib.hid (fun W => same_at hZ p p2 k k2 W)
  have HRB := Lib.hid (fun W => sameR_at hZ p p2 k k2 W)
  have HAA := Lib.hid (fun W => same_at (e := e) (b := b) (e' := e) (b' := b) (Z := true) (by simp) p p k k W)
  have hZZ : (Z == Z) = true := by cases Z <;> rfl
  clear hv hc hx hro hr hZ
  have bP := ((Blk.new w #[.int .i64 pm, .slice ra rs.length rc] 25).alloc (.cells #[.string p, .int .u64 e, .int .u64 b, .int .u8 k] 29)).alloc (.cells #[.string p2, .int .u64 e2, .int .u64 b2, .int .u8 k2] 29)
  have bA := (Blk.new' (w.alloc (.cells #[.int .i64 pm, .slice ra rs.length rc] 25)) #[.string p, .int .u64 e, .int .u64 b, .int .u8 k] 29 (b := w.heap.size + 1) (by simp)).alloc (.cells #[.string p2, .int .u64 e2, .int .u64 b2, .int .u8 k2] 29)
  have bB := Blk.new' ((w.alloc (.cells #[.int .i64 pm, .slice ra rs.length rc] 25)).alloc (.cells #[.string p, .int .u64 e, .int .u64 b, .int .u8 k] 29)) #[.string p2, .int .u64 e2, .int .u64 b2, .int .u8 k2] 29 (b := w.heap.size + 1 + 1) (by simp)
  have hx0 : Ext w (((w.alloc (.cells #[.int .i64 pm, .slice ra rs.length rc] 25)).alloc (.cells #[.string p, .int .u64 e, .int .u64 b, .int .u8 k] 29)).alloc (.cells #[.string p2, .int .u64 e2, .int .u64 b2, .int .u8 k2] 29)) := (((Ext.refl w).alloc _).alloc _).alloc _
  go_enter Tryz.func3, Tryz.ntmps3
  go_upto_region 1 with fail
  generalize ((w.alloc (.cells #[.int .i64 pm, .slice ra rs.length rc] 25)).alloc (.cells #[.string p, .int .u64 e, .int .u64 b, .int .u8 k] 29)).alloc (.cells #[.string p2, .int .u64 e2, .int .u64 b2, .int .u8 k2] 29) = w0 at *
  generalize hS : w.heap.size = S at *
  go_wp2_with fail
  refine (law14_Heavy _ ds _ (HV.out.ext hx0)).mono ?_
  rintro x w1 ⟨⟨hh, rfl⟩, hx1⟩
  have b1 := bP.ext hx1
  have cP := b1.cell
  have hx01 := hx0.trans hx1
  by_cases hn : 400 < hh
  · go_wp2_with fail
    refine (law15_known _).mono ?_
    rintro x w2 ⟨rfl, hx2⟩
    go_wp2
    go_ret
    exact ⟨rfl, hx01.trans hx2⟩
  by_cases hr20 : (20 : Int) < (rs.length : Int)
  · go_wp2_with fail
    refine (law15_known _).mono ?_
    rintro x w2 ⟨rfl, hx2⟩
    go_wp2
    go_ret
    exact ⟨rfl, hx01.trans hx2⟩
  go_wp2_with fail
  refine (law15_known _).mono ?_
  rintro x w2 ⟨rfl, hx2⟩
  have HX2 := Lib.hid (hx01.trans hx2)
  have kb2 := b1.ext hx2
  have ka2 := bA.ext (hx1.trans hx2)
  have kd2 := bB.ext (hx1.trans hx2)
  have cA := ka2.cell
  have cB := kd2.cell
  clear bP bA bB b1 cP hx0 hx1 hx01 hx2
  go_upto_region 3 with fail
  go_cut [19] from 34 to 46 (fun x19 wx => x19 = .bool true ∧ Ext w2 wx)
  case first =>
    go_region_held3 (fun w' => (∀ o, w'.cell? ⟨S + 1, o, none⟩ = (#[.string p, .int .u64 e, .int .u64 b, .int .u8 k] : Array Value)[o]?) ∧ (∀ o, w'.cell? ⟨S + 1 + 1, o, none⟩ = (#[.string p2, .int .u64 e2, .int .u64 b2, .int .u8 k2] : Array Value)[o]?) ∧ Ext w2 w')
      (((try go_split_ands); refine ⟨Blk.cell (ka2.ext ?_), Blk.cell (kd2.ext ?_), ?_⟩ <;> (repeat (first | with_reducible exact Ext.refl _ | with_reducible assumption | with_reducible refine Ext.alloc ?_ _ | with_reducible refine Ext.drew ?_ | (with_reducible refine Ext.setCell ?_ (by first | exact Nat.le_refl _ | (dsimp only; omega) | (simp; done) | (simp; omega)) _) | with_reducible refine Ext.trans ?_ (by with_reducible assumption)))))
      (first
        | (go_at_call 12; (with_reducible refine (HAB.out _).mono ?_); rintro x w3 ⟨rfl, hx3⟩)
        | (go_at_call 13; (with_reducible refine (HRB.out _).mono ?_); rintro x w4 ⟨rfl, hx4⟩)
        | (go_at_call 12; (with_reducible refine (HAA.out _).mono ?_); rintro x w5 ⟨rfl, hx5⟩))
    all_goals
      go_wp2
      go_meet
      exact ⟨rfl, (by repeat (first | with_reducible exact Ext.refl _ | with_reducible assumption | with_reducible refine Ext.alloc ?_ _ | with_reducible refine Ext.drew ?_ | (with_reducible refine Ext.setCell ?_ (by first | exact Nat.le_refl _ | (dsimp only; omega) | (simp; done) | (simp; omega)) _) | with_reducible refine Ext.trans ?_ (by with_reducible assumption)))⟩
  case rest =>
    obtain ⟨rfl, hxc⟩ := hcut
    have cP := (kb2.ext hxc).cell
    have hx6 := HX2.out.trans hxc
    clear cA cB
    go_wp2_with fail
    refine (law15_asks q _ ds pm _ rs _ hq0 hq1 (HV.out.ext hx6) hp0 hp1 (HR.out.ext Rl.size4 hx6) HRO.out hrl).mono ?_
    rintro x w7 ⟨rfl, hx7⟩
    have hx67 := hx6.trans hx7
    go_wp2_with fail
    refine (law15_Rules mq _ cs _ hm0 hm1 (HC.out.ext hx67)).mono ?_
    rintro x w8 ⟨m8, rv8, rs8, rfl, hm81, hm89, hR8, hro8, hrl8, hx8⟩
    have h9 : 9 ≤ maxLen := by decide
    obtain ⟨ra8, rc8, rfl⟩ := hR8.size
    go_wp2_with fail
    refine (law15_asks q _ ds m8 _ rs8 _ hq0 hq1 (HV.out.ext (hx67.trans hx8)) (by omega) (by omega) hR8 hro8 (by omega)).mono ?_
    rintro x w9 ⟨rfl, hx9⟩
    have hx69 := hx67.trans (hx8.trans hx9)
    go_wp2_with fail
    refine (law12_Policy n _ xs _ hnn0 hnn1 (HXN.out.ext hx69)).mono ?_
    rintro x w10 ⟨rv10, rfl, hR10, hx10⟩
    have hp13 := polTo_len n (xs.take 12)
    rw [List.length_take] at hp13
    have h13 : 13 ≤ maxLen := by decide
    have hok := polTo_ok hnn0 (w := w) (xs.take 12) fun d hd => HXN.out.each d (List.mem_of_mem_take hd)
    have hR10' := RowOf.elems Rl.size4 hR10
    obtain ⟨ra10, rc10, rfl⟩ := hR10.size
    go_wp2_with fail
    refine (law15_asks q _ ds (1 + n % 50) _ (polRs n xs) _ hq0 hq1 (HV.out.ext (hx69.trans hx10)) (by omega) (by omega) hR10' hok (by unfold polRs; omega)).mono ?_
    rintro x w11 ⟨rfl, hx11⟩
    go_wp2
    go_ret
    exact ⟨rfl, hx69.trans (hx10.trans hx11)⟩
end Go.Proofs.YtfglpejbgfmojaaGreat
