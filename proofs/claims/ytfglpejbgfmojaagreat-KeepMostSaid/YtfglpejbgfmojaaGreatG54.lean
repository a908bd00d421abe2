/- Walk: tollerlaw15.KeepTwice. -/
import Derived.Test.YtfglpejbgfmojaaGreatG53
import Derived.Test.YtfglpejbgfmojaaGreatG49

/- Walk: tollerlaw15.KeepTwice. -/
namespace Go.Proofs.YtfglpejbgfmojaaGreat
open Go.RowKit
set_option linter.unusedVariables false
set_option linter.unusedSimpArgs false

theorem keepErr_ok {most : Int} {n : Nat} (h1 : 1 ≤ most) (h2 : most ≤ 1000000) (h3 : (n : Int) ≤ most) : keepErr most n = 0 := by
  unfold keepErr
  rw [if_neg (by omega), if_neg (by omega)]
theorem keep_KeepY {t m c : Nat} {most clock : Int} {l : SMap} {xs : List Slot} (w : World) (h : HasTab w t m c most clock l xs) (most' : Int) (rv : Value) (rs : List Rl) (hr : RulesAt w rv rs) (hro : ∀ r ∈ rs, RlOk r) (hrl : rs.length ≤ maxLen)
    (h1 : 1 ≤ most') (h2 : most' ≤ 1000000) (h3 : ((keptL clock rs xs).length : Int) ≤ most') :
    Calls Tryz.prog 20 #[.pointer (some ⟨t, 0, none⟩), .agg #[.int .i64 most', rv]] w fun x w' => ∃ t m c l, x = .returned (.tuple #[.pointer (some ⟨t, 0, none⟩), .int .i64 ((goneL rs xs).length : Int), .int .u16 0]) ∧ HasTab w' t m c most' clock l (keptL clock rs xs) ∧ Ext w w' := by
  refine (keep_KeepA w h most' rv rs hr hro hrl (by omega) (by omega)).mono ?_
  rintro x w' ⟨hx, ⟨-, t', m', c', l', rfl, hT⟩ | ⟨hn, -⟩⟩
  · exact ⟨t', m', c', l', rfl, hT, hx⟩
  · exact absurd (keepErr_ok h1 h2 h3) hn

set_option maxHeartbeats 2000000 in
set_option maxRecDepth 100000 in
theorem keepTwice_walk (q : Int) (v : Value) (ds : List Deed) (mq : Int) (cv : Value) (cs : List UInt8) (w : World) (hq0 : 0 ≤ q) (hq1 : q < 256) (hv : DeedSlice w v ds) (hm0 : 0 ≤ mq) (hm1 : mq < 256) (hc : ByteSlice w cv cs) :
    Calls Tryz.prog 5 #[.int .u8 q, v, .int .u8 mq, cv] w fun x w' => x = .returned (.bool true) ∧ Ext w w' := by
  have HV := Lib.hid hv
  have HC := Lib.hid hc
  obtain ⟨a, c, rfl, -⟩ := hv.form
  obtain ⟨ca, cc', rfl, -⟩ := hc.form
  clear hv hc
  go_enter Tryz.func5, Tryz.ntmps5
  go_wp2_with fail
  refine (law14_Heavy _ ds _ HV.out).mono ?_
  rintro x w1 ⟨⟨n, rfl⟩, hx1⟩
  by_cases hn : 400 < n
  · go_wp2_with fail
    refine (law15_known _).mono ?_
    rintro x w2 ⟨rfl, hx2⟩
    go_wp2
    go_ret
    exact ⟨rfl, hx1.trans hx2⟩
  go_wp2_with fail
  refine (law15_start q _ ds _ (HV.out.ext hx1) hq0 hq1).mono ?_
  rintro x w2 ⟨t, m, cc, most, clock, l, xs, a3, n3, c3, rfl, hT, hlen, -, hx2⟩
  have HT := Lib.hid hT
  have HX := Lib.hid (hx1.trans hx2)
  have hn0 := hT.n0
  have hn1 := hT.n1
  have HTW := Lib.hid (fun rs => hT.act.twice (rs := rs) hT.n0 (by omega))
  clear hT hx1 hx2
  go_wp2_with fail
  have hxG : Ext w2 (w2.alloc (.cells #[.int .i64 most, .int .u64 clock, .slice a3 n3 c3] 42)) := (Ext.refl w2).alloc _
  generalize w2.alloc (.cells #[.int .i64 most, .int .u64 clock, .slice a3 n3 c3] 42) = wG at *
  refine (law15_Rules mq _ cs _ (by assumption) (by assumption) (HC.out.ext (HX.out.trans hxG))).mono ?_
  rintro x w3 ⟨m3, rv, rs, rfl, hm31, hm39, hR, hro, hrl, hx3⟩
  obtain ⟨ra, rc, rfl⟩ := hR.size
  have hkl := keptL_len clock rs xs
  have hml : (9 : Nat) ≤ maxLen := by decide
  have bP := Blk.new w3 #[.int .i64 50, .slice ra rs.length rc] 25
  have hx4 : Ext w3 (w3.alloc (.cells #[.int .i64 50, .slice ra rs.length rc] 25)) := (Ext.refl w3).alloc _
  have HRO := Lib.hid hro
  go_upto_region 8 with fail
  generalize w3.alloc (.cells #[.int .i64 50, .slice ra rs.length rc] 25) = w4 at *
  have cP : ∀ o, w4.cell? ⟨w3.heap.size, o, none⟩ = (#[.int .i64 50, .slice ra rs.length rc] : Array Value)[o]? := bP.cell
  have HR := Lib.hid (hR.ext Rl.size4 hx4)
  have HP := Lib.hid bP
  have HX4 := Lib.hid (hxG.trans (hx3.trans hx4))
  clear hR hx4 hx3 hxG hro bP
  go_wp2_with fail
  refine (keep_KeepY _ (HT.out.ext HX4.out) 50 _ rs HR.out HRO.out (by omega) (by decide) (by decide) (by omega)).mono ?_
  rintro x w6 ⟨t6, m6, c6, l6, rfl, hT6, hx6⟩
  have HT6 := Lib.hid hT6
  have cP6 : ∀ o, w6.cell? ⟨w3.heap.size, o, none⟩ = (#[.int .i64 50, .slice ra rs.length rc] : Array Value)[o]? := (HP.out.ext hx6).cell
  have hkl2 := keptL_len clock rs (keptL clock rs xs)
  have HX6 := Lib.hid hx6
  clear hT6 cP
  go_wp2_with fail
  refine (keep_KeepY _ HT6.out 50 _ rs (HR.out.ext Rl.size4 HX6.out) HRO.out (by omega) (by decide) (by decide) (by omega)).mono ?_
  rw [(HTW.out rs).1, (HTW.out rs).2]
  rintro x w7 ⟨t7, m7, c7, l7, rfl, hT7, hx7⟩
  have HT7 := Lib.hid hT7
  have HX7 := Lib.hid hx7
  clear hT7 hx7 hx6 cP6
  go_wp2_with fail
  refine (law15_known _).mono ?_
  rintro x w8 ⟨rfl, hx8⟩
  go_wp2_with fail
  refine (table_SlotsA _ (HT6.out.ext (HX7.out.trans hx8))).mono ?_
  rintro x w9 ⟨v9, rfl, hs9, hx9⟩
  obtain ⟨a9, c9, rfl⟩ := hs9.size
  go_wp2_with fail
  refine (table_SlotsA _ (HT7.out.ext (hx8.trans hx9))).mono ?_
  rintro x w10 ⟨v10, rfl, hs10, hx10⟩
  obtain ⟨a10, c10, rfl⟩ := hs10.size
  go_wp2_with fail
  refine (ref14_Same_yes _ _ (keptL clock rs xs) _ (hs9.ext hx10) hs10 (by omega)).mono ?_
  rintro x w11 ⟨rfl, hx11⟩
  have hx611 := HX7.out.trans (hx8.trans (hx9.trans (hx10.trans hx11)))
  have cP11 : ∀ o, w11.cell? ⟨w3.heap.size, o, none⟩ = (#[.int .i64 50, .slice ra rs.length rc] : Array Value)[o]? := ((HP.out.ext HX6.out).ext hx611).cell
  go_wp2_with fail
  refine (keep_LostA _ (HT6.out.ext hx611) 50 _ rs (HR.out.ext Rl.size4 (HX6.out.trans hx611)) HRO.out (by omega)).mono ?_
  rw [(HTW.out rs).2]
  rintro x w12 ⟨v12, rfl, hr12, hx12⟩
  obtain ⟨a12, c12, rfl⟩ := hr12.size
  go_wp2
  go_ret
  exact ⟨rfl, HX.out.trans (HX4.out.trans (HX6.out.trans (hx611.trans hx12)))⟩
end Go.Proofs.YtfglpejbgfmojaaGreat
