/- Walk: tollerlaw15.KeepNothing. -/
import Derived.Test.YtfglpejbgfmojaaGreatG51
import Derived.Test.YtfglpejbgfmojaaGreatG47
import Derived.Test.YtfglpejbgfmojaaGreatG7

/- Walk: tollerlaw15.KeepNothing. -/
namespace Go.Proofs.YtfglpejbgfmojaaGreat
open Go.RowKit
set_option linter.unusedVariables false
set_option linter.unusedSimpArgs false

theorem law15_start (q : Int) (v : Value) (ds : List Deed) (w : World) (hv : DeedSlice w v ds) (hq0 : 0 ≤ q) (hq1 : q < 256) :
    Calls Tryz.prog 17 #[.int .u8 q, v] w fun x w' => ∃ t m c most clock l xs a n cp, x = .returned (.tuple #[.pointer (some ⟨t, 0, none⟩), .agg #[.int .i64 most, .int .u64 clock, .slice a n cp]]) ∧ HasTab w' t m c most clock l xs ∧ xs.length ≤ 30 ∧ (∀ s ∈ xs, s.e < 20000 ∨ 90000 < s.e) ∧ Ext w w' := by
  refine (law15_BothG q v ds w hv hq0 hq1).mono ?_
  rintro x w' ⟨B, c, clock, l, v', all, rfl, hB, hrel, hx, hg⟩
  obtain ⟨a, cp, rfl⟩ := hrel.row.size
  have e := hrel.rel.slots hrel.ok hrel.n0 hrel.n1
  have hn := Act.eNum hg
  rw [e] at hn
  exact ⟨_, _, c, _, clock, l, _, a, _, cp, rfl, hrel.has hg, Nat.le_trans (hrel.has hg).lenX hrel.lenL, hn, hx⟩

set_option maxHeartbeats 2000000 in
set_option maxRecDepth 100000 in
theorem keepNothing_walk (q : Int) (v : Value) (ds : List Deed) (ev bu : Int) (w : World) (hq0 : 0 ≤ q) (hq1 : q < 256) (hv : DeedSlice w v ds) (he0 : 0 ≤ ev) (he1 : ev < 65536) (hb0 : 0 ≤ bu) (hb1 : bu < 65536) :
    Calls Tryz.prog 6 #[.int .u8 q, v, .int .u16 ev, .int .u16 bu] w fun x w' => x = .returned (.bool true) ∧ Ext w w' := by
  have HV := Lib.hid hv
  obtain ⟨a, c, rfl, -⟩ := hv.form
  clear hv
  have hw1 : IntKind.u64.wrap ev = ev := by rw [wrap_u64]; omega
  have hw2 : IntKind.u64.wrap (20000 + ev) = 20000 + ev := by rw [wrap_u64]; omega
  have hw3 : IntKind.u64.wrap bu = bu := by rw [wrap_u64]; omega
  have hw4 : IntKind.u64.wrap (1 + bu) = 1 + bu := by rw [wrap_u64]; omega
  go_enter Tryz.func6, Tryz.ntmps6
  go_wp2_with fail
  refine (law14_Heavy _ ds _ HV.out).mono ?_
  rintro x w1 ⟨⟨n, rfl⟩, hx1⟩
  by_cases hn : 400 < n
  · go_wp2_with fail
    refine (law15_known _).mono ?_
    rintro x w2 ⟨rfl, hx2⟩
    go_wp2
    go_ret
    exact ⟨rfl, hx1.trans hx2⟩
  go_wp2_with fail
  refine (law15_start q _ ds _ (HV.out.ext hx1) hq0 hq1).mono ?_
  rintro x w2 ⟨t, m, cc, most, clock, l, xs, a3, n3, c3, rfl, hT, hlen, hnum, hx2⟩
  have hst1 : ∀ s ∈ xs, staysR [⟨⟨#[]⟩, 20000 + ev, 1 + bu, 1⟩] s = none := fun s hs => stays_other fun r hr => by
    obtain rfl := List.mem_singleton.1 hr
    have := hnum s hs
    dsimp only
    omega
  have HN1 := Lib.hid (none_stays (clock := clock) hst1)
  have HN2 := Lib.hid (none_stays (clock := clock) (rs := []) (xs := xs) fun s hs => rfl)
  have HT := Lib.hid hT
  have HX := Lib.hid (hx1.trans hx2)
  have hn0 := hT.n0
  have hn1 := hT.n1
  clear hT hnum hst1 hx1 hx2
  go_wp2_with fail
  have hxG : Ext w2 (w2.alloc (.cells #[.int .i64 most, .int .u64 clock, .slice a3 n3 c3] 42)) := (Ext.refl w2).alloc _
  generalize w2.alloc (.cells #[.int .i64 most, .int .u64 clock, .slice a3 n3 c3] 42) = wG at *
  refine (table_SlotsA _ (HT.out.ext hxG)).mono ?_
  rintro x w3 ⟨vs, rfl, hs3, hx3⟩
  obtain ⟨az, cz, rfl⟩ := hs3.size
  have HS3 := Lib.hid hs3
  have HX3 := Lib.hid (hxG.trans hx3)
  clear hs3 hxG hx3
  have bR := (Blk.new w3 #[.string ⟨#[]⟩, .int .u64 (20000 + ev), .int .u64 (1 + bu), .int .u8 1] 29).alloc (.cells #[.int .i64 9, .slice (some ⟨w3.heap.size, 0, none⟩) 1 1] 25)
  have bP := Blk.new' (w3.alloc (.cells #[.string ⟨#[]⟩, .int .u64 (20000 + ev), .int .u64 (1 + bu), .int .u8 1] 29)) #[.int .i64 9, .slice (some ⟨w3.heap.size, 0, none⟩) 1 1] 25 (b := w3.heap.size + 1) (by simp)
  have hx4 : Ext w3 ((w3.alloc (.cells #[.string ⟨#[]⟩, .int .u64 (20000 + ev), .int .u64 (1 + bu), .int .u8 1] 29)).alloc (.cells #[.int .i64 9, .slice (some ⟨w3.heap.size, 0, none⟩) 1 1] 25)) := ((Ext.refl w3).alloc _).alloc _
  go_upto_region 8 with fail
  generalize (w3.alloc (.cells #[.string ⟨#[]⟩, .int .u64 (20000 + ev), .int .u64 (1 + bu), .int .u8 1] 29)).alloc (.cells #[.int .i64 9, .slice (some ⟨w3.heap.size, 0, none⟩) 1 1] 25) = w4 at *
  have cP := bP.cell
  have HR := Lib.hid (RulesAt.one (r := ⟨⟨#[]⟩, 20000 + ev, 1 + bu, 1⟩) bR 1)
  have HX4 := Lib.hid (HX3.out.trans hx4)
  have HX34 := Lib.hid hx4
  clear bR bP hx4
  go_wp2_with fail
  refine (keep_KeepA _ (HT.out.ext HX4.out) 9 _ [⟨⟨#[]⟩, 20000 + ev, 1 + bu, 1⟩] HR.out (fun r hr => by obtain rfl := List.mem_singleton.1 hr; exact rlOk_of (by decide) (by omega) (by omega) (by omega) (by omega) (by decide) (by decide)) (show 1 ≤ maxLen by decide) (by decide) (by decide)).mono ?_
  rw [HN1.out.1, HN1.out.2]
  rintro x w5 ⟨hx5, ⟨-, t5, m5, c5, l5, rfl, hT5⟩ | ⟨h, -⟩⟩
  rotate_left
  · exact absurd (by decide) h
  have HT5 := Lib.hid hT5
  have HX5 := Lib.hid hx5
  clear hT5 hx5 cP
  go_wp2_with fail
  refine (keep_KeepA _ (HT.out.ext (HX4.out.trans HX5.out)) 9 _ [] (ElemsAt.nil _ _ _) (fun r hr => by cases hr) (by decide) (by decide) (by decide)).mono ?_
  rw [HN2.out.1, HN2.out.2]
  rintro x w6 ⟨hx6, ⟨-, t6, m6, c6, l6, rfl, hT6⟩ | ⟨h, -⟩⟩
  rotate_left
  · exact absurd (by decide) h
  have HT6 := Lib.hid hT6
  have HX6 := Lib.hid hx6
  clear hT6 hx6
  go_wp2_with fail
  refine (law15_known _).mono ?_
  rintro x w7 ⟨rfl, hx7⟩
  go_wp2_with fail
  refine (table_ActiveA _ (HT5.out.ext (HX6.out.trans hx7))).mono ?_
  rintro x w8 ⟨rfl, hx8⟩
  go_wp2_with fail
  refine (table_ActiveA _ (HT6.out.ext (hx7.trans hx8))).mono ?_
  rintro x w9 ⟨rfl, hx9⟩
  have hx59 := HX6.out.trans (hx7.trans (hx8.trans hx9))
  have hx49 := HX5.out.trans hx59
  go_wp2_with fail
  refine (table_SlotsA _ (HT.out.ext (HX4.out.trans hx49))).mono ?_
  rintro x w10 ⟨v10, rfl, hs10, hx10⟩
  obtain ⟨a10, c10, rfl⟩ := hs10.size
  go_wp2_with fail
  refine (ref14_Same_yes _ _ xs _ hs10 (HS3.out.ext (HX34.out.trans (hx49.trans hx10))) (by omega)).mono ?_
  rintro x w11 ⟨rfl, hx11⟩
  go_wp2
  go_ret
  exact ⟨rfl, HX.out.trans (HX4.out.trans (hx49.trans (hx10.trans hx11)))⟩
end Go.Proofs.YtfglpejbgfmojaaGreat
