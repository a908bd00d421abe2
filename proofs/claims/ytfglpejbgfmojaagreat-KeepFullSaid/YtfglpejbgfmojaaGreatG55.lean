/- Walk: tollerlaw15.KeepFull. -/
import Derived.BigQuiet
import Derived.Test.YtfglpejbgfmojaaGreatG54
import Derived.Test.YtfglpejbgfmojaaGreatG50
import Derived.Test.YtfglpejbgfmojaaGreatG40

/- Walk: tollerlaw15.KeepFull. -/
namespace Go.Proofs.YtfglpejbgfmojaaGreat
open Go.RowKit
set_option linter.unusedVariables false
set_option linter.unusedSimpArgs false

/-- keys of a row, where they lie -/
theorem keyrow_cells {base : Nat} {w : World} {v : Value} {l : List ByteArray} (h : KeyRow base w v l) (j : Nat) (hj : j < l.length) : ∃ b c, v = .slice (some ⟨b, 0, none⟩) l.length c ∧ base ≤ b ∧ b < w.heap.size ∧ w.cell? ⟨b, j, none⟩ = some (.string l[j]) := by
  obtain ⟨b, c, e, h1, h2, h3⟩ := RowOf.cells (enc := fun k => #[Value.string k]) (k := 1) (fun _ => rfl) h j hj
  refine ⟨b, c, e, h1, h2, ?_⟩
  have := h3 0 (by decide)
  rw [Nat.mul_one] at this
  exact this

set_option maxHeartbeats 4000000 in
set_option maxRecDepth 100000 in
theorem keepFull_walk (q : Int) (v : Value) (ds : List Deed) (mq : Int) (cv : Value) (cs : List UInt8) (w : World) (hq0 : 0 ≤ q) (hq1 : q < 256) (hv : DeedSlice w v ds) (hm0 : 0 ≤ mq) (hm1 : mq < 256) (hc : ByteSlice w cv cs) :
    Calls Tryz.prog 8 #[.int .u8 q, v, .int .u8 mq, cv] w fun x w' => x = .returned (.bool true) ∧ Ext w w' := by
  have HV := Lib.hid hv
  have HC := Lib.hid hc
  obtain ⟨a, c, rfl, -⟩ := hv.form
  obtain ⟨ca, cc', rfl, -⟩ := hc.form
  clear hv hc
  go_enter Tryz.func8, Tryz.ntmps8
  go_wp2_with fail
  refine (law14_Heavy _ ds _ HV.out).mono ?_
  rintro x w1 ⟨⟨n, rfl⟩, hx1⟩
  by_cases hn : 400 < n
  · go_wp2_with fail
    refine (law15_known _).mono ?_
    rintro x w2 ⟨rfl, hx2⟩
    go_wp2
    go_ret
    exact ⟨rfl, hx1.trans hx2⟩
  go_wp2_with fail
  refine (law15_start q _ ds _ (HV.out.ext hx1) hq0 hq1).mono ?_
  rintro x w2 ⟨t, m, cc, most, clock, l, xs, a3, n3, c3, rfl, hT, hlen, -, hx2⟩
  have HT := Lib.hid hT
  have HX := Lib.hid (hx1.trans hx2)
  have hn0 := hT.n0
  have hn1 := hT.n1
  have HACT := Lib.hid hT.act
  clear hT hx1 hx2
  go_wp2_with fail
  have hxG : Ext w2 (w2.alloc (.cells #[.int .i64 most, .int .u64 clock, .slice a3 n3 c3] 42)) := (Ext.refl w2).alloc _
  generalize w2.alloc (.cells #[.int .i64 most, .int .u64 clock, .slice a3 n3 c3] 42) = wG at *
  refine (law15_Rules mq _ cs _ (by assumption) (by assumption) (HC.out.ext (HX.out.trans hxG))).mono ?_
  rintro x w3 ⟨m3, rv, rs, rfl, hm31, hm39, hR, hro, hrl, hx3⟩
  obtain ⟨ra, rc, rfl⟩ := hR.size
  have hkl := keptL_len clock rs xs
  have hgl := goneL_len rs xs
  have hkg := kept_gone clock rs xs
  have hml : (9 : Nat) ≤ maxLen := by decide
  have bP := Blk.new w3 #[.int .i64 30, .slice ra rs.length rc] 25
  have hx4 : Ext w3 (w3.alloc (.cells #[.int .i64 30, .slice ra rs.length rc] 25)) := (Ext.refl w3).alloc _
  have HRO := Lib.hid hro
  go_upto_region 8 with fail
  generalize w3.alloc (.cells #[.int .i64 30, .slice ra rs.length rc] 25) = w4 at *
  have cP : ∀ o, w4.cell? ⟨w3.heap.size, o, none⟩ = (#[.int .i64 30, .slice ra rs.length rc] : Array Value)[o]? := bP.cell
  have HR := Lib.hid (hR.ext Rl.size4 hx4)
  have HP := Lib.hid bP
  have HX4 := Lib.hid (hxG.trans (hx3.trans hx4))
  clear hR hx4 hx3 hxG hro bP
  go_wp2_with fail
  refine (keep_KeepY _ (HT.out.ext HX4.out) 30 _ rs HR.out HRO.out (by omega) (by decide) (by decide) (by omega)).mono ?_
  rintro x w6 ⟨t6, m6, c6, l6, rfl, hT6, hx6⟩
  have HT6 := Lib.hid hT6
  have cP6 : ∀ o, w6.cell? ⟨w3.heap.size, o, none⟩ = (#[.int .i64 30, .slice ra rs.length rc] : Array Value)[o]? := (HP.out.ext hx6).cell
  have HX6 := Lib.hid hx6
  clear hT6 cP
  go_wp2_with fail
  refine (keep_LostA _ (HT.out.ext (HX4.out.trans HX6.out)) 30 _ rs (HR.out.ext Rl.size4 HX6.out) HRO.out (by omega)).mono ?_
  rintro x w7 ⟨v7, rfl, hr7, hx7⟩
  obtain ⟨a7, c7, rfl⟩ := hr7.size
  have hll : ((goneL rs xs).map (·.key)).length = (goneL rs xs).length := List.length_map _
  rw [hll]
  have HL7 := Lib.hid hr7
  have HX7 := Lib.hid hx7
  have hac : ((keptL clock rs xs).length : Int) + ((goneL rs xs).length : Int) = (xs.length : Int) := by omega
  clear hr7 hx7 hx6 cP6
  go_wp2_with fail
  refine (table_ClockA _ (HT6.out.ext HX7.out)).mono ?_
  rintro x w8 ⟨rfl, hx8⟩
  go_wp2_with fail
  refine (table_ClockA _ (HT.out.ext (HX4.out.trans (HX6.out.trans (HX7.out.trans hx8))))).mono ?_
  rintro x w9 ⟨rfl, hx9⟩
  go_wp2_with fail
  refine (table_ActiveA _ (HT6.out.ext (HX7.out.trans (hx8.trans hx9)))).mono ?_
  rintro x w10 ⟨rfl, hx10⟩
  go_wp2_with fail
  refine (table_ActiveA _ (HT.out.ext (HX4.out.trans (HX6.out.trans (HX7.out.trans (hx8.trans (hx9.trans hx10))))))).mono ?_
  rintro x w11 ⟨rfl, hx11⟩
  have HX11 := Lib.hid (HX7.out.trans (hx8.trans (hx9.trans (hx10.trans hx11))))
  have HL11 := Lib.hid (HL7.out.ext (hx8.trans (hx9.trans (hx10.trans hx11))))
  clear hx8 hx9 hx10 hx11
  go_wp2_with fail
  refine (table_EntriesA _ (HT.out.ext (HX4.out.trans (HX6.out.trans HX11.out)))).mono ?_
  rintro x w12 ⟨v12, rfl, hr12, hx12⟩
  obtain ⟨a12, c12, rfl⟩ := hr12.size
  have he1 : (xs.map (entOf clock)).length = xs.length := List.length_map _
  rw [he1]
  go_wp2_with fail
  refine (table_EntriesA _ (HT6.out.ext (HX11.out.trans hx12))).mono ?_
  rintro x w13 ⟨v13, rfl, hr13, hx13⟩
  obtain ⟨a13, c13, rfl⟩ := hr13.size
  have he2 : ((keptL clock rs xs).map (entOf clock)).length = (keptL clock rs xs).length := List.length_map _
  rw [he2]
  have HE1 := Lib.hid (hr12.ext hx13)
  have HE2 := Lib.hid hr13
  have HL13 := Lib.hid (HL11.out.ext (hx12.trans hx13))
  have HX13 := Lib.hid (HX11.out.trans (hx12.trans hx13))
  have HENT := Lib.hid (fun (s : Slot) (hs : s ∈ xs) (r : Rl) (hr : staysR rs s = some r) => HACT.out.entOf (rs := rs) hn0 (by omega) hs hr)
  clear hr12 hx12 hr13 hx13
  go_wp2
  go_loopw [18, 19, 20] (fun at' gn i wr => ∃ (k : Nat), k ≤ xs.length ∧ i = .int .i64 k ∧ at' = .int .i64 ((keptL clock rs (xs.take k)).length : Nat) ∧ gn = .int .i64 ((goneL rs (xs.take k)).length : Nat) ∧ Ext w13 wr) (fun _ _ i _ => xs.length - (intOf i).toNat)
  case atStart => exact ⟨0, by omega, rfl, rfl, rfl, Ext.refl _⟩
  case round =>
    obtain ⟨k, hk, rfl, rfl, rfl, hx⟩ := hrel
    have HXR := Lib.hid hx
    by_cases hlt : k < xs.length
    · have hk1l := keptL_len clock rs (xs.take k)
      have hg1l := goneL_len rs (xs.take k)
      rw [List.length_take] at hk1l hg1l
      obtain ⟨g1, cc1, e1, -, -, q1⟩ := (HE1.out.ext hx).cells ent_size k (by rw [he1]; exact hlt)
      rw [he1] at e1
      cases e1
      have hw0 : wr.cell? ⟨g1, k * 2, none⟩ = some (.string xs[k].key) := by have := q1 0 (by omega); rw [List.getElem_map] at this; exact this
      have hw1 : wr.cell? ⟨g1, k * 2 + 1, none⟩ = some (.int .u64 (entOf clock xs[k]).till) := by have := q1 1 (by omega); rw [List.getElem_map] at this; exact this
      clear q1
      cases hsr : staysR rs xs[k] with
      | some r =>
        obtain ⟨f1, f2, f3⟩ := kept_at (clock := clock) hlt hsr
        have hen := HENT.out xs[k] (List.getElem_mem _) r hsr
        obtain ⟨f4, f5⟩ := List.getElem?_eq_some_iff.1 f1
        obtain ⟨g2, cc2, e2, -, -, q2⟩ := (HE2.out.ext hx).cells ent_size (keptL clock rs (xs.take k)).length (by rw [he2]; exact f4)
        rw [he2] at e2
        cases e2
        have hi0 : wr.cell? ⟨g2, (keptL clock rs (xs.take k)).length * 2, none⟩ = some (.string xs[k].key) := by
          have := q2 0 (by omega)
          rw [List.getElem_map, f5, hen] at this
          exact this
        have hi1 : wr.cell? ⟨g2, (keptL clock rs (xs.take k)).length * 2 + 1, none⟩ = some (.int .u64 (entOf clock xs[k]).till) := by
          have := q2 1 (by omega)
          rw [List.getElem_map, f5, hen] at this
          exact this
        have HF := Lib.hid (And.intro f2 f3)
        clear q2 hen f1 f5 hsr hx f2 f3
        generalize (entOf clock xs[k]).till = tl at *
        generalize xs[k].key = ky at *
        generalize hA : (keptL clock rs (xs.take k)).length = A at *
        generalize hG : (goneL rs (xs.take k)).length = G at *
        generalize hK : (keptL clock rs xs).length = K at *
        have hAK : (A : Int) < (K : Int) := by omega
        have hd : decide ((A : Int) < (K : Int)) = true := by simpa using f4
        go_upto_region 19 with fail
        go_quiet (fail)
        go_wp2
        go_roundw
        case rel => exact ⟨k + 1, by omega, by go_num, by rw [HF.out.1]; go_num, by rw [HF.out.2], HXR.out.trans (Ext.drewNs _ _)⟩
        case measure => simp [intOf]; omega
      | none =>
        obtain ⟨f1, f2, f3⟩ := gone_at (clock := clock) hlt hsr
        have hnx := fun y (hy : (keptL clock rs xs)[(keptL clock rs (xs.take k)).length]? = some y) => kept_next HACT.out.up hlt hsr hy
        obtain ⟨f4, f5⟩ := List.getElem?_eq_some_iff.1 f1
        obtain ⟨g3, cc3, e3, -, -, q3⟩ := keyrow_cells (HL13.out.ext hx) (goneL rs (xs.take k)).length (by rw [hll]; exact f4)
        rw [hll] at e3
        cases e3
        rw [List.getElem_map, f5] at q3
        have HF := Lib.hid (And.intro f2 f3)
        by_cases hA : (keptL clock rs (xs.take k)).length < (keptL clock rs xs).length
        · obtain ⟨g2, cc2, e2, -, -, q2⟩ := (HE2.out.ext hx).cells ent_size (keptL clock rs (xs.take k)).length (by rw [he2]; exact hA)
          rw [he2] at e2
          cases e2
          have hyk := hnx _ (List.getElem?_eq_getElem hA)
          have hj0 := q2 0 (by omega)
          have hj1 := q2 1 (by omega)
          rw [List.getElem_map] at hj0 hj1
          generalize (keptL clock rs xs)[(keptL clock rs (xs.take k)).length] = y at *
          have hi0 : wr.cell? ⟨g2, (keptL clock rs (xs.take k)).length * 2, none⟩ = some (.string y.key) := hj0
          have hi1 : wr.cell? ⟨g2, (keptL clock rs (xs.take k)).length * 2 + 1, none⟩ = some (.int .u64 (entOf clock y).till) := hj1
          clear q2 hj0 hj1 hnx f1 f5 hsr hx f2 f3
          generalize (entOf clock xs[k]).till = tl at *
          generalize (entOf clock y).till = ty at *
          generalize xs[k].key = ky at *
          generalize y.key = yk at *
          generalize hA' : (keptL clock rs (xs.take k)).length = A at *
          generalize hG : (goneL rs (xs.take k)).length = G at *
          generalize hK : (keptL clock rs xs).length = K at *
          generalize hGG : (goneL rs xs).length = GG at *
          have hAK : (A : Int) < (K : Int) := by omega
          have hd : decide ((A : Int) < (K : Int)) = true := by simpa using hA
          have hne : (yk.toList == ky.toList) = false := beq_eq_false_iff_ne.2 fun e => hyk (toList_inj e)
          have hdg : decide ((G : Int) < (GG : Int)) = true := by simpa using f4
          go_upto_region 19 with fail
          go_quiet (fail)
          go_upto_region 21 with fail
          refine wp_genD (fun wz hwz => ?_)
          have hxz : Ext wr wz := by rw [hwz]; exact Ext.drewNs _ _
          have hw0 := hxz.keep hw0
          have hw1 := hxz.keep hw1
          have q3 := hxz.keep q3
          clear hwz
          go_quiet (fail)
          go_wp2
          go_roundw
          case rel => exact ⟨k + 1, by omega, by go_num, by rw [HF.out.1], by rw [HF.out.2]; go_num, (HXR.out.trans hxz).trans (Ext.drewNs _ _)⟩
          case measure => simp [intOf]; omega
        · clear hnx f1 f5 hsr hx f2 f3
          generalize (entOf clock xs[k]).till = tl at *
          generalize xs[k].key = ky at *
          generalize hA' : (keptL clock rs (xs.take k)).length = A at *
          generalize hG : (goneL rs (xs.take k)).length = G at *
          generalize hK : (keptL clock rs xs).length = K at *
          generalize hGG : (goneL rs xs).length = GG at *
          have hd : decide ((A : Int) < (K : Int)) = false := by simp; omega
          have hdg : decide ((G : Int) < (GG : Int)) = true := by simpa using f4
          go_upto_region 19 with fail
          go_quiet (fail)
          go_upto_region 21 with fail
          refine wp_genD (fun wz hwz => ?_)
          have hxz : Ext wr wz := by rw [hwz]; exact Ext.drewNs _ _
          have hw0 := hxz.keep hw0
          have hw1 := hxz.keep hw1
          have q3 := hxz.keep q3
          clear hwz
          go_quiet (fail)
          go_wp2
          go_roundw
          case rel => exact ⟨k + 1, by omega, by go_num, by rw [HF.out.1], by rw [HF.out.2]; go_num, (HXR.out.trans hxz).trans (Ext.drewNs _ _)⟩
          case measure => simp [intOf]; omega
    · have hkl : k = xs.length := by omega
      subst hkl
      rw [List.take_length]
      have HKIND := Lib.hid (fun (q : Slot) (hq : q ∈ keptL clock rs xs) => kept_kind hq)
      clear hx
      go_wp2_with fail
      refine (table_SlotsA _ (HT6.out.ext (HX13.out.trans HXR.out))).mono ?_
      rintro x w14 ⟨v14, rfl, hs14, hx14⟩
      obtain ⟨a14, c14, rfl⟩ := hs14.size
      have HS := Lib.hid hs14
      have HX14 := Lib.hid (HX13.out.trans (HXR.out.trans hx14))
      clear hs14 hx14
      go_wp2
      go_loopw [22] (fun i ws => ∃ (j : Nat), j ≤ (keptL clock rs xs).length ∧ i = .int .i64 j ∧ Ext w14 ws) (fun i _ => (keptL clock rs xs).length - (intOf i).toNat)
      case atStart => exact ⟨0, by omega, rfl, Ext.refl _⟩
      case round =>
        obtain ⟨j, hj, rfl, hx⟩ := hrel
        have HXJ := Lib.hid hx
        by_cases hlt : j < (keptL clock rs xs).length
        · obtain ⟨b, oo, rfl, hbl, -, -, -, -, e4, e5, -, -⟩ := (HS.out.ext hx).cells j hlt
          rw [HKIND.out _ (List.getElem_mem hlt)] at e5
          generalize (keptL clock rs xs)[j].rk = kk at *
          clear hx
          generalize hK : (keptL clock rs xs).length = K at *
          go_upto_region 28 with fail
          go_quiet (fail)
          go_wp2
          go_roundw
          case rel => exact ⟨j + 1, by omega, by go_num, HXJ.out.trans (Ext.drewNs _ _)⟩
          case measure => simp [intOf]; omega
        · go_wp2_with fail
          refine (law15_known _).mono ?_
          rintro x w15 ⟨rfl, hx15⟩
          go_wp2
          go_ret
          exact ⟨rfl, HX.out.trans (HX4.out.trans (HX6.out.trans (HX14.out.trans (HXJ.out.trans hx15))))⟩
end Go.Proofs.YtfglpejbgfmojaaGreat
