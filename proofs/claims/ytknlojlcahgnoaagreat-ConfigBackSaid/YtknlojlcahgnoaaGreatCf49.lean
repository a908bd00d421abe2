/- Walk: tollerlaw12.again. Walk: tollerlaw12.ConfigBack. Walk: tollerlaw12.ConfigPrints. (Printed by a program of mine.) An api.Rule that comes in as an argument, opened. -/
import Derived.Deep.LoopGhost
import Derived.RegionTactic
import Derived.BigRegion
import Derived.Test.YtknlojlcahgnoaaGreatProg
import Derived.Lib.SmallJoins
import Derived.Test.YtknlojlcahgnoaaGreatCf48
import Derived.Test.YtknlojlcahgnoaaGreatCf39
import Derived.Test.YtknlojlcahgnoaaGreatCf45
import Derived.Test.YtknlojlcahgnoaaGreatCf21
import Derived.Test.YtknlojlcahgnoaaGreatCf28
import Derived.Test.YtknlojlcahgnoaaGreatCf6

namespace Go.Proofs.YtknlojlcahgnoaaGreat
open Go.RowKit
set_option linter.unusedVariables false
set_option linter.unusedSimpArgs false

set_option maxHeartbeats 4000000 in
set_option maxRecDepth 100000 in
theorem again_bad (tv : Value) (l : List UInt8) (w : World) (ht : ByteSlice w tv l) (hcp : CapLe tv) (e pa pb : Int) (he : e ≠ 0) (hc : cfgParse l = ⟨e, pa, pb, 0, []⟩) : Calls Tryz.prog 20 #[tv] w fun x w' => x = .returned (.bool true) ∧ Ext w w' := by
  have HC1 := Lib.hid ((config_Parse _ _ w ht hcp).mono fun x w' h => h.open hc)
  dsimp only at HC1
  obtain ⟨⟨ta, tc, rfl, -⟩, -⟩ := ht
  have hz : (e == 0) = false := by simpa using he
  have hz2 : decide (e = 0) = false := by simpa using he
  clear hc hcp
  go_enter Tryz.func20, Tryz.ntmps20
  go_upto_region 2 with (first | (go_at_call 17; refine HC1.out.mono ?_; rintro x w1 ⟨v1, rfl, ho1, hx1⟩; have hat1 := RuleOwn.at ho1; obtain ⟨a1, c1, rfl⟩ := hat1.size; have HX1 := Lib.hid hx1; clear hat1 ho1 hx1) | fail)
  have bP := (Blk.new w1 #[.int .i64 0, .slice a1 ([] : List Rl).length c1] 28).alloc (.cells #[.int .i64 pa, .int .i64 pb] 44)
  have hxa : Ext w1 ((w1.alloc (.cells #[.int .i64 0, .slice a1 ([] : List Rl).length c1] 28)).alloc (.cells #[.int .i64 pa, .int .i64 pb] 44)) := ((Ext.refl w1).alloc _).alloc _
  generalize (w1.alloc (.cells #[.int .i64 0, .slice a1 ([] : List Rl).length c1] 28)).alloc (.cells #[.int .i64 pa, .int .i64 pb] 44) = w2 at *
  have p0 : w2.cell? ⟨w1.heap.size, 0, none⟩ = some (.int .i64 0) := bP.cell 0
  have p1 : w2.cell? ⟨w1.heap.size, 1, none⟩ = some (.slice a1 0 c1) := bP.cell 1
  have HX2 := Lib.hid (HX1.out.trans hxa)
  clear bP hxa
  go_wp2_with fail
  go_ret
  exact ⟨rfl, HX2.out⟩
set_option maxHeartbeats 4000000 in
set_option maxRecDepth 100000 in
theorem again_ok (tv : Value) (l : List UInt8) (w : World) (ht : ByteSlice w tv l) (hcp : CapLe tv) (most : Int) (rs : List Rl) (hc : cfgParse l = ⟨0, 0, 0, most, rs⟩) (hP : PolOk most rs) (hord : ordL Rl.key rs = rs) : Calls Tryz.prog 20 #[tv] w fun x w' => x = .returned (.bool true) ∧ Ext w w' := by
  have HC1 := Lib.hid ((config_Parse _ _ w ht hcp).mono fun x w' h => h.open hc)
  dsimp only at HC1
  have hpp := parse_print hP
  rw [hord] at hpp
  obtain ⟨⟨ta, tc, rfl, -⟩, -⟩ := ht
  have hm0 := hP.m0
  have hm1 := hP.m1
  have hlen := hP.len
  have HPR := Lib.hid (fun v V (h : RulesAt V v rs) => config_Print_ok most v rs V (by omega) (by omega) h hP.ok (by omega) hP.cfg)
  have HC2 := Lib.hid (fun v V (h : ByteSlice V v (prText most rs) ∧ CapLe v) => (config_Parse v _ V h.1 h.2).mono fun x w' h => h.open hpp)
  have HRI := Lib.hid (fun v V (h : RulesAt V v rs) => config_Right most v rs V (by omega) (by omega) h hP.ok (by omega))
  have HSA := Lib.hid (fun v1 v2 V (h1 : RulesAt V v1 rs) (h2 : RulesAt V v2 rs) => ref12_Same_yes most v1 v2 rs V h1 h2 (by omega))
  dsimp only at HC2
  rw [hP.cfg] at HRI
  clear hc hcp hpp hord hP hm0 hm1
  generalize prText most rs = T at *
  go_enter Tryz.func20, Tryz.ntmps20
  go_upto_region 4 with (first | (go_at_call 17; refine HC1.out.mono ?_; rintro x w1 ⟨v1, rfl, ho1, hx1⟩; have hat1 := RuleOwn.at ho1; obtain ⟨a1, c1, rfl⟩ := hat1.size; have HA1 := Lib.hid hat1; have HX1 := Lib.hid hx1; clear hat1 ho1 hx1) | fail)
  have bP := (Blk.new w1 #[.int .i64 most, .slice a1 rs.length c1] 28).alloc (.cells #[.int .i64 0, .int .i64 0] 44)
  have hxa : Ext w1 ((w1.alloc (.cells #[.int .i64 most, .slice a1 rs.length c1] 28)).alloc (.cells #[.int .i64 0, .int .i64 0] 44)) := ((Ext.refl w1).alloc _).alloc _
  generalize (w1.alloc (.cells #[.int .i64 most, .slice a1 rs.length c1] 28)).alloc (.cells #[.int .i64 0, .int .i64 0] 44) = w2 at *
  have HBP := Lib.hid bP
  have HX2 := Lib.hid (HX1.out.trans hxa)
  have HA2 := Lib.hid (HA1.out.ext Rl.size4 hxa)
  have p0 : w2.cell? ⟨w1.heap.size, 0, none⟩ = some (.int .i64 most) := bP.cell 0
  have p1 : w2.cell? ⟨w1.heap.size, 1, none⟩ = some (.slice a1 rs.length c1) := bP.cell 1
  clear bP hxa HA1 HX1 HC1
  go_wp2_with fail
  refine (HPR.out _ _ HA2.out).mono ?_
  rintro x w3 ⟨v3, rfl, hb3, hc3, hx3⟩
  have HB3 := Lib.hid (And.intro hb3 hc3)
  have HX3 := Lib.hid hx3
  clear hb3 hc3 hx3 p0 p1
  go_wp2_with fail
  refine (HC2.out _ _ HB3.out).mono ?_
  rintro x w4 ⟨v4, rfl, ho4, hx4⟩
  have hat4 := RuleOwn.at ho4
  obtain ⟨a4, c4, rfl⟩ := hat4.size
  have HA4 := Lib.hid hat4
  have HX4 := Lib.hid hx4
  clear hat4 ho4 hx4
  go_upto_region 6 with fail
  have bQ := (Blk.new w4 #[.int .i64 most, .slice a4 rs.length c4] 28).alloc (.cells #[.int .i64 0, .int .i64 0] 44)
  have hxb : Ext w4 ((w4.alloc (.cells #[.int .i64 most, .slice a4 rs.length c4] 28)).alloc (.cells #[.int .i64 0, .int .i64 0] 44)) := ((Ext.refl w4).alloc _).alloc _
  generalize (w4.alloc (.cells #[.int .i64 most, .slice a4 rs.length c4] 28)).alloc (.cells #[.int .i64 0, .int .i64 0] 44) = w5 at *
  have HBQ := Lib.hid bQ
  have HX35 := Lib.hid (HX4.out.trans hxb)
  have HX25 := Lib.hid (HX3.out.trans (HX4.out.trans hxb))
  have HA5 := Lib.hid (HA4.out.ext Rl.size4 hxb)
  have p0 : w5.cell? ⟨w4.heap.size, 0, none⟩ = some (.int .i64 most) := bQ.cell 0
  have p1 : w5.cell? ⟨w4.heap.size, 1, none⟩ = some (.slice a4 rs.length c4) := bQ.cell 1
  clear bQ hxb HA4 HX4 HC2
  go_wp2_with fail
  refine (HPR.out _ _ HA5.out).mono ?_
  rintro x w6 ⟨v6, rfl, hb6, hc6, hx6⟩
  have HB6 := Lib.hid hb6
  have HX6 := Lib.hid hx6
  have q0 : w6.cell? ⟨w1.heap.size, 0, none⟩ = some (.int .i64 most) := (HBP.out.ext (HX25.out.trans hx6)).cell 0
  have q1 : w6.cell? ⟨w1.heap.size, 1, none⟩ = some (.slice a1 rs.length c1) := (HBP.out.ext (HX25.out.trans hx6)).cell 1
  clear hb6 hc6 hx6 p0 p1
  go_wp2_with fail
  refine (HRI.out _ _ (HA2.out.ext Rl.size4 (HX25.out.trans HX6.out))).mono ?_
  rintro x w7 ⟨rfl, hx7⟩
  have HX7 := Lib.hid (HX6.out.trans hx7)
  have q2 : w7.cell? ⟨w1.heap.size, 0, none⟩ = some (.int .i64 most) := (HBP.out.ext (HX25.out.trans HX7.out)).cell 0
  have q3 : w7.cell? ⟨w1.heap.size, 1, none⟩ = some (.slice a1 rs.length c1) := (HBP.out.ext (HX25.out.trans HX7.out)).cell 1
  have q4 : w7.cell? ⟨w4.heap.size, 0, none⟩ = some (.int .i64 most) := (HBQ.out.ext HX7.out).cell 0
  have q5 : w7.cell? ⟨w4.heap.size, 1, none⟩ = some (.slice a4 rs.length c4) := (HBQ.out.ext HX7.out).cell 1
  have HX67 := Lib.hid hx7
  clear hx7 q0 q1
  go_wp2_with fail
  refine (HSA.out _ _ _ (HA2.out.ext Rl.size4 (HX25.out.trans HX7.out)) (HA5.out.ext Rl.size4 HX7.out)).mono ?_
  rintro x w8 ⟨rfl, hx8⟩
  have k1 := conv_slice _ _ _ (HB3.out.1.ext (HX35.out.trans (HX7.out.trans hx8)))
  have k2 := conv_slice _ _ _ (HB6.out.ext (HX67.out.trans hx8))
  have HX8 := Lib.hid (HX2.out.trans (HX25.out.trans (HX7.out.trans hx8)))
  clear hx8 q2 q3 q4 q5
  go_wp2_with fail
  go_ret
  exact ⟨by simp, HX8.out⟩
theorem law12_again (tv : Value) (l : List UInt8) (w : World) (ht : ByteSlice w tv l) (hcp : CapLe tv) : Calls Tryz.prog 20 #[tv] w fun x w' => x = .returned (.bool true) ∧ Ext w w' := by
  rcases cfgParse_cases l with ⟨e, a, b, he, hc⟩ | ⟨most, rs, hc, hP, hord⟩
  · exact again_bad tv l w ht hcp e a b he hc
  · exact again_ok tv l w ht hcp most rs hc hP hord
end Go.Proofs.YtknlojlcahgnoaaGreat

namespace Go.Proofs.YtknlojlcahgnoaaGreat
open Go.RowKit
set_option linter.unusedVariables false
set_option linter.unusedSimpArgs false

set_option maxHeartbeats 4000000 in
set_option maxRecDepth 100000 in
theorem law12_ConfigBack (n : Int) (v : Value) (l : List Nms) (tv : Value) (tl : List UInt8) (at_ b : Int) (w : World) (hn0 : 0 ≤ n) (hn1 : n < 65536) (hv : NmsSlice w v l) (ht : ByteSlice w tv tl ∧ CapLe tv) (ha0 : 0 ≤ at_) (ha1 : at_ < 65536) (hb0 : 0 ≤ b) (hb1 : b < 256) :
    Calls Tryz.prog 5 #[.int .u16 n, v, tv, .int .u16 at_, .int .u8 b] w fun x w' => x = .returned (.bool true) ∧ Ext w w' := by
  have hall := hv
  obtain ⟨⟨va, vc, rfl, -⟩, -, heach⟩ := hv
  obtain ⟨hP, hlen, t0, ht0⟩ := polRs_ok hn0 l heach
  have HP := Lib.hid hP
  have HPO := Lib.hid (fun V (e : Ext w V) => law12_Policy n _ l V hn0 hn1 (hall.ext e))
  obtain ⟨rs, hrs⟩ : ∃ rs, polRs n l = rs := ⟨_, rfl⟩
  rw [hrs] at HP HPO hlen
  obtain ⟨most, hmost⟩ : ∃ most, 1 + n % 50 = most := ⟨_, rfl⟩
  rw [hmost] at HP HPO
  have hm0 : 1 ≤ most := by omega
  have hm1 : most ≤ 50 := by omega
  have HK := Lib.hid (fun W => law12_known W)
  have HAT := Lib.hid (fun V (e : Ext w V) => law12_again tv tl V (ht.1.ext e) ht.2)
  obtain ⟨⟨ta, tc, rfl, -⟩, htm⟩ := id ht.1
  have hmx : maxLen ≤ 9223372036854775807 := by decide
  clear hP heach hall ht0 ht hrs hmost
  go_enter Tryz.func5, Tryz.ntmps5
  by_cases hbig : 400 < tl.length
  · have hb2 : (400 : Int) < (tl.length : Int) := by omega
    go_wp2_with fail
    refine (HK.out _).mono ?_
    rintro x w2 ⟨rfl, hx2⟩
    go_wp2_with fail
    go_ret
    exact ⟨rfl, hx2⟩
  · have hb2 : ¬ (400 : Int) < (tl.length : Int) := by omega
    go_wp2_with fail
    refine (HPO.out _ (Ext.refl _)).mono ?_
    rintro x w2 ⟨rv, rfl, hrow, hx2⟩
    have hat : RulesAt w2 rv rs := RuleRow.at hrow
    obtain ⟨ra, rc, rfl⟩ := hat.size
    have HAT2 := Lib.hid hat
    have HX2 := Lib.hid hx2
    clear hat hrow hx2 HPO
    go_upto_region 4 with fail
    have bP := Blk.new w2 #[.int .i64 most, .slice ra rs.length rc] 28
    have hxa : Ext w2 (w2.alloc (.cells #[.int .i64 most, .slice ra rs.length rc] 28)) := (Ext.refl w2).alloc _
    generalize w2.alloc (.cells #[.int .i64 most, .slice ra rs.length rc] 28) = wa at *
    have HBP := Lib.hid bP
    have HXA := Lib.hid (HX2.out.trans hxa)
    have HATA := Lib.hid (HAT2.out.ext Rl.size4 hxa)
    have p0 : wa.cell? ⟨w2.heap.size, 0, none⟩ = some (.int .i64 most) := bP.cell 0
    have p1 : wa.cell? ⟨w2.heap.size, 1, none⟩ = some (.slice ra rs.length rc) := bP.cell 1
    clear bP hxa HAT2 HX2
    have hpp := parse_print HP.out
    have HPR := Lib.hid (config_Print_ok most _ rs wa (by omega) (by omega) HATA.out HP.out.ok (by omega) HP.out.cfg)
    have HC2 := Lib.hid (fun v V (h : ByteSlice V v (prText most rs) ∧ CapLe v) => (config_Parse v _ V h.1 h.2).mono fun x w' h => h.open hpp)
    dsimp only at HC2
    clear hpp
    have HBE := Lib.hid (fun V (e : Ext wa V) => law12_Bent most _ rs at_ b ⟨#[]⟩ V HP.out (HATA.out.ext Rl.size4 e) ha0 ha1 hb0 hb1 (by decide))
    have HOR := Lib.hid (fun V (e : Ext wa V) => config_Order most (.slice ra rs.length rc) rs V (HATA.out.ext Rl.size4 e) (by omega))
    generalize prText most rs = T at *
    go_wp2_with fail
    refine HPR.out.mono ?_
    rintro x w3 ⟨v3, rfl, hb3, hc3, hx3⟩
    have HB3 := Lib.hid (And.intro hb3 hc3)
    have HX3 := Lib.hid hx3
    clear hb3 hc3 hx3 p0 p1 HPR
    go_wp2_with fail
    refine (HC2.out _ _ HB3.out).mono ?_
    rintro x w4 ⟨v4, rfl, ho4, hx4⟩
    have hat4 := RuleOwn.at ho4
    obtain ⟨a4, c4, rfl⟩ := hat4.size
    rw [show (ordL Rl.key rs).length = rs.length from ordL_len rs] at hat4 ⊢
    have HA4 := Lib.hid hat4
    have HX4 := Lib.hid hx4
    clear hat4 ho4 hx4
    go_upto_region 6 with fail
    have bQ := (Blk.new w4 #[.int .i64 most, .slice a4 rs.length c4] 28).alloc (.cells #[.int .i64 0, .int .i64 0] 44)
    have hxb : Ext w4 ((w4.alloc (.cells #[.int .i64 most, .slice a4 rs.length c4] 28)).alloc (.cells #[.int .i64 0, .int .i64 0] 44)) := ((Ext.refl w4).alloc _).alloc _
    generalize (w4.alloc (.cells #[.int .i64 most, .slice a4 rs.length c4] 28)).alloc (.cells #[.int .i64 0, .int .i64 0] 44) = w5 at *
    have HQ5 := Lib.hid bQ
    have HXB := Lib.hid (HX3.out.trans (HX4.out.trans hxb))
    have HP5 := Lib.hid (HBP.out.ext HXB.out)
    have HA5 := Lib.hid (HA4.out.ext Rl.size4 hxb)
    have HXF := Lib.hid (HXA.out.trans HXB.out)
    clear bQ hxb HA4 HX4 HC2 HBP HB3 HX3
    have HSA := Lib.hid (fun v4 V (e : Ext w5 V) (h4 : RulesAt V v4 (ordL Rl.key rs)) => ref12_Same_yes most (.slice a4 rs.length c4) v4 (ordL Rl.key rs) V (HA5.out.ext Rl.size4 e) h4 (by rw [ordL_len]; omega))
    go_region_held3 (fun w' => (∀ o, w'.cell? ⟨w4.heap.size, o, none⟩ = (#[.int .i64 most, .slice a4 rs.length c4] : Array Value)[o]?) ∧ (∀ o, w'.cell? ⟨w2.heap.size, o, none⟩ = (#[.int .i64 most, .slice ra rs.length rc] : Array Value)[o]?) ∧ Ext w5 w')
      (((try go_split_ands); refine ⟨Blk.cell (HQ5.out.ext ?_), Blk.cell (HP5.out.ext ?_), ?_⟩ <;> (repeat (first | with_reducible exact Ext.refl _ | with_reducible assumption | with_reducible refine Ext.alloc ?_ _ | with_reducible refine Ext.drew ?_ | (with_reducible refine Ext.setCell ?_ (by first | exact Nat.le_refl _ | (dsimp only; omega) | (simp; done) | (simp; omega)) _) | with_reducible refine Ext.trans ?_ (by with_reducible assumption)))))
      (first
        | (go_at_call 10; (with_reducible refine (HK.out _).mono ?_); rintro x w11 ⟨rfl, hx11⟩)
        | (go_at_call 19; (with_reducible refine (HOR.out _ (HXB.out.trans (by repeat (first | with_reducible exact Ext.refl _ | with_reducible assumption | with_reducible refine Ext.alloc ?_ _ | with_reducible refine Ext.drew ?_ | (with_reducible refine Ext.setCell ?_ (by first | exact Nat.le_refl _ | (dsimp only; omega) | (simp; done) | (simp; omega)) _) | with_reducible refine Ext.trans ?_ (by with_reducible assumption))))).mono ?_); rintro x w12 ⟨v6, rfl, ho6, hx12⟩; have h6 := RuleOwn.at ho6; obtain ⟨a6, c6, rfl⟩ := h6.size)
        | (go_at_call 18; (with_reducible refine (HSA.out _ _ (by repeat (first | with_reducible exact Ext.refl _ | with_reducible assumption | with_reducible refine Ext.alloc ?_ _ | with_reducible refine Ext.drew ?_ | (with_reducible refine Ext.setCell ?_ (by first | exact Nat.le_refl _ | (dsimp only; omega) | (simp; done) | (simp; omega)) _) | with_reducible refine Ext.trans ?_ (by with_reducible assumption))) (h6.ext Rl.size4 (by repeat (first | with_reducible exact Ext.refl _ | with_reducible assumption | with_reducible refine Ext.alloc ?_ _ | with_reducible refine Ext.drew ?_ | (with_reducible refine Ext.setCell ?_ (by first | exact Nat.le_refl _ | (dsimp only; omega) | (simp; done) | (simp; omega)) _) | with_reducible refine Ext.trans ?_ (by with_reducible assumption))))).mono ?_); rintro x w13 ⟨rfl, hx13⟩)
        | (go_at_call 20; (with_reducible refine (HAT.out _ (HXF.out.trans (by repeat (first | with_reducible exact Ext.refl _ | with_reducible assumption | with_reducible refine Ext.alloc ?_ _ | with_reducible refine Ext.drew ?_ | (with_reducible refine Ext.setCell ?_ (by first | exact Nat.le_refl _ | (dsimp only; omega) | (simp; done) | (simp; omega)) _) | with_reducible refine Ext.trans ?_ (by with_reducible assumption))))).mono ?_); rintro x w14 ⟨rfl, hx14⟩)
        | (go_at_call 13; (with_reducible refine (HBE.out _ (HXB.out.trans (by repeat (first | with_reducible exact Ext.refl _ | with_reducible assumption | with_reducible refine Ext.alloc ?_ _ | with_reducible refine Ext.drew ?_ | (with_reducible refine Ext.setCell ?_ (by first | exact Nat.le_refl _ | (dsimp only; omega) | (simp; done) | (simp; omega)) _) | with_reducible refine Ext.trans ?_ (by with_reducible assumption))))).mono ?_); rintro x w15 ⟨vz, lz, rfl, hbz, -, hx15⟩; have hb9 := own_bytes hbz rfl)
        | (go_at_call 20; (with_reducible refine (law12_again _ _ _ (hb9.1.ext (by repeat (first | with_reducible exact Ext.refl _ | with_reducible assumption | with_reducible refine Ext.alloc ?_ _ | with_reducible refine Ext.drew ?_ | (with_reducible refine Ext.setCell ?_ (by first | exact Nat.le_refl _ | (dsimp only; omega) | (simp; done) | (simp; omega)) _) | with_reducible refine Ext.trans ?_ (by with_reducible assumption)))) hb9.2).mono ?_); rintro x w16 ⟨rfl, hx16⟩))
    all_goals
      go_wp2
      go_ret
      exact ⟨rfl, HXF.out.trans (by repeat (first | with_reducible exact Ext.refl _ | with_reducible assumption | with_reducible refine Ext.alloc ?_ _ | with_reducible refine Ext.drew ?_ | (with_reducible refine Ext.setCell ?_ (by first | exact Nat.le_refl _ | (dsimp only; omega) | (simp; done) | (simp; omega)) _) | with_reducible refine Ext.trans ?_ (by with_reducible assumption)))⟩
end Go.Proofs.YtknlojlcahgnoaaGreat

namespace Go.Proofs.YtknlojlcahgnoaaGreat
open Go.RowKit
set_option linter.unusedVariables false
set_option linter.unusedSimpArgs false

theorem one_rules {l : List Rl} : ∀ u ∈ flatE Rl.cells l, u.oneCell' = true := by
  intro u hu
  unfold flatE at hu
  rw [List.mem_flatMap] at hu
  obtain ⟨s, -, hs⟩ := hu
  simp [Rl.cells] at hs
  rcases hs with rfl | rfl | rfl | rfl <;> rfl
theorem own_form {w : World} {base k n : Nat} {E : TypeId} {v : Value} {xs : List Value} (h : w.ownsRow base E k v n xs) : ∃ a c, v = .slice a n c := by
  obtain ⟨h0, ⟨rfl, rfl⟩ | ⟨g, cap, cur, rfl, -⟩⟩ := h
  · exact ⟨none, 0, rfl⟩
  · exact ⟨_, _, rfl⟩
theorem rules_news {w : World} {b o n c : Nat} {l : List Rl} (h : RulesAt w (.slice (some ⟨b, o, none⟩) n c) l) (i m : Nat) (hm : i + m ≤ l.length) :
    ∀ j u, (flatE Rl.cells ((l.drop i).take m))[j]? = some u → w.cell? ((⟨b, o + i * 4, none⟩ : Addr).add j) = some u := by
  intro j u hu
  have hlen : ((l.drop i).take m).length = m := by simp; omega
  have hj : j < m * 4 := by
    have : j < (flatE Rl.cells ((l.drop i).take m)).length := by
      rcases Nat.lt_or_ge j (flatE Rl.cells ((l.drop i).take m)).length with q | q
      · exact q
      · rw [List.getElem?_eq_none q] at hu; cases hu
    rw [flatE_len Rl.size4, hlen] at this
    exact this
  have hjd : j / 4 < m := by omega
  have hjm : j % 4 < 4 := by omega
  have e1 : j = j / 4 * 4 + j % 4 := by omega
  rw [e1, flatE_get Rl.size4 _ (j / 4) (j % 4) (by rw [hlen]; exact hjd) hjm] at hu
  obtain ⟨b', o', hv', -, hq⟩ := h.cells Rl.size4 (by decide) (i + j / 4) (by omega)
  simp only [Option.some.injEq, Addr.mk.injEq, and_true] at hv'
  obtain ⟨rfl, rfl⟩ := hv'
  have e2 : ((⟨b, o + i * 4, none⟩ : Addr).add j) = ⟨b, o + ((i + j / 4) * 4 + j % 4), none⟩ := by
    rw [addr_add]
    congr 1
    omega
  rw [e2, hq _ hjm]
  have e3 : ((l.drop i).take m)[j / 4]'(by rw [hlen]; exact hjd) = l[i + j / 4]'(by omega) := by simp
  rw [e3] at hu
  exact hu
theorem rules_news0 {w : World} {b o n c : Nat} {l : List Rl} (h : RulesAt w (.slice (some ⟨b, o, none⟩) n c) l) (m : Nat) (hm : m ≤ l.length) :
    ∀ j u, (flatE Rl.cells (l.take m))[j]? = some u → w.cell? ((⟨b, o, none⟩ : Addr).add j) = some u := by
  have := rules_news h 0 m (by omega)
  rw [List.drop_zero, Nat.zero_mul, Nat.add_zero] at this
  exact this
/-- the block of a policy of the call's own, with rules of its own -/
def MoreAt (wo : World) (most : Int) (n : Nat) (wx : World) : Prop := ∃ mv L, Blk wx wo.heap.size #[.int .i64 most, mv] 28 ∧ RuleOwn wo.heap.size wx mv L ∧ (∀ r ∈ L, RlOk r) ∧ L.length ≤ n ∧ Ext wo wx
theorem more_next {wo w12 : World} {most : Int} {n m : Nat} {L N : List Rl} {v' u : Value} (hown : w12.ownsRow wo.heap.size 37 4 v' (L.length + m) (flatE Rl.cells L ++ flatE Rl.cells N)) (hm : N.length = m)
    (hP : Blk w12 wo.heap.size #[.int .i64 most, u] 28) (hx : Ext wo w12) (hL : ∀ r ∈ L, RlOk r) (hN : ∀ r ∈ N, RlOk r) (hn : L.length + m ≤ n) : MoreAt wo most n (w12.setCell ⟨wo.heap.size, 1, none⟩ v') := by
  subst hm
  refine ⟨v', L ++ N, hP.set 1 _, ?_, fun r hr => (List.mem_append.1 hr).elim (hL r) (hN r), by rw [List.length_append]; exact hn, hx.setCell (Nat.le_refl _) _⟩
  show World.ownsRow _ _ _ _ _ (L ++ N).length _
  rw [List.length_append, flatE_app12]
  obtain ⟨h0, h | ⟨g', cap', cur, q1, q2, q3, q4⟩⟩ := hown
  · exact ⟨h0, Or.inl h⟩
  · refine ⟨h0, Or.inr ⟨g', cap', cur, q1, q2, ?_, q4⟩⟩
    have hne : g' ≠ wo.heap.size := by
      intro e
      subst e
      have h1 : w12.heap[wo.heap.size]? = _ := hP
      rw [q3] at h1
      simp at h1
    exact (Below.heap_setCell _ _ _ _ hne).trans q3
theorem less_row {w7 : World} {base b m : Nat} {l : List Rl} {z : Rl} {g cap : Nat} {p u : Value} (hl : l.length = m) (hown : w7.ownsRow base 37 4 (.slice (some ⟨g, 0, none⟩) (m + 1) cap) (m + 1) (flatE Rl.cells l ++ z.cells.toList)) (hP : Blk w7 b #[p, u] 28) {x : Value} :
    RulesAt (w7.setCell ⟨b, 1, none⟩ x) (.slice (some ⟨g, 0, none⟩) (m + 1) cap) (l ++ [z]) := by
  subst hl
  refine RuleOwn.at (base := base) ?_
  show World.ownsRow _ _ _ _ _ (l ++ [z]).length _
  rw [List.length_append, flatE_snoc]
  obtain ⟨h0, ⟨q, -⟩ | ⟨g', cap', cur, q1, q2, q3, q4⟩⟩ := hown
  · cases q
  · refine ⟨h0, Or.inr ⟨g', cap', cur, q1, q2, ?_, q4⟩⟩
    have hne : g' ≠ b := by
      intro e
      subst e
      have h1 : w7.heap[g']? = _ := hP
      rw [q3] at h1
      simp at h1
    exact (Below.heap_setCell _ _ _ _ hne).trans q3
/-- the block of a policy of the call's own, with rules that may lie elsewhere -/
def LessAt (wl : World) (most : Int) (n : Nat) (wx : World) : Prop := ∃ b o c L, Blk wx wl.heap.size #[.int .i64 most, .slice (some ⟨b, o, none⟩) L.length c] 28 ∧ RulesAt wx (.slice (some ⟨b, o, none⟩) L.length c) L ∧ L.length ≤ c ∧ (∀ r ∈ L, RlOk r) ∧ L.length ≤ n ∧ Ext wl wx
theorem less_next {wl w12 : World} {most : Int} {n g cap : Nat} {L : List Rl} {r : Rl} {u : Value} (hown : w12.ownsRow wl.heap.size 37 4 (.slice (some ⟨g, 0, none⟩) (L.length + 1) cap) (L.length + 1) (flatE Rl.cells L ++ r.cells.toList))
    (hP : Blk w12 wl.heap.size #[.int .i64 most, u] 28) (hx : Ext wl w12) (hL : ∀ r ∈ L, RlOk r) (hN : RlOk r) (hn : L.length + 1 ≤ n) : LessAt wl most n (w12.setCell ⟨wl.heap.size, 1, none⟩ (.slice (some ⟨g, 0, none⟩) (L.length + 1) cap)) := by
  have hl : (L ++ [r]).length = L.length + 1 := by simp
  have hcap : L.length + 1 ≤ cap := by
    obtain ⟨h0, ⟨q, -⟩ | ⟨g', cap', cur, q1, q2, q3, q4, -⟩⟩ := hown
    · cases q
    · simp only [Value.slice.injEq] at q1
      obtain ⟨-, -, rfl⟩ := q1
      exact q4
  refine ⟨g, 0, cap, L ++ [r], ?_, ?_, by omega, fun x hx => ?_, by omega, hx.setCell (Nat.le_refl _) _⟩
  · rw [hl]; exact hP.set 1 _
  · rw [hl]
    exact less_row rfl hown hP
  · rcases List.mem_append.1 hx with q | q
    · exact hL x q
    · rw [List.mem_singleton.1 q]; exact hN
theorem rules_none0 (w : World) (a : Option Addr) (c : Nat) : RulesAt w (.slice a 0 c) [] := ⟨_, _, rfl, fun h => absurd rfl h⟩
theorem own_lower {w : World} {b base k n : Nat} {E : TypeId} {v : Value} {xs : List Value} (h : w.ownsRow base E k v n xs) (hb : b ≤ base) : w.ownsRow b E k v n xs := by
  obtain ⟨h0, h | ⟨g, cap, cur, h1, h2, h3⟩⟩ := h
  · exact ⟨h0, Or.inl h⟩
  · exact ⟨h0, Or.inr ⟨g, cap, cur, h1, Nat.le_trans hb h2, h3⟩⟩
theorem use_tail {T G : Prop} (t : T) (k : T → G) : G := k t

set_option maxHeartbeats 8000000 in
set_option maxRecDepth 100000 in
theorem law12_ConfigPrints (pm : Int) (pv : Value) (pl : List Rl) (n : Int) (v : Value) (l : List Nms) (rp : ByteArray) (re rb rk k om : Int) (w : World) (hp0 : -9223372036854775808 ≤ pm) (hp1 : pm ≤ 9223372036854775807) (hp2 : RulesAt w pv pl) (hp3 : ∀ q ∈ pl, RlOk q) (hp4 : pl.length ≤ maxLen)
    (hn0 : 0 ≤ n) (hn1 : n < 65536) (hv : NmsSlice w v l) (hr : RlOk ⟨rp, re, rb, rk⟩) (hk0 : 0 ≤ k) (hk1 : k < 256) (ho0 : -9223372036854775808 ≤ om) (ho1 : om ≤ 9223372036854775807) :
    Calls Tryz.prog 4 #[.agg #[.int .i64 pm, pv], .int .u16 n, v, .agg #[.string rp, .int .u64 re, .int .u64 rb, .int .u8 rk], .int .u8 k, .int .i64 om] w fun x w' => x = .returned (.bool true) ∧ Ext w w' := by
  have hall := hv
  obtain ⟨⟨va, vc, rfl, -⟩, -, heach⟩ := hv
  obtain ⟨pa, pc, rfl⟩ := hp2.size
  obtain ⟨hP, hlen, t0, ht0⟩ := polRs_ok hn0 l heach
  have hpok := hP.ok
  have hpne : 0 < (polRs n l).length := by rw [ht0]; simp
  have HPO := Lib.hid (fun V (e : Ext w V) => law12_Policy n _ l V hn0 hn1 (hall.ext e))
  obtain ⟨rs, hrs⟩ : ∃ rs, polRs n l = rs := ⟨_, rfl⟩
  rw [hrs] at HPO hlen hpok hpne
  obtain ⟨most, hmost⟩ : ∃ most, 1 + n % 50 = most := ⟨_, rfl⟩
  rw [hmost] at HPO
  have hm0 : 1 ≤ most := by omega
  have hm1 : most ≤ 50 := by omega
  have HPOK := Lib.hid hpok
  have HROK := Lib.hid hr
  have hml : (1000000 : Nat) ≤ maxLen := by decide
  unfold maxLen at hp4
  obtain ⟨i0, hi, hz0, hz1, hz2⟩ := info_parts rule_info
  have HI := Lib.hid (And.intro hi (And.intro hz0 (And.intro hz1 hz2)))
  have HK := Lib.hid (fun W => law12_known W)
  have HPP := Lib.hid hp3
  have x0 : Ext w ((w.alloc (.cells #[.int .i64 pm, .slice pa pl.length pc] 28)).alloc (.cells #[.string rp, .int .u64 re, .int .u64 rb, .int .u8 rk] 37)) := ((Ext.refl w).alloc _).alloc _
  have bP := (Blk.new w #[.int .i64 pm, .slice pa pl.length pc] 28).alloc (.cells #[.string rp, .int .u64 re, .int .u64 rb, .int .u8 rk] 37)
  have bR := Blk.new' (w.alloc (.cells #[.int .i64 pm, .slice pa pl.length pc] 28)) #[.string rp, .int .u64 re, .int .u64 rb, .int .u8 rk] 37 (b := w.heap.size + 1) (by simp)
  have HPA := Lib.hid (hp2.ext Rl.size4 x0)
  clear hi hz0 hz1 hz2 hP heach hall ht0 hrs hmost hpok hr hp3 hp2
  go_enter Tryz.func4, Tryz.ntmps4
  go_upto_region 1 with fail
  generalize (w.alloc (.cells #[.int .i64 pm, .slice pa pl.length pc] 28)).alloc (.cells #[.string rp, .int .u64 re, .int .u64 rb, .int .u8 rk] 37) = w0 at *
  have cP0 := bP.cell 0
  have cP1 := bP.cell 1
  have HBP := Lib.hid bP
  have HBR := Lib.hid bR
  have HX0 := Lib.hid x0
  clear bP bR x0
  by_cases hbig : 30 < pl.length
  · have hb2 : (30 : Int) < (pl.length : Int) := by omega
    go_wp2_with fail
    refine (HK.out _).mono ?_
    rintro x w2 ⟨rfl, hx2⟩
    go_wp2_with fail
    go_ret
    exact ⟨rfl, HX0.out.trans hx2⟩
  · have hb2 : ¬ (30 : Int) < (pl.length : Int) := by omega
    go_wp2_with fail
    refine (HK.out _).mono ?_
    rintro x w1 ⟨rfl, hx1⟩
    have HX1 := Lib.hid hx1
    clear hx1 cP0 cP1
    go_wp2_with fail
    refine (HPO.out _ (HX0.out.trans HX1.out)).mono ?_
    rintro x w2 ⟨rv, rfl, hrow, hx2⟩
    obtain ⟨b0, rc, hrv, -, -, -⟩ := hrow.cells Rl.size4 0 hpne
    subst hrv
    have hcap := hrow.cap
    have HAT := Lib.hid hrow.at
    have HX2 := Lib.hid (HX1.out.trans hx2)
    clear hrow hx2 HPO
    go_upto_region 4 with fail
    have bO := Blk.new w2 #[.int .i64 most, .slice (some ⟨b0, 0, none⟩) rs.length rc] 28
    have hxo : Ext w2 (w2.alloc (.cells #[.int .i64 most, .slice (some ⟨b0, 0, none⟩) rs.length rc] 28)) := (Ext.refl w2).alloc _
    generalize w2.alloc (.cells #[.int .i64 most, .slice (some ⟨b0, 0, none⟩) rs.length rc] 28) = wo at *
    generalize w2.heap.size = O at *
    have cO0 : wo.cell? ⟨O, 0, none⟩ = some (.int .i64 most) := bO.cell 0
    have cO1 : wo.cell? ⟨O, 1, none⟩ = some (.slice (some ⟨b0, 0, none⟩) rs.length rc) := bO.cell 1
    have HBO := Lib.hid bO
    have HXO := Lib.hid (HX2.out.trans hxo)
    have HRS := Lib.hid (HAT.out.ext Rl.size4 hxo)
    have hON := bO.lt
    clear bO hxo HAT HX2 HX1
    obtain ⟨i, hi⟩ : ∃ i : Nat, k % ((rs.length : Int) + 1) = (i : Int) := ⟨(k % ((rs.length : Int) + 1)).toNat, by have := Int.emod_nonneg k (show ((rs.length : Int) + 1) ≠ 0 by omega); omega⟩
    have hil : i ≤ rs.length := by have := Int.emod_lt_of_pos k (show 0 < ((rs.length : Int) + 1) by omega); omega
    have hit : k.tmod ((rs.length : Int) + 1) = (i : Int) := by rw [Int.tmod_eq_emod_of_nonneg hk0, hi]
    have hkw : IntKind.i64.wrap k = k := by simp [IntKind.wrap, IntKind.signed, IntKind.bits]; omega
    have hlw : IntKind.i64.wrap ((rs.length : Int) + 1) = (rs.length : Int) + 1 := by simp [IntKind.wrap, IntKind.signed, IntKind.bits]; omega
    have hiw : IntKind.i64.wrap (i : Int) = (i : Int) := by simp [IntKind.wrap, IntKind.signed, IntKind.bits]; omega
    have hlne : ((rs.length : Int) + 1) ≠ 0 := by omega
    have hmb := Blk.new wo #[.int .i64 most, .slice none 0 0] 28
    have hxm : Ext wo (wo.alloc (.cells #[.int .i64 most, .slice none 0 0] 28)) := (Ext.refl wo).alloc _
    go_upto_region 6 with fail
    generalize wo.alloc (.cells #[.int .i64 most, .slice none 0 0] 28) = w5 at *
    have HMB := Lib.hid hmb
    have HXW := Lib.hid hxm
    have cM1 := hmb.cell 1
    have cOw := hxm.keep cO1
    clear hmb hxm
    go_upto_region 7 with fail
    clear cOw
    go_cut [45] from 40 to 47 (fun x45 wx => MoreAt wo most 13 wx)
    case first =>
      have HOWN := Lib.hid (World.ownsRow_nil w5.drew wo.heap.size 37 4)
      have hi1 : (i : Int) ≤ (rc : Int) := by omega
      have hi0 : (0 : Int) ≤ (i : Int) := by omega
      have htl : (rs.take i).length = i := by rw [List.length_take]; omega
      have HLN : Hid ((flatE Rl.cells (rs.take i)).length = i * 4) := Lib.hid (by rw [flatE_len Rl.size4, htl])
      refine wp_region_held_drew (S := fun w' => Ext wo w') (by kernel_rfl) HXW.out.drew (fun hHeld => ?_)
      refine wpAnyH_take (i := 0) (v := ?_) rfl (by kernel_rfl) (by kernel_rfl) (by kernel_rfl) (fun _ _ _ h => h) (Or.inl ⟨by rfl, ?_⟩) (by assumption) ?_
      rotate_left
      · intro w hSw
        (try dsimp only at hSw)
        go_simp
        try with_reducible rfl
      try simp only [Go.Act.put, List.getElem_toArray, List.getElem_cons_zero, List.getElem_cons_succ, List.setIfInBounds_toArray, List.set_cons_zero, List.set_cons_succ]
      refine wpAnyH_take (i := 2) (v := ?_) rfl (by kernel_rfl) (by kernel_rfl) (by kernel_rfl) (fun _ _ _ h => h) (Or.inl ⟨by rfl, ?_⟩) (by assumption) ?_
      rotate_left
      · intro w hSw
        (try dsimp only at hSw)
        go_simp
        try with_reducible rfl
      try simp only [Go.Act.put, List.getElem_toArray, List.getElem_cons_zero, List.getElem_cons_succ, List.setIfInBounds_toArray, List.set_cons_zero, List.set_cons_succ]
      refine wpAnyH_take (i := 3) (v := ?_) rfl (by kernel_rfl) (by kernel_rfl) (by kernel_rfl) (fun _ _ _ h => h) (Or.inl ⟨by rfl, ?_⟩) (by assumption) ?_
      rotate_left
      · intro w hSw
        (try dsimp only at hSw)
        have q1 := hSw.keep cO1
        go_simp
        try with_reducible rfl
      try simp only [Go.Act.put, List.getElem_toArray, List.getElem_cons_zero, List.getElem_cons_succ, List.setIfInBounds_toArray, List.set_cons_zero, List.set_cons_succ]
      refine wpAnyH_take (i := 4) (v := ?_) rfl (by kernel_rfl) (by kernel_rfl) (by kernel_rfl) (fun _ _ _ h => h) (Or.inl ⟨by rfl, ?_⟩) (by assumption) ?_
      rotate_left
      · intro w hSw
        (try dsimp only at hSw)
        go_simp
        try with_reducible rfl
      try simp only [Go.Act.put, List.getElem_toArray, List.getElem_cons_zero, List.getElem_cons_succ, List.setIfInBounds_toArray, List.set_cons_zero, List.set_cons_succ]
      refine wpAnyH_take (i := 5) (v := ?_) rfl (by kernel_rfl) (by kernel_rfl) (by kernel_rfl) (fun _ _ _ h => h) (Or.inl ⟨by rfl, ?_⟩) (by assumption) ?_
      rotate_left
      · intro w hSw
        (try dsimp only at hSw)
        go_simp
        try with_reducible rfl
      try simp only [Go.Act.put, List.getElem_toArray, List.getElem_cons_zero, List.getElem_cons_succ, List.setIfInBounds_toArray, List.set_cons_zero, List.set_cons_succ]
      refine wpAnyH_ready (rs := [1]) (by kernel_rfl) (by simp) ?_
      refine (AllReadyH.cons rfl (fun K hK => ?_) AllReadyH.nil)
      go_simp
      refine hK.out _ _ ?_ (fun hHeld => ?_)
      · (try dsimp only)
        exact HXW.out.drew
      clear hK K
      try simp only [Go.Act.put, List.getElem_toArray, List.getElem_cons_zero, List.getElem_cons_succ, List.setIfInBounds_toArray, List.set_cons_zero, List.set_cons_succ]
      refine wpAnyH_ready (rs := [6]) (by kernel_rfl) (by simp) ?_
      refine (AllReadyH.cons rfl (fun K hK => ?_) AllReadyH.nil)
      refine step_append_own rfl (.tmp 41) (.tmp 45) 26 rfl wo.heap.size 37 i0 (.agg #[.string ⟨#[]⟩, .int .u64 0, .int .u64 0, .int .u8 0]) 4 40 Tryz.underlying26 HI.out.1 HI.out.2.1 HI.out.2.2.1 HI.out.2.2.2 rfl (by decide) _ _ _ rfl HOWN.out ⟨b0, 0, none⟩ (i) (rc) (flatE Rl.cells (rs.take i)) rfl HLN.out (fun j u hu => HXW.out.drew.keep (rules_news0 HRS.out i hil j u hu)) one_rules (by omega) (by omega) HXW.out.drew.sz ?_
      rintro v12 w12 hown12 hgrow12
      obtain ⟨va12, vc12, rfl⟩ := own_form hown12
      have hP12 := Blk.grownNe (HMB.out.drew) hgrow12 HOWN.out (by decide)
      have cP12 := hP12.cell 1
      have fP12 := hP12.free 1
      have lP12 := hP12.lt
      have hx12 : Ext wo w12 := Ext.grownAt HXW.out.drew HOWN.out (Nat.le_refl _) hgrow12
      have HFIN := Lib.hid (more_next (L := []) (n := 13) hown12 htl hP12 hx12 (fun r hr => (by cases hr)) (fun r hr => HPOK.out r (List.mem_of_mem_take hr)) (by simp; omega))
      try simp only [Nat.zero_add, Nat.add_zero] at HFIN
      refine hK.out _ _ ?_ (fun hHeld => ?_)
      · (try dsimp only)
        exact hx12
      clear hK K
      try simp only [Go.Act.put, List.getElem_toArray, List.getElem_cons_zero, List.getElem_cons_succ, List.setIfInBounds_toArray, List.set_cons_zero, List.set_cons_succ]
      refine wpAnyH_take (i := 7) (v := ?_) rfl (by kernel_rfl) (by kernel_rfl) (by kernel_rfl) (fun _ _ _ h => h) (Or.inl ⟨by rfl, ?_⟩) (by assumption) ?_
      rotate_left
      · intro w hSw
        (try dsimp only at hSw)
        go_simp
        try with_reducible rfl
      try simp only [Go.Act.put, List.getElem_toArray, List.getElem_cons_zero, List.getElem_cons_succ, List.setIfInBounds_toArray, List.set_cons_zero, List.set_cons_succ]
      refine wpAnyH_ready (rs := [8]) (by kernel_rfl) (by simp) ?_
      refine (AllReadyH.cons rfl (fun K hK => ?_) AllReadyH.nil)
      go_simp
      refine hK.out _ _ ?_ (fun hHeld => ?_)
      · (try dsimp only)
        exact hx12.setCell (Nat.le_refl _) _
      clear hK K
      try simp only [Go.Act.put, List.getElem_toArray, List.getElem_cons_zero, List.getElem_cons_succ, List.setIfInBounds_toArray, List.set_cons_zero, List.set_cons_succ]
      refine wpAnyH_done (by kernel_rfl) ?_ _
      go_wp2_with fail
      go_meet
      exact HFIN.out
    case rest =>
    obtain ⟨mv, L, hmb, hmr, hmo, hml2, hxw⟩ := hcut
    clear HMB HXW cM1
    have HMR := Lib.hid hmr
    have HMB := Lib.hid hmb
    have HXW := Lib.hid hxw
    have HMO := Lib.hid hmo
    have cM1 := hmb.cell 1
    have cR := (HBR.out.ext (HXO.out.trans hxw)).cell
    clear hmb hmr hxw hmo
    go_upto_region 8 with fail
    go_cut [50] from 48 to 53 (fun x50 wx => MoreAt wo most 14 wx)
    case first =>
      have HOWN := Lib.hid (HMR.out.alloc (.cells #[.string rp, .int .u64 re, .int .u64 rb, .int .u8 rk] 37))
      go_wp2_with (first
        | (at_builtin; refine wpList_append_own _ rfl (.tmp 49) (.tmp 51) 26 rfl wo.heap.size 37 i0 (.agg #[.string ⟨#[]⟩, .int .u64 0, .int .u64 0, .int .u8 0]) 4 40 Tryz.underlying26 HI.out.1 HI.out.2.1 HI.out.2.2.1 HI.out.2.2.2 rfl (by decide) _ _ _ rfl HOWN.out ⟨wc.heap.size, 0, none⟩ 1 1 (flatE Rl.cells [⟨rp, re, rb, rk⟩]) rfl rfl (blk_news (C := #[.string rp, .int .u64 re, .int .u64 rb, .int .u8 rk]) (Blk.new _ _ _)) one_rules (by omega) (by omega) ((HXW.out.alloc _).sz) ?_; rintro v12 w12 hown12 hgrow12 -; obtain ⟨va12, vc12, rfl⟩ := own_form hown12; have hP12 := Blk.grownNe (HMB.out.alloc (.cells #[.string rp, .int .u64 re, .int .u64 rb, .int .u8 rk] 37)) hgrow12 HOWN.out (by decide); have cP12 := hP12.cell 1; have fP12 := hP12.free 1; have lP12 := hP12.lt; have hx12 : Ext wo w12 := Ext.grownAt (HXW.out.alloc _) HOWN.out (Nat.le_refl _) hgrow12)
        | fail)
      go_meet
      exact more_next (N := [⟨rp, re, rb, rk⟩]) hown12 rfl hP12 hx12 HMO.out (fun r hr => by rw [List.mem_singleton.1 hr]; exact HROK.out) (by omega)
    case rest =>
    obtain ⟨mv, L, hmb, hmr, hmo, hml3, hxw⟩ := hcut
    clear HMB HXW cM1 cR HMR HMO
    have HMR := Lib.hid hmr
    have HMB := Lib.hid hmb
    have HXW := Lib.hid hxw
    have HMO := Lib.hid hmo
    have cM1 := hmb.cell 1
    obtain ⟨ma, mc, rfl⟩ := own_form hmr
    clear hmb hmr hxw hmo
    go_upto_region 9 with fail
    go_cut [59] from 54 to 61 (fun x59 wx => MoreAt wo most 27 wx)
    case first =>
      have HOWN := Lib.hid HMR.out.drew
      have hi1 : (i : Int) ≤ (rs.length : Int) := by omega
      have hi0 : (0 : Int) ≤ (i : Int) := by omega
      have htl : ((rs.drop i).take (rs.length - i)).length = rs.length - i := by rw [List.length_take, List.length_drop]; omega
      have HLN : Hid ((flatE Rl.cells ((rs.drop i).take (rs.length - i))).length = (rs.length - i) * 4) := Lib.hid (by rw [flatE_len Rl.size4, htl])
      by_cases hcn : i < rc
      · have hcne : ¬ rc = i := by omega
        refine wp_region_held_drew (S := fun w' => Ext wo w') (by kernel_rfl) HXW.out.drew (fun hHeld => ?_)
        refine wpAnyH_take (i := 0) (v := ?_) rfl (by kernel_rfl) (by kernel_rfl) (by kernel_rfl) (fun _ _ _ h => h) (Or.inl ⟨by rfl, ?_⟩) (by assumption) ?_
        rotate_left
        · intro w hSw
          (try dsimp only at hSw)
          go_simp
          try with_reducible rfl
        try simp only [Go.Act.put, List.getElem_toArray, List.getElem_cons_zero, List.getElem_cons_succ, List.setIfInBounds_toArray, List.set_cons_zero, List.set_cons_succ]
        refine wpAnyH_take (i := 2) (v := ?_) rfl (by kernel_rfl) (by kernel_rfl) (by kernel_rfl) (fun _ _ _ h => h) (Or.inl ⟨by rfl, ?_⟩) (by assumption) ?_
        rotate_left
        · intro w hSw
          (try dsimp only at hSw)
          go_simp
          try with_reducible rfl
        try simp only [Go.Act.put, List.getElem_toArray, List.getElem_cons_zero, List.getElem_cons_succ, List.setIfInBounds_toArray, List.set_cons_zero, List.set_cons_succ]
        refine wpAnyH_take (i := 3) (v := ?_) rfl (by kernel_rfl) (by kernel_rfl) (by kernel_rfl) (fun _ _ _ h => h) (Or.inl ⟨by rfl, ?_⟩) (by assumption) ?_
        rotate_left
        · intro w hSw
          (try dsimp only at hSw)
          have q1 := hSw.keep cO1
          go_simp
          try with_reducible rfl
        try simp only [Go.Act.put, List.getElem_toArray, List.getElem_cons_zero, List.getElem_cons_succ, List.setIfInBounds_toArray, List.set_cons_zero, List.set_cons_succ]
        refine wpAnyH_take (i := 4) (v := ?_) rfl (by kernel_rfl) (by kernel_rfl) (by kernel_rfl) (fun _ _ _ h => h) (Or.inl ⟨by rfl, ?_⟩) (by assumption) ?_
        rotate_left
        · intro w hSw
          (try dsimp only at hSw)
          go_simp
          try with_reducible rfl
        try simp only [Go.Act.put, List.getElem_toArray, List.getElem_cons_zero, List.getElem_cons_succ, List.setIfInBounds_toArray, List.set_cons_zero, List.set_cons_succ]
        refine wpAnyH_take (i := 5) (v := ?_) rfl (by kernel_rfl) (by kernel_rfl) (by kernel_rfl) (fun _ _ _ h => h) (Or.inl ⟨by rfl, ?_⟩) (by assumption) ?_
        rotate_left
        · intro w hSw
          (try dsimp only at hSw)
          go_simp
          try with_reducible rfl
        try simp only [Go.Act.put, List.getElem_toArray, List.getElem_cons_zero, List.getElem_cons_succ, List.setIfInBounds_toArray, List.set_cons_zero, List.set_cons_succ]
        refine wpAnyH_ready (rs := [1]) (by kernel_rfl) (by simp) ?_
        refine (AllReadyH.cons rfl (fun K hK => ?_) AllReadyH.nil)
        go_simp
        refine hK.out _ _ ?_ (fun hHeld => ?_)
        · (try dsimp only)
          exact HXW.out.drew
        clear hK K
        try simp only [Go.Act.put, List.getElem_toArray, List.getElem_cons_zero, List.getElem_cons_succ, List.setIfInBounds_toArray, List.set_cons_zero, List.set_cons_succ]
        refine wpAnyH_ready (rs := [6]) (by kernel_rfl) (by simp) ?_
        refine (AllReadyH.cons rfl (fun K hK => ?_) AllReadyH.nil)
        refine step_append_own rfl (.tmp 55) (.tmp 59) 26 rfl wo.heap.size 37 i0 (.agg #[.string ⟨#[]⟩, .int .u64 0, .int .u64 0, .int .u8 0]) 4 40 Tryz.underlying26 HI.out.1 HI.out.2.1 HI.out.2.2.1 HI.out.2.2.2 rfl (by decide) _ _ _ rfl HOWN.out ⟨b0, i * 4, none⟩ (rs.length - i) (rc - i) (flatE Rl.cells ((rs.drop i).take (rs.length - i))) rfl HLN.out (fun j u hu => HXW.out.drew.keep (by have := rules_news HRS.out i (rs.length - i) (by omega) j u hu; rwa [Nat.zero_add] at this)) one_rules (by omega) (by omega) HXW.out.drew.sz ?_
        rintro v12 w12 hown12 hgrow12
        obtain ⟨va12, vc12, rfl⟩ := own_form hown12
        have hP12 := Blk.grownNe (HMB.out.drew) hgrow12 HOWN.out (by decide)
        have cP12 := hP12.cell 1
        have fP12 := hP12.free 1
        have lP12 := hP12.lt
        have hx12 : Ext wo w12 := Ext.grownAt HXW.out.drew HOWN.out (Nat.le_refl _) hgrow12
        have HFIN := Lib.hid (more_next (n := 27) hown12 htl hP12 hx12 HMO.out (fun r hr => HPOK.out r (List.mem_of_mem_drop (List.mem_of_mem_take hr))) (by omega))
        try simp only [Nat.zero_add, Nat.add_zero] at HFIN
        refine hK.out _ _ ?_ (fun hHeld => ?_)
        · (try dsimp only)
          exact hx12
        clear hK K
        try simp only [Go.Act.put, List.getElem_toArray, List.getElem_cons_zero, List.getElem_cons_succ, List.setIfInBounds_toArray, List.set_cons_zero, List.set_cons_succ]
        refine wpAnyH_take (i := 7) (v := ?_) rfl (by kernel_rfl) (by kernel_rfl) (by kernel_rfl) (fun _ _ _ h => h) (Or.inl ⟨by rfl, ?_⟩) (by assumption) ?_
        rotate_left
        · intro w hSw
          (try dsimp only at hSw)
          go_simp
          try with_reducible rfl
        try simp only [Go.Act.put, List.getElem_toArray, List.getElem_cons_zero, List.getElem_cons_succ, List.setIfInBounds_toArray, List.set_cons_zero, List.set_cons_succ]
        refine wpAnyH_ready (rs := [8]) (by kernel_rfl) (by simp) ?_
        refine (AllReadyH.cons rfl (fun K hK => ?_) AllReadyH.nil)
        go_simp
        refine hK.out _ _ ?_ (fun hHeld => ?_)
        · (try dsimp only)
          exact hx12.setCell (Nat.le_refl _) _
        clear hK K
        try simp only [Go.Act.put, List.getElem_toArray, List.getElem_cons_zero, List.getElem_cons_succ, List.setIfInBounds_toArray, List.set_cons_zero, List.set_cons_succ]
        refine wpAnyH_done (by kernel_rfl) ?_ _
        go_wp2_with fail
        go_meet
        exact HFIN.out
      · have hce : rc = i := by omega
        have hrl : rs.length - i = 0 := by omega
        subst hce
        refine wp_region_held_drew (S := fun w' => Ext wo w') (by kernel_rfl) HXW.out.drew (fun hHeld => ?_)
        refine wpAnyH_take (i := 0) (v := ?_) rfl (by kernel_rfl) (by kernel_rfl) (by kernel_rfl) (fun _ _ _ h => h) (Or.inl ⟨by rfl, ?_⟩) (by assumption) ?_
        rotate_left
        · intro w hSw
          (try dsimp only at hSw)
          go_simp
          try with_reducible rfl
        try simp only [Go.Act.put, List.getElem_toArray, List.getElem_cons_zero, List.getElem_cons_succ, List.setIfInBounds_toArray, List.set_cons_zero, List.set_cons_succ]
        refine wpAnyH_take (i := 2) (v := ?_) rfl (by kernel_rfl) (by kernel_rfl) (by kernel_rfl) (fun _ _ _ h => h) (Or.inl ⟨by rfl, ?_⟩) (by assumption) ?_
        rotate_left
        · intro w hSw
          (try dsimp only at hSw)
          go_simp
          try with_reducible rfl
        try simp only [Go.Act.put, List.getElem_toArray, List.getElem_cons_zero, List.getElem_cons_succ, List.setIfInBounds_toArray, List.set_cons_zero, List.set_cons_succ]
        refine wpAnyH_take (i := 3) (v := ?_) rfl (by kernel_rfl) (by kernel_rfl) (by kernel_rfl) (fun _ _ _ h => h) (Or.inl ⟨by rfl, ?_⟩) (by assumption) ?_
        rotate_left
        · intro w hSw
          (try dsimp only at hSw)
          have q1 := hSw.keep cO1
          go_simp
          try with_reducible rfl
        try simp only [Go.Act.put, List.getElem_toArray, List.getElem_cons_zero, List.getElem_cons_succ, List.setIfInBounds_toArray, List.set_cons_zero, List.set_cons_succ]
        refine wpAnyH_take (i := 4) (v := ?_) rfl (by kernel_rfl) (by kernel_rfl) (by kernel_rfl) (fun _ _ _ h => h) (Or.inl ⟨by rfl, ?_⟩) (by assumption) ?_
        rotate_left
        · intro w hSw
          (try dsimp only at hSw)
          go_simp
          try with_reducible rfl
        try simp only [Go.Act.put, List.getElem_toArray, List.getElem_cons_zero, List.getElem_cons_succ, List.setIfInBounds_toArray, List.set_cons_zero, List.set_cons_succ]
        refine wpAnyH_take (i := 5) (v := ?_) rfl (by kernel_rfl) (by kernel_rfl) (by kernel_rfl) (fun _ _ _ h => h) (Or.inl ⟨by rfl, ?_⟩) (by assumption) ?_
        rotate_left
        · intro w hSw
          (try dsimp only at hSw)
          go_simp
          try with_reducible rfl
        try simp only [Go.Act.put, List.getElem_toArray, List.getElem_cons_zero, List.getElem_cons_succ, List.setIfInBounds_toArray, List.set_cons_zero, List.set_cons_succ]
        refine wpAnyH_ready (rs := [1]) (by kernel_rfl) (by simp) ?_
        refine (AllReadyH.cons rfl (fun K hK => ?_) AllReadyH.nil)
        go_simp
        refine hK.out _ _ ?_ (fun hHeld => ?_)
        · (try dsimp only)
          exact HXW.out.drew
        clear hK K
        try simp only [Go.Act.put, List.getElem_toArray, List.getElem_cons_zero, List.getElem_cons_succ, List.setIfInBounds_toArray, List.set_cons_zero, List.set_cons_succ]
        refine wpAnyH_ready (rs := [6]) (by kernel_rfl) (by simp) ?_
        refine (AllReadyH.cons rfl (fun K hK => ?_) AllReadyH.nil)
        refine step_append_own rfl (.tmp 55) (.tmp 59) 26 rfl wo.heap.size 37 i0 (.agg #[.string ⟨#[]⟩, .int .u64 0, .int .u64 0, .int .u8 0]) 4 40 Tryz.underlying26 HI.out.1 HI.out.2.1 HI.out.2.2.1 HI.out.2.2.2 rfl (by decide) _ _ _ rfl HOWN.out ⟨b0, 0, none⟩ (0) (0) (flatE Rl.cells ([])) rfl rfl (fun j u hu => by simp [flatE] at hu) one_rules (by omega) (by omega) HXW.out.drew.sz ?_
        rintro v12 w12 hown12 hgrow12
        obtain ⟨va12, vc12, rfl⟩ := own_form hown12
        have hP12 := Blk.grownNe (HMB.out.drew) hgrow12 HOWN.out (by decide)
        have cP12 := hP12.cell 1
        have fP12 := hP12.free 1
        have lP12 := hP12.lt
        have hx12 : Ext wo w12 := Ext.grownAt HXW.out.drew HOWN.out (Nat.le_refl _) hgrow12
        have HFIN := Lib.hid (more_next (N := []) (n := 27) hown12 rfl hP12 hx12 HMO.out (fun r hr => (by cases hr)) (by omega))
        try simp only [Nat.zero_add, Nat.add_zero] at HFIN
        refine hK.out _ _ ?_ (fun hHeld => ?_)
        · (try dsimp only)
          exact hx12
        clear hK K
        try simp only [Go.Act.put, List.getElem_toArray, List.getElem_cons_zero, List.getElem_cons_succ, List.setIfInBounds_toArray, List.set_cons_zero, List.set_cons_succ]
        refine wpAnyH_take (i := 7) (v := ?_) rfl (by kernel_rfl) (by kernel_rfl) (by kernel_rfl) (fun _ _ _ h => h) (Or.inl ⟨by rfl, ?_⟩) (by assumption) ?_
        rotate_left
        · intro w hSw
          (try dsimp only at hSw)
          go_simp
          try with_reducible rfl
        try simp only [Go.Act.put, List.getElem_toArray, List.getElem_cons_zero, List.getElem_cons_succ, List.setIfInBounds_toArray, List.set_cons_zero, List.set_cons_succ]
        refine wpAnyH_ready (rs := [8]) (by kernel_rfl) (by simp) ?_
        refine (AllReadyH.cons rfl (fun K hK => ?_) AllReadyH.nil)
        go_simp
        refine hK.out _ _ ?_ (fun hHeld => ?_)
        · (try dsimp only)
          exact hx12.setCell (Nat.le_refl _) _
        clear hK K
        try simp only [Go.Act.put, List.getElem_toArray, List.getElem_cons_zero, List.getElem_cons_succ, List.setIfInBounds_toArray, List.set_cons_zero, List.set_cons_succ]
        refine wpAnyH_done (by kernel_rfl) ?_ _
        go_wp2_with fail
        go_meet
        exact HFIN.out
    case rest =>
    have hmore := hcut
    have HW9 := Lib.hid (Ext.refl wc)
    obtain ⟨mv, L9, hmb, hmr, hmo, hml4, hxw⟩ := hmore
    clear HMB HXW cM1 HMR HMO
    have HMR := Lib.hid (RuleOwn.at hmr)
    have HMB := Lib.hid hmb
    have HXW := Lib.hid hxw
    have HMO := Lib.hid hmo
    have cOw0 := hxw.keep cO0
    have cOw1 := hxw.keep cO1
    clear hmr hxw
    obtain ⟨wl, hwl⟩ : ∃ wl, wl = wc := ⟨_, rfl⟩
    subst hwl
    have hmbl := hmb.lt
    clear hmb hcut
    have hlb := Blk.new wl #[.int .i64 most, .slice (some ⟨b0, 0, none⟩) 0 rc] 28
    have hxl : Ext wl (wl.alloc (.cells #[.int .i64 most, .slice (some ⟨b0, 0, none⟩) 0 rc] 28)) := (Ext.refl wl).alloc _
    go_upto_region 11 with fail
    have cOa := ((Ext.refl wl).alloc (.cells #[.int .i64 most, .slice (some ⟨b0, 0, none⟩) rs.length rc] 28)).keep cOw1
    go_upto_region 12 with fail
    clear cOa
    generalize wl.alloc (.cells #[.int .i64 most, .slice (some ⟨b0, 0, none⟩) 0 rc] 28) = w11 at *
    have hless : LessAt wl most 0 w11 := ⟨b0, 0, rc, [], hlb, rules_none0 _ _ _, by simp, fun r hr => (by cases hr), by simp, hxl⟩
    clear hlb hxl
    have HRW := Lib.hid (HRS.out.ext Rl.size4 HXW.out)
    go_wp2_with fail
    have hk9 : IntKind.i64.wrap (k.tmod 9) = k % 9 := by rw [Int.tmod_eq_emod_of_nonneg hk0]; simp [IntKind.wrap, IntKind.signed, IntKind.bits]; omega
    go_loopw [17] (fun i wr => ∃ (j : Nat), j ≤ rs.length ∧ i = .int .i64 j ∧ LessAt wl most j wr) (fun i _ => rs.length - (intOf i).toNat)
    case atStart => exact ⟨0, by omega, rfl, hless⟩
    case round =>
      obtain ⟨j, hj, rfl, hls⟩ := hrel
      obtain ⟨lb, lo, lc, L, hlb, hlr, hlcap, hlo, hln, hxl⟩ := hls
      have HLB := Lib.hid hlb
      have HLR := Lib.hid hlr
      have HLO := Lib.hid hlo
      have HXL := Lib.hid hxl
      have cW1 : wr.cell? ⟨O, 1, none⟩ = some (.slice (some ⟨b0, 0, none⟩) rs.length rc) := hxl.keep cOw1
      clear hlb hlr hlo hxl
      by_cases hlt : j < rs.length
      · by_cases hje : (j : Int) = k % 9
        · go_wp2_with fail
          go_roundw
          case rel => exact ⟨j + 1, by omega, by go_num, lb, lo, lc, L, HLB.out, HLR.out, hlcap, HLO.out, by omega, HXL.out⟩
          case measure => simp [intOf]; omega
        · skip
          · have hjb : ((j : Int) != k % 9) = true := by simpa using hje
            go_upto_region 16 with fail
            have cL1 : wr.cell? ⟨wl.heap.size, 1, none⟩ = some (.slice (some ⟨lb, lo, none⟩) L.length lc) := HLB.out.cell 1
            have hj1 : (j : Int) < (rs.length : Int) := by omega
            have hj0 : (0 : Int) ≤ (j : Int) := by omega
            obtain ⟨b', o', hv', -, hq⟩ := HRW.out.cells Rl.size4 (by decide) j hlt
            simp only [Option.some.injEq, Addr.mk.injEq, and_true] at hv'
            obtain ⟨rfl, rfl⟩ := hv'
            have hrj := HPOK.out rs[j] (List.getElem_mem hlt)
            have r0 : wl.cell? ⟨b0, 0 + j * 4, none⟩ = some (.string rs[j].p) := hq 0 (by decide)
            have r1 : wl.cell? ⟨b0, 0 + j * 4 + 1, none⟩ = some (.int .u64 rs[j].e) := hq 1 (by decide)
            have r2 : wl.cell? ⟨b0, 0 + j * 4 + 2, none⟩ = some (.int .u64 rs[j].b) := hq 2 (by decide)
            have r3 : wl.cell? ⟨b0, 0 + j * 4 + 3, none⟩ = some (.int .u8 rs[j].k) := hq 3 (by decide)
            have HRJ := Lib.hid hrj
            obtain ⟨x, hx⟩ : ∃ x, rs[j] = x := ⟨_, rfl⟩
            rw [hx] at r0 r1 r2 r3 HRJ
            rw [Nat.zero_add] at r0 r1 r2 r3
            have hLn : L.length ≤ 20 := by omega
            clear hq hrj hx
            refine wp_region_held_drew (S := fun w' => Ext wl w') (by kernel_rfl) HXL.out.drew (fun hHeld => ?_)
            refine wpAnyH_take (i := 0) (v := ?_) rfl (by kernel_rfl) (by kernel_rfl) (by kernel_rfl) (fun _ _ _ h => h) (Or.inl ⟨by rfl, ?_⟩) (by assumption) ?_
            rotate_left
            · intro w hSw
              (try dsimp only at hSw)
              go_simp
              try with_reducible rfl
            try simp only [Go.Act.put, List.getElem_toArray, List.getElem_cons_zero, List.getElem_cons_succ, List.setIfInBounds_toArray, List.set_cons_zero, List.set_cons_succ]
            refine wpAnyH_take (i := 2) (v := ?_) rfl (by kernel_rfl) (by kernel_rfl) (by kernel_rfl) (fun _ _ _ h => h) (Or.inl ⟨by rfl, ?_⟩) (by assumption) ?_
            rotate_left
            · intro w hSw
              (try dsimp only at hSw)
              go_simp
              try with_reducible rfl
            try simp only [Go.Act.put, List.getElem_toArray, List.getElem_cons_zero, List.getElem_cons_succ, List.setIfInBounds_toArray, List.set_cons_zero, List.set_cons_succ]
            refine wpAnyH_take (i := 5) (v := ?_) rfl (by kernel_rfl) (by kernel_rfl) (by kernel_rfl) (fun _ _ _ h => h) (Or.inl ⟨by rfl, ?_⟩) (by assumption) ?_
            rotate_left
            · intro w hSw
              (try dsimp only at hSw)
              go_simp
              try with_reducible rfl
            try simp only [Go.Act.put, List.getElem_toArray, List.getElem_cons_zero, List.getElem_cons_succ, List.setIfInBounds_toArray, List.set_cons_zero, List.set_cons_succ]
            refine wpAnyH_take (i := 9) (v := ?_) rfl (by kernel_rfl) (by kernel_rfl) (by kernel_rfl) (fun _ _ _ h => h) (Or.inl ⟨by rfl, ?_⟩) (by assumption) ?_
            rotate_left
            · intro w hSw
              (try dsimp only at hSw)
              go_simp
              try with_reducible rfl
            try simp only [Go.Act.put, List.getElem_toArray, List.getElem_cons_zero, List.getElem_cons_succ, List.setIfInBounds_toArray, List.set_cons_zero, List.set_cons_succ]
            refine wpAnyH_take (i := 10) (v := ?_) rfl (by kernel_rfl) (by kernel_rfl) (by kernel_rfl) (fun _ _ _ h => h) (Or.inl ⟨by rfl, ?_⟩) (by assumption) ?_
            rotate_left
            · intro w hSw
              (try dsimp only at hSw)
              have q1 := hSw.keep cOw1
              go_simp
              try with_reducible rfl
            try simp only [Go.Act.put, List.getElem_toArray, List.getElem_cons_zero, List.getElem_cons_succ, List.setIfInBounds_toArray, List.set_cons_zero, List.set_cons_succ]
            refine wpAnyH_take (i := 11) (v := ?_) rfl (by kernel_rfl) (by kernel_rfl) (by kernel_rfl) (fun _ _ _ h => h) (Or.inl ⟨by rfl, ?_⟩) (by assumption) ?_
            rotate_left
            · intro w hSw
              (try dsimp only at hSw)
              go_simp
              try with_reducible rfl
            try simp only [Go.Act.put, List.getElem_toArray, List.getElem_cons_zero, List.getElem_cons_succ, List.setIfInBounds_toArray, List.set_cons_zero, List.set_cons_succ]
            refine wpAnyH_take (i := 12) (v := ?_) rfl (by kernel_rfl) (by kernel_rfl) (by kernel_rfl) (fun _ _ _ h => h) (Or.inl ⟨by rfl, ?_⟩) (by assumption) ?_
            rotate_left
            · intro w hSw
              (try dsimp only at hSw)
              go_simp
              try with_reducible rfl
            try simp only [Go.Act.put, List.getElem_toArray, List.getElem_cons_zero, List.getElem_cons_succ, List.setIfInBounds_toArray, List.set_cons_zero, List.set_cons_succ]
            refine wpAnyH_take (i := 13) (v := ?_) rfl (by kernel_rfl) (by kernel_rfl) (by kernel_rfl) (fun _ _ _ h => h) (Or.inl ⟨by rfl, ?_⟩) (by assumption) ?_
            rotate_left
            · intro w hSw
              (try dsimp only at hSw)
              have q0 := hSw.keep r0
              have q1 := hSw.keep r1
              have q2 := hSw.keep r2
              have q3 := hSw.keep r3
              go_simp
              try with_reducible rfl
            try simp only [Go.Act.put, List.getElem_toArray, List.getElem_cons_zero, List.getElem_cons_succ, List.setIfInBounds_toArray, List.set_cons_zero, List.set_cons_succ]
            apply use_tail
            rotate_left
            · intro TAIL
              refine wpAnyH_ready (rs := [1, 3, 6, 14]) (by kernel_rfl) (by simp) ?_
              refine (AllReadyH.cons rfl (fun K hK => ?_) (AllReadyH.cons rfl (fun K hK => ?_) (AllReadyH.cons rfl (fun K hK => ?_) (AllReadyH.cons rfl (fun K hK => ?_) AllReadyH.nil))))
              · skip
                go_simp
                refine hK.out _ _ ?_ (fun hHeld => ?_)
                · (try dsimp only)
                  first | exact HXL.out.drew | exact (HXL.out.alloc _).drew | exact HXL.out.drew.alloc _
                clear hK K
                try simp only [Go.Act.put, List.getElem_toArray, List.getElem_cons_zero, List.getElem_cons_succ, List.setIfInBounds_toArray, List.set_cons_zero, List.set_cons_succ]
                refine wpAnyH_ready (rs := [3, 6, 14]) (by kernel_rfl) (by simp) ?_
                refine (AllReadyH.cons rfl (fun K hK => ?_) (AllReadyH.cons rfl (fun K hK => ?_) (AllReadyH.cons rfl (fun K hK => ?_) AllReadyH.nil)))
                · skip
                  go_simp
                  refine hK.out _ _ ?_ (fun hHeld => ?_)
                  · (try dsimp only)
                    first | exact HXL.out.drew | exact (HXL.out.alloc _).drew | exact HXL.out.drew.alloc _
                  clear hK K
                  try simp only [Go.Act.put, List.getElem_toArray, List.getElem_cons_zero, List.getElem_cons_succ, List.setIfInBounds_toArray, List.set_cons_zero, List.set_cons_succ]
                  refine wpAnyH_take (i := 4) (v := ?_) rfl (by kernel_rfl) (by kernel_rfl) (by kernel_rfl) (fun _ _ _ h => h) (Or.inl ⟨by rfl, ?_⟩) (by assumption) ?_
                  rotate_left
                  · intro w hSw
                    (try dsimp only at hSw)
                    go_simp
                    try with_reducible rfl
                  try simp only [Go.Act.put, List.getElem_toArray, List.getElem_cons_zero, List.getElem_cons_succ, List.setIfInBounds_toArray, List.set_cons_zero, List.set_cons_succ]
                  refine wpAnyH_ready (rs := [6, 14]) (by kernel_rfl) (by simp) ?_
                  refine (AllReadyH.cons rfl (fun K hK => ?_) (AllReadyH.cons rfl (fun K hK => ?_) AllReadyH.nil))
                  · skip
                    go_simp
                    refine hK.out _ _ ?_ (fun hHeld => ?_)
                    · (try dsimp only)
                      first | exact HXL.out.drew | exact (HXL.out.alloc _).drew | exact HXL.out.drew.alloc _
                    clear hK K
                    try simp only [Go.Act.put, List.getElem_toArray, List.getElem_cons_zero, List.getElem_cons_succ, List.setIfInBounds_toArray, List.set_cons_zero, List.set_cons_succ]
                    refine wpAnyH_take (i := 7) (v := ?_) rfl (by kernel_rfl) (by kernel_rfl) (by kernel_rfl) (fun _ _ _ h => h) (Or.inl ⟨by rfl, ?_⟩) (by assumption) ?_
                    rotate_left
                    · intro w hSw
                      (try dsimp only at hSw)
                      go_simp
                      try with_reducible rfl
                    try simp only [Go.Act.put, List.getElem_toArray, List.getElem_cons_zero, List.getElem_cons_succ, List.setIfInBounds_toArray, List.set_cons_zero, List.set_cons_succ]
                    refine wpAnyH_take (i := 8) (v := ?_) rfl (by kernel_rfl) (by kernel_rfl) (by kernel_rfl) (fun _ _ _ h => h) (Or.inl ⟨by rfl, ?_⟩) (by assumption) ?_
                    rotate_left
                    · intro w hSw
                      (try dsimp only at hSw)
                      go_simp
                      try with_reducible rfl
                    try simp only [Go.Act.put, List.getElem_toArray, List.getElem_cons_zero, List.getElem_cons_succ, List.setIfInBounds_toArray, List.set_cons_zero, List.set_cons_succ]
                    refine wpAnyH_ready (rs := [14]) (by kernel_rfl) (by simp) ?_
                    refine (AllReadyH.cons rfl (fun K hK => ?_) AllReadyH.nil)
                    go_simp
                    refine hK.out _ _ ?_ (fun hHeld => ?_)
                    · (try dsimp only)
                      first | exact (HXL.out.alloc _).drew | exact HXL.out.drew.alloc _
                    clear hK K
                    try simp only [Go.Act.put, List.getElem_toArray, List.getElem_cons_zero, List.getElem_cons_succ, List.setIfInBounds_toArray, List.set_cons_zero, List.set_cons_succ]
                    exact TAIL
                  · go_simp
                    refine hK.out _ _ ?_ (fun hHeld => ?_)
                    · (try dsimp only)
                      first | exact (HXL.out.alloc _).drew | exact HXL.out.drew.alloc _
                    clear hK K
                    try simp only [Go.Act.put, List.getElem_toArray, List.getElem_cons_zero, List.getElem_cons_succ, List.setIfInBounds_toArray, List.set_cons_zero, List.set_cons_succ]
                    refine wpAnyH_ready (rs := [6]) (by kernel_rfl) (by simp) ?_
                    refine (AllReadyH.cons rfl (fun K hK => ?_) AllReadyH.nil)
                    have cL2 := ((Ext.refl wr).alloc (.cells #[.string x.p, .int .u64 x.e, .int .u64 x.b, .int .u8 x.k] 37)).keep cL1
                    go_simp
                    refine hK.out _ _ ?_ (fun hHeld => ?_)
                    · (try dsimp only)
                      first | exact HXL.out.drew | exact (HXL.out.alloc _).drew | exact HXL.out.drew.alloc _
                    clear hK K
                    try simp only [Go.Act.put, List.getElem_toArray, List.getElem_cons_zero, List.getElem_cons_succ, List.setIfInBounds_toArray, List.set_cons_zero, List.set_cons_succ]
                    refine wpAnyH_take (i := 7) (v := ?_) rfl (by kernel_rfl) (by kernel_rfl) (by kernel_rfl) (fun _ _ _ h => h) (Or.inl ⟨by rfl, ?_⟩) (by assumption) ?_
                    rotate_left
                    · intro w hSw
                      (try dsimp only at hSw)
                      go_simp
                      try with_reducible rfl
                    try simp only [Go.Act.put, List.getElem_toArray, List.getElem_cons_zero, List.getElem_cons_succ, List.setIfInBounds_toArray, List.set_cons_zero, List.set_cons_succ]
                    refine wpAnyH_take (i := 8) (v := ?_) rfl (by kernel_rfl) (by kernel_rfl) (by kernel_rfl) (fun _ _ _ h => h) (Or.inl ⟨by rfl, ?_⟩) (by assumption) ?_
                    rotate_left
                    · intro w hSw
                      (try dsimp only at hSw)
                      go_simp
                      try with_reducible rfl
                    try simp only [Go.Act.put, List.getElem_toArray, List.getElem_cons_zero, List.getElem_cons_succ, List.setIfInBounds_toArray, List.set_cons_zero, List.set_cons_succ]
                    exact TAIL
                · skip
                  go_simp
                  refine hK.out _ _ ?_ (fun hHeld => ?_)
                  · (try dsimp only)
                    first | exact HXL.out.drew | exact (HXL.out.alloc _).drew | exact HXL.out.drew.alloc _
                  clear hK K
                  try simp only [Go.Act.put, List.getElem_toArray, List.getElem_cons_zero, List.getElem_cons_succ, List.setIfInBounds_toArray, List.set_cons_zero, List.set_cons_succ]
                  refine wpAnyH_take (i := 7) (v := ?_) rfl (by kernel_rfl) (by kernel_rfl) (by kernel_rfl) (fun _ _ _ h => h) (Or.inl ⟨by rfl, ?_⟩) (by assumption) ?_
                  rotate_left
                  · intro w hSw
                    (try dsimp only at hSw)
                    go_simp
                    try with_reducible rfl
                  try simp only [Go.Act.put, List.getElem_toArray, List.getElem_cons_zero, List.getElem_cons_succ, List.setIfInBounds_toArray, List.set_cons_zero, List.set_cons_succ]
                  refine wpAnyH_ready (rs := [3, 14]) (by kernel_rfl) (by simp) ?_
                  refine (AllReadyH.cons rfl (fun K hK => ?_) (AllReadyH.cons rfl (fun K hK => ?_) AllReadyH.nil))
                  · skip
                    go_simp
                    refine hK.out _ _ ?_ (fun hHeld => ?_)
                    · (try dsimp only)
                      first | exact HXL.out.drew | exact (HXL.out.alloc _).drew | exact HXL.out.drew.alloc _
                    clear hK K
                    try simp only [Go.Act.put, List.getElem_toArray, List.getElem_cons_zero, List.getElem_cons_succ, List.setIfInBounds_toArray, List.set_cons_zero, List.set_cons_succ]
                    refine wpAnyH_take (i := 4) (v := ?_) rfl (by kernel_rfl) (by kernel_rfl) (by kernel_rfl) (fun _ _ _ h => h) (Or.inl ⟨by rfl, ?_⟩) (by assumption) ?_
                    rotate_left
                    · intro w hSw
                      (try dsimp only at hSw)
                      go_simp
                      try with_reducible rfl
                    try simp only [Go.Act.put, List.getElem_toArray, List.getElem_cons_zero, List.getElem_cons_succ, List.setIfInBounds_toArray, List.set_cons_zero, List.set_cons_succ]
                    refine wpAnyH_take (i := 8) (v := ?_) rfl (by kernel_rfl) (by kernel_rfl) (by kernel_rfl) (fun _ _ _ h => h) (Or.inl ⟨by rfl, ?_⟩) (by assumption) ?_
                    rotate_left
                    · intro w hSw
                      (try dsimp only at hSw)
                      go_simp
                      try with_reducible rfl
                    try simp only [Go.Act.put, List.getElem_toArray, List.getElem_cons_zero, List.getElem_cons_succ, List.setIfInBounds_toArray, List.set_cons_zero, List.set_cons_succ]
                    refine wpAnyH_ready (rs := [14]) (by kernel_rfl) (by simp) ?_
                    refine (AllReadyH.cons rfl (fun K hK => ?_) AllReadyH.nil)
                    go_simp
                    refine hK.out _ _ ?_ (fun hHeld => ?_)
                    · (try dsimp only)
                      first | exact (HXL.out.alloc _).drew | exact HXL.out.drew.alloc _
                    clear hK K
                    try simp only [Go.Act.put, List.getElem_toArray, List.getElem_cons_zero, List.getElem_cons_succ, List.setIfInBounds_toArray, List.set_cons_zero, List.set_cons_succ]
                    exact TAIL
                  · go_simp
                    refine hK.out _ _ ?_ (fun hHeld => ?_)
                    · (try dsimp only)
                      first | exact (HXL.out.alloc _).drew | exact HXL.out.drew.alloc _
                    clear hK K
                    try simp only [Go.Act.put, List.getElem_toArray, List.getElem_cons_zero, List.getElem_cons_succ, List.setIfInBounds_toArray, List.set_cons_zero, List.set_cons_succ]
                    refine wpAnyH_ready (rs := [3]) (by kernel_rfl) (by simp) ?_
                    refine (AllReadyH.cons rfl (fun K hK => ?_) AllReadyH.nil)
                    have cL2 := ((Ext.refl wr).alloc (.cells #[.string x.p, .int .u64 x.e, .int .u64 x.b, .int .u8 x.k] 37)).keep cL1
                    go_simp
                    refine hK.out _ _ ?_ (fun hHeld => ?_)
                    · (try dsimp only)
                      first | exact HXL.out.drew | exact (HXL.out.alloc _).drew | exact HXL.out.drew.alloc _
                    clear hK K
                    try simp only [Go.Act.put, List.getElem_toArray, List.getElem_cons_zero, List.getElem_cons_succ, List.setIfInBounds_toArray, List.set_cons_zero, List.set_cons_succ]
                    refine wpAnyH_take (i := 4) (v := ?_) rfl (by kernel_rfl) (by kernel_rfl) (by kernel_rfl) (fun _ _ _ h => h) (Or.inl ⟨by rfl, ?_⟩) (by assumption) ?_
                    rotate_left
                    · intro w hSw
                      (try dsimp only at hSw)
                      go_simp
                      try with_reducible rfl
                    try simp only [Go.Act.put, List.getElem_toArray, List.getElem_cons_zero, List.getElem_cons_succ, List.setIfInBounds_toArray, List.set_cons_zero, List.set_cons_succ]
                    refine wpAnyH_take (i := 8) (v := ?_) rfl (by kernel_rfl) (by kernel_rfl) (by kernel_rfl) (fun _ _ _ h => h) (Or.inl ⟨by rfl, ?_⟩) (by assumption) ?_
                    rotate_left
                    · intro w hSw
                      (try dsimp only at hSw)
                      go_simp
                      try with_reducible rfl
                    try simp only [Go.Act.put, List.getElem_toArray, List.getElem_cons_zero, List.getElem_cons_succ, List.setIfInBounds_toArray, List.set_cons_zero, List.set_cons_succ]
                    exact TAIL
                · go_simp
                  refine hK.out _ _ ?_ (fun hHeld => ?_)
                  · (try dsimp only)
                    first | exact (HXL.out.alloc _).drew | exact HXL.out.drew.alloc _
                  clear hK K
                  try simp only [Go.Act.put, List.getElem_toArray, List.getElem_cons_zero, List.getElem_cons_succ, List.setIfInBounds_toArray, List.set_cons_zero, List.set_cons_succ]
                  refine wpAnyH_ready (rs := [3, 6]) (by kernel_rfl) (by simp) ?_
                  refine (AllReadyH.cons rfl (fun K hK => ?_) (AllReadyH.cons rfl (fun K hK => ?_) AllReadyH.nil))
                  · have cL2 := ((Ext.refl wr).alloc (.cells #[.string x.p, .int .u64 x.e, .int .u64 x.b, .int .u8 x.k] 37)).keep cL1
                    go_simp
                    refine hK.out _ _ ?_ (fun hHeld => ?_)
                    · (try dsimp only)
                      first | exact HXL.out.drew | exact (HXL.out.alloc _).drew | exact HXL.out.drew.alloc _
                    clear hK K
                    try simp only [Go.Act.put, List.getElem_toArray, List.getElem_cons_zero, List.getElem_cons_succ, List.setIfInBounds_toArray, List.set_cons_zero, List.set_cons_succ]
                    refine wpAnyH_take (i := 4) (v := ?_) rfl (by kernel_rfl) (by kernel_rfl) (by kernel_rfl) (fun _ _ _ h => h) (Or.inl ⟨by rfl, ?_⟩) (by assumption) ?_
                    rotate_left
                    · intro w hSw
                      (try dsimp only at hSw)
                      go_simp
                      try with_reducible rfl
                    try simp only [Go.Act.put, List.getElem_toArray, List.getElem_cons_zero, List.getElem_cons_succ, List.setIfInBounds_toArray, List.set_cons_zero, List.set_cons_succ]
                    refine wpAnyH_ready (rs := [6]) (by kernel_rfl) (by simp) ?_
                    refine (AllReadyH.cons rfl (fun K hK => ?_) AllReadyH.nil)
                    have cL2 := ((Ext.refl wr).alloc (.cells #[.string x.p, .int .u64 x.e, .int .u64 x.b, .int .u8 x.k] 37)).keep cL1
                    go_simp
                    refine hK.out _ _ ?_ (fun hHeld => ?_)
                    · (try dsimp only)
                      first | exact HXL.out.drew | exact (HXL.out.alloc _).drew | exact HXL.out.drew.alloc _
                    clear hK K
                    try simp only [Go.Act.put, List.getElem_toArray, List.getElem_cons_zero, List.getElem_cons_succ, List.setIfInBounds_toArray, List.set_cons_zero, List.set_cons_succ]
                    refine wpAnyH_take (i := 7) (v := ?_) rfl (by kernel_rfl) (by kernel_rfl) (by kernel_rfl) (fun _ _ _ h => h) (Or.inl ⟨by rfl, ?_⟩) (by assumption) ?_
                    rotate_left
                    · intro w hSw
                      (try dsimp only at hSw)
                      go_simp
                      try with_reducible rfl
                    try simp only [Go.Act.put, List.getElem_toArray, List.getElem_cons_zero, List.getElem_cons_succ, List.setIfInBounds_toArray, List.set_cons_zero, List.set_cons_succ]
                    refine wpAnyH_take (i := 8) (v := ?_) rfl (by kernel_rfl) (by kernel_rfl) (by kernel_rfl) (fun _ _ _ h => h) (Or.inl ⟨by rfl, ?_⟩) (by assumption) ?_
                    rotate_left
                    · intro w hSw
                      (try dsimp only at hSw)
                      go_simp
                      try with_reducible rfl
                    try simp only [Go.Act.put, List.getElem_toArray, List.getElem_cons_zero, List.getElem_cons_succ, List.setIfInBounds_toArray, List.set_cons_zero, List.set_cons_succ]
                    exact TAIL
                  · have cL2 := ((Ext.refl wr).alloc (.cells #[.string x.p, .int .u64 x.e, .int .u64 x.b, .int .u8 x.k] 37)).keep cL1
                    go_simp
                    refine hK.out _ _ ?_ (fun hHeld => ?_)
                    · (try dsimp only)
                      first | exact HXL.out.drew | exact (HXL.out.alloc _).drew | exact HXL.out.drew.alloc _
                    clear hK K
                    try simp only [Go.Act.put, List.getElem_toArray, List.getElem_cons_zero, List.getElem_cons_succ, List.setIfInBounds_toArray, List.set_cons_zero, List.set_cons_succ]
                    refine wpAnyH_take (i := 7) (v := ?_) rfl (by kernel_rfl) (by kernel_rfl) (by kernel_rfl) (fun _ _ _ h => h) (Or.inl ⟨by rfl, ?_⟩) (by assumption) ?_
                    rotate_left
                    · intro w hSw
                      (try dsimp only at hSw)
                      go_simp
                      try with_reducible rfl
                    try simp only [Go.Act.put, List.getElem_toArray, List.getElem_cons_zero, List.getElem_cons_succ, List.setIfInBounds_toArray, List.set_cons_zero, List.set_cons_succ]
                    refine wpAnyH_ready (rs := [3]) (by kernel_rfl) (by simp) ?_
                    refine (AllReadyH.cons rfl (fun K hK => ?_) AllReadyH.nil)
                    have cL2 := ((Ext.refl wr).alloc (.cells #[.string x.p, .int .u64 x.e, .int .u64 x.b, .int .u8 x.k] 37)).keep cL1
                    go_simp
                    refine hK.out _ _ ?_ (fun hHeld => ?_)
                    · (try dsimp only)
                      first | exact HXL.out.drew | exact (HXL.out.alloc _).drew | exact HXL.out.drew.alloc _
                    clear hK K
                    try simp only [Go.Act.put, List.getElem_toArray, List.getElem_cons_zero, List.getElem_cons_succ, List.setIfInBounds_toArray, List.set_cons_zero, List.set_cons_succ]
                    refine wpAnyH_take (i := 4) (v := ?_) rfl (by kernel_rfl) (by kernel_rfl) (by kernel_rfl) (fun _ _ _ h => h) (Or.inl ⟨by rfl, ?_⟩) (by assumption) ?_
                    rotate_left
                    · intro w hSw
                      (try dsimp only at hSw)
                      go_simp
                      try with_reducible rfl
                    try simp only [Go.Act.put, List.getElem_toArray, List.getElem_cons_zero, List.getElem_cons_succ, List.setIfInBounds_toArray, List.set_cons_zero, List.set_cons_succ]
                    refine wpAnyH_take (i := 8) (v := ?_) rfl (by kernel_rfl) (by kernel_rfl) (by kernel_rfl) (fun _ _ _ h => h) (Or.inl ⟨by rfl, ?_⟩) (by assumption) ?_
                    rotate_left
                    · intro w hSw
                      (try dsimp only at hSw)
                      go_simp
                      try with_reducible rfl
                    try simp only [Go.Act.put, List.getElem_toArray, List.getElem_cons_zero, List.getElem_cons_succ, List.setIfInBounds_toArray, List.set_cons_zero, List.set_cons_succ]
                    exact TAIL
              · skip
                go_simp
                refine hK.out _ _ ?_ (fun hHeld => ?_)
                · (try dsimp only)
                  first | exact HXL.out.drew | exact (HXL.out.alloc _).drew | exact HXL.out.drew.alloc _
                clear hK K
                try simp only [Go.Act.put, List.getElem_toArray, List.getElem_cons_zero, List.getElem_cons_succ, List.setIfInBounds_toArray, List.set_cons_zero, List.set_cons_succ]
                refine wpAnyH_take (i := 4) (v := ?_) rfl (by kernel_rfl) (by kernel_rfl) (by kernel_rfl) (fun _ _ _ h => h) (Or.inl ⟨by rfl, ?_⟩) (by assumption) ?_
                rotate_left
                · intro w hSw
                  (try dsimp only at hSw)
                  go_simp
                  try with_reducible rfl
                try simp only [Go.Act.put, List.getElem_toArray, List.getElem_cons_zero, List.getElem_cons_succ, List.setIfInBounds_toArray, List.set_cons_zero, List.set_cons_succ]
                refine wpAnyH_ready (rs := [1, 6, 14]) (by kernel_rfl) (by simp) ?_
                refine (AllReadyH.cons rfl (fun K hK => ?_) (AllReadyH.cons rfl (fun K hK => ?_) (AllReadyH.cons rfl (fun K hK => ?_) AllReadyH.nil)))
                · skip
                  go_simp
                  refine hK.out _ _ ?_ (fun hHeld => ?_)
                  · (try dsimp only)
                    first | exact HXL.out.drew | exact (HXL.out.alloc _).drew | exact HXL.out.drew.alloc _
                  clear hK K
                  try simp only [Go.Act.put, List.getElem_toArray, List.getElem_cons_zero, List.getElem_cons_succ, List.setIfInBounds_toArray, List.set_cons_zero, List.set_cons_succ]
                  refine wpAnyH_ready (rs := [6, 14]) (by kernel_rfl) (by simp) ?_
                  refine (AllReadyH.cons rfl (fun K hK => ?_) (AllReadyH.cons rfl (fun K hK => ?_) AllReadyH.nil))
                  · skip
                    go_simp
                    refine hK.out _ _ ?_ (fun hHeld => ?_)
                    · (try dsimp only)
                      first | exact HXL.out.drew | exact (HXL.out.alloc _).drew | exact HXL.out.drew.alloc _
                    clear hK K
                    try simp only [Go.Act.put, List.getElem_toArray, List.getElem_cons_zero, List.getElem_cons_succ, List.setIfInBounds_toArray, List.set_cons_zero, List.set_cons_succ]
                    refine wpAnyH_take (i := 7) (v := ?_) rfl (by kernel_rfl) (by kernel_rfl) (by kernel_rfl) (fun _ _ _ h => h) (Or.inl ⟨by rfl, ?_⟩) (by assumption) ?_
                    rotate_left
                    · intro w hSw
                      (try dsimp only at hSw)
                      go_simp
                      try with_reducible rfl
                    try simp only [Go.Act.put, List.getElem_toArray, List.getElem_cons_zero, List.getElem_cons_succ, List.setIfInBounds_toArray, List.set_cons_zero, List.set_cons_succ]
                    refine wpAnyH_take (i := 8) (v := ?_) rfl (by kernel_rfl) (by kernel_rfl) (by kernel_rfl) (fun _ _ _ h => h) (Or.inl ⟨by rfl, ?_⟩) (by assumption) ?_
                    rotate_left
                    · intro w hSw
                      (try dsimp only at hSw)
                      go_simp
                      try with_reducible rfl
                    try simp only [Go.Act.put, List.getElem_toArray, List.getElem_cons_zero, List.getElem_cons_succ, List.setIfInBounds_toArray, List.set_cons_zero, List.set_cons_succ]
                    refine wpAnyH_ready (rs := [14]) (by kernel_rfl) (by simp) ?_
                    refine (AllReadyH.cons rfl (fun K hK => ?_) AllReadyH.nil)
                    go_simp
                    refine hK.out _ _ ?_ (fun hHeld => ?_)
                    · (try dsimp only)
                      first | exact (HXL.out.alloc _).drew | exact HXL.out.drew.alloc _
                    clear hK K
                    try simp only [Go.Act.put, List.getElem_toArray, List.getElem_cons_zero, List.getElem_cons_succ, List.setIfInBounds_toArray, List.set_cons_zero, List.set_cons_succ]
                    exact TAIL
                  · go_simp
                    refine hK.out _ _ ?_ (fun hHeld => ?_)
                    · (try dsimp only)
                      first | exact (HXL.out.alloc _).drew | exact HXL.out.drew.alloc _
                    clear hK K
                    try simp only [Go.Act.put, List.getElem_toArray, List.getElem_cons_zero, List.getElem_cons_succ, List.setIfInBounds_toArray, List.set_cons_zero, List.set_cons_succ]
                    refine wpAnyH_ready (rs := [6]) (by kernel_rfl) (by simp) ?_
                    refine (AllReadyH.cons rfl (fun K hK => ?_) AllReadyH.nil)
                    have cL2 := ((Ext.refl wr).alloc (.cells #[.string x.p, .int .u64 x.e, .int .u64 x.b, .int .u8 x.k] 37)).keep cL1
                    go_simp
                    refine hK.out _ _ ?_ (fun hHeld => ?_)
                    · (try dsimp only)
                      first | exact HXL.out.drew | exact (HXL.out.alloc _).drew | exact HXL.out.drew.alloc _
                    clear hK K
                    try simp only [Go.Act.put, List.getElem_toArray, List.getElem_cons_zero, List.getElem_cons_succ, List.setIfInBounds_toArray, List.set_cons_zero, List.set_cons_succ]
                    refine wpAnyH_take (i := 7) (v := ?_) rfl (by kernel_rfl) (by kernel_rfl) (by kernel_rfl) (fun _ _ _ h => h) (Or.inl ⟨by rfl, ?_⟩) (by assumption) ?_
                    rotate_left
                    · intro w hSw
                      (try dsimp only at hSw)
                      go_simp
                      try with_reducible rfl
                    try simp only [Go.Act.put, List.getElem_toArray, List.getElem_cons_zero, List.getElem_cons_succ, List.setIfInBounds_toArray, List.set_cons_zero, List.set_cons_succ]
                    refine wpAnyH_take (i := 8) (v := ?_) rfl (by kernel_rfl) (by kernel_rfl) (by kernel_rfl) (fun _ _ _ h => h) (Or.inl ⟨by rfl, ?_⟩) (by assumption) ?_
                    rotate_left
                    · intro w hSw
                      (try dsimp only at hSw)
                      go_simp
                      try with_reducible rfl
                    try simp only [Go.Act.put, List.getElem_toArray, List.getElem_cons_zero, List.getElem_cons_succ, List.setIfInBounds_toArray, List.set_cons_zero, List.set_cons_succ]
                    exact TAIL
                · skip
                  go_simp
                  refine hK.out _ _ ?_ (fun hHeld => ?_)
                  · (try dsimp only)
                    first | exact HXL.out.drew | exact (HXL.out.alloc _).drew | exact HXL.out.drew.alloc _
                  clear hK K
                  try simp only [Go.Act.put, List.getElem_toArray, List.getElem_cons_zero, List.getElem_cons_succ, List.setIfInBounds_toArray, List.set_cons_zero, List.set_cons_succ]
                  refine wpAnyH_take (i := 7) (v := ?_) rfl (by kernel_rfl) (by kernel_rfl) (by kernel_rfl) (fun _ _ _ h => h) (Or.inl ⟨by rfl, ?_⟩) (by assumption) ?_
                  rotate_left
                  · intro w hSw
                    (try dsimp only at hSw)
                    go_simp
                    try with_reducible rfl
                  try simp only [Go.Act.put, List.getElem_toArray, List.getElem_cons_zero, List.getElem_cons_succ, List.setIfInBounds_toArray, List.set_cons_zero, List.set_cons_succ]
                  refine wpAnyH_ready (rs := [1, 14]) (by kernel_rfl) (by simp) ?_
                  refine (AllReadyH.cons rfl (fun K hK => ?_) (AllReadyH.cons rfl (fun K hK => ?_) AllReadyH.nil))
                  · skip
                    go_simp
                    refine hK.out _ _ ?_ (fun hHeld => ?_)
                    · (try dsimp only)
                      first | exact HXL.out.drew | exact (HXL.out.alloc _).drew | exact HXL.out.drew.alloc _
                    clear hK K
                    try simp only [Go.Act.put, List.getElem_toArray, List.getElem_cons_zero, List.getElem_cons_succ, List.setIfInBounds_toArray, List.set_cons_zero, List.set_cons_succ]
                    refine wpAnyH_take (i := 8) (v := ?_) rfl (by kernel_rfl) (by kernel_rfl) (by kernel_rfl) (fun _ _ _ h => h) (Or.inl ⟨by rfl, ?_⟩) (by assumption) ?_
                    rotate_left
                    · intro w hSw
                      (try dsimp only at hSw)
                      go_simp
                      try with_reducible rfl
                    try simp only [Go.Act.put, List.getElem_toArray, List.getElem_cons_zero, List.getElem_cons_succ, List.setIfInBounds_toArray, List.set_cons_zero, List.set_cons_succ]
                    refine wpAnyH_ready (rs := [14]) (by kernel_rfl) (by simp) ?_
                    refine (AllReadyH.cons rfl (fun K hK => ?_) AllReadyH.nil)
                    go_simp
                    refine hK.out _ _ ?_ (fun hHeld => ?_)
                    · (try dsimp only)
                      first | exact (HXL.out.alloc _).drew | exact HXL.out.drew.alloc _
                    clear hK K
                    try simp only [Go.Act.put, List.getElem_toArray, List.getElem_cons_zero, List.getElem_cons_succ, List.setIfInBounds_toArray, List.set_cons_zero, List.set_cons_succ]
                    exact TAIL
                  · go_simp
                    refine hK.out _ _ ?_ (fun hHeld => ?_)
                    · (try dsimp only)
                      first | exact (HXL.out.alloc _).drew | exact HXL.out.drew.alloc _
                    clear hK K
                    try simp only [Go.Act.put, List.getElem_toArray, List.getElem_cons_zero, List.getElem_cons_succ, List.setIfInBounds_toArray, List.set_cons_zero, List.set_cons_succ]
                    refine wpAnyH_ready (rs := [1]) (by kernel_rfl) (by simp) ?_
                    refine (AllReadyH.cons rfl (fun K hK => ?_) AllReadyH.nil)
                    have cL2 := ((Ext.refl wr).alloc (.cells #[.string x.p, .int .u64 x.e, .int .u64 x.b, .int .u8 x.k] 37)).keep cL1
                    go_simp
                    refine hK.out _ _ ?_ (fun hHeld => ?_)
                    · (try dsimp only)
                      first | exact HXL.out.drew | exact (HXL.out.alloc _).drew | exact HXL.out.drew.alloc _
                    clear hK K
                    try simp only [Go.Act.put, List.getElem_toArray, List.getElem_cons_zero, List.getElem_cons_succ, List.setIfInBounds_toArray, List.set_cons_zero, List.set_cons_succ]
                    refine wpAnyH_take (i := 8) (v := ?_) rfl (by kernel_rfl) (by kernel_rfl) (by kernel_rfl) (fun _ _ _ h => h) (Or.inl ⟨by rfl, ?_⟩) (by assumption) ?_
                    rotate_left
                    · intro w hSw
                      (try dsimp only at hSw)
                      go_simp
                      try with_reducible rfl
                    try simp only [Go.Act.put, List.getElem_toArray, List.getElem_cons_zero, List.getElem_cons_succ, List.setIfInBounds_toArray, List.set_cons_zero, List.set_cons_succ]
                    exact TAIL
                · go_simp
                  refine hK.out _ _ ?_ (fun hHeld => ?_)
                  · (try dsimp only)
                    first | exact (HXL.out.alloc _).drew | exact HXL.out.drew.alloc _
                  clear hK K
                  try simp only [Go.Act.put, List.getElem_toArray, List.getElem_cons_zero, List.getElem_cons_succ, List.setIfInBounds_toArray, List.set_cons_zero, List.set_cons_succ]
                  refine wpAnyH_ready (rs := [1, 6]) (by kernel_rfl) (by simp) ?_
                  refine (AllReadyH.cons rfl (fun K hK => ?_) (AllReadyH.cons rfl (fun K hK => ?_) AllReadyH.nil))
                  · have cL2 := ((Ext.refl wr).alloc (.cells #[.string x.p, .int .u64 x.e, .int .u64 x.b, .int .u8 x.k] 37)).keep cL1
                    go_simp
                    refine hK.out _ _ ?_ (fun hHeld => ?_)
                    · (try dsimp only)
                      first | exact HXL.out.drew | exact (HXL.out.alloc _).drew | exact HXL.out.drew.alloc _
                    clear hK K
                    try simp only [Go.Act.put, List.getElem_toArray, List.getElem_cons_zero, List.getElem_cons_succ, List.setIfInBounds_toArray, List.set_cons_zero, List.set_cons_succ]
                    refine wpAnyH_ready (rs := [6]) (by kernel_rfl) (by simp) ?_
                    refine (AllReadyH.cons rfl (fun K hK => ?_) AllReadyH.nil)
                    have cL2 := ((Ext.refl wr).alloc (.cells #[.string x.p, .int .u64 x.e, .int .u64 x.b, .int .u8 x.k] 37)).keep cL1
                    go_simp
                    refine hK.out _ _ ?_ (fun hHeld => ?_)
                    · (try dsimp only)
                      first | exact HXL.out.drew | exact (HXL.out.alloc _).drew | exact HXL.out.drew.alloc _
                    clear hK K
                    try simp only [Go.Act.put, List.getElem_toArray, List.getElem_cons_zero, List.getElem_cons_succ, List.setIfInBounds_toArray, List.set_cons_zero, List.set_cons_succ]
                    refine wpAnyH_take (i := 7) (v := ?_) rfl (by kernel_rfl) (by kernel_rfl) (by kernel_rfl) (fun _ _ _ h => h) (Or.inl ⟨by rfl, ?_⟩) (by assumption) ?_
                    rotate_left
                    · intro w hSw
                      (try dsimp only at hSw)
                      go_simp
                      try with_reducible rfl
                    try simp only [Go.Act.put, List.getElem_toArray, List.getElem_cons_zero, List.getElem_cons_succ, List.setIfInBounds_toArray, List.set_cons_zero, List.set_cons_succ]
                    refine wpAnyH_take (i := 8) (v := ?_) rfl (by kernel_rfl) (by kernel_rfl) (by kernel_rfl) (fun _ _ _ h => h) (Or.inl ⟨by rfl, ?_⟩) (by assumption) ?_
                    rotate_left
                    · intro w hSw
                      (try dsimp only at hSw)
                      go_simp
                      try with_reducible rfl
                    try simp only [Go.Act.put, List.getElem_toArray, List.getElem_cons_zero, List.getElem_cons_succ, List.setIfInBounds_toArray, List.set_cons_zero, List.set_cons_succ]
                    exact TAIL
                  · have cL2 := ((Ext.refl wr).alloc (.cells #[.string x.p, .int .u64 x.e, .int .u64 x.b, .int .u8 x.k] 37)).keep cL1
                    go_simp
                    refine hK.out _ _ ?_ (fun hHeld => ?_)
                    · (try dsimp only)
                      first | exact HXL.out.drew | exact (HXL.out.alloc _).drew | exact HXL.out.drew.alloc _
                    clear hK K
                    try simp only [Go.Act.put, List.getElem_toArray, List.getElem_cons_zero, List.getElem_cons_succ, List.setIfInBounds_toArray, List.set_cons_zero, List.set_cons_succ]
                    refine wpAnyH_take (i := 7) (v := ?_) rfl (by kernel_rfl) (by kernel_rfl) (by kernel_rfl) (fun _ _ _ h => h) (Or.inl ⟨by rfl, ?_⟩) (by assumption) ?_
                    rotate_left
                    · intro w hSw
                      (try dsimp only at hSw)
                      go_simp
                      try with_reducible rfl
                    try simp only [Go.Act.put, List.getElem_toArray, List.getElem_cons_zero, List.getElem_cons_succ, List.setIfInBounds_toArray, List.set_cons_zero, List.set_cons_succ]
                    refine wpAnyH_ready (rs := [1]) (by kernel_rfl) (by simp) ?_
                    refine (AllReadyH.cons rfl (fun K hK => ?_) AllReadyH.nil)
                    have cL2 := ((Ext.refl wr).alloc (.cells #[.string x.p, .int .u64 x.e, .int .u64 x.b, .int .u8 x.k] 37)).keep cL1
                    go_simp
                    refine hK.out _ _ ?_ (fun hHeld => ?_)
                    · (try dsimp only)
                      first | exact HXL.out.drew | exact (HXL.out.alloc _).drew | exact HXL.out.drew.alloc _
                    clear hK K
                    try simp only [Go.Act.put, List.getElem_toArray, List.getElem_cons_zero, List.getElem_cons_succ, List.setIfInBounds_toArray, List.set_cons_zero, List.set_cons_succ]
                    refine wpAnyH_take (i := 8) (v := ?_) rfl (by kernel_rfl) (by kernel_rfl) (by kernel_rfl) (fun _ _ _ h => h) (Or.inl ⟨by rfl, ?_⟩) (by assumption) ?_
                    rotate_left
                    · intro w hSw
                      (try dsimp only at hSw)
                      go_simp
                      try with_reducible rfl
                    try simp only [Go.Act.put, List.getElem_toArray, List.getElem_cons_zero, List.getElem_cons_succ, List.setIfInBounds_toArray, List.set_cons_zero, List.set_cons_succ]
                    exact TAIL
              · skip
                go_simp
                refine hK.out _ _ ?_ (fun hHeld => ?_)
                · (try dsimp only)
                  first | exact HXL.out.drew | exact (HXL.out.alloc _).drew | exact HXL.out.drew.alloc _
                clear hK K
                try simp only [Go.Act.put, List.getElem_toArray, List.getElem_cons_zero, List.getElem_cons_succ, List.setIfInBounds_toArray, List.set_cons_zero, List.set_cons_succ]
                refine wpAnyH_take (i := 7) (v := ?_) rfl (by kernel_rfl) (by kernel_rfl) (by kernel_rfl) (fun _ _ _ h => h) (Or.inl ⟨by rfl, ?_⟩) (by assumption) ?_
                rotate_left
                · intro w hSw
                  (try dsimp only at hSw)
                  go_simp
                  try with_reducible rfl
                try simp only [Go.Act.put, List.getElem_toArray, List.getElem_cons_zero, List.getElem_cons_succ, List.setIfInBounds_toArray, List.set_cons_zero, List.set_cons_succ]
                refine wpAnyH_ready (rs := [1, 3, 14]) (by kernel_rfl) (by simp) ?_
                refine (AllReadyH.cons rfl (fun K hK => ?_) (AllReadyH.cons rfl (fun K hK => ?_) (AllReadyH.cons rfl (fun K hK => ?_) AllReadyH.nil)))
                · skip
                  go_simp
                  refine hK.out _ _ ?_ (fun hHeld => ?_)
                  · (try dsimp only)
                    first | exact HXL.out.drew | exact (HXL.out.alloc _).drew | exact HXL.out.drew.alloc _
                  clear hK K
                  try simp only [Go.Act.put, List.getElem_toArray, List.getElem_cons_zero, List.getElem_cons_succ, List.setIfInBounds_toArray, List.set_cons_zero, List.set_cons_succ]
                  refine wpAnyH_ready (rs := [3, 14]) (by kernel_rfl) (by simp) ?_
                  refine (AllReadyH.cons rfl (fun K hK => ?_) (AllReadyH.cons rfl (fun K hK => ?_) AllReadyH.nil))
                  · skip
                    go_simp
                    refine hK.out _ _ ?_ (fun hHeld => ?_)
                    · (try dsimp only)
                      first | exact HXL.out.drew | exact (HXL.out.alloc _).drew | exact HXL.out.drew.alloc _
                    clear hK K
                    try simp only [Go.Act.put, List.getElem_toArray, List.getElem_cons_zero, List.getElem_cons_succ, List.setIfInBounds_toArray, List.set_cons_zero, List.set_cons_succ]
                    refine wpAnyH_take (i := 4) (v := ?_) rfl (by kernel_rfl) (by kernel_rfl) (by kernel_rfl) (fun _ _ _ h => h) (Or.inl ⟨by rfl, ?_⟩) (by assumption) ?_
                    rotate_left
                    · intro w hSw
                      (try dsimp only at hSw)
                      go_simp
                      try with_reducible rfl
                    try simp only [Go.Act.put, List.getElem_toArray, List.getElem_cons_zero, List.getElem_cons_succ, List.setIfInBounds_toArray, List.set_cons_zero, List.set_cons_succ]
                    refine wpAnyH_take (i := 8) (v := ?_) rfl (by kernel_rfl) (by kernel_rfl) (by kernel_rfl) (fun _ _ _ h => h) (Or.inl ⟨by rfl, ?_⟩) (by assumption) ?_
                    rotate_left
                    · intro w hSw
                      (try dsimp only at hSw)
                      go_simp
                      try with_reducible rfl
                    try simp only [Go.Act.put, List.getElem_toArray, List.getElem_cons_zero, List.getElem_cons_succ, List.setIfInBounds_toArray, List.set_cons_zero, List.set_cons_succ]
                    refine wpAnyH_ready (rs := [14]) (by kernel_rfl) (by simp) ?_
                    refine (AllReadyH.cons rfl (fun K hK => ?_) AllReadyH.nil)
                    go_simp
                    refine hK.out _ _ ?_ (fun hHeld => ?_)
                    · (try dsimp only)
                      first | exact (HXL.out.alloc _).drew | exact HXL.out.drew.alloc _
                    clear hK K
                    try simp only [Go.Act.put, List.getElem_toArray, List.getElem_cons_zero, List.getElem_cons_succ, List.setIfInBounds_toArray, List.set_cons_zero, List.set_cons_succ]
                    exact TAIL
                  · go_simp
                    refine hK.out _ _ ?_ (fun hHeld => ?_)
                    · (try dsimp only)
                      first | exact (HXL.out.alloc _).drew | exact HXL.out.drew.alloc _
                    clear hK K
                    try simp only [Go.Act.put, List.getElem_toArray, List.getElem_cons_zero, List.getElem_cons_succ, List.setIfInBounds_toArray, List.set_cons_zero, List.set_cons_succ]
                    refine wpAnyH_ready (rs := [3]) (by kernel_rfl) (by simp) ?_
                    refine (AllReadyH.cons rfl (fun K hK => ?_) AllReadyH.nil)
                    have cL2 := ((Ext.refl wr).alloc (.cells #[.string x.p, .int .u64 x.e, .int .u64 x.b, .int .u8 x.k] 37)).keep cL1
                    go_simp
                    refine hK.out _ _ ?_ (fun hHeld => ?_)
                    · (try dsimp only)
                      first | exact HXL.out.drew | exact (HXL.out.alloc _).drew | exact HXL.out.drew.alloc _
                    clear hK K
                    try simp only [Go.Act.put, List.getElem_toArray, List.getElem_cons_zero, List.getElem_cons_succ, List.setIfInBounds_toArray, List.set_cons_zero, List.set_cons_succ]
                    refine wpAnyH_take (i := 4) (v := ?_) rfl (by kernel_rfl) (by kernel_rfl) (by kernel_rfl) (fun _ _ _ h => h) (Or.inl ⟨by rfl, ?_⟩) (by assumption) ?_
                    rotate_left
                    · intro w hSw
                      (try dsimp only at hSw)
                      go_simp
                      try with_reducible rfl
                    try simp only [Go.Act.put, List.getElem_toArray, List.getElem_cons_zero, List.getElem_cons_succ, List.setIfInBounds_toArray, List.set_cons_zero, List.set_cons_succ]
                    refine wpAnyH_take (i := 8) (v := ?_) rfl (by kernel_rfl) (by kernel_rfl) (by kernel_rfl) (fun _ _ _ h => h) (Or.inl ⟨by rfl, ?_⟩) (by assumption) ?_
                    rotate_left
                    · intro w hSw
                      (try dsimp only at hSw)
                      go_simp
                      try with_reducible rfl
                    try simp only [Go.Act.put, List.getElem_toArray, List.getElem_cons_zero, List.getElem_cons_succ, List.setIfInBounds_toArray, List.set_cons_zero, List.set_cons_succ]
                    exact TAIL
                · skip
                  go_simp
                  refine hK.out _ _ ?_ (fun hHeld => ?_)
                  · (try dsimp only)
                    first | exact HXL.out.drew | exact (HXL.out.alloc _).drew | exact HXL.out.drew.alloc _
                  clear hK K
                  try simp only [Go.Act.put, List.getElem_toArray, List.getElem_cons_zero, List.getElem_cons_succ, List.setIfInBounds_toArray, List.set_cons_zero, List.set_cons_succ]
                  refine wpAnyH_take (i := 4) (v := ?_) rfl (by kernel_rfl) (by kernel_rfl) (by kernel_rfl) (fun _ _ _ h => h) (Or.inl ⟨by rfl, ?_⟩) (by assumption) ?_
                  rotate_left
                  · intro w hSw
                    (try dsimp only at hSw)
                    go_simp
                    try with_reducible rfl
                  try simp only [Go.Act.put, List.getElem_toArray, List.getElem_cons_zero, List.getElem_cons_succ, List.setIfInBounds_toArray, List.set_cons_zero, List.set_cons_succ]
                  refine wpAnyH_ready (rs := [1, 14]) (by kernel_rfl) (by simp) ?_
                  refine (AllReadyH.cons rfl (fun K hK => ?_) (AllReadyH.cons rfl (fun K hK => ?_) AllReadyH.nil))
                  · skip
                    go_simp
                    refine hK.out _ _ ?_ (fun hHeld => ?_)
                    · (try dsimp only)
                      first | exact HXL.out.drew | exact (HXL.out.alloc _).drew | exact HXL.out.drew.alloc _
                    clear hK K
                    try simp only [Go.Act.put, List.getElem_toArray, List.getElem_cons_zero, List.getElem_cons_succ, List.setIfInBounds_toArray, List.set_cons_zero, List.set_cons_succ]
                    refine wpAnyH_take (i := 8) (v := ?_) rfl (by kernel_rfl) (by kernel_rfl) (by kernel_rfl) (fun _ _ _ h => h) (Or.inl ⟨by rfl, ?_⟩) (by assumption) ?_
                    rotate_left
                    · intro w hSw
                      (try dsimp only at hSw)
                      go_simp
                      try with_reducible rfl
                    try simp only [Go.Act.put, List.getElem_toArray, List.getElem_cons_zero, List.getElem_cons_succ, List.setIfInBounds_toArray, List.set_cons_zero, List.set_cons_succ]
                    refine wpAnyH_ready (rs := [14]) (by kernel_rfl) (by simp) ?_
                    refine (AllReadyH.cons rfl (fun K hK => ?_) AllReadyH.nil)
                    go_simp
                    refine hK.out _ _ ?_ (fun hHeld => ?_)
                    · (try dsimp only)
                      first | exact (HXL.out.alloc _).drew | exact HXL.out.drew.alloc _
                    clear hK K
                    try simp only [Go.Act.put, List.getElem_toArray, List.getElem_cons_zero, List.getElem_cons_succ, List.setIfInBounds_toArray, List.set_cons_zero, List.set_cons_succ]
                    exact TAIL
                  · go_simp
                    refine hK.out _ _ ?_ (fun hHeld => ?_)
                    · (try dsimp only)
                      first | exact (HXL.out.alloc _).drew | exact HXL.out.drew.alloc _
                    clear hK K
                    try simp only [Go.Act.put, List.getElem_toArray, List.getElem_cons_zero, List.getElem_cons_succ, List.setIfInBounds_toArray, List.set_cons_zero, List.set_cons_succ]
                    refine wpAnyH_ready (rs := [1]) (by kernel_rfl) (by simp) ?_
                    refine (AllReadyH.cons rfl (fun K hK => ?_) AllReadyH.nil)
                    have cL2 := ((Ext.refl wr).alloc (.cells #[.string x.p, .int .u64 x.e, .int .u64 x.b, .int .u8 x.k] 37)).keep cL1
                    go_simp
                    refine hK.out _ _ ?_ (fun hHeld => ?_)
                    · (try dsimp only)
                      first | exact HXL.out.drew | exact (HXL.out.alloc _).drew | exact HXL.out.drew.alloc _
                    clear hK K
                    try simp only [Go.Act.put, List.getElem_toArray, List.getElem_cons_zero, List.getElem_cons_succ, List.setIfInBounds_toArray, List.set_cons_zero, List.set_cons_succ]
                    refine wpAnyH_take (i := 8) (v := ?_) rfl (by kernel_rfl) (by kernel_rfl) (by kernel_rfl) (fun _ _ _ h => h) (Or.inl ⟨by rfl, ?_⟩) (by assumption) ?_
                    rotate_left
                    · intro w hSw
                      (try dsimp only at hSw)
                      go_simp
                      try with_reducible rfl
                    try simp only [Go.Act.put, List.getElem_toArray, List.getElem_cons_zero, List.getElem_cons_succ, List.setIfInBounds_toArray, List.set_cons_zero, List.set_cons_succ]
                    exact TAIL
                · go_simp
                  refine hK.out _ _ ?_ (fun hHeld => ?_)
                  · (try dsimp only)
                    first | exact (HXL.out.alloc _).drew | exact HXL.out.drew.alloc _
                  clear hK K
                  try simp only [Go.Act.put, List.getElem_toArray, List.getElem_cons_zero, List.getElem_cons_succ, List.setIfInBounds_toArray, List.set_cons_zero, List.set_cons_succ]
                  refine wpAnyH_ready (rs := [1, 3]) (by kernel_rfl) (by simp) ?_
                  refine (AllReadyH.cons rfl (fun K hK => ?_) (AllReadyH.cons rfl (fun K hK => ?_) AllReadyH.nil))
                  · have cL2 := ((Ext.refl wr).alloc (.cells #[.string x.p, .int .u64 x.e, .int .u64 x.b, .int .u8 x.k] 37)).keep cL1
                    go_simp
                    refine hK.out _ _ ?_ (fun hHeld => ?_)
                    · (try dsimp only)
                      first | exact HXL.out.drew | exact (HXL.out.alloc _).drew | exact HXL.out.drew.alloc _
                    clear hK K
                    try simp only [Go.Act.put, List.getElem_toArray, List.getElem_cons_zero, List.getElem_cons_succ, List.setIfInBounds_toArray, List.set_cons_zero, List.set_cons_succ]
                    refine wpAnyH_ready (rs := [3]) (by kernel_rfl) (by simp) ?_
                    refine (AllReadyH.cons rfl (fun K hK => ?_) AllReadyH.nil)
                    have cL2 := ((Ext.refl wr).alloc (.cells #[.string x.p, .int .u64 x.e, .int .u64 x.b, .int .u8 x.k] 37)).keep cL1
                    go_simp
                    refine hK.out _ _ ?_ (fun hHeld => ?_)
                    · (try dsimp only)
                      first | exact HXL.out.drew | exact (HXL.out.alloc _).drew | exact HXL.out.drew.alloc _
                    clear hK K
                    try simp only [Go.Act.put, List.getElem_toArray, List.getElem_cons_zero, List.getElem_cons_succ, List.setIfInBounds_toArray, List.set_cons_zero, List.set_cons_succ]
                    refine wpAnyH_take (i := 4) (v := ?_) rfl (by kernel_rfl) (by kernel_rfl) (by kernel_rfl) (fun _ _ _ h => h) (Or.inl ⟨by rfl, ?_⟩) (by assumption) ?_
                    rotate_left
                    · intro w hSw
                      (try dsimp only at hSw)
                      go_simp
                      try with_reducible rfl
                    try simp only [Go.Act.put, List.getElem_toArray, List.getElem_cons_zero, List.getElem_cons_succ, List.setIfInBounds_toArray, List.set_cons_zero, List.set_cons_succ]
                    refine wpAnyH_take (i := 8) (v := ?_) rfl (by kernel_rfl) (by kernel_rfl) (by kernel_rfl) (fun _ _ _ h => h) (Or.inl ⟨by rfl, ?_⟩) (by assumption) ?_
                    rotate_left
                    · intro w hSw
                      (try dsimp only at hSw)
                      go_simp
                      try with_reducible rfl
                    try simp only [Go.Act.put, List.getElem_toArray, List.getElem_cons_zero, List.getElem_cons_succ, List.setIfInBounds_toArray, List.set_cons_zero, List.set_cons_succ]
                    exact TAIL
                  · have cL2 := ((Ext.refl wr).alloc (.cells #[.string x.p, .int .u64 x.e, .int .u64 x.b, .int .u8 x.k] 37)).keep cL1
                    go_simp
                    refine hK.out _ _ ?_ (fun hHeld => ?_)
                    · (try dsimp only)
                      first | exact HXL.out.drew | exact (HXL.out.alloc _).drew | exact HXL.out.drew.alloc _
                    clear hK K
                    try simp only [Go.Act.put, List.getElem_toArray, List.getElem_cons_zero, List.getElem_cons_succ, List.setIfInBounds_toArray, List.set_cons_zero, List.set_cons_succ]
                    refine wpAnyH_take (i := 4) (v := ?_) rfl (by kernel_rfl) (by kernel_rfl) (by kernel_rfl) (fun _ _ _ h => h) (Or.inl ⟨by rfl, ?_⟩) (by assumption) ?_
                    rotate_left
                    · intro w hSw
                      (try dsimp only at hSw)
                      go_simp
                      try with_reducible rfl
                    try simp only [Go.Act.put, List.getElem_toArray, List.getElem_cons_zero, List.getElem_cons_succ, List.setIfInBounds_toArray, List.set_cons_zero, List.set_cons_succ]
                    refine wpAnyH_ready (rs := [1]) (by kernel_rfl) (by simp) ?_
                    refine (AllReadyH.cons rfl (fun K hK => ?_) AllReadyH.nil)
                    have cL2 := ((Ext.refl wr).alloc (.cells #[.string x.p, .int .u64 x.e, .int .u64 x.b, .int .u8 x.k] 37)).keep cL1
                    go_simp
                    refine hK.out _ _ ?_ (fun hHeld => ?_)
                    · (try dsimp only)
                      first | exact HXL.out.drew | exact (HXL.out.alloc _).drew | exact HXL.out.drew.alloc _
                    clear hK K
                    try simp only [Go.Act.put, List.getElem_toArray, List.getElem_cons_zero, List.getElem_cons_succ, List.setIfInBounds_toArray, List.set_cons_zero, List.set_cons_succ]
                    refine wpAnyH_take (i := 8) (v := ?_) rfl (by kernel_rfl) (by kernel_rfl) (by kernel_rfl) (fun _ _ _ h => h) (Or.inl ⟨by rfl, ?_⟩) (by assumption) ?_
                    rotate_left
                    · intro w hSw
                      (try dsimp only at hSw)
                      go_simp
                      try with_reducible rfl
                    try simp only [Go.Act.put, List.getElem_toArray, List.getElem_cons_zero, List.getElem_cons_succ, List.setIfInBounds_toArray, List.set_cons_zero, List.set_cons_succ]
                    exact TAIL
              · go_simp
                refine hK.out _ _ ?_ (fun hHeld => ?_)
                · (try dsimp only)
                  first | exact (HXL.out.alloc _).drew | exact HXL.out.drew.alloc _
                clear hK K
                try simp only [Go.Act.put, List.getElem_toArray, List.getElem_cons_zero, List.getElem_cons_succ, List.setIfInBounds_toArray, List.set_cons_zero, List.set_cons_succ]
                refine wpAnyH_ready (rs := [1, 3, 6]) (by kernel_rfl) (by simp) ?_
                refine (AllReadyH.cons rfl (fun K hK => ?_) (AllReadyH.cons rfl (fun K hK => ?_) (AllReadyH.cons rfl (fun K hK => ?_) AllReadyH.nil)))
                · have cL2 := ((Ext.refl wr).alloc (.cells #[.string x.p, .int .u64 x.e, .int .u64 x.b, .int .u8 x.k] 37)).keep cL1
                  go_simp
                  refine hK.out _ _ ?_ (fun hHeld => ?_)
                  · (try dsimp only)
                    first | exact HXL.out.drew | exact (HXL.out.alloc _).drew | exact HXL.out.drew.alloc _
                  clear hK K
                  try simp only [Go.Act.put, List.getElem_toArray, List.getElem_cons_zero, List.getElem_cons_succ, List.setIfInBounds_toArray, List.set_cons_zero, List.set_cons_succ]
                  refine wpAnyH_ready (rs := [3, 6]) (by kernel_rfl) (by simp) ?_
                  refine (AllReadyH.cons rfl (fun K hK => ?_) (AllReadyH.cons rfl (fun K hK => ?_) AllReadyH.nil))
                  · have cL2 := ((Ext.refl wr).alloc (.cells #[.string x.p, .int .u64 x.e, .int .u64 x.b, .int .u8 x.k] 37)).keep cL1
                    go_simp
                    refine hK.out _ _ ?_ (fun hHeld => ?_)
                    · (try dsimp only)
                      first | exact HXL.out.drew | exact (HXL.out.alloc _).drew | exact HXL.out.drew.alloc _
                    clear hK K
                    try simp only [Go.Act.put, List.getElem_toArray, List.getElem_cons_zero, List.getElem_cons_succ, List.setIfInBounds_toArray, List.set_cons_zero, List.set_cons_succ]
                    refine wpAnyH_take (i := 4) (v := ?_) rfl (by kernel_rfl) (by kernel_rfl) (by kernel_rfl) (fun _ _ _ h => h) (Or.inl ⟨by rfl, ?_⟩) (by assumption) ?_
                    rotate_left
                    · intro w hSw
                      (try dsimp only at hSw)
                      go_simp
                      try with_reducible rfl
                    try simp only [Go.Act.put, List.getElem_toArray, List.getElem_cons_zero, List.getElem_cons_succ, List.setIfInBounds_toArray, List.set_cons_zero, List.set_cons_succ]
                    refine wpAnyH_ready (rs := [6]) (by kernel_rfl) (by simp) ?_
                    refine (AllReadyH.cons rfl (fun K hK => ?_) AllReadyH.nil)
                    have cL2 := ((Ext.refl wr).alloc (.cells #[.string x.p, .int .u64 x.e, .int .u64 x.b, .int .u8 x.k] 37)).keep cL1
                    go_simp
                    refine hK.out _ _ ?_ (fun hHeld => ?_)
                    · (try dsimp only)
                      first | exact HXL.out.drew | exact (HXL.out.alloc _).drew | exact HXL.out.drew.alloc _
                    clear hK K
                    try simp only [Go.Act.put, List.getElem_toArray, List.getElem_cons_zero, List.getElem_cons_succ, List.setIfInBounds_toArray, List.set_cons_zero, List.set_cons_succ]
                    refine wpAnyH_take (i := 7) (v := ?_) rfl (by kernel_rfl) (by kernel_rfl) (by kernel_rfl) (fun _ _ _ h => h) (Or.inl ⟨by rfl, ?_⟩) (by assumption) ?_
                    rotate_left
                    · intro w hSw
                      (try dsimp only at hSw)
                      go_simp
                      try with_reducible rfl
                    try simp only [Go.Act.put, List.getElem_toArray, List.getElem_cons_zero, List.getElem_cons_succ, List.setIfInBounds_toArray, List.set_cons_zero, List.set_cons_succ]
                    refine wpAnyH_take (i := 8) (v := ?_) rfl (by kernel_rfl) (by kernel_rfl) (by kernel_rfl) (fun _ _ _ h => h) (Or.inl ⟨by rfl, ?_⟩) (by assumption) ?_
                    rotate_left
                    · intro w hSw
                      (try dsimp only at hSw)
                      go_simp
                      try with_reducible rfl
                    try simp only [Go.Act.put, List.getElem_toArray, List.getElem_cons_zero, List.getElem_cons_succ, List.setIfInBounds_toArray, List.set_cons_zero, List.set_cons_succ]
                    exact TAIL
                  · have cL2 := ((Ext.refl wr).alloc (.cells #[.string x.p, .int .u64 x.e, .int .u64 x.b, .int .u8 x.k] 37)).keep cL1
                    go_simp
                    refine hK.out _ _ ?_ (fun hHeld => ?_)
                    · (try dsimp only)
                      first | exact HXL.out.drew | exact (HXL.out.alloc _).drew | exact HXL.out.drew.alloc _
                    clear hK K
                    try simp only [Go.Act.put, List.getElem_toArray, List.getElem_cons_zero, List.getElem_cons_succ, List.setIfInBounds_toArray, List.set_cons_zero, List.set_cons_succ]
                    refine wpAnyH_take (i := 7) (v := ?_) rfl (by kernel_rfl) (by kernel_rfl) (by kernel_rfl) (fun _ _ _ h => h) (Or.inl ⟨by rfl, ?_⟩) (by assumption) ?_
                    rotate_left
                    · intro w hSw
                      (try dsimp only at hSw)
                      go_simp
                      try with_reducible rfl
                    try simp only [Go.Act.put, List.getElem_toArray, List.getElem_cons_zero, List.getElem_cons_succ, List.setIfInBounds_toArray, List.set_cons_zero, List.set_cons_succ]
                    refine wpAnyH_ready (rs := [3]) (by kernel_rfl) (by simp) ?_
                    refine (AllReadyH.cons rfl (fun K hK => ?_) AllReadyH.nil)
                    have cL2 := ((Ext.refl wr).alloc (.cells #[.string x.p, .int .u64 x.e, .int .u64 x.b, .int .u8 x.k] 37)).keep cL1
                    go_simp
                    refine hK.out _ _ ?_ (fun hHeld => ?_)
                    · (try dsimp only)
                      first | exact HXL.out.drew | exact (HXL.out.alloc _).drew | exact HXL.out.drew.alloc _
                    clear hK K
                    try simp only [Go.Act.put, List.getElem_toArray, List.getElem_cons_zero, List.getElem_cons_succ, List.setIfInBounds_toArray, List.set_cons_zero, List.set_cons_succ]
                    refine wpAnyH_take (i := 4) (v := ?_) rfl (by kernel_rfl) (by kernel_rfl) (by kernel_rfl) (fun _ _ _ h => h) (Or.inl ⟨by rfl, ?_⟩) (by assumption) ?_
                    rotate_left
                    · intro w hSw
                      (try dsimp only at hSw)
                      go_simp
                      try with_reducible rfl
                    try simp only [Go.Act.put, List.getElem_toArray, List.getElem_cons_zero, List.getElem_cons_succ, List.setIfInBounds_toArray, List.set_cons_zero, List.set_cons_succ]
                    refine wpAnyH_take (i := 8) (v := ?_) rfl (by kernel_rfl) (by kernel_rfl) (by kernel_rfl) (fun _ _ _ h => h) (Or.inl ⟨by rfl, ?_⟩) (by assumption) ?_
                    rotate_left
                    · intro w hSw
                      (try dsimp only at hSw)
                      go_simp
                      try with_reducible rfl
                    try simp only [Go.Act.put, List.getElem_toArray, List.getElem_cons_zero, List.getElem_cons_succ, List.setIfInBounds_toArray, List.set_cons_zero, List.set_cons_succ]
                    exact TAIL
                · have cL2 := ((Ext.refl wr).alloc (.cells #[.string x.p, .int .u64 x.e, .int .u64 x.b, .int .u8 x.k] 37)).keep cL1
                  go_simp
                  refine hK.out _ _ ?_ (fun hHeld => ?_)
                  · (try dsimp only)
                    first | exact HXL.out.drew | exact (HXL.out.alloc _).drew | exact HXL.out.drew.alloc _
                  clear hK K
                  try simp only [Go.Act.put, List.getElem_toArray, List.getElem_cons_zero, List.getElem_cons_succ, List.setIfInBounds_toArray, List.set_cons_zero, List.set_cons_succ]
                  refine wpAnyH_take (i := 4) (v := ?_) rfl (by kernel_rfl) (by kernel_rfl) (by kernel_rfl) (fun _ _ _ h => h) (Or.inl ⟨by rfl, ?_⟩) (by assumption) ?_
                  rotate_left
                  · intro w hSw
                    (try dsimp only at hSw)
                    go_simp
                    try with_reducible rfl
                  try simp only [Go.Act.put, List.getElem_toArray, List.getElem_cons_zero, List.getElem_cons_succ, List.setIfInBounds_toArray, List.set_cons_zero, List.set_cons_succ]
                  refine wpAnyH_ready (rs := [1, 6]) (by kernel_rfl) (by simp) ?_
                  refine (AllReadyH.cons rfl (fun K hK => ?_) (AllReadyH.cons rfl (fun K hK => ?_) AllReadyH.nil))
                  · have cL2 := ((Ext.refl wr).alloc (.cells #[.string x.p, .int .u64 x.e, .int .u64 x.b, .int .u8 x.k] 37)).keep cL1
                    go_simp
                    refine hK.out _ _ ?_ (fun hHeld => ?_)
                    · (try dsimp only)
                      first | exact HXL.out.drew | exact (HXL.out.alloc _).drew | exact HXL.out.drew.alloc _
                    clear hK K
                    try simp only [Go.Act.put, List.getElem_toArray, List.getElem_cons_zero, List.getElem_cons_succ, List.setIfInBounds_toArray, List.set_cons_zero, List.set_cons_succ]
                    refine wpAnyH_ready (rs := [6]) (by kernel_rfl) (by simp) ?_
                    refine (AllReadyH.cons rfl (fun K hK => ?_) AllReadyH.nil)
                    have cL2 := ((Ext.refl wr).alloc (.cells #[.string x.p, .int .u64 x.e, .int .u64 x.b, .int .u8 x.k] 37)).keep cL1
                    go_simp
                    refine hK.out _ _ ?_ (fun hHeld => ?_)
                    · (try dsimp only)
                      first | exact HXL.out.drew | exact (HXL.out.alloc _).drew | exact HXL.out.drew.alloc _
                    clear hK K
                    try simp only [Go.Act.put, List.getElem_toArray, List.getElem_cons_zero, List.getElem_cons_succ, List.setIfInBounds_toArray, List.set_cons_zero, List.set_cons_succ]
                    refine wpAnyH_take (i := 7) (v := ?_) rfl (by kernel_rfl) (by kernel_rfl) (by kernel_rfl) (fun _ _ _ h => h) (Or.inl ⟨by rfl, ?_⟩) (by assumption) ?_
                    rotate_left
                    · intro w hSw
                      (try dsimp only at hSw)
                      go_simp
                      try with_reducible rfl
                    try simp only [Go.Act.put, List.getElem_toArray, List.getElem_cons_zero, List.getElem_cons_succ, List.setIfInBounds_toArray, List.set_cons_zero, List.set_cons_succ]
                    refine wpAnyH_take (i := 8) (v := ?_) rfl (by kernel_rfl) (by kernel_rfl) (by kernel_rfl) (fun _ _ _ h => h) (Or.inl ⟨by rfl, ?_⟩) (by assumption) ?_
                    rotate_left
                    · intro w hSw
                      (try dsimp only at hSw)
                      go_simp
                      try with_reducible rfl
                    try simp only [Go.Act.put, List.getElem_toArray, List.getElem_cons_zero, List.getElem_cons_succ, List.setIfInBounds_toArray, List.set_cons_zero, List.set_cons_succ]
                    exact TAIL
                  · have cL2 := ((Ext.refl wr).alloc (.cells #[.string x.p, .int .u64 x.e, .int .u64 x.b, .int .u8 x.k] 37)).keep cL1
                    go_simp
                    refine hK.out _ _ ?_ (fun hHeld => ?_)
                    · (try dsimp only)
                      first | exact HXL.out.drew | exact (HXL.out.alloc _).drew | exact HXL.out.drew.alloc _
                    clear hK K
                    try simp only [Go.Act.put, List.getElem_toArray, List.getElem_cons_zero, List.getElem_cons_succ, List.setIfInBounds_toArray, List.set_cons_zero, List.set_cons_succ]
                    refine wpAnyH_take (i := 7) (v := ?_) rfl (by kernel_rfl) (by kernel_rfl) (by kernel_rfl) (fun _ _ _ h => h) (Or.inl ⟨by rfl, ?_⟩) (by assumption) ?_
                    rotate_left
                    · intro w hSw
                      (try dsimp only at hSw)
                      go_simp
                      try with_reducible rfl
                    try simp only [Go.Act.put, List.getElem_toArray, List.getElem_cons_zero, List.getElem_cons_succ, List.setIfInBounds_toArray, List.set_cons_zero, List.set_cons_succ]
                    refine wpAnyH_ready (rs := [1]) (by kernel_rfl) (by simp) ?_
                    refine (AllReadyH.cons rfl (fun K hK => ?_) AllReadyH.nil)
                    have cL2 := ((Ext.refl wr).alloc (.cells #[.string x.p, .int .u64 x.e, .int .u64 x.b, .int .u8 x.k] 37)).keep cL1
                    go_simp
                    refine hK.out _ _ ?_ (fun hHeld => ?_)
                    · (try dsimp only)
                      first | exact HXL.out.drew | exact (HXL.out.alloc _).drew | exact HXL.out.drew.alloc _
                    clear hK K
                    try simp only [Go.Act.put, List.getElem_toArray, List.getElem_cons_zero, List.getElem_cons_succ, List.setIfInBounds_toArray, List.set_cons_zero, List.set_cons_succ]
                    refine wpAnyH_take (i := 8) (v := ?_) rfl (by kernel_rfl) (by kernel_rfl) (by kernel_rfl) (fun _ _ _ h => h) (Or.inl ⟨by rfl, ?_⟩) (by assumption) ?_
                    rotate_left
                    · intro w hSw
                      (try dsimp only at hSw)
                      go_simp
                      try with_reducible rfl
                    try simp only [Go.Act.put, List.getElem_toArray, List.getElem_cons_zero, List.getElem_cons_succ, List.setIfInBounds_toArray, List.set_cons_zero, List.set_cons_succ]
                    exact TAIL
                · have cL2 := ((Ext.refl wr).alloc (.cells #[.string x.p, .int .u64 x.e, .int .u64 x.b, .int .u8 x.k] 37)).keep cL1
                  go_simp
                  refine hK.out _ _ ?_ (fun hHeld => ?_)
                  · (try dsimp only)
                    first | exact HXL.out.drew | exact (HXL.out.alloc _).drew | exact HXL.out.drew.alloc _
                  clear hK K
                  try simp only [Go.Act.put, List.getElem_toArray, List.getElem_cons_zero, List.getElem_cons_succ, List.setIfInBounds_toArray, List.set_cons_zero, List.set_cons_succ]
                  refine wpAnyH_take (i := 7) (v := ?_) rfl (by kernel_rfl) (by kernel_rfl) (by kernel_rfl) (fun _ _ _ h => h) (Or.inl ⟨by rfl, ?_⟩) (by assumption) ?_
                  rotate_left
                  · intro w hSw
                    (try dsimp only at hSw)
                    go_simp
                    try with_reducible rfl
                  try simp only [Go.Act.put, List.getElem_toArray, List.getElem_cons_zero, List.getElem_cons_succ, List.setIfInBounds_toArray, List.set_cons_zero, List.set_cons_succ]
                  refine wpAnyH_ready (rs := [1, 3]) (by kernel_rfl) (by simp) ?_
                  refine (AllReadyH.cons rfl (fun K hK => ?_) (AllReadyH.cons rfl (fun K hK => ?_) AllReadyH.nil))
                  · have cL2 := ((Ext.refl wr).alloc (.cells #[.string x.p, .int .u64 x.e, .int .u64 x.b, .int .u8 x.k] 37)).keep cL1
                    go_simp
                    refine hK.out _ _ ?_ (fun hHeld => ?_)
                    · (try dsimp only)
                      first | exact HXL.out.drew | exact (HXL.out.alloc _).drew | exact HXL.out.drew.alloc _
                    clear hK K
                    try simp only [Go.Act.put, List.getElem_toArray, List.getElem_cons_zero, List.getElem_cons_succ, List.setIfInBounds_toArray, List.set_cons_zero, List.set_cons_succ]
                    refine wpAnyH_ready (rs := [3]) (by kernel_rfl) (by simp) ?_
                    refine (AllReadyH.cons rfl (fun K hK => ?_) AllReadyH.nil)
                    have cL2 := ((Ext.refl wr).alloc (.cells #[.string x.p, .int .u64 x.e, .int .u64 x.b, .int .u8 x.k] 37)).keep cL1
                    go_simp
                    refine hK.out _ _ ?_ (fun hHeld => ?_)
                    · (try dsimp only)
                      first | exact HXL.out.drew | exact (HXL.out.alloc _).drew | exact HXL.out.drew.alloc _
                    clear hK K
                    try simp only [Go.Act.put, List.getElem_toArray, List.getElem_cons_zero, List.getElem_cons_succ, List.setIfInBounds_toArray, List.set_cons_zero, List.set_cons_succ]
                    refine wpAnyH_take (i := 4) (v := ?_) rfl (by kernel_rfl) (by kernel_rfl) (by kernel_rfl) (fun _ _ _ h => h) (Or.inl ⟨by rfl, ?_⟩) (by assumption) ?_
                    rotate_left
                    · intro w hSw
                      (try dsimp only at hSw)
                      go_simp
                      try with_reducible rfl
                    try simp only [Go.Act.put, List.getElem_toArray, List.getElem_cons_zero, List.getElem_cons_succ, List.setIfInBounds_toArray, List.set_cons_zero, List.set_cons_succ]
                    refine wpAnyH_take (i := 8) (v := ?_) rfl (by kernel_rfl) (by kernel_rfl) (by kernel_rfl) (fun _ _ _ h => h) (Or.inl ⟨by rfl, ?_⟩) (by assumption) ?_
                    rotate_left
                    · intro w hSw
                      (try dsimp only at hSw)
                      go_simp
                      try with_reducible rfl
                    try simp only [Go.Act.put, List.getElem_toArray, List.getElem_cons_zero, List.getElem_cons_succ, List.setIfInBounds_toArray, List.set_cons_zero, List.set_cons_succ]
                    exact TAIL
                  · have cL2 := ((Ext.refl wr).alloc (.cells #[.string x.p, .int .u64 x.e, .int .u64 x.b, .int .u8 x.k] 37)).keep cL1
                    go_simp
                    refine hK.out _ _ ?_ (fun hHeld => ?_)
                    · (try dsimp only)
                      first | exact HXL.out.drew | exact (HXL.out.alloc _).drew | exact HXL.out.drew.alloc _
                    clear hK K
                    try simp only [Go.Act.put, List.getElem_toArray, List.getElem_cons_zero, List.getElem_cons_succ, List.setIfInBounds_toArray, List.set_cons_zero, List.set_cons_succ]
                    refine wpAnyH_take (i := 4) (v := ?_) rfl (by kernel_rfl) (by kernel_rfl) (by kernel_rfl) (fun _ _ _ h => h) (Or.inl ⟨by rfl, ?_⟩) (by assumption) ?_
                    rotate_left
                    · intro w hSw
                      (try dsimp only at hSw)
                      go_simp
                      try with_reducible rfl
                    try simp only [Go.Act.put, List.getElem_toArray, List.getElem_cons_zero, List.getElem_cons_succ, List.setIfInBounds_toArray, List.set_cons_zero, List.set_cons_succ]
                    refine wpAnyH_ready (rs := [1]) (by kernel_rfl) (by simp) ?_
                    refine (AllReadyH.cons rfl (fun K hK => ?_) AllReadyH.nil)
                    have cL2 := ((Ext.refl wr).alloc (.cells #[.string x.p, .int .u64 x.e, .int .u64 x.b, .int .u8 x.k] 37)).keep cL1
                    go_simp
                    refine hK.out _ _ ?_ (fun hHeld => ?_)
                    · (try dsimp only)
                      first | exact HXL.out.drew | exact (HXL.out.alloc _).drew | exact HXL.out.drew.alloc _
                    clear hK K
                    try simp only [Go.Act.put, List.getElem_toArray, List.getElem_cons_zero, List.getElem_cons_succ, List.setIfInBounds_toArray, List.set_cons_zero, List.set_cons_succ]
                    refine wpAnyH_take (i := 8) (v := ?_) rfl (by kernel_rfl) (by kernel_rfl) (by kernel_rfl) (fun _ _ _ h => h) (Or.inl ⟨by rfl, ?_⟩) (by assumption) ?_
                    rotate_left
                    · intro w hSw
                      (try dsimp only at hSw)
                      go_simp
                      try with_reducible rfl
                    try simp only [Go.Act.put, List.getElem_toArray, List.getElem_cons_zero, List.getElem_cons_succ, List.setIfInBounds_toArray, List.set_cons_zero, List.set_cons_succ]
                    exact TAIL
            · refine wpAnyH_ready (rs := [15]) (by kernel_rfl) (by simp) ?_
              refine (AllReadyH.cons rfl (fun K hK => ?_) AllReadyH.nil)
              refine step_append_grows rfl (.tmp 87) (.tmp 93) 26 rfl 37 i0 (.agg #[.string ⟨#[]⟩, .int .u64 0, .int .u64 0, .int .u8 0]) 4 40 Tryz.underlying26 HI.out.1 HI.out.2.1 HI.out.2.2.1 HI.out.2.2.2 rfl (by decide) (some ⟨lb, lo, none⟩) L.length L.length (flatE Rl.cells L) rfl (by simp) (flatE_len Rl.size4 L) (fun b hb j u hu => by cases hb; have := rules_news0 (HLR.out.ext Rl.size4 (((Ext.refl wr).alloc (.cells #[.string x.p, .int .u64 x.e, .int .u64 x.b, .int .u8 x.k] 37)).drew)) L.length (Nat.le_refl _) j u (by rw [List.take_length]; exact hu); exact this) ⟨wr.heap.size, 0, none⟩ 1 1 (flatE Rl.cells [x]) rfl rfl (blk_news (C := #[.string x.p, .int .u64 x.e, .int .u64 x.b, .int .u8 x.k]) (Blk.drew (Blk.new wr _ _))) one_rules (by omega) (by omega) (by omega) ?_
              rintro v12 w12 hown12 hgrow12
              obtain ⟨g12, cap12, rfl⟩ := ownsRow_succ hown12
              have hx11 := ((Ext.refl wr).alloc (.cells #[.string x.p, .int .u64 x.e, .int .u64 x.b, .int .u8 x.k] 37)).drew
              have hx12 : Ext wl w12 := HXL.out.trans (Ext.grown hx11 hgrow12)
              have hP12 := HLB.out.ext (Ext.grown hx11 hgrow12)
              have cP12 := hP12.cell 1
              have fP12 := hP12.free 1
              have lP12 := hP12.lt
              have HFIN := Lib.hid (less_next (n := j + 1) (r := x) (own_lower hown12 (HXL.out.trans hx11).sz) hP12 hx12 HLO.out HRJ.out (by omega))
              refine hK.out _ _ ?_ (fun hHeld => ?_)
              · (try dsimp only)
                exact hx12
              clear hK K
              try simp only [Go.Act.put, List.getElem_toArray, List.getElem_cons_zero, List.getElem_cons_succ, List.setIfInBounds_toArray, List.set_cons_zero, List.set_cons_succ]
              refine wpAnyH_take (i := 16) (v := ?_) rfl (by kernel_rfl) (by kernel_rfl) (by kernel_rfl) (fun _ _ _ h => h) (Or.inl ⟨by rfl, ?_⟩) (by assumption) ?_
              rotate_left
              · intro w hSw
                (try dsimp only at hSw)
                go_simp
                try with_reducible rfl
              try simp only [Go.Act.put, List.getElem_toArray, List.getElem_cons_zero, List.getElem_cons_succ, List.setIfInBounds_toArray, List.set_cons_zero, List.set_cons_succ]
              refine wpAnyH_ready (rs := [17]) (by kernel_rfl) (by simp) ?_
              refine (AllReadyH.cons rfl (fun K hK => ?_) AllReadyH.nil)
              go_simp
              refine hK.out _ _ ?_ (fun hHeld => ?_)
              · (try dsimp only)
                exact hx12.setCell (Nat.le_refl _) _
              clear hK K
              try simp only [Go.Act.put, List.getElem_toArray, List.getElem_cons_zero, List.getElem_cons_succ, List.setIfInBounds_toArray, List.set_cons_zero, List.set_cons_succ]
              refine wpAnyH_done (by kernel_rfl) ?_ _
              go_wp2_with fail
              go_roundw
              case rel => exact ⟨j + 1, by omega, by go_num, HFIN.out⟩
              case measure => simp [intOf]; omega
      · have hje : j = rs.length := by omega
        have cW0 : wr.cell? ⟨O, 0, none⟩ = some (.int .i64 most) := HXL.out.keep cOw0
        have bX := Blk.new wr #[.int .i64 om, .slice (some ⟨b0, 0, none⟩) rs.length rc] 28
        have hxx : Ext wr (wr.alloc (.cells #[.int .i64 om, .slice (some ⟨b0, 0, none⟩) rs.length rc] 28)) := (Ext.refl wr).alloc _
        go_upto_region 19 with fail
        generalize wr.alloc (.cells #[.int .i64 om, .slice (some ⟨b0, 0, none⟩) rs.length rc] 28) = w18 at *
        have HX18 := Lib.hid hxx
        have HBX := Lib.hid bX
        have HE18 := Lib.hid (HXO.out.trans (HXW.out.trans (HXL.out.trans hxx)))
        have HEL := Lib.hid (HXL.out.trans hxx)
        have HEW := Lib.hid (HXW.out.trans (HXL.out.trans hxx))
        clear hxx bX cW0 cW1
        have hmo0 := HMO.out
        have HCUR := Lib.hid (Ext.refl w18)
        have cA := (HBP.out.ext (HE18.out.trans HCUR.out)).cell
        go_wp2_with fail
        refine (law12_prints pm _ pl _ hp0 hp1 (HPA.out.ext Rl.size4 (HE18.out.trans HCUR.out)) HPP.out (by omega)).mono ?_
        rintro x wz ⟨rfl, hz⟩
        have HCUR := Lib.hid (HCUR.out.trans hz)
        clear hz cA
        have cA := (HBO.out.ext (HEW.out.trans HCUR.out)).cell
        go_wp2_with fail
        refine (law12_prints most _ rs _ (by omega) (by omega) (HRS.out.ext Rl.size4 (HEW.out.trans HCUR.out)) HPOK.out (by omega)).mono ?_
        rintro x wz ⟨rfl, hz⟩
        have HCUR := Lib.hid (HCUR.out.trans hz)
        clear hz cA
        have cA := (HMB.out.ext (HEL.out.trans HCUR.out)).cell
        go_wp2_with fail
        refine (law12_prints most _ L9 _ (by omega) (by omega) (HMR.out.ext Rl.size4 (HEL.out.trans HCUR.out)) HMO.out (by omega)).mono ?_
        rintro x wz ⟨rfl, hz⟩
        have HCUR := Lib.hid (HCUR.out.trans hz)
        clear hz cA
        have cA := (HLB.out.ext (HX18.out.trans HCUR.out)).cell
        go_wp2_with fail
        refine (law12_prints most _ L _ (by omega) (by omega) (HLR.out.ext Rl.size4 (HX18.out.trans HCUR.out)) HLO.out (by omega)).mono ?_
        rintro x wz ⟨rfl, hz⟩
        have HCUR := Lib.hid (HCUR.out.trans hz)
        clear hz cA
        have cA := (HBX.out.ext HCUR.out).cell
        go_wp2_with fail
        refine (law12_prints om _ rs _ ho0 ho1 (HRS.out.ext Rl.size4 (HEW.out.trans HCUR.out)) HPOK.out (by omega)).mono ?_
        rintro x wz ⟨rfl, hz⟩
        go_wp2_with fail
        go_ret
        exact ⟨rfl, HX0.out.trans (HE18.out.trans (HCUR.out.trans hz))⟩
end Go.Proofs.YtknlojlcahgnoaaGreat

namespace Go.Proofs.YtknlojlcahgnoaaGreat
open Go.RowKit
set_option linter.unusedVariables false
set_option linter.unusedSimpArgs false

set_option maxRecDepth 100000 in
theorem open_rule {H : Type} {enc : TypeId × Value → H} {W : World} {r : Reach} {b0 base : Nat} {spare : Nat → Bool} {held : Bool} {v : Value} {d : DataW H} {ps : List MemPlace}
    (hv : Value.okWide Tryz.prog W r b0 37 v) (h : DataW.Trod enc Tryz.prog W base spare held 37 v d ps) :
    ∃ (p : ByteArray) (e b k : Int), v = .agg #[.string p, .int .u64 e, .int .u64 b, .int .u8 k] ∧ p.size ≤ maxLen ∧ (Lit.int .u64 e).wf = true ∧ (Lit.int .u64 b).wf = true ∧ (Lit.int .u8 k).wf = true := by
  obtain ⟨c0, c1, c2, c3, y0, y1, y2, y3, m, rfl, -, -, h0, h1, h2, h3⟩ := Joins.open_agg4 Tryz.underlying37 (by kernel_rfl) (by kernel_rfl) hv h
  obtain ⟨p, e0, -, w0⟩ := DataW.trod_string Tryz.underlying9 h0
  obtain ⟨e, e1, -, w1⟩ := DataW.trod_int Tryz.underlying35 h1
  obtain ⟨b, e2, -, w2⟩ := DataW.trod_int Tryz.underlying35 h2
  obtain ⟨k, e3, -, w3⟩ := DataW.trod_int Tryz.underlying5 h3
  simp at e0 e1 e2 e3
  subst e0 e1 e2 e3
  exact ⟨p, e, b, k, rfl, w0, w1, w2, w3⟩
end Go.Proofs.YtknlojlcahgnoaaGreat
