/- Walk: tollerlaw15.KeepMost. -/
import Derived.Test.YtfglpejbgfmojaaGreatG54
import Derived.Test.YtfglpejbgfmojaaGreatG50

/- Walk: tollerlaw15.KeepMost. -/
namespace Go.Proofs.YtfglpejbgfmojaaGreat
open Go.RowKit
set_option linter.unusedVariables false
set_option linter.unusedSimpArgs false

theorem keep_KeepE {t m c : Nat} {most clock : Int} {l : SMap} {xs : List Slot} (w : World) (h : HasTab w t m c most clock l xs) (most' : Int) (rv : Value) (rs : List Rl) (hr : RulesAt w rv rs) (hro : ∀ r ∈ rs, RlOk r) (hrl : rs.length ≤ maxLen)
    (hm0 : -9223372036854775808 ≤ most') (hm1 : most' ≤ 9223372036854775807) (E : Int) (he : keepErr most' (keptL clock rs xs).length = E) :
    Calls Tryz.prog 20 #[.pointer (some ⟨t, 0, none⟩), .agg #[.int .i64 most', rv]] w fun x w' => (∃ p g, x = .returned (.tuple #[.pointer p, .int .i64 g, .int .u16 E]) ∧ (E ≠ 0 → p = none ∧ g = 0)) ∧ Ext w w' := by
  refine (keep_KeepA w h most' rv rs hr hro hrl hm0 hm1).mono ?_
  rintro x w' ⟨hx, ⟨h0, t', m', c', l', rfl, hT⟩ | ⟨hn, rfl⟩⟩
  · rw [he] at h0
    exact ⟨⟨_, _, by rw [h0], fun q => absurd h0 q⟩, hx⟩
  · rw [he]
    exact ⟨⟨_, _, rfl, fun _ => ⟨rfl, rfl⟩⟩, hx⟩

set_option maxHeartbeats 4000000 in
set_option maxRecDepth 100000 in
theorem keepMost_walk (q : Int) (v : Value) (ds : List Deed) (mq : Int) (cv : Value) (cs : List UInt8) (nn : Int) (w : World) (hq0 : 0 ≤ q) (hq1 : q < 256) (hv : DeedSlice w v ds) (hm0 : 0 ≤ mq) (hm1 : mq < 256) (hc : ByteSlice w cv cs) (hnn0 : -9223372036854775808 ≤ nn) (hnn1 : nn ≤ 9223372036854775807) :
    Calls Tryz.prog 4 #[.int .u8 q, v, .int .u8 mq, cv, .int .i64 nn] w fun x w' => x = .returned (.bool true) ∧ Ext w w' := by
  have HV := Lib.hid hv
  have HC := Lib.hid hc
  obtain ⟨a, c, rfl, -⟩ := hv.form
  obtain ⟨ca, cc', rfl, -⟩ := hc.form
  clear hv hc
  go_enter Tryz.func4, Tryz.ntmps4
  go_wp2_with fail
  refine (law14_Heavy _ ds _ HV.out).mono ?_
  rintro x w1 ⟨⟨n, rfl⟩, hx1⟩
  by_cases hn : 400 < n
  · go_wp2_with fail
    refine (law15_known _).mono ?_
    rintro x w2 ⟨rfl, hx2⟩
    go_wp2
    go_ret
    exact ⟨rfl, hx1.trans hx2⟩
  go_wp2_with fail
  refine (law15_start q _ ds _ (HV.out.ext hx1) hq0 hq1).mono ?_
  rintro x w2 ⟨t, m, cc, most, clock, l, xs, a3, n3, c3, rfl, hT, hlen, -, hx2⟩
  have HT := Lib.hid hT
  have HX := Lib.hid (hx1.trans hx2)
  have hn0 := hT.n0
  have hn1 := hT.n1
  clear hT hx1 hx2
  go_wp2_with fail
  have hxG : Ext w2 (w2.alloc (.cells #[.int .i64 most, .int .u64 clock, .slice a3 n3 c3] 42)) := (Ext.refl w2).alloc _
  generalize w2.alloc (.cells #[.int .i64 most, .int .u64 clock, .slice a3 n3 c3] 42) = wG at *
  refine (law15_Rules mq _ cs _ (by assumption) (by assumption) (HC.out.ext (HX.out.trans hxG))).mono ?_
  rintro x w3 ⟨m3, rv, rs, rfl, hm31, hm39, hR, hro, hrl, hx3⟩
  obtain ⟨ra, rc, rfl⟩ := hR.size
  have hkl := keptL_len clock rs xs
  have hkg := kept_gone clock rs xs
  have hml : (9 : Nat) ≤ maxLen := by decide
  have bP := Blk.new w3 #[.int .i64 m3, .slice ra rs.length rc] 25
  have hx4 : Ext w3 (w3.alloc (.cells #[.int .i64 m3, .slice ra rs.length rc] 25)) := (Ext.refl w3).alloc _
  have HRO := Lib.hid hro
  go_upto_region 7 with fail
  generalize w3.alloc (.cells #[.int .i64 m3, .slice ra rs.length rc] 25) = w4 at *
  have cP : ∀ o, w4.cell? ⟨w3.heap.size, o, none⟩ = (#[.int .i64 m3, .slice ra rs.length rc] : Array Value)[o]? := bP.cell
  have HR := Lib.hid hR
  have HP := Lib.hid bP
  have HX3 := Lib.hid (hxG.trans hx3)
  have HX34 := Lib.hid hx4
  have HKR := Lib.hid (fun (most' : Int) (E : Int) (he : keepErr most' (keptL clock rs xs).length = E) (h1 : -9223372036854775808 ≤ most') (h2 : most' ≤ 9223372036854775807) (W : World) (hx : Ext w3 W) =>
    keep_KeepE W (HT.out.ext (HX3.out.trans hx)) most' (.slice ra rs.length rc) rs (HR.out.ext Rl.size4 hx) HRO.out (by omega) h1 h2 E he)
  have HKL := Lib.hid (fun (W : World) (hx : Ext w3 W) => keep_LostA W (HT.out.ext (HX3.out.trans hx)) m3 (.slice ra rs.length rc) rs (HR.out.ext Rl.size4 hx) HRO.out (by omega))
  have HKA := Lib.hid (fun (W : World) (hx : Ext w3 W) => table_ActiveA W (HT.out.ext (HX3.out.trans hx)))
  clear hR hx4 hx3 hxG hro bP
  generalize hK : (keptL clock rs xs).length = K at *
  generalize hG : (goneL rs xs).length = G at *
  have hKx : (xs.length : Int) - (G : Int) = (K : Int) := by omega
  have hKw : IntKind.i64.wrap (K : Int) = (K : Int) := by simp [IntKind.wrap, IntKind.signed, IntKind.bits]; omega
  have hK30 : (K : Int) ≤ 30 := by omega
  have hK0 : (0 : Int) ≤ (K : Int) := by omega
  have HKX := Lib.hid (And.intro hK hG)
  clear hK hG hkl hkg
  go_cut [14] from 44 to 50 (fun x14 wx => x14 = .int .i64 (K : Int) ∧ Ext w4 wx)
  case first =>
    go_region_held3 (fun w' => (∀ o, w'.cell? ⟨w3.heap.size, o, none⟩ = (#[.int .i64 m3, .slice ra rs.length rc] : Array Value)[o]?) ∧ Ext w4 w')
      (((try go_split_ands); refine ⟨Blk.cell (HP.out.ext ?_), ?_⟩ <;> (repeat (first | with_reducible exact Ext.refl _ | with_reducible assumption | with_reducible refine Ext.alloc ?_ _ | with_reducible refine Ext.drew ?_ | (with_reducible refine Ext.setCell ?_ (by first | exact Nat.le_refl _ | (dsimp only; omega) | (simp; done) | (simp; omega)) _) | with_reducible refine Ext.trans ?_ (by with_reducible assumption)))))
      (first
        | (go_at_call 18; (with_reducible refine (HKA.out _ (Ext.trans HX34.out (by repeat (first | with_reducible exact Ext.refl _ | with_reducible assumption | with_reducible refine Ext.alloc ?_ _ | with_reducible refine Ext.drew ?_ | (with_reducible refine Ext.setCell ?_ (by first | exact Nat.le_refl _ | (dsimp only; omega) | (simp; done) | (simp; omega)) _) | with_reducible refine Ext.trans ?_ (by with_reducible assumption))))).mono ?_); rintro x w5 ⟨rfl, hx5⟩)
        | (go_at_call 19; (with_reducible refine (HKL.out _ (Ext.trans HX34.out (by repeat (first | with_reducible exact Ext.refl _ | with_reducible assumption | with_reducible refine Ext.alloc ?_ _ | with_reducible refine Ext.drew ?_ | (with_reducible refine Ext.setCell ?_ (by first | exact Nat.le_refl _ | (dsimp only; omega) | (simp; done) | (simp; omega)) _) | with_reducible refine Ext.trans ?_ (by with_reducible assumption))))).mono ?_); rintro x w6 ⟨v6, rfl, hr6, hx6⟩; obtain ⟨a6, c6, rfl⟩ := hr6.size; (try rw [show ((goneL rs xs).map (·.key)).length = G from by rw [List.length_map]; exact HKX.out.2])))
    all_goals
      go_wp2
      go_meet
      exact ⟨rfl, (by repeat (first | with_reducible exact Ext.refl _ | with_reducible assumption | with_reducible refine Ext.alloc ?_ _ | with_reducible refine Ext.drew ?_ | (with_reducible refine Ext.setCell ?_ (by first | exact Nat.le_refl _ | (dsimp only; omega) | (simp; done) | (simp; omega)) _) | with_reducible refine Ext.trans ?_ (by with_reducible assumption)))⟩
  case rest =>
    obtain ⟨rfl, hxc⟩ := hcut
    have bP := HP.out.ext hxc
    have cP := bP.cell
    have fP := bP.free
    have lP := bP.lt
    have hmx : max 1 (K : Int) = if 1 < (K : Int) then (K : Int) else 1 := by omega
    go_upto_region 9 with fail
    generalize hM : (if 1 < (K : Int) then (K : Int) else 1) = M at *
    have hM1 : 1 ≤ M ∧ M ≤ 30 ∧ (K : Int) ≤ M := by rw [← hM]; split <;> omega
    obtain ⟨hM1, hM2, hM3⟩ := hM1
    have b9 : Blk _ w3.heap.size #[.int .i64 M, .slice ra rs.length rc] 25 := bP.set 0 (.int .i64 M)
    have hx9 := (HX34.out.trans hxc).setCell (p := ⟨w3.heap.size, 0, none⟩) (Nat.le_refl _) (.int .i64 M)
    generalize wc.setCell ⟨w3.heap.size, 0, none⟩ (.int .i64 M) = w9 at *
    clear bP cP fP lP hmx hM
    have cP := b9.cell
    go_wp2_with fail
    refine (HKR.out M 0 (keepErr_ok hM1 (by omega) hM3) (by omega) (by omega) _ hx9).mono ?_
    rintro x w10 ⟨⟨p10, g10, rfl, -⟩, hx10⟩
    have b10 := b9.ext hx10
    have hxA := hx9.trans hx10
    clear cP b9 hx9 hx10
    have cP := b10.cell
    have fP := b10.free
    have lP := b10.lt
    have hKm : IntKind.i64.wrap ((K : Int) - 1) = (K : Int) - 1 := by simp [IntKind.wrap, IntKind.signed, IntKind.bits]; omega
    go_upto_region 11 with fail
    have b11 : Blk _ w3.heap.size #[.int .i64 ((K : Int) - 1), .slice ra rs.length rc] 25 := b10.set 0 (.int .i64 ((K : Int) - 1))
    have hx11 := hxA.setCell (p := ⟨w3.heap.size, 0, none⟩) (Nat.le_refl _) (.int .i64 ((K : Int) - 1))
    generalize w10.setCell ⟨w3.heap.size, 0, none⟩ (.int .i64 ((K : Int) - 1)) = w11 at *
    clear cP fP lP b10 hxA
    have cP := b11.cell
    obtain ⟨E2, hE2, hE2a⟩ : ∃ E2, keepErr ((K : Int) - 1) K = E2 ∧ ((1 < (K : Int) ∧ E2 = 50) ∨ ((K : Int) ≤ 1 ∧ E2 = 29)) := by
      refine ⟨_, rfl, ?_⟩
      unfold keepErr
      by_cases h : 1 < (K : Int)
      · rw [if_neg (by omega), if_pos (by omega)]; exact Or.inl ⟨h, rfl⟩
      · rw [if_pos (by omega)]; exact Or.inr ⟨by omega, rfl⟩
    go_wp2_with fail
    refine (HKR.out _ E2 hE2 (by omega) (by omega) _ hx11).mono ?_
    rintro x w12 ⟨⟨p12, g12, rfl, hpg⟩, hx12⟩
    obtain ⟨rfl, rfl⟩ := hpg (by omega)
    have b12 := b11.ext hx12
    have hxB := hx11.trans hx12
    clear cP b11 hx11 hx12
    have cP := b12.cell
    have fP := b12.free
    have lP := b12.lt
    go_upto_region 13 with fail
    have b13 : Blk _ w3.heap.size #[.int .i64 nn, .slice ra rs.length rc] 25 := b12.set 0 (.int .i64 nn)
    have hx13 := hxB.setCell (p := ⟨w3.heap.size, 0, none⟩) (Nat.le_refl _) (.int .i64 nn)
    generalize w12.setCell ⟨w3.heap.size, 0, none⟩ (.int .i64 nn) = w13 at *
    clear cP fP lP b12 hxB
    have cP := b13.cell
    obtain ⟨E3, hE3⟩ : ∃ E3, keepErr nn K = E3 := ⟨_, rfl⟩
    have HE3 := Lib.hid hE3
    go_wp2_with fail
    refine (HKR.out _ E3 hE3 hnn0 hnn1 _ hx13).mono ?_
    rintro x w14 ⟨⟨p14, g14, rfl, -⟩, hx14⟩
    have HX14 := Lib.hid (hx13.trans hx14)
    clear cP b13 hx13 hx14 hE3
    have hcase : (nn < 1 ∧ E3 = 29) ∨ (1 ≤ nn ∧ 1000000 < nn ∧ E3 = 29) ∨ (1 ≤ nn ∧ nn ≤ 1000000 ∧ nn < (K : Int) ∧ E3 = 50) ∨ (1 ≤ nn ∧ nn ≤ 1000000 ∧ (K : Int) ≤ nn ∧ E3 = 0) := by
      have h := HE3.out
      unfold keepErr at h
      by_cases h1 : nn < 1
      · rw [if_pos (Or.inl h1)] at h; exact Or.inl ⟨h1, h.symm⟩
      · by_cases h2 : 1000000 < nn
        · rw [if_pos (Or.inr h2)] at h; exact Or.inr (Or.inl ⟨by omega, h2, h.symm⟩)
        · rw [if_neg (by omega)] at h
          by_cases h3 : nn < (K : Int)
          · rw [if_pos h3] at h; exact Or.inr (Or.inr (Or.inl ⟨by omega, by omega, h3, h.symm⟩))
          · rw [if_neg h3] at h; exact Or.inr (Or.inr (Or.inr ⟨by omega, by omega, by omega, h.symm⟩))
    clear HE3 hE2
    rcases hE2a with ⟨k1, rfl⟩ | ⟨k1, rfl⟩ <;> rcases hcase with ⟨c1, rfl⟩ | ⟨c1, c2, rfl⟩ | ⟨c1, c2, c3, rfl⟩ | ⟨c1, c2, c3, rfl⟩
    all_goals first | (exfalso; omega) | skip
    all_goals
      go_wp2_with fail
      refine (keep_KeepN _).mono ?_
      rintro x w15 ⟨t15, m15, c15, l15, rfl, hT15, hx15⟩
      go_wp2_with fail
      refine (law15_known _).mono ?_
      rintro x w16 ⟨rfl, hx16⟩
      go_wp2_with fail
      refine (table_ActiveA _ (hT15.ext hx16)).mono ?_
      rintro x w17 ⟨rfl, hx17⟩
      go_wp2
      go_ret
      refine ⟨by first | rfl | (show Ending.returned (.bool (!decide ((K : Int) ≤ nn))) = _; rw [decide_eq_false (by omega)]; rfl), ?_⟩
      exact HX.out.trans (HX3.out.trans (HX14.out.trans (hx15.trans (hx16.trans hx17))))
end Go.Proofs.YtfglpejbgfmojaaGreat
