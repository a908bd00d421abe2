/- Walk: tollerlaw17.EnterBack. -/
import Derived.BigQuiet
import Derived.Test.YtknlojlcahgnoaaGreatEb64
import Derived.Test.YtknlojlcahgnoaaGreatEb43
import Derived.Test.YtknlojlcahgnoaaGreatEb45
import Derived.Test.YtknlojlcahgnoaaGreatEb49
import Derived.Test.YtknlojlcahgnoaaGreatEb60
import Derived.Test.YtknlojlcahgnoaaGreatEb27

namespace Go.Proofs.YtknlojlcahgnoaaGreat
open Go.RowKit
set_option linter.unusedVariables false
set_option linter.unusedSimpArgs false

/-- a table that one charges by these rules -/
structure BkT (w : World) (t m : Nat) (n : Nat) (clock : Int) (rs : List Rl) (l : SMap) (c : Nat) : Prop where
  tab : TabAt w t m n clock l c
  ok : TabOk l c
  by' : ByRs clock rs l
  len : l.length ≤ n
/-- two of them of which what is active looks alike -/
structure Bk2 (w : World) (t m t' m' : Nat) (n : Nat) (clock : Int) (l l' : SMap) (c c' : Nat) : Prop where
  a : TabAt w t m n clock l c
  b : TabAt w t' m' n clock l' c'
  aok : TabOk l c
  bok : TabOk l' c'
  al : AlS clock l l'
  la : l.length ≤ n
  lb : l'.length ≤ n

set_option maxHeartbeats 8000000 in
set_option maxRecDepth 100000 in
theorem law17_EnterBack (n : Int) (xv : Value) (xl : List Nms) (lv : Value) (ls : List Deed) (mv : Value) (ms : List Deed) (at_ : Int) (w : World) (hn0 : 0 ≤ n) (hn1 : n < 65536) (hx : NmsSlice w xv xl) (hl : DeedSlice w lv ls) (hm : DeedSlice w mv ms) (ha0 : 0 ≤ at_) (ha1 : at_ < 4294967296) :
    Calls Tryz.prog 7 #[.int .u16 n, xv, lv, mv, .int .u32 at_] w fun x w' => x = .returned (.bool true) ∧ Ext w w' := by
  have HXS := Lib.hid hx
  have HLS := Lib.hid hl
  have HMS := Lib.hid hm
  obtain ⟨hP, hplen, t0, ht0⟩ := polRs_ok hn0 xl hx.each
  have hcfg := hP.cfg
  have hpok := hP.ok
  have hbr : ∀ k, rErr (bestD (polRs n xl) k) = 0 := best_right ht0 rfl hP.err
  have hhd : ∃ r0 r1, polRs n xl = r0 :: r1 ∧ r0.p = ⟨#[]⟩ := ⟨_, _, ht0, rfl⟩
  have HPO := Lib.hid (fun V (e : Ext w V) => law12_Policy n xv xl V hn0 hn1 (hx.ext e))
  generalize polRs n xl = rs at *
  obtain ⟨most, hmost⟩ : ∃ most, 1 + n % 50 = most := ⟨_, rfl⟩
  rw [hmost] at HPO hcfg
  have hm0 : 1 ≤ most := by omega
  have hm1 : most ≤ 50 := by omega
  obtain ⟨M, rfl⟩ : ∃ M : Nat, most = (M : Int) := ⟨most.toNat, by omega⟩
  have hmo : mostOf (M : Int) = (M : Int) := by unfold mostOf; omega
  have HCFG := Lib.hid hcfg
  have HPK := Lib.hid hpok
  have HBR := Lib.hid hbr
  have HHD := Lib.hid hhd
  have HKN := Lib.hid (fun W => law17_known W)
  obtain ⟨⟨xa, xc, rfl, -⟩, -, -⟩ := id hx
  obtain ⟨⟨la, lc, rfl, hll⟩, hllen, hleach⟩ := id hl
  obtain ⟨⟨ma, mc, rfl, hml⟩, hmlen, hmeach⟩ := id hm
  unfold maxLen at hllen hmlen
  have HLL := Lib.hid hll
  have HML := Lib.hid hml
  have HLE := Lib.hid hleach
  have HME := Lib.hid hmeach
  clear hP ht0 hcfg hpok hbr hhd hmost hx hl hm hll hml hleach hmeach
  go_enter Tryz.func7, Tryz.ntmps7
  go_wp2_with fail
  refine (law14_Heavy _ ls _ HLS.out).mono ?_
  rintro x w1 ⟨⟨hv1, rfl⟩, hx1⟩
  go_wp2_with fail
  refine (law14_Heavy _ ms _ (HMS.out.ext hx1)).mono ?_
  rintro x w2 ⟨⟨hv2, rfl⟩, hx2⟩
  have HX2 := Lib.hid (hx1.trans hx2)
  clear hx1 hx2
  obtain ⟨hv, hhv⟩ : ∃ hv, wrap64 (hv1 + hv2) = hv := ⟨_, rfl⟩
  by_cases hbig : (500 : Int) < hv ∨ (30 : Int) < (ms.length : Int) ∨ (30 : Int) < (ls.length : Int)
  · by_cases hb1 : (500 : Int) < hv
    · go_wp2_with fail
      refine (HKN.out _).mono ?_
      rintro x w3 ⟨rfl, hx3⟩
      go_wp2
      go_ret
      exact ⟨rfl, HX2.out.trans hx3⟩
    · by_cases hb2 : (30 : Int) < (ms.length : Int)
      · go_wp2_with fail
        refine (HKN.out _).mono ?_
        rintro x w3 ⟨rfl, hx3⟩
        go_wp2
        go_ret
        exact ⟨rfl, HX2.out.trans hx3⟩
      · have hb3 : (30 : Int) < (ls.length : Int) := by omega
        go_wp2_with fail
        refine (HKN.out _).mono ?_
        rintro x w3 ⟨rfl, hx3⟩
        go_wp2
        go_ret
        exact ⟨rfl, HX2.out.trans hx3⟩
  · have hb1 : ¬ (500 : Int) < hv := by omega
    have hb2 : ¬ (30 : Int) < (ms.length : Int) := by omega
    have hb3 : ¬ (30 : Int) < (ls.length : Int) := by omega
    have hls30 : ls.length ≤ 30 := by omega
    have hms30 : ms.length ≤ 30 := by omega
    clear hbig
    go_wp2_with fail
    refine (HPO.out _ HX2.out).mono ?_
    rintro x w3 ⟨rv, rfl, hrow, hx3⟩
    have hat : RulesAt w3 rv rs := RuleRow.at hrow
    obtain ⟨ra, rc, rfl⟩ := hat.size
    have HAT := Lib.hid hat
    have HX3 := Lib.hid (HX2.out.trans hx3)
    clear hrow hat hx3 HPO hb1 hb2 hb3 hhv
    go_upto_region 4 with fail
    have bP := Blk.new w3 #[.int .i64 (M : Int), .slice ra rs.length rc] 28
    have hxn : Ext w3 (w3.alloc (.cells #[.int .i64 (M : Int), .slice ra rs.length rc] 28)) := (Ext.refl w3).alloc _
    generalize w3.alloc (.cells #[.int .i64 (M : Int), .slice ra rs.length rc] 28) = wn at *
    generalize w3.heap.size = P at *
    have HBP := Lib.hid bP
    have HXN := Lib.hid (HX3.out.trans hxn)
    have HRN := Lib.hid (HAT.out.ext Rl.size4 hxn)
    have HLN := Lib.hid (HLS.out.ext HXN.out)
    have HMN := Lib.hid (HMS.out.ext HXN.out)
    have cP := bP.cell
    clear bP hxn HAT HX3 HX2 HLS HMS
    go_wp2_with fail
    refine (table_New (M : Int) _ (by omega) (by omega)).mono ?_
    rw [hmo]
    rintro x w4 ⟨rfl, ht4, hx4⟩
    have hbt := ht4.blk.lt
    have hT0 : BkT w4 (wn.heap.size + 1) wn.heap.size M 0 rs [] 0 := ⟨ht4, TabOk.nil 0, ByRs.nil 0 rs, by simp⟩
    have HT0 := Lib.hid hT0
    have HX4 := Lib.hid hx4
    clear ht4 hT0 cP hx4
    have hdl : ∀ i (h : i < ls.length), DeedOk wn ls[i] := fun i h => (HLE.out ls[i] (List.getElem_mem h)).ext HXN.out
    have hdm : ∀ i (h : i < ms.length), DeedOk wn ms[i] := fun i h => (HME.out ms[i] (List.getElem_mem h)).ext HXN.out
    have HDL := Lib.hid hdl
    have HDM := Lib.hid hdm
    clear hdl hdm
    generalize hTN : wn.heap.size = tn at *
    have HTN := Lib.hid (Nat.le_of_eq hTN)
    clear hTN
    go_wp2_with fail
    go_loopw [13] (fun i wr => ∃ (k : Nat) (lt : SMap) (ct : Nat) (clk : Int), k ≤ ls.length ∧ i = .int .i64 k ∧ 0 ≤ clk ∧ clk ≤ 4294967296 * k ∧ BkT wr (tn + 1) tn M clk rs lt ct ∧ Ext wn wr ∧ tn + 1 < wr.heap.size) (fun i _ => ls.length - (intOf i).toNat)
    case atStart => exact ⟨0, [], 0, 0, by omega, rfl, by omega, by omega, HT0.out, HX4.out, hbt⟩
    case round =>
      obtain ⟨k, lt, ct, clk, hk, rfl, hc0, hc1, hT, hx, hbt2⟩ := hrel
      have HT := Lib.hid hT
      have HX := Lib.hid hx
      have hltn := hT.len
      clear hT HT0 HX4 hbt
      by_cases hlt : k < ls.length
      · obtain ⟨b, o, rfl, hcc⟩ := HLL.out (by intro e; rw [e] at hlt; simp at hlt)
        obtain ⟨d0, d1, d2, d3, d4, d5, d6⟩ := deed_cells hcc HXN.out k hlt
        have hdd := HDL.out k hlt
        obtain ⟨ka, kc, hkv, -⟩ := hdd.key.form
        have hk1 : (k : Int) < (ls.length : Int) := by omega
        have hk0 : (0 : Int) ≤ (k : Int) := by omega
        obtain ⟨dd, hde⟩ : ∃ dd, ls[k] = dd := ⟨_, rfl⟩
        rw [hde] at d0 d1 d2 d3 d4 d5 d6 hdd hkv
        obtain ⟨code, err, lim, left, reset, aft, nan, ret, hV⟩ := dV_form M clk lt rs dd
        have HDO := Lib.hid (fun V (ht : TabAt V (tn + 1) tn M clk lt ct) (e : Ext wn V) => deed_do (tn + 1) tn ct M clk lt M (.slice ra rs.length rc) rs dd V ht HT.out.ok hc0 (by omega) (HRN.out.ext Rl.size4 e) HPK.out HHD.out (by omega) (hdd.ext e))
        rw [hV] at HDO
        have HBY := Lib.hid (HT.out.by'.deed HBR.out hc0 (by omega) M ct hdd)
        have HLE2 := Lib.hid (dL_len (clock := clk) ct rs dd HT.out.len)
        have hdk := dK_b (clock := clk) hdd
        rw [hkv] at d3 HDO
        generalize (dd.key).length = kn at *
        generalize dL (M : Int) clk lt ct rs dd = l2 at *
        generalize dC (M : Int) clk lt ct rs dd = c2 at *
        generalize dK clk dd = clk2 at *
        generalize dd.kind = dk at *
        generalize dd.wait = dw at *
        generalize dd.big = db at *
        generalize dd.rule = dr at *
        generalize dd.n = dn at *
        generalize dd.to = dt at *
        clear hcc hde hV hdd hkv hx
        go_upto_region 10 with fail
        have ex := HX.out.drew
        have ta := HT.out.tab.ext ((Ext.refl wr).drew)
        have hbz : wr.drew.heap.size = wr.heap.size := rfl
        go_region_held3 (fun w' => (∀ o, w'.cell? ⟨P, o, none⟩ = (#[.int .i64 (M : Int), .slice ra rs.length rc] : Array Value)[o]?) ∧ w'.cell? ⟨b, o + k * 7, none⟩ = some (.int .u8 dk) ∧ w'.cell? ⟨b, o + k * 7 + 1, none⟩ = some (.int .u32 dw) ∧ w'.cell? ⟨b, o + k * 7 + 2, none⟩ = some (.int .u8 db) ∧ w'.cell? ⟨b, o + k * 7 + 3, none⟩ = some (.slice ka kn kc) ∧ w'.cell? ⟨b, o + k * 7 + 4, none⟩ = some (.int .u8 dr) ∧ w'.cell? ⟨b, o + k * 7 + 5, none⟩ = some (.int .u16 dn) ∧ w'.cell? ⟨b, o + k * 7 + 6, none⟩ = some (.int .u8 dt))
          (exact ⟨Blk.cell (HBP.out.ext ex), ex.keep d0, ex.keep d1, ex.keep d2, ex.keep d3, ex.keep d4, ex.keep d5, ex.keep d6⟩)
          (first
            | (go_at_call 27; (with_reducible refine (HDO.out _ ta ex).mono ?_); rintro x w6 ⟨rfl, ta, hok6, hx6⟩; have hz6 := hx6.size; have ex := ex.own2 hx6 (by have := HTN.out; omega) (by have := HTN.out; omega)))
        go_wp2
        go_roundw
        case rel => exact ⟨k + 1, l2, c2, clk2, by omega, by go_num, by omega, by omega, ⟨ta, hok6, HBY.out, HLE2.out⟩, ex, by omega⟩
        case measure => simp [intOf]; omega
      · have hc2 : clk < 4611686018427387904 := by omega
        obtain ⟨q1, q2, q3, q4⟩ := back HT.out.by' HT.out.ok HPK.out HBR.out HCFG.out hc0 hc2 (by have := HT.out.len; omega)
        have hes : (entsOf clk lt).length ≤ M := by
          unfold entsOf
          rw [List.length_map, slotsOf_len]
          exact Nat.le_trans (actives_len clk lt) HT.out.len
        have hxs : (putTo (entSlots clk rs (entsOf clk lt))).1.length ≤ M := by
          refine Nat.le_trans (putTo_len _) (Nat.le_trans ?_ hes)
          unfold entSlots
          rw [List.length_map]
          exact List.length_filter_le _ _
        have hpo := putTo_ok _ (entSlots_ok hc0 (by omega) HPK.out q4)
        have Q1 := Lib.hid q1
        have Q2 := Lib.hid q2
        have Q3 := Lib.hid q3
        have Q4 := Lib.hid q4
        have HLV := Lib.hid (enter_Leave (tn + 1) tn ct M clk lt wr HT.out.tab HT.out.ok hc0 (by omega) (by omega))
        clear q1 q2 q3 q4 hx
        generalize entsOf clk lt = es at *
        obtain ⟨xs, hxe⟩ : ∃ xs, entSlots clk rs es = xs := ⟨_, rfl⟩
        rw [hxe] at hxs hpo Q2 Q3
        have HXE := Lib.hid hxe
        obtain ⟨lu0, hlu0⟩ : ∃ lu0, (putTo xs).1 = lu0 := ⟨_, rfl⟩
        obtain ⟨cu0, hcu0⟩ : ∃ cu0, (putTo xs).2 = cu0 := ⟨_, rfl⟩
        rw [hlu0] at hxs hpo Q3
        rw [hcu0] at hpo
        have HLU0 := Lib.hid hlu0
        have HCU0 := Lib.hid hcu0
        clear hxe hlu0 hcu0
        have HPU := Lib.hid hpo
        clear hpo
        go_wp2_with fail
        refine HLV.out.mono ?_
        rintro x w5 ⟨v5, rfl, hs5, hx5⟩
        obtain ⟨ea, ec, rfl⟩ := hs5.size
        have HEV := Lib.hid (ents_row hs5)
        have HX5 := Lib.hid hx5
        have hz5 := hx5.sz
        clear hs5 hx5 HLV
        go_upto_region 12 with fail
        have bS := Blk.new w5 #[.int .u64 clk, .slice ea es.length ec] 52
        have hxs6 : Ext w5 (w5.alloc (.cells #[.int .u64 clk, .slice ea es.length ec] 52)) := (Ext.refl w5).alloc _
        generalize w5.alloc (.cells #[.int .u64 clk, .slice ea es.length ec] 52) = w6 at *
        have hz6 := hxs6.sz
        generalize w5.heap.size = S at *
        have HBS := Lib.hid bS
        have HX6 := Lib.hid (HX5.out.trans hxs6)
        have HEV6 := Lib.hid (HEV.out.ext Ent.size2 hxs6)
        have cS := bS.cell
        clear bS hxs6 HEV HX5
        have hau : IntKind.u64.wrap at_ = at_ := by simp [IntKind.wrap, IntKind.signed, IntKind.bits]; omega
        obtain ⟨cl, hcl⟩ : ∃ cl, min at_ clk = cl := ⟨_, rfl⟩
        have hclb : 0 ≤ cl ∧ cl ≤ clk := by omega
        have hmxc : max cl clk = clk := by omega
        have HCL : Hid ((clk < at_ → cl = clk) ∧ (¬ clk < at_ → cl = at_)) := Lib.hid ⟨fun h => by omega, fun h => by omega⟩
        clear hcl
        have HEN := Lib.hid (enter_Enter M (.slice ra rs.length rc) rs cl clk (.slice ea es.length ec) es w6 (by omega) (by omega) (HRN.out.ext Rl.size4 (HX.out.trans HX6.out)) HPK.out (by omega) (by omega) (by omega) hc0 (by omega) HEV6.out Q4.out (by omega))
        unfold EnterIs at HEN
        rw [hmxc, HXE.out] at HEN
        clear hmxc
        have cP := (HBP.out.ext (HX.out.trans HX6.out)).cell
        go_upto_if 64 with fail
        go_cut [15] from 59 to 66 (fun x15 wx => x15 = .int .u64 cl ∧ wx = w6)
        case first =>
          by_cases hac : clk < at_
          · have he := HCL.out.1 hac
            have HE := Lib.hid he
            clear he
            go_wp2_with fail
            go_meet
            exact ⟨by rw [HE.out], rfl⟩
          · have he := HCL.out.2 hac
            have HE := Lib.hid he
            clear he
            go_wp2_with fail
            go_meet
            exact ⟨by rw [HE.out], rfl⟩
        case rest =>
        obtain ⟨rfl, rfl⟩ := hcut
        clear hau
        go_wp2_with fail
        refine HEN.out.mono ?_
        rintro x w7 hx7
        rcases hx7 with ⟨h0, -⟩ | ⟨-, hof⟩
        · exact absurd Q1.out h0
        obtain ⟨pv, hxv, hx7, hcase⟩ := hof
        rw [Q2.out] at hxv hcase
        rcases hcase with ⟨-, U, MU, rfl, hU, hMU, hTU⟩ | ⟨h0, -⟩
        rotate_left
        · exact absurd rfl h0
        subst hxv
        rw [HLU0.out, HCU0.out] at hTU
        have hz7 := hx7.sz
        have hub := hTU.blk.lt
        have hmb := hTU.map.lt
        have hB2 : Bk2 w7 (tn + 1) tn U MU M clk lt lu0 ct cu0 := ⟨HT.out.tab.ext (HX6.out.trans hx7), hTU, HT.out.ok, HPU.out, Q3.out, HT.out.len, hxs⟩
        have HB2 := Lib.hid hB2
        have HX7 := Lib.hid (HX.out.trans (HX6.out.trans hx7))
        have HRI := Lib.hid (enter_Right M (.slice ra rs.length rc) rs clk (.slice ea es.length ec) es w7 (by omega) (by omega) (HRN.out.ext Rl.size4 HX7.out) HPK.out (by omega) hc0 (by omega) (HEV6.out.ext Ent.size2 hx7) Q4.out (by omega))
        rw [Q1.out] at HRI
        have cP7 := (HBP.out.ext HX7.out).cell
        have cS7 := (HBS.out.ext hx7).cell
        have hTU1 : tn + 1 < U ∧ tn + 1 < MU := ⟨by omega, by omega⟩
        have HNU := Lib.hid hTU1
        have HNE := Lib.hid hTU.ne
        have hcl30 : clk ≤ 4294967296 * (30 : Int) := by omega
        clear hB2 hTU hx7 HEN cP cS
        go_wp2_with fail
        refine HRI.out.mono ?_
        rintro x w8 ⟨rfl, hx8⟩
        have HB8 : Hid (Bk2 w8 (tn + 1) tn U MU M clk lt lu0 ct cu0) := Lib.hid ⟨HB2.out.a.ext hx8, HB2.out.b.ext hx8, HB2.out.aok, HB2.out.bok, HB2.out.al, HB2.out.la, HB2.out.lb⟩
        have HX8 := Lib.hid (HX7.out.trans hx8)
        have hz8 := hx8.sz
        have hub8 : U < w8.heap.size := by omega
        have hmb8 : MU < w8.heap.size := by omega
        clear hx8 cP7 cS7 HRI HB2
        go_wp2_with fail
        go_loopw [18] (fun i wt => ∃ (j : Nat) (l1 u1 : SMap) (c1 d1 : Nat) (ck : Int), j ≤ ms.length ∧ i = .int .i64 j ∧ 0 ≤ ck ∧ ck ≤ 4294967296 * (30 + j) ∧ Bk2 wt (tn + 1) tn U MU M ck l1 u1 c1 d1 ∧ Ext wn wt ∧ U < wt.heap.size ∧ MU < wt.heap.size) (fun i _ => ms.length - (intOf i).toNat)
        case atStart => exact ⟨0, lt, lu0, ct, cu0, clk, by omega, rfl, hc0, by omega, HB8.out, HX8.out, hub8, hmb8⟩
        case round =>
          obtain ⟨j, l1, u1, c1, d1, ck, hj, rfl, hk0', hk1', hB, hxj, hub9, hmb9⟩ := hrel
          have HB := Lib.hid hB
          have HXJ := Lib.hid hxj
          have hla := hB.la
          have hlb := hB.lb
          clear hB HB8 HX8 HX7 HX6 HT HX hz5 hz6 hz7 hz8 hub8 hmb8 hub hmb
          by_cases hlt2 : j < ms.length
          · obtain ⟨b, o, rfl, hcc⟩ := HML.out (by intro e; rw [e] at hlt2; simp at hlt2)
            obtain ⟨e0, e1, e2, e3, e4, e5, e6⟩ := deed_cells hcc HXN.out j hlt2
            have hdd := HDM.out j hlt2
            obtain ⟨ka, kc, hkv, -⟩ := hdd.key.form
            have hj1 : (j : Int) < (ms.length : Int) := by omega
            have hj0 : (0 : Int) ≤ (j : Int) := by omega
            obtain ⟨dd, hde⟩ : ∃ dd, ms[j] = dd := ⟨_, rfl⟩
            rw [hde] at e0 e1 e2 e3 e4 e5 e6 hdd hkv
            obtain ⟨code, err, lim, left, reset, aft, nan, ret, hV⟩ := dV_form M ck l1 rs dd
            obtain ⟨code', err', lim', left', reset', aft', nan', ret', hV'⟩ := dV_form M ck u1 rs dd
            have HD1 := Lib.hid (fun V (ht : TabAt V (tn + 1) tn M ck l1 c1) (e : Ext wn V) => deed_do (tn + 1) tn c1 M ck l1 M (.slice ra rs.length rc) rs dd V ht HB.out.aok hk0' (by omega) (HRN.out.ext Rl.size4 e) HPK.out HHD.out (by omega) (hdd.ext e))
            have HD2 := Lib.hid (fun V (ht : TabAt V U MU M ck u1 d1) (e : Ext wn V) => deed_do U MU d1 M ck u1 M (.slice ra rs.length rc) rs dd V ht HB.out.bok hk0' (by omega) (HRN.out.ext Rl.size4 e) HPK.out HHD.out (by omega) (hdd.ext e))
            rw [hV] at HD1
            rw [hV'] at HD2
            have HAL := Lib.hid (fun h1 h2 => HB.out.al.deed (most := (M : Int)) HB.out.aok HB.out.bok HBR.out hk0' (by omega) hdd h1 h2)
            rw [hV, hV'] at HAL
            have HLA := Lib.hid (dL_len (clock := ck) c1 rs dd HB.out.la)
            have HLB := Lib.hid (dL_len (clock := ck) d1 rs dd HB.out.lb)
            have hdk := dK_b (clock := ck) hdd
            have HE1 := Lib.hid (fun V (ht : TabAt V (tn + 1) tn M ck l1 c1) => table_Entries (tn + 1) tn c1 M ck l1 V ht HB.out.aok hk0' (by omega) (by omega))
            have HE2 := Lib.hid (fun V (ht : TabAt V U MU M ck u1 d1) => table_Entries U MU d1 M ck u1 V ht HB.out.bok hk0' (by omega) (by omega))
            rw [← HB.out.al.ents] at HE2
            have HC1 := Lib.hid (fun V (ht : TabAt V (tn + 1) tn M ck l1 c1) => table_ClockX (tn + 1) tn c1 M ck l1 V ht hk0' (by omega))
            have HC2 := Lib.hid (fun V (ht : TabAt V U MU M ck u1 d1) => table_ClockX U MU d1 M ck u1 V ht hk0' (by omega))
            rw [hkv] at e3 HD1 HD2
            generalize entsOf ck l1 = en at *
            generalize (dd.key).length = kn at *
            generalize dL (M : Int) ck l1 c1 rs dd = l2 at *
            generalize dC (M : Int) ck l1 c1 rs dd = c2 at *
            generalize dL (M : Int) ck u1 d1 rs dd = u2 at *
            generalize dC (M : Int) ck u1 d1 rs dd = d2 at *
            generalize dK ck dd = ck2 at *
            generalize dd.kind = dk at *
            generalize dd.wait = dw at *
            generalize dd.big = db at *
            generalize dd.rule = dr at *
            generalize dd.n = dn at *
            generalize dd.to = dt at *
            clear hcc hde hV hV' hdd hkv hxj
            go_upto_region 21 with fail
            have ex := HXJ.out.drew
            have ta := HB.out.a.ext ((Ext.refl wr).drew)
            have tb := HB.out.b.ext ((Ext.refl wr).drew)
            obtain ⟨hn1', hn2'⟩ := HNU.out
            have hnt := HTN.out
            go_region_held3 (fun w' => (∀ o, w'.cell? ⟨P, o, none⟩ = (#[.int .i64 (M : Int), .slice ra rs.length rc] : Array Value)[o]?) ∧ w'.cell? ⟨b, o + j * 7, none⟩ = some (.int .u8 dk) ∧ w'.cell? ⟨b, o + j * 7 + 1, none⟩ = some (.int .u32 dw) ∧ w'.cell? ⟨b, o + j * 7 + 2, none⟩ = some (.int .u8 db) ∧ w'.cell? ⟨b, o + j * 7 + 3, none⟩ = some (.slice ka kn kc) ∧ w'.cell? ⟨b, o + j * 7 + 4, none⟩ = some (.int .u8 dr) ∧ w'.cell? ⟨b, o + j * 7 + 5, none⟩ = some (.int .u16 dn) ∧ w'.cell? ⟨b, o + j * 7 + 6, none⟩ = some (.int .u8 dt))
              (exact ⟨Blk.cell (HBP.out.ext ex), ex.keep e0, ex.keep e1, ex.keep e2, ex.keep e3, ex.keep e4, ex.keep e5, ex.keep e6⟩)
              (first
                | (go_at_call 32; (with_reducible refine (HE1.out _ ta).mono ?_); rintro x w11 ⟨v1, rfl, hs1, hx11⟩; obtain ⟨a1, k1, rfl⟩ := hs1.size; have ex := ex.trans hx11; have ta := ta.ext hx11; have tb := tb.ext hx11; have hz11 := hx11.sz)
                | (go_at_call 32; (with_reducible refine (HE2.out _ tb).mono ?_); rintro x w12 ⟨v2, rfl, hs2, hx12⟩; obtain ⟨a2, k2, rfl⟩ := hs2.size; have ex := ex.trans hx12; have ta := ta.ext hx12; have tb := tb.ext hx12; have hs1 := hs1.ext hx12; have hz12 := hx12.sz)
                | (go_at_call 31; (with_reducible refine (ref14_Entry_yes _ _ _ _ en _ hs1 hs2).mono ?_); rintro x w13 ⟨rfl, hx13⟩; have ex := ex.trans hx13; have ta := ta.ext hx13; have tb := tb.ext hx13; have hz13 := hx13.sz)
                | (go_at_call 33; (with_reducible refine (HC1.out _ ta).mono ?_); rintro x w14 ⟨rfl, hx14⟩; have ex := ex.trans hx14; have ta := ta.ext hx14; have tb := tb.ext hx14; have hz14 := hx14.sz)
                | (go_at_call 33; (with_reducible refine (HC2.out _ tb).mono ?_); rintro x w15 ⟨rfl, hx15⟩; have ex := ex.trans hx15; have ta := ta.ext hx15; have tb := tb.ext hx15; have hz15 := hx15.sz)
                | (go_at_call 27; (with_reducible refine (HD1.out _ ta ex).mono ?_); rintro x w16 ⟨rfl, ta, hok6, hx16⟩; have hz16 := hx16.size; have tb := tb.ext2 hx16 (by omega) (by omega) (by omega) (by omega); have ex := ex.own2 hx16 (by omega) (by omega))
                | (go_at_call 27; (with_reducible refine (HD2.out _ tb ex).mono ?_); rintro x w17 ⟨rfl, tb, hok7, hx17⟩; have hz17 := hx17.size; have ta := ta.ext2 hx17 (by omega) (by omega) (by omega) (by omega); have ex := ex.own2 hx17 (by omega) (by omega); have hval := (HAL.out hok6 hok7).1; simp only [Value.agg.injEq, Array.mk.injEq, List.cons.injEq, Value.int.injEq, Value.bool.injEq, and_true, true_and] at hval; obtain ⟨rfl, rfl, rfl, rfl, rfl, rfl, rfl, rfl⟩ := hval)
                | (go_at_call 34; (with_reducible refine (ref14_Answers_yes _ _ _ _ _ _ _ _ _).mono ?_); rintro x w18 ⟨rfl, hx18⟩; have ex := ex.trans hx18; have ta := ta.ext hx18; have tb := tb.ext hx18; have hz18 := hx18.sz))
            have hbz : wr.drew.heap.size = wr.heap.size := rfl
            go_wp2
            go_roundw
            case rel => exact ⟨j + 1, l2, u2, c2, d2, ck2, by omega, by go_num, by omega, by omega, ⟨ta, tb, hok6, hok7, (HAL.out hok6 hok7).2, HLA.out, HLB.out⟩, ex, by omega, by omega⟩
            case measure => simp [intOf]; omega
          · go_wp2_with fail
            refine (HKN.out _).mono ?_
            rintro x w9 ⟨rfl, hx9⟩
            go_wp2
            go_ret
            exact ⟨rfl, HXN.out.trans (HXJ.out.trans hx9)⟩
end Go.Proofs.YtknlojlcahgnoaaGreat
