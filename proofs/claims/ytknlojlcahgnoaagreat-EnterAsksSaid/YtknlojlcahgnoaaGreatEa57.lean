/- Walk: tollerlaw16.Snap. -/
import Derived.Laws.AppendOwnNone
import Derived.Deep.CutBlock
import Derived.BigQuiet
import Derived.Test.YtknlojlcahgnoaaGreatEa55
import Derived.Test.YtknlojlcahgnoaaGreatEa37
import Derived.Test.YtknlojlcahgnoaaGreatEa5
import Derived.Test.YtknlojlcahgnoaaGreatEa41

namespace Go.Proofs.YtknlojlcahgnoaaGreat
open Go.RowKit
set_option linter.unusedVariables false
set_option linter.unusedSimpArgs false

set_option maxHeartbeats 4000000 in
set_option maxRecDepth 100000 in
theorem law16_Snap (clock : Int) (v : Value) (ks : List (List UInt8)) (fv : Value) (far : List Int) (w : World) (hn0 : 0 ≤ clock) (hn1 : clock < 4611686018427387904) (hv : BytesSl w v ks) (hf : FarSl w fv far) :
    Calls Tryz.prog 22 #[.int .u64 clock, v, fv] w fun x w' => ∃ ev es, x = .returned (.agg #[.int .u64 clock, ev]) ∧ EntRow w.heap.size w' ev es ∧ SnapOk es 10 ∧ Ext w w' := by
  obtain ⟨⟨a, c, rfl, hl⟩, hlen⟩ := hv
  obtain ⟨⟨fa, fc, rfl, hfl⟩, hflen, hfu⟩ := hf
  unfold maxLen at hlen hflen
  have HL := Lib.hid hl
  have HF := Lib.hid hfl
  have HFU := Lib.hid hfu
  obtain ⟨i0, hi, hz0, hz1, hz2⟩ := info_parts entry_infoR
  have HI := Lib.hid (And.intro hi (And.intro hz0 (And.intro hz1 hz2)))
  clear hl hfl hfu hi hz0 hz1 hz2
  have hml : (100 : Nat) ≤ maxLen := by decide
  have hres := (Blk.new w #[.int .u64 0, .slice none 0 0] 52).alloc (.cells #[.int .u64 clock, .slice none 0 0] 52)
  have hpol := Blk.new' (w.alloc (.cells #[.int .u64 0, .slice none 0 0] 52)) #[.int .u64 clock, .slice none 0 0] 52 (b := w.heap.size + 1) (by simp)
  have hxr : Ext w ((w.alloc (.cells #[.int .u64 0, .slice none 0 0] 52)).alloc (.cells #[.int .u64 clock, .slice none 0 0] 52)) := ((Ext.refl w).alloc _).alloc _
  go_enter Tryz.func22, Tryz.ntmps22
  go_upto_region 2 with fail
  generalize (w.alloc (.cells #[.int .u64 0, .slice none 0 0] 52)).alloc (.cells #[.int .u64 clock, .slice none 0 0] 52) = w0 at *
  have HRES := Lib.hid hres
  have HPOL := Lib.hid hpol
  have HX0 := Lib.hid hxr
  clear hres hpol hxr
  have k1 : IntKind.u64.wrap (clock + 1) = clock + 1 := by rw [wrap_u64]; omega
  go_wp2
  go_loopw [8] (fun i wr => ∃ (k : Nat) (ev : Value) (es : List Ent), k ≤ ks.length ∧ k ≤ 10 ∧ i = .int .i64 k ∧ Blk wr (w.heap.size + 1) #[.int .u64 clock, ev] 52 ∧ EntRow w.heap.size wr ev es ∧ SnapOk es k ∧ Blk wr w.heap.size #[.int .u64 0, .slice none 0 0] 52 ∧ Ext w wr) (fun i _ => ks.length - (intOf i).toNat)
  case atStart => exact ⟨0, .slice none 0 0, [], by omega, by omega, rfl, HPOL.out, RowOf.empty _ _ _ _ _, ⟨by simp, fun e he => by cases he⟩, HRES.out, HX0.out⟩
  case round =>
    obtain ⟨k, ev, es, hk, hk12, rfl, hbp, hrow, hso, hre, hx⟩ := hrel
    obtain ⟨ra, rc, rfl⟩ := hrow.size
    clear HRES HPOL HX0
    have HBP := Lib.hid hbp
    have HROW := Lib.hid hrow
    have HRE := Lib.hid hre
    have HX := Lib.hid hx
    have HSO := Lib.hid hso
    have hbl := hbp.lt
    have hel := hre.lt
    have hesl : es.length ≤ 10 := by have := hso.1; omega
    clear hrow hbp hre hso
    by_cases hlt : k < ks.length ∧ k < 10
    · obtain ⟨hl1, hl2⟩ := hlt
      obtain ⟨b, oo, rfl, hcc⟩ := HL.out (by intro e; rw [e] at hl1; simp at hl1)
      obtain ⟨kv, hc0, hbs⟩ := hcc k hl1
      have d0 := hx.keep hc0
      have HKY := Lib.hid (fun W (hx : Ext w W) => law09_Key kv ks[k] W (hbs.ext hx))
      have hkt := keyText_size ks[k]
      obtain ⟨ka, kc, hkv, -⟩ := hbs.form
      subst hkv
      clear hcc hc0 hbs
      generalize keyText ks[k] = ky at *
      generalize ks[k].length = kn at *
      generalize hob : oo + k = ob at *
      have hkl0 : (0 : Int) ≤ (k : Int) := by omega
      have hkl1 : (k : Int) < (ks.length : Int) := by omega
      have hkl2 : (k : Int) < 10 := by omega
      have hkd1 : decide ((k : Int) < (ks.length : Int)) = true := decide_eq_true hkl1
      have hkd2 : decide ((k : Int) < 10) = true := decide_eq_true hkl2
      go_upto_region 5 with fail
      go_wp2_with fail
      refine (HKY.out _ hx).mono ?_
      rintro x w1 ⟨rfl, hx1⟩
      clear HKY d0
      go_upto_region 6 with fail
      have hbg := Blk.new w1 #[.string ky, .int .u64 (clock + 1)] 80
      have hxa : Ext wr (w1.alloc (.cells #[.string ky, .int .u64 (clock + 1)] 80)) := hx1.alloc _
      have hg1 := hx1.sz
      generalize w1.alloc (.cells #[.string ky, .int .u64 (clock + 1)] 80) = w2 at *
      generalize w1.heap.size = g at *
      go_upto_if 35 with fail
      go_cut [9, 35] from 36 to 43 (fun x9 x35 wx => x9 = .pointer (some ⟨g, 0, none⟩) ∧ (∃ t : Int, 0 ≤ t ∧ t < 18446744073709551616 ∧ Blk wx g #[.string ky, .int .u64 t] 80) ∧ Ext wr wx)
      case first =>
        by_cases hfk : k < far.length
        · obtain ⟨fb, fo, hfa, hfc⟩ := HF.out (by intro e; rw [e] at hfk; simp at hfk)
          subst hfa
          have d1 := hxa.keep (hx.keep (hfc k hfk))
          have hfu := HFU.out far[k] (List.getElem_mem _)
          generalize far[k] = fk at *
          generalize hfo : fo + k = fo' at *
          have k2 : IntKind.u64.wrap fk = fk := by rw [wrap_u64]; omega
          have k3 : IntKind.u64.wrap (clock + fk) = clock + fk := by rw [wrap_u64]; omega
          have hk1 : (k : Int) < (far.length : Int) := by omega
          have hgc := hbg.cell
          have hgf := hbg.free
          have hgl := hbg.lt
          clear hfc
          go_wp2
          go_meet
          exact ⟨rfl, ⟨clock + fk, by omega, by omega, hbg.set 1 _⟩, hxa.setCell (by dsimp only; omega) _⟩
        · have hk1 : ¬ (k : Int) < (far.length : Int) := by omega
          go_wp2
          go_meet
          exact ⟨rfl, ⟨clock + 1, by omega, by omega, hbg⟩, hxa⟩
      case rest =>
        obtain ⟨rfl, ⟨t, ht0, ht1, hbg⟩, hxd⟩ := hcut
        have HBG := Lib.hid hbg
        have HXD := Lib.hid hxd
        have HP2 := Lib.hid (HBP.out.ext hxd)
        have HROW2 := Lib.hid (HROW.out.ext hxd)
        have HXE := Lib.hid (hx.trans hxd)
        have hwz := hxd.sz
        have hkm : ky.size ≤ maxLen := by unfold maxLen; omega
        clear hbg hxd hxa hx1 hx
        go_wp2_with fail
        go_loopw [10] (fun i ws => ∃ (j : Nat), j ≤ es.length ∧ i = .int .i64 j ∧ Ext wc ws) (fun i _ => es.length - (intOf i).toNat)
        case atStart => exact ⟨0, by omega, rfl, Ext.refl _⟩
        case round =>
          obtain ⟨j, hj, rfl, hxj⟩ := hrel
          have HXJ := Lib.hid hxj
          have c1 := (HP2.out.ext hxj).cell 1
          have c2 := (HBG.out.ext hxj).cell 0
          simp only [List.getElem?_toArray, List.getElem?_cons_zero, List.getElem?_cons_succ] at c1 c2
          by_cases hltj : j < es.length
          · obtain ⟨rb, rcc, er, -, -, hq⟩ := RowOf.cells (enc := Ent.cells) (k := 2) Ent.size2 (HROW2.out.ext hxj) j hltj
            cases er
            have h0 : wr.cell? ⟨rb, j * 2, none⟩ = some (.string es[j].key) := hq 0 (by omega)
            have hkx := (HSO.out.2 es[j] (List.getElem_mem _)).1
            have HLS := Lib.hid (fun W => ref09_Less es[j].key ky W hkx hkm)
            have hj0 : (0 : Int) ≤ (j : Int) := by omega
            have hj1 : (j : Int) < (es.length : Int) := by omega
            have d1 : decide ((j : Int) < (es.length : Int)) = true := decide_eq_true hj1
            clear hq
            generalize es[j].key = kj at *
            have g1 : ∀ s, (grown wr s).cell? ⟨w.heap.size + 1, 1, none⟩ = some (.slice (some ⟨rb, 0, none⟩) es.length rc) := grown_cell c1
            have g2 : ∀ s, (grown wr s).cell? ⟨g, 0, none⟩ = some (.string ky) := grown_cell c2
            have g3 : ∀ s, (grown wr s).cell? ⟨rb, j * 2, none⟩ = some (.string kj) := grown_cell h0
            cases hk : keyLt kj ky
            · have HK := Lib.hid hk
              clear hk
              rw [HK.out] at HLS
              go_upto_region 9 with fail
              refine wp_region_grow (by kernel_rfl) (by kernel_rfl) ?_
              repeat (go_big_quiet_step (first | (go_at_call 55; exact grow_call (HLS.out _))))
              refine wpQuiet_nil ?_
              rintro _ ⟨sg, rfl⟩
              have hxg := hxj.trans (grown_ext wr sg)
              have e1 := g1 sg
              have e2 := g2 sg
              have e3 := g3 sg
              generalize grown wr sg = w3 at *
              clear g1 g2 g3 c1 c2 h0 HLS HXJ hxj
              by_cases hpj : kj = ky
              · have hpd : (kj.toList == ky.toList) = true := by rw [hpj]; simp
                go_upto_region 11 with fail
                go_quiet (fail)
                go_wp2
                go_roundw
                case rel => exact ⟨k + 1, _, es, by omega, by omega, by go_num, HP2.out.ext (hxg.trans (Ext.drewNs _ _)), HROW2.out.ext (hxg.trans (Ext.drewNs _ _)), HSO.out.up, HRE.out.ext (HXD.out.trans (hxg.trans (Ext.drewNs _ _))), HXE.out.trans (hxg.trans (Ext.drewNs _ _))⟩
                case measure => simp [intOf]; omega
              · have hpd : (kj.toList == ky.toList) = false := beq_eq_false_iff_ne.2 fun e => hpj (toList_inj e)
                go_upto_region 11 with fail
                go_quiet (fail)
                have hx4 := hxg.trans (Ext.drewNs w3 nq)
                have hr4 := HROW2.out.ext hx4
                have e4 : (w3.drewN nq).cell? ⟨w.heap.size + 1, 1, none⟩ = some (.slice (some ⟨rb, 0, none⟩) es.length rc) := (HP2.out.ext hx4).cell 1
                generalize w3.drewN nq = w4 at *
                have hcap := hr4.cap
                have n1 := ent_news0 hr4 j (by omega)
                have n3 := ent_news HROW2.out j (es.length - j) (by omega)
                have l1 : (flatE Ent.cells (es.take j)).length = j * 2 := by rw [flatE_len Ent.size2]; simp; omega
                have l3 : (flatE Ent.cells ((es.drop j).take (es.length - j))).length = (es.length - j) * 2 := by rw [flatE_len Ent.size2]; simp
                have HN := Lib.hid (And.intro n1 (And.intro n3 (And.intro l1 l3)))
                have HX4 := Lib.hid hx4
                have h4s := hx4.sz
                clear hr4 n1 n3 l1 l3 hxg e1 e2 e3 hx4
                obtain ⟨zs, hzs⟩ : ∃ zs, es.take j ++ (⟨ky, t⟩ : Ent) :: es.drop j = zs := ⟨_, rfl⟩
                have HZS := Lib.hid hzs
                have HMO := Lib.hid (show SnapOk zs (k + 1) by rw [← hzs]; exact HSO.out.more ⟨hkm, ht0, ht1⟩)
                clear hzs
                go_upto_region 13 with fail
                go_wp2_with (first
                  | (at_builtin; refine wpList_append_own _ rfl (.tmp 78) (.tmp 82) 50 rfl wc.heap.size 80 i0 (.agg #[.string ⟨#[]⟩, .int .u64 0]) 2 24 Tryz.underlying50 HI.out.1 HI.out.2.1 HI.out.2.2.1 HI.out.2.2.2 rfl (by decide) (.slice none 0 0) 0 [] rfl (World.ownsRow_nil _ _ _ _) ⟨rb, 0, none⟩ j rc (flatE Ent.cells (es.take j)) rfl HN.out.2.2.1 HN.out.1 ent_one (by omega) (by omega) (by omega) ?_; rintro v5 w5 hown5 hgrow5 -; have hx5 : Ext wc w5 := Ext.grownAt HX4.out (World.ownsRow_nil _ _ 80 2) (Nat.le_refl _) hgrow5; have hc5 := (HBG.out.ext hx5).cell; have ht5 := (HP2.out.ext hx5).cell; have h5s := hx5.sz)
                  | (at_builtin; refine wpList_append_own _ rfl (.tmp 84) (.tmp 86) 50 rfl wc.heap.size 80 i0 (.agg #[.string ⟨#[]⟩, .int .u64 0]) 2 24 Tryz.underlying50 HI.out.1 HI.out.2.1 HI.out.2.2.1 HI.out.2.2.2 rfl (by decide) _ _ _ rfl (hown5.alloc _) ⟨w5.heap.size, 0, none⟩ 1 1 [.string ky, .int .u64 t] rfl rfl (blk_news (C := #[.string ky, .int .u64 t]) (Blk.new _ _ _)) (by simp [Value.oneCell']) (by omega) (by omega) (by simp; omega) ?_; rintro v6 w6 hown6 hgrow6 -; have hx6 : Ext wc w6 := Ext.grownAt (hx5.alloc _) (hown5.alloc _) (Nat.le_refl _) hgrow6; have ht6 := (HP2.out.ext hx6).cell; have h6s := hx6.sz)
                  | (at_builtin; refine wpList_append_own _ rfl (.tmp 88) (.tmp 92) 50 rfl wc.heap.size 80 i0 (.agg #[.string ⟨#[]⟩, .int .u64 0]) 2 24 Tryz.underlying50 HI.out.1 HI.out.2.1 HI.out.2.2.1 HI.out.2.2.2 rfl (by decide) _ _ _ rfl hown6 ⟨rb, j * 2, none⟩ (es.length - j) (rc - j) (flatE Ent.cells ((es.drop j).take (es.length - j))) rfl HN.out.2.2.2 (fun q u hu => hx6.keep (HN.out.2.1 q u hu)) ent_one (by omega) (by omega) (by omega) ?_; rintro v7 w7 hown7 hgrow7 -; have hx7 : Ext wc w7 := Ext.grownAt hx6 hown6 (Nat.le_refl _) hgrow7; have hrow7 := ent_withz (s := ⟨ky, t⟩) hown7 hj HZS; obtain ⟨va, vc, rfl⟩ := hrow7.size; have ht7 := (HP2.out.ext hx7).cell; have hf7 := (HP2.out.ext hx7).free; have hl7 := (HP2.out.ext hx7).lt)
                  | fail)
                have HR7 := Lib.hid hrow7
                have HX7 := Lib.hid hx7
                clear hown5 hown6 hown7 hrow7 hx5 hx6 hx7 hc5 ht5 ht6
                go_wp2
                go_roundw
                case rel => exact ⟨k + 1, .slice va zs.length vc, zs, by omega, by omega, by go_num, (HP2.out.ext HX7.out).set 1 _, (HR7.out.low (by have := HXE.out.sz; omega)).setOther (HP2.out.ext HX7.out) (by decide) 1 _, HMO.out, (HRE.out.ext (HXD.out.trans HX7.out)).other (by dsimp only; omega) _, (HXE.out.trans HX7.out).setCell (by dsimp only; omega) _⟩
                case measure => simp [intOf]; omega
            · have HK := Lib.hid hk
              clear hk
              rw [HK.out] at HLS
              go_upto_region 9 with fail
              refine wp_region_grow (by kernel_rfl) (by kernel_rfl) ?_
              repeat (go_big_quiet_step (first | (go_at_call 55; exact grow_call (HLS.out _))))
              refine wpQuiet_nil ?_
              rintro _ ⟨sg, rfl⟩
              have hxg := hxj.trans (grown_ext wr sg)
              generalize grown wr sg = w3 at *
              go_wp2
              go_roundw
              case rel => exact ⟨j + 1, by omega, by go_num, hxg⟩
              case measure => simp [intOf]; omega
          · have hjl : j = es.length := by omega
            have d1 : decide ((j : Int) < (es.length : Int)) = false := by simp; omega
            have g1 : ∀ s, (grown wr s).cell? ⟨w.heap.size + 1, 1, none⟩ = some (.slice ra es.length rc) := grown_cell c1
            go_upto_region 9 with fail
            refine wp_region_grow (by kernel_rfl) (by kernel_rfl) ?_
            repeat (go_big_quiet_step (fail))
            refine wpQuiet_nil ?_
            rintro _ ⟨sg, rfl⟩
            have hxg := hxj.trans (grown_ext wr sg)
            have e1 := g1 sg
            generalize grown wr sg = w3 at *
            clear g1 c1 c2 HXJ hxj
            go_upto_region 11 with fail
            go_quiet (fail)
            have hx4 := hxg.trans (Ext.drewNs w3 nq)
            have hr4 := HROW2.out.ext hx4
            have e4 : (w3.drewN nq).cell? ⟨w.heap.size + 1, 1, none⟩ = some (.slice ra es.length rc) := (HP2.out.ext hx4).cell 1
            generalize w3.drewN nq = w4 at *
            have HX4 := Lib.hid hx4
            have h4s := hx4.sz
            clear hxg e1 hx4
            obtain ⟨zs, hzs⟩ : ∃ zs, es.take j ++ (⟨ky, t⟩ : Ent) :: es.drop j = zs := ⟨_, rfl⟩
            have HZS := Lib.hid hzs
            have HMO := Lib.hid (show SnapOk zs (k + 1) by rw [← hzs]; exact HSO.out.more ⟨hkm, ht0, ht1⟩)
            have HJL := Lib.hid hjl
            clear hltj d1
            by_cases hxs : es = []
            · have hnil := hr4.nil.2 hxs
              subst hxs
              cases hnil
              have hj0 : j = 0 := hjl
              subst hj0
              have HZ1 := Lib.hid (show [(⟨ky, t⟩ : Ent)] = zs from hzs)
              have hc5 := (HBG.out.ext HX4.out).cell
              have ht5 := (HP2.out.ext HX4.out).cell
              clear hr4 hzs HZS hjl HJL hj hesl
              go_upto_region 13 with fail
              go_wp2_with (first
                | (at_builtin; refine wpList_append_own_none rfl (.tmp 78) (.tmp 82) 50 rfl wc.heap.size 80 i0 2 Tryz.underlying50 HI.out.1 (.slice none 0 0) 0 [] rfl (World.ownsRow_nil _ _ _ _) rfl ?_)
                | (at_builtin; refine wpList_append_own _ rfl (.tmp 84) (.tmp 86) 50 rfl wc.heap.size 80 i0 (.agg #[.string ⟨#[]⟩, .int .u64 0]) 2 24 Tryz.underlying50 HI.out.1 HI.out.2.1 HI.out.2.2.1 HI.out.2.2.2 rfl (by decide) (.slice none 0 0) 0 [] rfl (World.ownsRow_nil _ _ _ _) ⟨w4.heap.size, 0, none⟩ 1 1 [.string ky, .int .u64 t] rfl rfl (blk_news (C := #[.string ky, .int .u64 t]) (Blk.new _ _ _)) (by simp [Value.oneCell']) (by omega) (by omega) (by simp; omega) ?_; rintro v6 w7 hown6 hgrow6 -; have hx7 : Ext wc w7 := Ext.grownAt (HX4.out.alloc _) (World.ownsRow_nil _ _ 80 2) (Nat.le_refl _) hgrow6; have ht7 := (HP2.out.ext hx7).cell)
                | (at_builtin; refine wpList_append_own_none rfl (.tmp 88) (.tmp 92) 50 rfl wc.heap.size 80 i0 2 Tryz.underlying50 HI.out.1 _ _ _ rfl hown6 rfl ?_; have hrow7 := ent_firstz (s := ⟨ky, t⟩) hown6 HZ1; obtain ⟨va, vc, rfl⟩ := hrow7.size; have hf7 := (HP2.out.ext hx7).free; have hl7 := (HP2.out.ext hx7).lt)
                | fail)
              have HR7 := Lib.hid hrow7
              have HX7 := Lib.hid hx7
              clear hown6 hrow7 hx7 hc5 ht5
              go_wp2
              go_roundw
              case rel => exact ⟨k + 1, .slice va zs.length vc, zs, by omega, by omega, by go_num, (HP2.out.ext HX7.out).set 1 _, (HR7.out.low (by have := HXE.out.sz; omega)).setOther (HP2.out.ext HX7.out) (by decide) 1 _, HMO.out, (HRE.out.ext (HXD.out.trans HX7.out)).other (by dsimp only; omega) _, (HXE.out.trans HX7.out).setCell (by dsimp only; omega) _⟩
              case measure => simp [intOf]; omega
            · obtain ⟨rb, rcc, hv', -, hbl2, hq⟩ := RowOf.cells (enc := Ent.cells) (k := 2) Ent.size2 hr4 0 (List.length_pos_iff.2 hxs)
              cases hv'
              clear hq hzs hjl
              have hcc := hr4.cap
              by_cases hcn : j < rc
              · skip
                have hcap := hr4.cap
                have n1 := ent_news0 hr4 j (by omega)
                have n3 := ent_news HROW2.out j (es.length - j) (by omega)
                have l1 : (flatE Ent.cells (es.take j)).length = j * 2 := by rw [flatE_len Ent.size2]; simp; omega
                have l3 : (flatE Ent.cells ((es.drop j).take (es.length - j))).length = (es.length - j) * 2 := by rw [flatE_len Ent.size2]; simp
                have HN := Lib.hid (And.intro n1 (And.intro n3 (And.intro l1 l3)))
                clear n1 n3 l1 l3 hr4
                go_upto_region 13 with fail
                go_wp2_with (first
                  | (at_builtin; refine wpList_append_own _ rfl (.tmp 78) (.tmp 82) 50 rfl wc.heap.size 80 i0 (.agg #[.string ⟨#[]⟩, .int .u64 0]) 2 24 Tryz.underlying50 HI.out.1 HI.out.2.1 HI.out.2.2.1 HI.out.2.2.2 rfl (by decide) (.slice none 0 0) 0 [] rfl (World.ownsRow_nil _ _ _ _) ⟨rb, 0, none⟩ j rc (flatE Ent.cells (es.take j)) rfl HN.out.2.2.1 HN.out.1 ent_one (by omega) (by omega) (by omega) ?_; rintro v5 w5 hown5 hgrow5 -; have hx5 : Ext wc w5 := Ext.grownAt HX4.out (World.ownsRow_nil _ _ 80 2) (Nat.le_refl _) hgrow5; have hc5 := (HBG.out.ext hx5).cell; have ht5 := (HP2.out.ext hx5).cell; have h5s := hx5.sz)
                  | (at_builtin; refine wpList_append_own _ rfl (.tmp 84) (.tmp 86) 50 rfl wc.heap.size 80 i0 (.agg #[.string ⟨#[]⟩, .int .u64 0]) 2 24 Tryz.underlying50 HI.out.1 HI.out.2.1 HI.out.2.2.1 HI.out.2.2.2 rfl (by decide) _ _ _ rfl (hown5.alloc _) ⟨w5.heap.size, 0, none⟩ 1 1 [.string ky, .int .u64 t] rfl rfl (blk_news (C := #[.string ky, .int .u64 t]) (Blk.new _ _ _)) (by simp [Value.oneCell']) (by omega) (by omega) (by simp; omega) ?_; rintro v6 w6 hown6 hgrow6 -; have hx6 : Ext wc w6 := Ext.grownAt (hx5.alloc _) (hown5.alloc _) (Nat.le_refl _) hgrow6; have ht6 := (HP2.out.ext hx6).cell; have h6s := hx6.sz)
                  | (at_builtin; refine wpList_append_own _ rfl (.tmp 88) (.tmp 92) 50 rfl wc.heap.size 80 i0 (.agg #[.string ⟨#[]⟩, .int .u64 0]) 2 24 Tryz.underlying50 HI.out.1 HI.out.2.1 HI.out.2.2.1 HI.out.2.2.2 rfl (by decide) _ _ _ rfl hown6 ⟨rb, j * 2, none⟩ (es.length - j) (rc - j) (flatE Ent.cells ((es.drop j).take (es.length - j))) rfl HN.out.2.2.2 (fun q u hu => hx6.keep (HN.out.2.1 q u hu)) ent_one (by omega) (by omega) (by omega) ?_; rintro v7 w7 hown7 hgrow7 -; have hx7 : Ext wc w7 := Ext.grownAt hx6 hown6 (Nat.le_refl _) hgrow7; have hrow7 := ent_withz (s := ⟨ky, t⟩) hown7 hj HZS; obtain ⟨va, vc, rfl⟩ := hrow7.size; have ht7 := (HP2.out.ext hx7).cell; have hf7 := (HP2.out.ext hx7).free; have hl7 := (HP2.out.ext hx7).lt)
                  | fail)
                have HR7 := Lib.hid hrow7
                have HX7 := Lib.hid hx7
                clear hown5 hown6 hown7 hrow7 hx5 hx6 hx7 hc5 ht5 ht6
                go_wp2
                go_roundw
                case rel => exact ⟨k + 1, .slice va zs.length vc, zs, by omega, by omega, by go_num, (HP2.out.ext HX7.out).set 1 _, (HR7.out.low (by have := HXE.out.sz; omega)).setOther (HP2.out.ext HX7.out) (by decide) 1 _, HMO.out, (HRE.out.ext (HXD.out.trans HX7.out)).other (by dsimp only; omega) _, (HXE.out.trans HX7.out).setCell (by dsimp only; omega) _⟩
                case measure => simp [intOf]; omega
              · have hce : rc = j := by have := HJL.out; omega
                subst hce
                clear hcn hcc
                have hcap := hr4.cap
                have n1 := ent_news0 hr4 rc (by omega)
                have n3 := ent_news HROW2.out rc (es.length - rc) (by omega)
                have l1 : (flatE Ent.cells (es.take rc)).length = rc * 2 := by rw [flatE_len Ent.size2]; simp; omega
                have l3 : (flatE Ent.cells ((es.drop rc).take (es.length - rc))).length = (es.length - rc) * 2 := by rw [flatE_len Ent.size2]; simp
                have HN := Lib.hid (And.intro n1 (And.intro n3 (And.intro l1 l3)))
                clear n1 n3 l1 l3 hr4
                go_upto_region 13 with fail
                go_wp2_with (first
                  | (at_builtin; refine wpList_append_own _ rfl (.tmp 78) (.tmp 82) 50 rfl wc.heap.size 80 i0 (.agg #[.string ⟨#[]⟩, .int .u64 0]) 2 24 Tryz.underlying50 HI.out.1 HI.out.2.1 HI.out.2.2.1 HI.out.2.2.2 rfl (by decide) (.slice none 0 0) 0 [] rfl (World.ownsRow_nil _ _ _ _) ⟨rb, 0, none⟩ rc rc (flatE Ent.cells (es.take rc)) rfl HN.out.2.2.1 HN.out.1 ent_one (by omega) (by omega) (by omega) ?_; rintro v5 w5 hown5 hgrow5 -; have hx5 : Ext wc w5 := Ext.grownAt HX4.out (World.ownsRow_nil _ _ 80 2) (Nat.le_refl _) hgrow5; have hc5 := (HBG.out.ext hx5).cell; have ht5 := (HP2.out.ext hx5).cell; have h5s := hx5.sz)
                  | (at_builtin; refine wpList_append_own _ rfl (.tmp 84) (.tmp 86) 50 rfl wc.heap.size 80 i0 (.agg #[.string ⟨#[]⟩, .int .u64 0]) 2 24 Tryz.underlying50 HI.out.1 HI.out.2.1 HI.out.2.2.1 HI.out.2.2.2 rfl (by decide) _ _ _ rfl (hown5.alloc _) ⟨w5.heap.size, 0, none⟩ 1 1 [.string ky, .int .u64 t] rfl rfl (blk_news (C := #[.string ky, .int .u64 t]) (Blk.new _ _ _)) (by simp [Value.oneCell']) (by omega) (by omega) (by simp; omega) ?_; rintro v6 w6 hown6 hgrow6 -; have hx6 : Ext wc w6 := Ext.grownAt (hx5.alloc _) (hown5.alloc _) (Nat.le_refl _) hgrow6; have ht6 := (HP2.out.ext hx6).cell; have h6s := hx6.sz)
                  | (at_builtin; refine wpList_append_own _ rfl (.tmp 88) (.tmp 92) 50 rfl wc.heap.size 80 i0 (.agg #[.string ⟨#[]⟩, .int .u64 0]) 2 24 Tryz.underlying50 HI.out.1 HI.out.2.1 HI.out.2.2.1 HI.out.2.2.2 rfl (by decide) _ _ _ rfl hown6 ⟨rb, 0, none⟩ 0 0 [] rfl rfl (fun j u hu => by simp at hu) (fun u hu => by simp at hu) (by omega) (by omega) (by omega) ?_; rintro v7 w7 hown7 hgrow7 -; have hx7 : Ext wc w7 := Ext.grownAt hx6 hown6 (Nat.le_refl _) hgrow7; have hrow7 := ent_lastz (s := ⟨ky, t⟩) hown7 HJL.out HZS; obtain ⟨va, vc, rfl⟩ := hrow7.size; have ht7 := (HP2.out.ext hx7).cell; have hf7 := (HP2.out.ext hx7).free; have hl7 := (HP2.out.ext hx7).lt)
                  | fail)
                have HR7 := Lib.hid hrow7
                have HX7 := Lib.hid hx7
                clear hown5 hown6 hown7 hrow7 hx5 hx6 hx7 hc5 ht5 ht6
                go_wp2
                go_roundw
                case rel => exact ⟨k + 1, .slice va zs.length vc, zs, by omega, by omega, by go_num, (HP2.out.ext HX7.out).set 1 _, (HR7.out.low (by have := HXE.out.sz; omega)).setOther (HP2.out.ext HX7.out) (by decide) 1 _, HMO.out, (HRE.out.ext (HXD.out.trans HX7.out)).other (by dsimp only; omega) _, (HXE.out.trans HX7.out).setCell (by dsimp only; omega) _⟩
                case measure => simp [intOf]; omega
    · have cP := HBP.out.cell
      have cE := HRE.out.cell
      have fE := HRE.out.free
      go_upto_region 17 with fail
      all_goals
        go_wp2
        refine ret_cell Tryz.results22 rfl (Blk.set2 HRE.out (.int .u64 clock) (.slice ra es.length rc)) Tryz.underlying52 rfl (by kernel_rfl) ?_
        exact ⟨_, es, rfl, (HROW.out.setOther HRE.out (by decide) 0 _).setOther (HRE.out.set 0 _) (by decide) 1 _, ⟨hesl, HSO.out.2⟩, (HX.out.setCell (Nat.le_refl _) _).setCell (Nat.le_refl _) _⟩
end Go.Proofs.YtknlojlcahgnoaaGreat
