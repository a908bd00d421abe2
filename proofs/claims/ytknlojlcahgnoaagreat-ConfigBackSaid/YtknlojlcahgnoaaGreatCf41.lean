/- Walk: (*config.reader).rule. -/
import Derived.Deep.LoopGhost
import Derived.RegionTactic
import Derived.BigRegion
import Derived.Test.YtknlojlcahgnoaaGreatCf35
import Derived.Test.YtknlojlcahgnoaaGreatCf40

namespace Go.Proofs.YtknlojlcahgnoaaGreat
open Go.RowKit
set_option linter.unusedVariables false
set_option linter.unusedSimpArgs false

theorem empty_iff (p : ByteArray) : p = ⟨#[]⟩ ↔ (!p.toList.isEmpty) = false := by
  rw [ByteArray.toList_eq]
  constructor
  · intro h; subst h; rfl
  · intro h
    apply ByteArray.ext
    apply Array.ext'
    simpa using h
/-- the reader's memory -/
structure RdMem (w : World) (bR mb base : Nat) (rv : Value) (s : CfgSt) (l : UMap) (c : Nat) : Prop where
  rd : Blk w bR (rdC s.most rv mb) 105
  met : UMapIs w mb l c
  keys : l.map (·.1) = s.rs.map (·.p)
  rules : RuleOwn base w rv s.rs
  b0 : bR < base
  b1 : mb < base
  b2 : base ≤ w.heap.size
  ne : bR ≠ mb
def rdP (bR mb base : Nat) (k : Nat) : Prop := k < base ∧ k ≠ bR ∧ k ≠ mb
def RlIs (w : World) (bR mb base : Nat) (s : CfgSt) (ws : List Wd) (x : Ending) (w' : World) : Prop :=
  FrP (rdP bR mb base) w w' ∧
  (((rlErr s.rs ws).1 = 0 ∧ x = .returned (.tuple #[]) ∧ ∃ rv l c, RdMem w' bR mb base rv ⟨s.most, s.rs ++ [prRl (ruleParse (wTexts ws))]⟩ l c) ∨
   ((rlErr s.rs ws).1 ≠ 0 ∧ x = faultE (rlErr s.rs ws).1 (wdAt ws (rlErr s.rs ws).2).line (wdAt ws (rlErr s.rs ws).2).col))

theorem set_put {V : World} {mb c : Nat} {l : UMap} (h : UMapIs V mb l c) {key : ByteArray} (hn : l.has key = false) : ∃ w', (Instr.mapUpdate 103 (.map (some mb)) (.string key) (.agg #[])).run Tryz.prog V = .ok () w' ∧ UMapIs w' mb (l ++ [(key, c)]) (c + 1) ∧ ExtB mb V w' :=
  run_uput Tryz.underlying103 Tryz.underlying9 h hn
theorem UMapIs.frP {p : Nat → Prop} {w w' : World} {b c : Nat} {l : UMap} (h : UMapIs w b l c) (e : FrP p w w') (hp : p b) : UMapIs w' b l c := (e.block b h.lt hp).trans h
/-- what a push leaves -/
theorem rd_push {w w10 w12 : World} {bR mb base : Nat} {rv rv' : Value} {most : Int} {rs : List Rl} {l : UMap} {c : Nat} {r : Rl} {o : Obj} (hrd : Blk w10 bR (rdC most rv mb) 105) (hmet : UMapIs w10 mb l c) (hk : l.map (·.1) = (rs ++ [r]).map (·.p)) (hru : RuleOwn base w10 rv rs) (b0 : bR < base) (b1 : mb < base) (b2 : base ≤ w10.heap.size) (ne : bR ≠ mb)
    (f : FrP (rdP bR mb base) w w10) (g : (w10.drew.alloc o).grownBy w12 rv.ownBlock) (own : w12.ownsRow base 37 4 rv' (rs.length + 1) (flatE Rl.cells rs ++ r.cells.toList)) :
    RdMem (w12.setCell ⟨bR, 1, none⟩ rv') bR mb base rv' ⟨most, rs ++ [r]⟩ l c ∧ FrP (rdP bR mb base) w (w12.setCell ⟨bR, 1, none⟩ rv') := by
  have hb12 : Blk w12 bR (rdC most rv mb) 105 := Blk.grownLow (hrd.drew.alloc o) hru g b0
  have hm12 : UMapIs w12 mb l c := (g.block mb ((Nat.lt_of_lt_of_le hmet.lt (((Ext.refl w10).drew.alloc o).sz))) (own_low hru b1)).trans (hmet.ext ((Ext.refl w10).drew.alloc o))
  refine ⟨⟨hb12.set 1 rv', (Below.heap_setCell _ _ _ _ (Ne.symm ne)).trans hm12, hk, ?_, b0, b1, ?_, ne⟩, ?_⟩
  · show World.ownsRow _ base _ _ _ (rs ++ [r]).length _
    rw [List.length_append, flatE_snoc]
    exact own_extB own ((ExtB.refl bR w12).setCell 1 rv') b0
  · have h1 := ((Ext.refl w10).drew.alloc o).sz
    have h2 := g.size
    show base ≤ (w12.setCell _ _).heap.size
    rw [show (w12.setCell ⟨bR, 1, none⟩ rv').heap.size = w12.heap.size by simp [World.setCell]]
    omega
  · exact ((f.trans (((Ext.refl w10).drew.alloc o).frP _)).grown g (fun k hk => own_low hru hk.1)).setCell (fun q => q.2.1 rfl) 1 rv'
set_option maxHeartbeats 4000000 in
set_option maxRecDepth 100000 in
theorem reader_rule (bR mb base : Nat) (rv lv : Value) (s : CfgSt) (l : UMap) (c : Nat) (ws : List Wd) (w : World) (hm : RdMem w bR mb base rv s l c) (hw : WdsAt w lv ws) (hne : ws ≠ []) (hok : ∀ x ∈ ws, x.t.size ≤ maxLen) (hlen : ws.length ≤ 2000000) (hrl : s.rs.length ≤ 1000) :
    Calls Tryz.prog 47 #[.pointer (some ⟨bR, 0, none⟩), lv] w fun x w' => RlIs w bR mb base s ws x w' := by
  obtain ⟨a, c2, rfl, hc⟩ := hw
  obtain ⟨b, o, rfl, hcells⟩ := hc hne
  have hl0 : 0 < ws.length := List.length_pos_iff.2 hne
  have CE : Hid (∀ j (h : j < ws.length) (V : World), Ext w V → V.cell? ⟨b, o + j * 3, none⟩ = some (.string ws[j].t) ∧ V.cell? ⟨b, o + j * 3 + 1, none⟩ = some (.int .i64 ws[j].line) ∧ V.cell? ⟨b, o + j * 3 + 2, none⟩ = some (.int .i64 ws[j].col)) := Lib.hid (fun j h V e =>
    ⟨e.keep (hcells j h 0 (by decide)), e.keep (hcells j h 1 (by decide)), e.keep (hcells j h 2 (by decide))⟩)
  have HM := Lib.hid hm
  have HOK := Lib.hid hok
  clear hcells hc hm hok
  have hml : (2000000 : Nat) + 1 ≤ maxLen := by decide
  obtain ⟨i0, hi, hz0, hz1, hz2⟩ := info_parts pfx_info
  have HI := Lib.hid (And.intro hi (And.intro hz0 (And.intro hz1 hz2)))
  clear hi hz0 hz1 hz2
  have HTL : Hid ((wTexts ws).length = ws.length) := Lib.hid (List.length_map _)
  go_enter Tryz.func47, Tryz.ntmps47
  go_wp2
  go_loopw [4, 15] (fun v i wr => ∃ (k : Nat), k ≤ ws.length ∧ i = .int .i64 k ∧ PfxRow w.heap.size wr v (wTexts (ws.take k)) ∧ Ext w wr) (fun _ i _ => ws.length - (intOf i).toNat)
  case atStart => exact ⟨0, by omega, rfl, RowOf.empty _ _ _ _ _, Ext.refl _⟩
  case round =>
    obtain ⟨k, hk, rfl, hrow, hx⟩ := hrel
    have HROW := Lib.hid hrow
    have hxs := Ext.sz hx
    have HX := Lib.hid hx
    clear hrow
    by_cases hlt : k < ws.length
    · obtain ⟨c0, c1, c3⟩ := CE.out k hlt wr hx
      have htk : wTexts (ws.take (k + 1)) = wTexts (ws.take k) ++ [ws[k].t] := by unfold wTexts; rw [List.take_succ_eq_append_getElem hlt, List.map_append]; rfl
      have htl : (wTexts (ws.take k)).length ≤ k := by unfold wTexts; rw [List.length_map, List.length_take]; omega
      have HTL := Lib.hid htl
      obtain ⟨r, hr⟩ : ∃ r, ws[k] = r := ⟨_, rfl⟩
      rw [hr] at c0 c1 c3 htk
      have HTK := Lib.hid htk
      clear hr htk htl hx
      go_upto_region 4 with fail
      have bS : Blk (wr.alloc (.cells #[.string r.t, .int .i64 r.line, .int .i64 r.col] 108)) wr.heap.size r.cells 108 := Blk.new wr _ _
      have hxa : Ext wr (wr.alloc (.cells #[.string r.t, .int .i64 r.line, .int .i64 r.col] 108)) := (Ext.refl wr).alloc _
      generalize wr.alloc (.cells #[.string r.t, .int .i64 r.line, .int .i64 r.col] 108) = wa at *
      have s0 : wa.cell? ⟨wr.heap.size, 0, none⟩ = some (.string r.t) := bS.cell 0
      have HXA := Lib.hid hxa
      have hsa := Ext.sz hxa
      clear bS hxa c0 c1 c3
      go_wp2_with (first
        | (at_builtin; refine wpList_append_own _ rfl (.tmp 19) (.tmp 22) 32 rfl w.heap.size 9 i0 (.string ⟨#[]⟩) 1 16 Tryz.underlying32 HI.out.1 HI.out.2.1 HI.out.2.2.1 HI.out.2.2.2 rfl (by decide) _ _ _ rfl ((own_ext HROW.out.own HXA.out).alloc _) ⟨wa.heap.size, 0, none⟩ 1 1 [.string r.t] rfl rfl (blk_news (C := #[.string r.t]) (Blk.new _ _ _)) (by simp [Value.oneCell']) (by have := HTL.out; omega) (by have := HTL.out; omega) (by simp; omega) ?_; rintro v' w4 hown hgrow -)
        | fail)
      have hx4 : Ext w w4 := Ext.grownAt ((HX.out.trans HXA.out).alloc _) ((own_ext HROW.out.own HXA.out).alloc _) (Nat.le_refl _) hgrow
      have hrow4 : PfxRow w.heap.size w4 v' (wTexts (ws.take (k + 1))) := pfxrow_more hown HTK.out
      clear hown hgrow
      go_wp2
      go_roundw
      case rel => exact ⟨k + 1, by omega, by go_num, hrow4, hx4⟩
      case measure => simp [intOf]; omega
    · have hkl : k = ws.length := by omega
      have hroz := HROW.out
      rw [hkl, List.take_length] at hroz
      have hstr := pfxrow_strs hroz (fun s hs => by obtain ⟨q, hq, rfl⟩ := List.mem_map.1 hs; exact HOK.out q hq)
      have HPR := Lib.hid (rule_Parse _ (wTexts ws) wr hstr)
      have HAT := Lib.hid (ruleParse_at (wTexts ws) (by intro e; have := HTL.out; rw [e] at this; simp at this; omega))
      clear hroz hstr HROW HI
      have HRE : Hid (rlErr s.rs ws = if (ruleParse (wTexts ws)).err ≠ 0 then ((ruleParse (wTexts ws)).err, (ruleParse (wTexts ws)).at_.toNat) else if hasPre s.rs (ruleParse (wTexts ws)).p = true then (28, if (ruleParse (wTexts ws)).p = ⟨#[]⟩ then 0 else 1) else if 1000 ≤ s.rs.length then (32, 0) else (0, 0)) := Lib.hid rfl
      have HPL : Hid ((ruleParse (wTexts ws)).p ≠ ⟨#[]⟩ → ws.length = 5) := Lib.hid (fun q => by rw [← HTL.out]; exact ruleParse_pre q)
      have HWA : Hid (∀ i (h : i < ws.length), wdAt ws i = ws[i]) := Lib.hid (fun i h => by unfold wdAt; rw [List.getD_eq_getElem?_getD, List.getElem?_eq_getElem h]; rfl)
      have HPP : Hid (prRl (ruleParse (wTexts ws)) = ⟨(ruleParse (wTexts ws)).p, (ruleParse (wTexts ws)).e, (ruleParse (wTexts ws)).b, (ruleParse (wTexts ws)).k⟩) := Lib.hid rfl
      have HIS : Hid (∀ x V, FrP (rdP bR mb base) w V → ((rlErr s.rs ws).1 = 0 → x = .returned (.tuple #[]) ∧ ∃ rv l c, RdMem V bR mb base rv ⟨s.most, s.rs ++ [prRl (ruleParse (wTexts ws))]⟩ l c) → ((rlErr s.rs ws).1 ≠ 0 → x = faultE (rlErr s.rs ws).1 (wdAt ws (rlErr s.rs ws).2).line (wdAt ws (rlErr s.rs ws).2).col) → RlIs w bR mb base s ws x V) := Lib.hid (fun x V f q1 q2 => by
        refine ⟨f, ?_⟩
        by_cases h : (rlErr s.rs ws).1 = 0
        · exact Or.inl ⟨h, q1 h⟩
        · exact Or.inr ⟨h, q2 h⟩)
      obtain ⟨hat0, hat1⟩ := HAT.out
      rw [HTL.out] at hat1
      unfold PRes.v parseRet at HPR
      generalize hP : ruleParse (wTexts ws) = P at *
      obtain ⟨pp, pe, pb, pk, perr, pat⟩ := P
      dsimp only at *
      obtain ⟨A, rfl⟩ := Int.eq_ofNat_of_zero_le hat0
      have hA : A < ws.length := by omega
      have hn0 : (0 : Int) < (ws.length : Int) := by omega
      clear hat0 HAT hP
      go_wp2_with fail
      refine HPR.out.mono ?_
      rintro x w1 ⟨rfl, hx1⟩
      have HX1 := Lib.hid (HX.out.trans hx1)
      have bP := Blk.new w1 #[.string pp, .int .u64 pe, .int .u64 pb, .int .u8 pk] 37
      have hx2 : Ext w1 (w1.alloc (.cells #[.string pp, .int .u64 pe, .int .u64 pb, .int .u8 pk] 37)) := (Ext.refl w1).alloc _
      clear hx1 HPR
      go_upto_region 7 with fail
      generalize w1.alloc (.cells #[.string pp, .int .u64 pe, .int .u64 pb, .int .u8 pk] 37) = w2 at *
      generalize hbP : w1.heap.size = qP at *
      have HQL : Hid (w.heap.size ≤ qP) := Lib.hid (by rw [← hbP]; exact HX1.out.sz)
      have HX2 := Lib.hid (HX1.out.trans hx2)
      have HBP := Lib.hid bP
      clear bP hx2 hbP
      obtain ⟨a0, a1, a2⟩ := CE.out A hA w2 HX2.out
      obtain ⟨z0, z1, z2⟩ := CE.out 0 hl0 w2 HX2.out
      rw [Nat.zero_mul, Nat.add_zero] at z0 z1 z2
      have HWAA := Lib.hid (HWA.out A hA)
      have HWA0 := Lib.hid (HWA.out 0 hl0)
      by_cases hE : perr = 0
      · subst hE
        clear HWAA
        generalize ws[A] = xA at *
        go_wp2_with fail
        refine (config_must_yes 0 xA _).mono ?_
        rintro x w3 ⟨rfl, e3⟩
        have HX3 := Lib.hid (HX2.out.trans e3)
        have cM : w3.cell? ⟨bR, 2, none⟩ = some (.map (some mb)) := (HM.out.rd.ext HX3.out).cell 2
        have cP : w3.cell? ⟨qP, 0, none⟩ = some (.string pp) := (HBP.out.ext e3).cell 0
        have HSW : Hid (∀ V, Ext w3 V → V.cell? ⟨bR, 2, none⟩ = some (.map (some mb)) ∧ V.cell? ⟨qP, 0, none⟩ = some (.string pp) ∧ (Instr.lookup 103 (.map (some mb)) (.string pp) true).run Tryz.prog V = .ok (.tuple #[.agg #[], .bool (hasPre s.rs pp)]) V ∧ Ext w3 V) := Lib.hid (fun V e => by
          have h := set_look (V := V) (HM.out.met.ext (HX3.out.trans e)) pp
          rw [has_pre HM.out.keys] at h
          exact ⟨(HM.out.rd.ext (HX3.out.trans e)).cell 2, (HBP.out.ext (e3.trans e)).cell 0, h, e⟩)
        have HBP3 := Lib.hid (HBP.out.ext e3)
        have lR := (HM.out.rd.ext HX3.out).lt
        clear e3 a0 a1 a2 z0 z1 z2 HBP
        go_upto_region 8 with fail
        go_cut [11] from 10 to 92 (fun x11 wx => x11 = .bool (hasPre s.rs pp) ∧ Ext w3 wx)
        case first =>
          obtain ⟨f1, f2, f3, -⟩ := HSW.out w3.drew (Ext.refl _).drew
          obtain ⟨f4, f5, f6, -⟩ := HSW.out (w3.alloc (.cells #[] 185)).drew ((Ext.refl _).alloc _).drew
          have f4' : (w3.alloc (.cells #[] 185)).cell? ⟨bR, 2, none⟩ = some (.map (some mb)) := f4
          have f5' : (w3.alloc (.cells #[] 185)).cell? ⟨qP, 0, none⟩ = some (.string pp) := f5
          go_region
          all_goals
            go_wp2
            go_meet
            exact ⟨rfl, ((Ext.refl _).alloc _).drew⟩
        case rest =>
        obtain ⟨rfl, hx4⟩ := hcut
        have HX4 := Lib.hid (HX3.out.trans hx4)
        have HB4 := Lib.hid (HBP3.out.ext hx4)
        have cP4 : wc.cell? ⟨qP, 0, none⟩ = some (.string pp) := HB4.out.cell 0
        have lP4 := HB4.out.lt
        obtain ⟨z0, z1, z2⟩ := CE.out 0 hl0 wc HX4.out
        rw [Nat.zero_mul, Nat.add_zero] at z0 z1 z2
        have HW1 : Hid (∀ V, Ext w V → pp ≠ ⟨#[]⟩ → ∃ x1, wdAt ws 1 = x1 ∧ (1 : Int) < (ws.length : Int) ∧ V.cell? ⟨b, o + 3, none⟩ = some (.string x1.t) ∧ V.cell? ⟨b, o + 3 + 1, none⟩ = some (.int .i64 x1.line) ∧ V.cell? ⟨b, o + 3 + 2, none⟩ = some (.int .i64 x1.col)) := Lib.hid (fun V e q => by
          have h5 := HPL.out q
          have h := CE.out 1 (by omega) V e
          rw [Nat.one_mul] at h
          exact ⟨ws[1], HWA.out 1 (by omega), by omega, h⟩)
        have HZ0 : Hid (∀ V, Ext w V → V.cell? ⟨b, o, none⟩ = some (.string ws[0].t) ∧ V.cell? ⟨b, o + 1, none⟩ = some (.int .i64 ws[0].line) ∧ V.cell? ⟨b, o + 2, none⟩ = some (.int .i64 ws[0].col)) := Lib.hid (fun V e => by
          have h := CE.out 0 hl0 V e
          rw [Nat.zero_mul, Nat.add_zero] at h
          exact h)
        generalize ws[0] = x0 at *
        clear hx4 HBP3 HSW
        go_upto_region 10 with fail
        have bW := Blk.new wc #[.string x0.t, .int .i64 x0.line, .int .i64 x0.col] 108
        have hx5 : Ext wc (wc.alloc (.cells #[.string x0.t, .int .i64 x0.line, .int .i64 x0.col] 108)) := (Ext.refl wc).alloc _
        generalize wc.alloc (.cells #[.string x0.t, .int .i64 x0.line, .int .i64 x0.col] 108) = w5 at *
        generalize hqW : wc.heap.size = qW at *
        have hQW : w.heap.size ≤ qW ∧ qP < qW := ⟨by rw [← hqW]; exact HX4.out.sz, lP4⟩
        obtain ⟨xW, hxW⟩ : ∃ xW, (if pp = ⟨#[]⟩ then x0 else wdAt ws 1) = xW := ⟨_, rfl⟩
        have HXW := Lib.hid hxW
        have HX5 := Lib.hid (HX4.out.trans hx5)
        have HB5 := Lib.hid (HB4.out.ext hx5)
        have HBW := Lib.hid bW
        have cP5 : w5.cell? ⟨qP, 0, none⟩ = some (.string pp) := HB5.out.cell 0
        clear hxW hx5 bW z0 z1 z2 cP4 lP4
        have HPB : Hid (pp = ⟨#[]⟩ ↔ (!pp.toList.isEmpty) = false) := Lib.hid (empty_iff pp)
        go_upto_if 54 with fail
        generalize (!pp.toList.isEmpty) = B at *
        go_cut [13] from 13 to 92 (fun x13 wx => Blk wx qW xW.cells 108 ∧ ExtB qW w5 wx)
        case first =>
          cases B with
          | false =>
            have hpp := HPB.out.2 rfl
            have hW : xW = x0 := by rw [← HXW.out, if_pos hpp]
            subst hW
            clear hpp
            go_wp2
            go_meet
            exact ⟨HBW.out, ExtB.refl _ _⟩
          | true =>
            have hpp : pp ≠ ⟨#[]⟩ := fun q => by have := HPB.out.1 q; cases this
            obtain ⟨x1, hx1, hl1, y0, y1, y2⟩ := HW1.out w5 HX5.out hpp
            have hW : xW = x1 := by rw [← HXW.out, if_neg hpp, hx1]
            subst hW
            have b0 : w5.cell? ⟨qW, 0, none⟩ = some (.string x0.t) := HBW.out.cell 0
            have b1 : w5.cell? ⟨qW, 1, none⟩ = some (.int .i64 x0.line) := HBW.out.cell 1
            have b2 : w5.cell? ⟨qW, 2, none⟩ = some (.int .i64 x0.col) := HBW.out.cell 2
            have f0 := HBW.out.free 0
            have f1 := HBW.out.free 1
            have f2 := HBW.out.free 2
            have lW := HBW.out.lt
            clear hpp hx1
            go_wp2
            go_meet
            exact ⟨((HBW.out.set 0 _).set 1 _).set 2 _, (((ExtB.refl qW w5).setCell 0 _).setCell 1 _).setCell 2 _⟩
        case rest =>
        obtain ⟨hB6, hx6⟩ := hcut
        have HX6 := Lib.hid (HX5.out.own hx6 hQW.1)
        have HB6 := Lib.hid (HB5.out.extB hx6 (by omega))
        have e0 : wc.cell? ⟨qW, 0, none⟩ = some (.string xW.t) := hB6.cell 0
        have e1 : wc.cell? ⟨qW, 1, none⟩ = some (.int .i64 xW.line) := hB6.cell 1
        have e2 : wc.cell? ⟨qW, 2, none⟩ = some (.int .i64 xW.col) := hB6.cell 2
        clear hB6 hx6 HBW HB4 HB5 HW1 HPL CE
        cases hT : hasPre s.rs pp with
        | true =>
          have HER : Hid (rlErr s.rs ws = (28, if pp = ⟨#[]⟩ then 0 else 1)) := Lib.hid (by rw [HRE.out, if_neg (by simp), if_pos hT])
          have HWX : Hid (wdAt ws (if pp = ⟨#[]⟩ then 0 else 1) = xW) := Lib.hid (by
            rw [← HXW.out]
            split
            · exact HWA0.out
            · rfl)
          go_wp2_with fail
          refine (config_must_no 28 xW _).mono ?_
          rintro x w7 ⟨rfl, e7⟩
          have HF := Lib.hid (HIS.out (faultE 28 xW.line xW.col) w7 ((HX6.out.trans e7).frP _) (fun q => by rw [HER.out] at q; cases q) (fun _ => by rw [HER.out, HWX.out]))
          unfold faultE at *
          go_wp2
          exact ⟨rfl, HF.out⟩
        | false =>
          have HTF := Lib.hid hT
          go_wp2_with fail
          refine (config_must_yes 28 xW _).mono ?_
          rintro x w7 ⟨rfl, e7⟩
          have HX7 := Lib.hid (HX6.out.trans e7)
          have HB7 := Lib.hid (HB6.out.ext e7)
          clear e7 e0 e1 e2 HB6
          obtain ⟨y0, y1, y2⟩ := HZ0.out w7 HX7.out
          have HRV : Hid (∃ ra rc, rv = .slice ra s.rs.length rc) := Lib.hid (by
            obtain ⟨-, ⟨h, h0⟩ | ⟨g', cap, cur, h, -⟩⟩ := HM.out.rules
            · exact ⟨none, 0, by rw [h, h0]⟩
            · exact ⟨_, _, h⟩)
          obtain ⟨ra, rc, hrv⟩ := HRV.out
          subst hrv
          have q0 := fun s => grown_cell (w := w7) y0 s
          have q1 := fun s => grown_cell (w := w7) y1 s
          have q2 := fun s => grown_cell (w := w7) y2 s
          have qR : ∀ t, (grown w7 t).cell? ⟨bR, 1, none⟩ = some (.slice ra s.rs.length rc) := fun t => grown_cell (w := w7) ((HM.out.rd.ext HX7.out).cell 1) t
          clear y0 y1 y2
          by_cases hmany : s.rs.length < 1000
          · have hmi : (s.rs.length : Int) < 1000 := by omega
            have HER : Hid (rlErr s.rs ws = (0, 0)) := Lib.hid (by rw [HRE.out, if_neg (by simp), if_neg (by rw [HTF.out]; simp), if_neg (by omega)])
            go_upto_region 13 with fail
            refine wp_region_grow_tail 10 (by kernel_rfl) (by kernel_rfl) ?_
            simp only [List.take_succ_cons, List.take_zero, List.drop_succ_cons, List.drop_zero]
            repeat (go_big_quiet_step (fail))
            refine wpQuiet_nil ?_
            rintro _ ⟨sg, rfl⟩
            have e8 := HX7.out.trans (grown_ext w7 sg)
            have b8 := HB7.out.ext (grown_ext w7 sg)
            generalize grown w7 sg = w8 at *
            clear q0 q1 q2 qR
            go_wp2_with fail
            refine (config_must_yes 32 x0 _).mono ?_
            rintro x w9 ⟨rfl, e9⟩
            have HX9 := Lib.hid (e8.trans e9)
            have HB9 := Lib.hid (b8.ext e9)
            clear e8 b8 e9 HB7
            have cM9 : w9.cell? ⟨bR, 2, none⟩ = some (.map (some mb)) := (HM.out.rd.ext HX9.out).cell 2
            have cP9 : w9.cell? ⟨qP, 0, none⟩ = some (.string pp) := HB9.out.cell 0
            obtain ⟨w10, hput, hum, hxb⟩ := set_put (V := w9.drew) (key := pp) (HM.out.met.ext HX9.out.drew) (by rw [has_pre HM.out.keys]; exact HTF.out)
            have hx10 : ExtB mb w9 w10 := ⟨hxb.os, hxb.tape, hxb.output, hxb.size, hxb.block⟩
            have HUM := Lib.hid hum
            have HX10 := Lib.hid hx10
            clear hum hxb hx10
            go_upto_region 14 with fail
            go_region
            have HRD : Hid (Blk w10 bR (rdC s.most (.slice ra s.rs.length rc) mb) 105) := Lib.hid ((HM.out.rd.ext HX9.out).extB HX10.out HM.out.ne)
            have HRU : Hid (RuleOwn base w10 (.slice ra s.rs.length rc) s.rs) := Lib.hid (own_extB (own_ext HM.out.rules HX9.out) HX10.out HM.out.b1)
            have hqb : base ≤ qP := Nat.le_trans HM.out.b2 HQL.out
            have hmb1 := HM.out.b1
            have hbr1 := HM.out.b0
            have HB10 := Lib.hid (HB9.out.extB HX10.out (by omega))
            have HB0 : Hid (base ≤ w10.heap.size) := Lib.hid (Nat.le_trans HM.out.b2 (Nat.le_trans HX9.out.sz HX10.out.size))
            have HPN : Hid (some qP ≠ (Value.slice ra s.rs.length rc).ownBlock) := Lib.hid (own_high HM.out.rules HQL.out)
            have HPR : Hid (qP ≠ bR) := Lib.hid (by omega)
            have HKL : Hid ((l ++ [(pp, c)]).map (·.1) = (s.rs ++ [(⟨pp, pe, pb, pk⟩ : Rl)]).map (·.p)) := Lib.hid (by rw [List.map_append, List.map_append, HM.out.keys]; rfl)
            have HF10 : Hid (FrP (rdP bR mb base) w w10) := Lib.hid ((HX9.out.frP _).trans ⟨HX10.out.os, HX10.out.tape, HX10.out.output, HX10.out.size, fun k hk hp => HX10.out.block k hk hp.2.2⟩)
            obtain ⟨i0, hi, hz0, hz1, hz2⟩ := info_parts rule_info
            have HI := Lib.hid (And.intro hi (And.intro hz0 (And.intro hz1 hz2)))
            clear hi hz0 hz1 hz2
            have HL1 : Hid (s.rs.length + 1 ≤ maxLen) := Lib.hid (by omega)
            have HL2 : Hid ((s.rs.length + 1) * 40 ≤ 140737488355328) := Lib.hid (by omega)
            have HL3 : Hid (base ≤ (w10.drew.alloc (.cells #[.string pp, .int .u64 pe, .int .u64 pb, .int .u8 pk] 37)).heap.size) := Lib.hid (by have := HB0.out; simp; omega)
            have HSB : Hid (∀ V, Blk V qP #[.string pp, .int .u64 pe, .int .u64 pb, .int .u8 pk] 37 → V.cell? ⟨qP, 0, none⟩ = some (.string pp) ∧ V.cell? ⟨qP, 1, none⟩ = some (.int .u64 pe) ∧ V.cell? ⟨qP, 2, none⟩ = some (.int .u64 pb) ∧ V.cell? ⟨qP, 3, none⟩ = some (.int .u8 pk)) := Lib.hid (fun V h => ⟨h.cell 0, h.cell 1, h.cell 2, h.cell 3⟩)
            have HS0 := Lib.hid (HSB.out w10.drew HB10.out.drew)
            have HS1 := Lib.hid (HSB.out (w10.drew.alloc (.cells #[.string pp, .int .u64 pe, .int .u64 pb, .int .u8 pk] 37)) (HB10.out.drew.alloc _))
            have cRa : (w10.alloc (.cells #[.string pp, .int .u64 pe, .int .u64 pb, .int .u8 pk] 37)).cell? ⟨bR, 1, none⟩ = some (.slice ra s.rs.length rc) := (HRD.out.alloc _).cell 1
            have cRb : w10.cell? ⟨bR, 1, none⟩ = some (.slice ra s.rs.length rc) := HRD.out.cell 1
            clear hput cM9 cP9 HB9
            go_upto_region 15 with fail
--GEN
            refine wp_region_held_drew (S := fun w' => w'.cell? ⟨qP, 0, none⟩ = some (.string pp) ∧ w'.cell? ⟨qP, 1, none⟩ = some (.int .u64 pe) ∧ w'.cell? ⟨qP, 2, none⟩ = some (.int .u64 pb) ∧ w'.cell? ⟨qP, 3, none⟩ = some (.int .u8 pk)) (by kernel_rfl) HS0.out (fun hHeld => ?_)
            refine wpAnyH_take (i := 0) (v := ?_) rfl (by kernel_rfl) (by kernel_rfl) (by kernel_rfl) (fun _ _ _ h => h) (Or.inl ⟨by rfl, ?_⟩) (by assumption) ?_
            rotate_left
            · intro w hSw
              (try dsimp only at hSw)
              go_simp
              try with_reducible rfl
            try simp only [Go.Act.put, List.getElem_toArray, List.getElem_cons_zero, List.getElem_cons_succ, List.setIfInBounds_toArray, List.set_cons_zero, List.set_cons_succ]
            refine wpAnyH_take (i := 1) (v := ?_) rfl (by kernel_rfl) (by kernel_rfl) (by kernel_rfl) (fun _ _ _ h => h) (Or.inl ⟨by rfl, ?_⟩) (by assumption) ?_
            rotate_left
            · intro w hSw
              (try dsimp only at hSw)
              go_simp
              try with_reducible rfl
            try simp only [Go.Act.put, List.getElem_toArray, List.getElem_cons_zero, List.getElem_cons_succ, List.setIfInBounds_toArray, List.set_cons_zero, List.set_cons_succ]
            refine wpAnyH_take (i := 2) (v := ?_) rfl (by kernel_rfl) (by kernel_rfl) (by kernel_rfl) (fun _ _ _ h => h) (Or.inl ⟨by rfl, ?_⟩) (by assumption) ?_
            rotate_left
            · intro w hSw
              (try dsimp only at hSw)
              go_simp
              try with_reducible rfl
            try simp only [Go.Act.put, List.getElem_toArray, List.getElem_cons_zero, List.getElem_cons_succ, List.setIfInBounds_toArray, List.set_cons_zero, List.set_cons_succ]
            refine wpAnyH_take (i := 3) (v := ?_) rfl (by kernel_rfl) (by kernel_rfl) (by kernel_rfl) (fun _ _ _ h => h) (Or.inl ⟨by rfl, ?_⟩) (by assumption) ?_
            rotate_left
            · intro w hSw
              (try dsimp only at hSw)
              go_simp
              try with_reducible rfl
            try simp only [Go.Act.put, List.getElem_toArray, List.getElem_cons_zero, List.getElem_cons_succ, List.setIfInBounds_toArray, List.set_cons_zero, List.set_cons_succ]
            refine wpAnyH_take (i := 4) (v := ?_) rfl (by kernel_rfl) (by kernel_rfl) (by kernel_rfl) (fun _ _ _ h => h) (Or.inl ⟨by rfl, ?_⟩) (by assumption) ?_
            rotate_left
            · intro w hSw
              (try dsimp only at hSw)
              go_simp
              try with_reducible rfl
            try simp only [Go.Act.put, List.getElem_toArray, List.getElem_cons_zero, List.getElem_cons_succ, List.setIfInBounds_toArray, List.set_cons_zero, List.set_cons_succ]
            refine wpAnyH_take (i := 6) (v := ?_) rfl (by kernel_rfl) (by kernel_rfl) (by kernel_rfl) (fun _ _ _ h => h) (Or.inl ⟨by rfl, ?_⟩) (by assumption) ?_
            rotate_left
            · intro w hSw
              (try dsimp only at hSw)
              go_simp
              try with_reducible rfl
            try simp only [Go.Act.put, List.getElem_toArray, List.getElem_cons_zero, List.getElem_cons_succ, List.setIfInBounds_toArray, List.set_cons_zero, List.set_cons_succ]
            refine wpAnyH_ready (rs := [5, 7]) (by kernel_rfl) (by simp) ?_
            refine AllReadyH.cons rfl (fun K hK => ?_) (AllReadyH.cons rfl (fun K hK => ?_) AllReadyH.nil)
            · go_simp
              refine hK.out _ _ ?_ (fun hHeld => ?_)
              · (try dsimp only)
                exact HS0.out
              clear hK K
              try simp only [Go.Act.put, List.getElem_toArray, List.getElem_cons_zero, List.getElem_cons_succ, List.setIfInBounds_toArray, List.set_cons_zero, List.set_cons_succ]
              refine wpAnyH_ready (rs := [7]) (by kernel_rfl) (by simp) ?_
              refine AllReadyH.cons rfl (fun K hK => ?_) AllReadyH.nil
              go_simp
              refine hK.out _ _ ?_ (fun hHeld => ?_)
              · (try dsimp only)
                exact HS1.out
              clear hK K
              try simp only [Go.Act.put, List.getElem_toArray, List.getElem_cons_zero, List.getElem_cons_succ, List.setIfInBounds_toArray, List.set_cons_zero, List.set_cons_succ]
              refine wpAnyH_ready (rs := [8]) (by kernel_rfl) (by simp) ?_
              refine AllReadyH.cons rfl (fun K hK => ?_) AllReadyH.nil
              refine step_append_own rfl (.tmp 85) (.tmp 87) 26 rfl base 37 i0 (.agg #[.string ⟨#[]⟩, .int .u64 0, .int .u64 0, .int .u8 0]) 4 40 Tryz.underlying26 HI.out.1 HI.out.2.1 HI.out.2.2.1 HI.out.2.2.2 rfl (by decide) _ _ _ rfl (own_ext HRU.out (((Ext.refl w10).drew).alloc _)) ⟨w10.heap.size, 0, none⟩ 1 1 [.string pp, .int .u64 pe, .int .u64 pb, .int .u8 pk] rfl rfl (blk_news (C := #[.string pp, .int .u64 pe, .int .u64 pb, .int .u8 pk]) (Blk.new _ _ _)) (by simp [Value.oneCell']) HL1.out HL2.out HL3.out ?_
              rintro v12 w12 hown12 hgrow12
              obtain ⟨g12, cap12, rfl⟩ := ownsRow_succ hown12
              have bR12 := Blk.grownLow ((HRD.out.drew).alloc _) HRU.out hgrow12 HM.out.b0
              have cR12 : w12.cell? ⟨bR, 1, none⟩ = some (.slice ra s.rs.length rc) := bR12.cell 1
              have fR12 := bR12.free 1
              have lR12 := bR12.lt
              have HBP12 := Lib.hid (Blk.grownOff ((HB10.out.drew).alloc _) HPN.out hgrow12)
              have HS12 := Lib.hid (HSB.out w12 HBP12.out)
              have HS13 := Lib.hid (HSB.out (w12.setCell ⟨bR, 1, none⟩ (.slice (some ⟨g12, 0, none⟩) (s.rs.length + 1) cap12)) (HBP12.out.other (a := ⟨bR, 1, none⟩) HPR.out _))
              have HFIN := Lib.hid (rd_push (o := (.cells #[.string pp, .int .u64 pe, .int .u64 pb, .int .u8 pk] 37)) (r := ⟨pp, pe, pb, pk⟩) HRD.out HUM.out HKL.out HRU.out HM.out.b0 HM.out.b1 HB0.out HM.out.ne HF10.out hgrow12 hown12)
              refine hK.out _ _ ?_ (fun hHeld => ?_)
              · (try dsimp only)
                exact HS12.out
              clear hK K
              try simp only [Go.Act.put, List.getElem_toArray, List.getElem_cons_zero, List.getElem_cons_succ, List.setIfInBounds_toArray, List.set_cons_zero, List.set_cons_succ]
              refine wpAnyH_take (i := 9) (v := ?_) rfl (by kernel_rfl) (by kernel_rfl) (by kernel_rfl) (fun _ _ _ h => h) (Or.inl ⟨by rfl, ?_⟩) (by assumption) ?_
              rotate_left
              · intro w hSw
                (try dsimp only at hSw)
                go_simp
                try with_reducible rfl
              try simp only [Go.Act.put, List.getElem_toArray, List.getElem_cons_zero, List.getElem_cons_succ, List.setIfInBounds_toArray, List.set_cons_zero, List.set_cons_succ]
              refine wpAnyH_take (i := 10) (v := ?_) rfl (by kernel_rfl) (by kernel_rfl) (by kernel_rfl) (fun _ _ _ h => h) (Or.inl ⟨by rfl, ?_⟩) (by assumption) ?_
              rotate_left
              · intro w hSw
                (try dsimp only at hSw)
                go_simp
                try with_reducible rfl
              try simp only [Go.Act.put, List.getElem_toArray, List.getElem_cons_zero, List.getElem_cons_succ, List.setIfInBounds_toArray, List.set_cons_zero, List.set_cons_succ]
              refine wpAnyH_take (i := 11) (v := ?_) rfl (by kernel_rfl) (by kernel_rfl) (by kernel_rfl) (fun _ _ _ h => h) (Or.inl ⟨by rfl, ?_⟩) (by assumption) ?_
              rotate_left
              · intro w hSw
                (try dsimp only at hSw)
                go_simp
                try with_reducible rfl
              try simp only [Go.Act.put, List.getElem_toArray, List.getElem_cons_zero, List.getElem_cons_succ, List.setIfInBounds_toArray, List.set_cons_zero, List.set_cons_succ]
              refine wpAnyH_ready (rs := [12]) (by kernel_rfl) (by simp) ?_
              refine AllReadyH.cons rfl (fun K hK => ?_) AllReadyH.nil
              go_simp
              refine hK.out _ _ ?_ (fun hHeld => ?_)
              · (try dsimp only)
                exact HS13.out
              clear hK K
              try simp only [Go.Act.put, List.getElem_toArray, List.getElem_cons_zero, List.getElem_cons_succ, List.setIfInBounds_toArray, List.set_cons_zero, List.set_cons_succ]
              refine wpAnyH_done (by kernel_rfl) ?_ _
              go_wp2
              go_end0
              exact HIS.out _ _ HFIN.out.2 (fun _ => ⟨rfl, _, _, _, HFIN.out.1⟩) (fun q => absurd (by rw [HER.out]) q)
            · go_simp
              refine hK.out _ _ ?_ (fun hHeld => ?_)
              · (try dsimp only)
                exact HS1.out
              clear hK K
              try simp only [Go.Act.put, List.getElem_toArray, List.getElem_cons_zero, List.getElem_cons_succ, List.setIfInBounds_toArray, List.set_cons_zero, List.set_cons_succ]
              refine wpAnyH_ready (rs := [5]) (by kernel_rfl) (by simp) ?_
              refine AllReadyH.cons rfl (fun K hK => ?_) AllReadyH.nil
              go_simp
              refine hK.out _ _ ?_ (fun hHeld => ?_)
              · (try dsimp only)
                exact HS1.out
              clear hK K
              try simp only [Go.Act.put, List.getElem_toArray, List.getElem_cons_zero, List.getElem_cons_succ, List.setIfInBounds_toArray, List.set_cons_zero, List.set_cons_succ]
              refine wpAnyH_ready (rs := [8]) (by kernel_rfl) (by simp) ?_
              refine AllReadyH.cons rfl (fun K hK => ?_) AllReadyH.nil
              refine step_append_own rfl (.tmp 85) (.tmp 87) 26 rfl base 37 i0 (.agg #[.string ⟨#[]⟩, .int .u64 0, .int .u64 0, .int .u8 0]) 4 40 Tryz.underlying26 HI.out.1 HI.out.2.1 HI.out.2.2.1 HI.out.2.2.2 rfl (by decide) _ _ _ rfl (own_ext HRU.out (((Ext.refl w10).drew).alloc _)) ⟨w10.heap.size, 0, none⟩ 1 1 [.string pp, .int .u64 pe, .int .u64 pb, .int .u8 pk] rfl rfl (blk_news (C := #[.string pp, .int .u64 pe, .int .u64 pb, .int .u8 pk]) (Blk.new _ _ _)) (by simp [Value.oneCell']) HL1.out HL2.out HL3.out ?_
              rintro v12 w12 hown12 hgrow12
              obtain ⟨g12, cap12, rfl⟩ := ownsRow_succ hown12
              have bR12 := Blk.grownLow ((HRD.out.drew).alloc _) HRU.out hgrow12 HM.out.b0
              have cR12 : w12.cell? ⟨bR, 1, none⟩ = some (.slice ra s.rs.length rc) := bR12.cell 1
              have fR12 := bR12.free 1
              have lR12 := bR12.lt
              have HBP12 := Lib.hid (Blk.grownOff ((HB10.out.drew).alloc _) HPN.out hgrow12)
              have HS12 := Lib.hid (HSB.out w12 HBP12.out)
              have HS13 := Lib.hid (HSB.out (w12.setCell ⟨bR, 1, none⟩ (.slice (some ⟨g12, 0, none⟩) (s.rs.length + 1) cap12)) (HBP12.out.other (a := ⟨bR, 1, none⟩) HPR.out _))
              have HFIN := Lib.hid (rd_push (o := (.cells #[.string pp, .int .u64 pe, .int .u64 pb, .int .u8 pk] 37)) (r := ⟨pp, pe, pb, pk⟩) HRD.out HUM.out HKL.out HRU.out HM.out.b0 HM.out.b1 HB0.out HM.out.ne HF10.out hgrow12 hown12)
              refine hK.out _ _ ?_ (fun hHeld => ?_)
              · (try dsimp only)
                exact HS12.out
              clear hK K
              try simp only [Go.Act.put, List.getElem_toArray, List.getElem_cons_zero, List.getElem_cons_succ, List.setIfInBounds_toArray, List.set_cons_zero, List.set_cons_succ]
              refine wpAnyH_take (i := 9) (v := ?_) rfl (by kernel_rfl) (by kernel_rfl) (by kernel_rfl) (fun _ _ _ h => h) (Or.inl ⟨by rfl, ?_⟩) (by assumption) ?_
              rotate_left
              · intro w hSw
                (try dsimp only at hSw)
                go_simp
                try with_reducible rfl
              try simp only [Go.Act.put, List.getElem_toArray, List.getElem_cons_zero, List.getElem_cons_succ, List.setIfInBounds_toArray, List.set_cons_zero, List.set_cons_succ]
              refine wpAnyH_take (i := 10) (v := ?_) rfl (by kernel_rfl) (by kernel_rfl) (by kernel_rfl) (fun _ _ _ h => h) (Or.inl ⟨by rfl, ?_⟩) (by assumption) ?_
              rotate_left
              · intro w hSw
                (try dsimp only at hSw)
                go_simp
                try with_reducible rfl
              try simp only [Go.Act.put, List.getElem_toArray, List.getElem_cons_zero, List.getElem_cons_succ, List.setIfInBounds_toArray, List.set_cons_zero, List.set_cons_succ]
              refine wpAnyH_take (i := 11) (v := ?_) rfl (by kernel_rfl) (by kernel_rfl) (by kernel_rfl) (fun _ _ _ h => h) (Or.inl ⟨by rfl, ?_⟩) (by assumption) ?_
              rotate_left
              · intro w hSw
                (try dsimp only at hSw)
                go_simp
                try with_reducible rfl
              try simp only [Go.Act.put, List.getElem_toArray, List.getElem_cons_zero, List.getElem_cons_succ, List.setIfInBounds_toArray, List.set_cons_zero, List.set_cons_succ]
              refine wpAnyH_ready (rs := [12]) (by kernel_rfl) (by simp) ?_
              refine AllReadyH.cons rfl (fun K hK => ?_) AllReadyH.nil
              go_simp
              refine hK.out _ _ ?_ (fun hHeld => ?_)
              · (try dsimp only)
                exact HS13.out
              clear hK K
              try simp only [Go.Act.put, List.getElem_toArray, List.getElem_cons_zero, List.getElem_cons_succ, List.setIfInBounds_toArray, List.set_cons_zero, List.set_cons_succ]
              refine wpAnyH_done (by kernel_rfl) ?_ _
              go_wp2
              go_end0
              exact HIS.out _ _ HFIN.out.2 (fun _ => ⟨rfl, _, _, _, HFIN.out.1⟩) (fun q => absurd (by rw [HER.out]) q)
--NEG
          · have hmi : ¬ (s.rs.length : Int) < 1000 := by omega
            have HER : Hid (rlErr s.rs ws = (32, 0)) := Lib.hid (by rw [HRE.out, if_neg (by simp), if_neg (by rw [HTF.out]; simp), if_pos (by omega)])
            have hmd : decide ((s.rs.length : Int) < 1000) = false := decide_eq_false hmi
            go_upto_region 13 with fail
            refine wp_region_grow_tail 10 (by kernel_rfl) (by kernel_rfl) ?_
            simp only [List.take_succ_cons, List.take_zero, List.drop_succ_cons, List.drop_zero]
            repeat (go_big_quiet_step (fail))
            refine wpQuiet_nil ?_
            rintro _ ⟨sg, rfl⟩
            have e8 := HX7.out.trans (grown_ext w7 sg)
            generalize grown w7 sg = w8 at *
            clear q0 q1 q2 qR
            go_wp2_with fail
            refine (config_must_no 32 x0 _).mono ?_
            rintro x w9 ⟨rfl, e9⟩
            have HF := Lib.hid (HIS.out (faultE 32 x0.line x0.col) w9 ((e8.trans e9).frP _) (fun q => by rw [HER.out] at q; cases q) (fun _ => by rw [HER.out, HWA0.out]))
            unfold faultE at *
            go_wp2
            exact ⟨rfl, HF.out⟩
      · have hEb : (perr == 0) = false := by simpa using hE
        have HER : Hid (rlErr s.rs ws = (perr, A)) := Lib.hid (by rw [HRE.out, if_pos hE]; rfl)
        have HEN := Lib.hid hE
        generalize ws[A] = xA at *
        clear hE
        go_wp2_with fail
        refine (config_must_no perr xA _).mono ?_
        rintro x w3 ⟨rfl, e3⟩
        have HF := Lib.hid (HIS.out (faultE perr xA.line xA.col) w3 ((HX2.out.trans e3).frP _) (fun q => by rw [HER.out] at q; exact absurd q HEN.out) (fun _ => by rw [HER.out, HWAA.out]))
        unfold faultE at *
        go_wp2
        exact ⟨rfl, HF.out⟩
end Go.Proofs.YtknlojlcahgnoaaGreat
