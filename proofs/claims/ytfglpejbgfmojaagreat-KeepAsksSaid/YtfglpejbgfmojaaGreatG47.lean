/- Walk: tollerlaw15.Both. -/
import Derived.Test.YtfglpejbgfmojaaGreatG43
import Derived.Test.YtfglpejbgfmojaaGreatG40
import Derived.Test.YtfglpejbgfmojaaGreatG41

/- Walk: tollerlaw15.Both. -/
namespace Go.Proofs.YtfglpejbgfmojaaGreat
open Go.RowKit
set_option linter.unusedVariables false
set_option linter.unusedSimpArgs false
attribute [local go_sem ↓] Go.wp_at_zero Go.wp_at_succ
theorem blk_with3 {w : World} {b : Nat} {G : Prop} (C : Array Value) (t : TypeId) (h : Blk w b C t) (k : Blk w b C t → G) : G := k h

theorem RelAt.more {B : Nat} {w : World} {t m c : Nat} {most clock : Int} {l : SMap} {v : Value} {all : List Slot} {n : Nat} (h : RelAt B w t m c most clock l v all n) : RelAt B w t m c most clock l v all (n + 1) :=
  ⟨h.tab, h.ok, h.row, h.rel, Nat.le_succ_of_le h.lenA, Nat.le_succ_of_le h.lenL, h.bt, h.bm, h.n0, h.n1⟩
theorem RelAt.up30 {B : Nat} {w : World} {t m c : Nat} {most clock : Int} {l : SMap} {v : Value} {all : List Slot} {n : Nat} (h : RelAt B w t m c most clock l v all n) (hn : n ≤ 30) : RelAt B w t m c most clock l v all 30 :=
  ⟨h.tab, h.ok, h.row, h.rel, Nat.le_trans h.lenA hn, Nat.le_trans h.lenL hn, h.bt, h.bm, h.n0, h.n1⟩
theorem RelAt.setNe {B : Nat} {w : World} {t m c b : Nat} {most clock : Int} {l : SMap} {v : Value} {all : List Slot} {n : Nat} {C : Array Value} {t' : TypeId} (h : RelAt B w t m c most clock l v all n) (n1 : t ≠ b) (n2 : m ≠ b) (hb : Blk w b C t') (ne : 65 ≠ t') (o : Nat) (x : Value) : RelAt B (w.setCell ⟨b, o, none⟩ x) t m c most clock l v all n :=
  ⟨h.tab.set n1 n2 o x, h.ok, h.row.setOther hb ne o x, h.rel, h.lenA, h.lenL, h.bt, h.bm, h.n0, h.n1⟩
theorem RelAt.setNe3 {B : Nat} {w : World} {t m c b : Nat} {most clock : Int} {l : SMap} {v : Value} {all : List Slot} {n : Nat} {C : Array Value} {t' : TypeId} (h : RelAt B w t m c most clock l v all n) (n1 : t ≠ b) (n2 : m ≠ b) (hb : Blk w b C t') (ne : 65 ≠ t') (v0 v1 v2 : Value) :
    RelAt B (((w.setCell ⟨b, 0, none⟩ v0).setCell ⟨b, 1, none⟩ v1).setCell ⟨b, 2, none⟩ v2) t m c most clock l v all n :=
  ((h.setNe n1 n2 hb ne 0 v0).setNe n1 n2 (hb.set 0 v0) ne 1 v1).setNe n1 n2 ((hb.set 0 v0).set 1 v1) ne 2 v2
/-- behind a round -/
def BothCut (B t m g : Nat) (most : Int) (k : Nat) (w0 : World) (s8 : Value) (wx : World) : Prop :=
  ∃ (c' vc' : Nat) (clock' : Int) (l' : SMap) (va' : Option Addr) (all' : List Slot), s8 = .int .i64 k ∧
    RelAt B wx t m c' most clock' l' (.slice va' all'.length vc') all' (k + 1) ∧ Blk wx g #[.int .i64 most, .int .u64 clock', .slice va' all'.length vc'] 42 ∧ Ext w0 wx

set_option maxHeartbeats 20000000 in
set_option maxRecDepth 1000000 in
theorem law15_BothG (q : Int) (v : Value) (ds : List Deed) (w : World) (hv : DeedSlice w v ds) (hq0 : 0 ≤ q) (hq1 : q < 256) :
    Calls Tryz.prog 17 #[.int .u8 q, v] w fun x w' => ∃ B c clock l v' all, x = .returned (.tuple #[.pointer (some ⟨w.heap.size + 1 + 1, 0, none⟩), .agg #[.int .i64 (mostOf (1 + q % 9)), .int .u64 clock, v']]) ∧ B ≤ w'.heap.size ∧ RelAt B w' (w.heap.size + 1 + 1) (w.heap.size + 1) c (mostOf (1 + q % 9)) clock l v' all 30 ∧ Ext w w' ∧ Gd clock l := by
  obtain ⟨⟨sa, sc, rfl, hl⟩, -, heach⟩ := hv
  have HL := Lib.hid hl
  have HE := Lib.hid heach
  clear hl heach
  have hq9 : q.tmod 9 = q % 9 := Int.tmod_eq_emod_of_nonneg hq0
  have hqw : IntKind.u8.wrap (q % 9) = q % 9 := by simp [IntKind.wrap, IntKind.signed, IntKind.bits]; omega
  have hqi : IntKind.i64.wrap (q % 9) = q % 9 := by simp [IntKind.wrap, IntKind.signed, IntKind.bits]; omega
  have hq1w : IntKind.i64.wrap (1 + q % 9) = 1 + q % 9 := by simp [IntKind.wrap, IntKind.signed, IntKind.bits]; omega
  have hres := Blk.new w #[.int .i64 0, .int .u64 0, .slice none 0 0] 42
  have hxr : Ext w (w.alloc (.cells #[.int .i64 0, .int .u64 0, .slice none 0 0] 42)) := (Ext.refl w).alloc _
  generalize hM : mostOf (1 + q % 9) = most
  have HM := Lib.hid hM
  clear hM
  generalize hS : w.heap.size = S at *
  go_enter Tryz.func17, Tryz.ntmps17
  go_wp2_with fail
  refine (table_New (1 + q % 9) _ (by omega) (by omega)).mono ?_
  rw [HM.out]
  rintro x w1 ⟨rfl, ht1, hx1⟩
  go_wp2_with fail
  refine (ref14_New (1 + q % 9) _ (by omega) (by omega)).mono ?_
  rw [HM.out]
  rintro x w2 ⟨rfl, hx2⟩
  have hsz0 : (w.alloc (.cells #[.int .i64 0, .int .u64 0, .slice none 0 0] 42)).heap.size = S + 1 := by simp [hS]
  rw [hsz0] at ht1
  try rw [hsz0]
  have bG := Blk.new w2 #[.int .i64 most, .int .u64 0, .slice none 0 0] 42
  have hxG := hx2.alloc (.cells #[.int .i64 most, .int .u64 0, .slice none 0 0] 42)
  have hl1 := ht1.blk.lt
  have hl2 := hx2.sz
  have hlr := hres.lt
  go_wp2_with fail
  have hlG := bG.lt
  generalize w2.alloc (.cells #[.int .i64 most, .int .u64 0, .slice none 0 0] 42) = w3 at *
  generalize w.alloc (.cells #[.int .i64 0, .int .u64 0, .slice none 0 0] 42) = wA at *
  generalize hg : w2.heap.size = g at *
  have hSA : wA.heap.size = S + 1 := hsz0
  have HR0 := Lib.hid (show RelAt g w3 (S + 1 + 1) (S + 1) 0 most 0 [] (.slice none 0 0) [] 0 from
    ⟨ht1.ext hxG, TabOk.nil 0, RowOf.empty _ _ _ _ _, Rel.nil 0, Nat.le_refl _, Nat.le_refl _, by omega, by omega, by omega, by omega⟩)
  have HX0 := Lib.hid (hx1.trans hxG)
  have HBG := Lib.hid bG
  have HRES := Lib.hid hres
  have HXR := Lib.hid hxr
  clear ht1 bG hxG hx1 hx2 hres hxr
  go_loopw [8] (fun i wr => ∃ (k c : Nat) (clock : Int) (l : SMap) (va : Option Addr) (vc : Nat) (all : List Slot), k ≤ ds.length ∧ k ≤ 30 ∧ i = .int .i64 k ∧ RelAt g wr (S + 1 + 1) (S + 1) c most clock l (.slice va all.length vc) all k ∧ Blk wr g #[.int .i64 most, .int .u64 clock, .slice va all.length vc] 42 ∧ Ext wA wr ∧ Gd clock l) (fun i _ => ds.length - (intOf i).toNat)
  case atStart => exact ⟨0, 0, 0, [], none, 0, [], by omega, by omega, rfl, HR0.out, HBG.out, HX0.out, Gd.nil⟩
  case round =>
    obtain ⟨k, c, clock, l, va, vc, all, hk, hk30, rfl, hrel, hbg, hx, hgdd⟩ := hrel
    clear HR0 HBG HX0
    have HGDD := Lib.hid hgdd
    clear hgdd
    have HR := Lib.hid hrel
    have HBG := Lib.hid hbg
    have HX := Lib.hid hx
    have hgw := hbg.lt
    have hlen30 := hrel.lenA
    by_cases hlt : k < ds.length
    case neg =>
      have hre := HRES.out.ext HX.out
      have rc := hre.cell
      have rf := hre.free
      have rl := hre.lt
      have hne : g ≠ S := by omega
      go_upto_region 13 with fail
      go_region_held3 (fun w' => ∀ o, w'.cell? ⟨g, o, none⟩ = (#[.int .i64 most, .int .u64 clock, .slice va all.length vc] : Array Value)[o]?)
        (first
          | with_reducible exact HBG.out.cell
          | with_reducible exact HBG.out.drew.cell
          | with_reducible exact (HBG.out.oth3 hne _ _ _).drew.cell)
        (fail)
      go_wp2
      refine ret_tmp_cell Tryz.results17 rfl rfl (Blk.set3 hre (.int .i64 most) (.int .u64 clock) (.slice va all.length vc)).drew Tryz.underlying42 rfl (by kernel_rfl) ?_
      exact ⟨g, c, clock, l, _, all, rfl, by simp [World.drew, World.setCell]; omega, ((HR.out.up30 hk30).setNe3 (by omega) (by omega) hre (by decide) _ _ _).up (Ext.refl _).drew, ((HXR.out.trans HX.out).set3' (by omega) _ _ _).drew, HGDD.out⟩
    by_cases hlt30 : k < 30
    · skip
      obtain ⟨b, oo, rfl, hcc⟩ := HL.out (by intro e; rw [e] at hlt; simp at hlt)
      have hdd := HE.out ds[k] (List.getElem_mem _)
      have hxw : Ext w wr := HXR.out.trans hx
      obtain ⟨d0, d1, d2, d3, d4, d5, d6⟩ := deed_cells hcc hxw k hlt
      have hNM := fun W (hx : Ext w W) => law14_Name ds[k] W (hdd.ext hx)
      have hnm := nameOf_ok ds[k]
      obtain ⟨ka, kc, hkv, -⟩ := hdd.key.form
      obtain ⟨hdk0, hdk1, hdw0, hdw1, hdb0, hdb1, -, hdr0, hdr1, hdn0, hdn1, hdt0, hdt1⟩ := hdd
      rw [hkv] at d3
      simp only [hkv] at hNM
      clear hcc hkv
      generalize nameOf ds[k] = name at *
      generalize ds[k].kind = dk at *
      generalize ds[k].wait = dw at *
      generalize ds[k].big = db at *
      generalize ds[k].rule = dr at *
      generalize ds[k].n = dn at *
      generalize ds[k].to = dt at *
      generalize (ds[k].key).length = kn at *
      generalize hob : oo + k * 7 = ob at *
      have HNM := Lib.hid hNM
      have HNO := Lib.hid hnm
      clear hNM hnm
      have hn0 := hrel.n0
      have hn1 := hrel.n1
      have hbt := hrel.bt
      have hbm := hrel.bm
      have hv8 : IntKind.u8.wrap (dk % 8) = dk % 8 := by simp [IntKind.wrap, IntKind.signed, IntKind.bits]; omega
      have hbd := Blk.new wr #[.int .u8 dk, .int .u32 dw, .int .u8 db, .slice ka kn kc, .int .u8 dr, .int .u16 dn, .int .u8 dt] 74
      have hxd : Ext wr (wr.alloc (.cells #[.int .u8 dk, .int .u32 dw, .int .u8 db, .slice ka kn kc, .int .u8 dr, .int .u16 dn, .int .u8 dt] 74)) := (Ext.refl wr).alloc _
      clear hrel hbg hx
      go_upto_region 7 with fail
      generalize wr.alloc (.cells #[.int .u8 dk, .int .u32 dw, .int .u8 db, .slice ka kn kc, .int .u8 dr, .int .u16 dn, .int .u8 dt] 74) = wa at *
      generalize hgd : wr.heap.size = gd at *
      have HD := Lib.hid hbd
      have hld := hbd.lt
      have HA := Lib.hid (HR.out.up hxd)
      have HBA := Lib.hid (HBG.out.ext hxd)
      have HXA := Lib.hid (HX.out.trans hxd)
      have HXW := Lib.hid (hxw.trans hxd)
      clear hbd hxd hxw HR HBG HX d0 d1 d2 d3 d4 d5 d6
      have c0 : wa.cell? ⟨gd, 0, none⟩ = some (.int .u8 dk) := HD.out.cell 0
      have c1 : wa.cell? ⟨gd, 1, none⟩ = some (.int .u32 dw) := HD.out.cell 1
      have c2 : wa.cell? ⟨gd, 2, none⟩ = some (.int .u8 db) := HD.out.cell 2
      by_cases hz : dk % 8 = 0
      · obtain ⟨a1, ha1⟩ : ∃ a, IntKind.u64.wrap (dw / 2 ^ (db % 32).toNat) = a := ⟨_, rfl⟩
        have ha : 0 ≤ a1 ∧ a1 < 18446744073709551616 := by rw [← ha1, wrap_u64]; omega
        obtain ⟨ha0, hau⟩ := ha
        have HGD5 := Lib.hid (HGDD.out.tick (show a1 < 4294967296 from by
          have h1 := Int.ediv_le_self (2 ^ (db % 32).toNat) hdw0
          have h2 : 0 ≤ dw / 2 ^ (db % 32).toNat := Int.ediv_nonneg hdw0 (Int.le_of_lt (Int.pow_pos (by decide)))
          rw [← ha1, wrap_u64]
          generalize dw / 2 ^ (db % 32).toNat = z at *
          omega))
        go_wp2_with fail
        refine (table_Tick (S + 1 + 1) (S + 1) c most clock _ l _ HA.out.tab hn0 hn1 (by first | assumption | (rw [ha1]; assumption)) (by first | assumption | (rw [ha1]; assumption))).mono ?_
        rintro x w5 ⟨rfl, ht5, hx5⟩
        try rw [ha1] at ht5
        have e0 := hx5.keep (HBA.out.cell 0) (by dsimp only; omega)
        have e1 := hx5.keep (HBA.out.cell 1) (by dsimp only; omega)
        have e2 := hx5.keep (HBA.out.cell 2) (by dsimp only; omega)
        have c1' := hx5.keep c1 (by dsimp only; omega)
        have c2' := hx5.keep c2 (by dsimp only; omega)
        have hb5 := HBA.out.extB hx5 (by omega)
        have hr5 := HA.out.row.ext2 (hx5.to2t (S + 1)) hbt hbm
        have hX5 := HXA.out.own hx5 (by omega)
        have H5 := Lib.hid (show RelAt g w5 (S + 1 + 1) (S + 1) c most (max clock a1) l (.slice va all.length vc) all k from
          ⟨ht5, HA.out.ok, hr5, HA.out.rel.later HA.out.ok hn0 (by omega), HA.out.lenA, HA.out.lenL, hbt, hbm, by omega, by omega⟩)
        have HB5 := Lib.hid hb5
        have HX5 := Lib.hid hX5
        have hl5 := hb5.lt
        clear ht5 hr5 hx5 hb5 hX5 c0 c1 c2
        go_wp2_with fail
        refine (ref14_TickX most clock _ _ H5.out.row hn0 hn1 (by first | assumption | (rw [ha1]; assumption)) (by first | assumption | (rw [ha1]; assumption))).mono ?_
        rintro x w6 ⟨rfl, hx6⟩
        try rw [ha1]
        have hb6 := HB5.out.ext hx6
        have f6 := hb6.free
        have q6 := hb6.cell
        have l6 := hb6.lt
        generalize hmx : max clock a1 = mx at *
        go_wp2
        go_roundw
        case rel => exact ⟨k + 1, c, mx, l, va, vc, all, by omega, by omega, by go_num, (H5.out.up hx6).more.set3 (Nat.le_refl _) hb6 (by decide) _ _ _, Blk.set3 hb6 _ _ _, (HX5.out.trans hx6).set3' (by omega) _ _ _, HGD5.out⟩
        case measure => simp [intOf]; omega
      · have hz0 : (dk % 8 == 0) = false := by simpa using hz
        obtain ⟨f1, f2, f3, f4, f5, f6, f7⟩ := rule_bounds hdr0 hdr1
        have hrl := fun W => law14_Rule dr W hdr0 hdr1
        unfold ruleV at hrl
        have hsz : name.size ≤ maxLen := by
          have h2 : 13 ≤ maxLen := by decide
          have h3 := HNO.out.2
          omega
        have htm : dn.tmod 6 = dn % 6 := Int.tmod_eq_emod_of_nonneg hdn0
        have hw6 : IntKind.u16.wrap (dn % 6) = dn % 6 := by simp [IntKind.wrap, IntKind.signed, IntKind.bits]; omega
        have hw7 : IntKind.u64.wrap (dn % 6) = dn % 6 := by simp [IntKind.wrap, IntKind.signed, IntKind.bits]; omega
        have hco0 : 0 ≤ dn % 6 := by omega
        have hco1 : dn % 6 < 18446744073709551616 := by omega
        have HGDL := Lib.hid (HGDD.out.charge hn0 most c name (rP dr) (rE dr) (rB dr) (rK dr) (dn % 6) hco0 (rE_far dr))
        generalize rP dr = p2 at *
        generalize rE dr = e2 at *
        generalize rB dr = b2 at *
        generalize rK dr = k2 at *
        obtain ⟨code, err, lim, left, reset, aft, nan, ret, hV⟩ := cgV_form most clock l name p2 e2 b2 k2 (dn % 6)
        unfold ansV ansC at hV
        have hch := fun W (ht : TabAt W (S + 1 + 1) (S + 1) most clock l c) => charge_any (S + 1 + 1) (S + 1) c name p2 most clock e2 b2 k2 (dn % 6) l W ht HA.out.ok hn0 hn1 hsz f7 f1 f2 f3 f4 f5 f6 hco0 hco1
        have hrc := fun W (hr : SlotRow g W (.slice va all.length vc) all) (hB : g ≤ W.heap.size) => ref14_ChargeX (most := most) W hr HA.out.rel HA.out.ok HA.out.lenA (by omega) hB hn0 hn1 name p2 e2 b2 k2 (dn % 6) hsz f7 f1 f2 f3 f4 f5 f6 hco0 hco1
        have hcl := cgL_lenS most clock l c name p2 e2 b2 k2 (dn % 6)
        have hlL := HA.out.lenL
        rw [hV] at hch hrc
        generalize cgL most clock l c name p2 e2 b2 k2 (dn % 6) = l' at *
        generalize cgC most clock l c name p2 e2 b2 k2 (dn % 6) = c' at *
        have HRL := Lib.hid hrl
        have HCH := Lib.hid hch
        have HRC := Lib.hid hrc
        clear hrl hch hrc hV hsz f1 f2 f3 f4 f5 f6 f7
        go_upto_region 10 with fail
        clear c0 c1 c2
        go_region_held3 (fun w' => (∀ o, w'.cell? ⟨gd, o, none⟩ = (#[.int .u8 dk, .int .u32 dw, .int .u8 db, .slice ka kn kc, .int .u8 dr, .int .u16 dn, .int .u8 dt] : Array Value)[o]?) ∧ ExtB (S + 1) wa w')
          (((try go_split_ands); refine ⟨Blk.cell (HD.out.extB (b := S + 1) ?_ (by omega)), ?_⟩ <;> (repeat (first | with_reducible exact ExtB.refl _ _ | with_reducible assumption | with_reducible refine ExtB.alloc ?_ _ | with_reducible refine ExtB.drew ?_ | with_reducible refine ExtB.setCell ?_ _ _ | with_reducible refine ExtB.trans ?_ (by with_reducible assumption) | with_reducible refine ExtB.trans ?_ (Ext.toB (by with_reducible assumption) _)))))
          (first
            | (go_at_call 40; (with_reducible refine (HNM.out _ (Ext.trans HXW.out (by repeat (first | with_reducible exact Ext.refl _ | with_reducible assumption | with_reducible refine Ext.alloc ?_ _ | with_reducible refine Ext.drew ?_ | (with_reducible refine Ext.setCell ?_ (by first | exact Nat.le_refl _ | (dsimp only; omega) | (simp; done) | (simp; omega)) _) | with_reducible refine Ext.trans ?_ (by with_reducible assumption))))).mono ?_); rintro x w4 ⟨rfl, hx4⟩)
            | (go_at_call 35; (with_reducible refine (HRL.out _).mono ?_); rintro x w5 ⟨rfl, hx5⟩)
            | (go_at_call 30; (with_reducible refine (HCH.out _ (HA.out.tab.ext (by repeat (first | with_reducible exact Ext.refl _ | with_reducible assumption | with_reducible refine Ext.alloc ?_ _ | with_reducible refine Ext.drew ?_ | (with_reducible refine Ext.setCell ?_ (by first | exact Nat.le_refl _ | (dsimp only; omega) | (simp; done) | (simp; omega)) _) | with_reducible refine Ext.trans ?_ (by with_reducible assumption))))).mono ?_); rintro x w6 ⟨rfl, ht6, hok6, hx6⟩))
        have hxm : ExtB (S + 1) wa w6 := (by repeat (first | with_reducible exact ExtB.refl _ _ | with_reducible assumption | with_reducible refine ExtB.alloc ?_ _ | with_reducible refine ExtB.drew ?_ | with_reducible refine ExtB.setCell ?_ _ _ | with_reducible refine ExtB.trans ?_ (by with_reducible assumption) | with_reducible refine ExtB.trans ?_ (Ext.toB (by with_reducible assumption) _)))
        have hsz6 := hxm.size
        have HD6 := Lib.hid (HD.out.extB hxm (by omega))
        have HB6 := Lib.hid (HBA.out.extB hxm (by omega))
        have hr6 := HA.out.row.ext2 (hxm.to2m (S + 1 + 1)) hbt hbm
        have HX6 := Lib.hid (HXA.out.own hxm (by omega))
        have HXW6 := Lib.hid (HXW.out.own hxm (by omega))
        have HRR := Lib.hid (fun W (hx : Ext w6 W) => HRC.out W (hr6.ext hx) (Nat.le_trans (by omega) hx.sz) hok6)
        have HT6 := Lib.hid ht6
        have HOK := Lib.hid hok6
        have hg6 : g < w6.heap.size := by omega
        obtain ⟨G, hG⟩ : ∃ G, g = G + 1 + 1 := ⟨g - 2, by omega⟩
        have hG6 : G + 1 + 1 < w6.heap.size := by omega
        have HGG := Lib.hid hG
        clear hG
        clear hr6 hx4 hx5 hx6 hxm ht6 hok6 HCH HRC HD HBA HA HXA HXW
        go_upto_region 11 with fail
        go_cut [10, 11] from 22 to 85 (Cut17 g G k most clock l' code err lim left reset aft nan ret w6)
        case first =>
          focus
            go_region_held3 (fun w' => (∀ o, w'.cell? ⟨g, o, none⟩ = (#[.int .i64 most, .int .u64 clock, .slice va all.length vc] : Array Value)[o]?) ∧ (∀ o, w'.cell? ⟨gd, o, none⟩ = (#[.int .u8 dk, .int .u32 dw, .int .u8 db, .slice ka kn kc, .int .u8 dr, .int .u16 dn, .int .u8 dt] : Array Value)[o]?) ∧ Ext w6 w')
              (((try go_split_ands); refine ⟨Blk.cell (HB6.out.ext ?_), Blk.cell (HD6.out.ext ?_), ?_⟩ <;> (repeat (first | with_reducible exact Ext.refl _ | with_reducible assumption | with_reducible refine Ext.alloc ?_ _ | with_reducible refine Ext.drew ?_ | (with_reducible refine Ext.setCell ?_ (by first | exact Nat.le_refl _ | (dsimp only; omega) | (simp; done) | (simp; omega)) _) | with_reducible refine Ext.trans ?_ (by with_reducible assumption)))))
              (first
                | (go_at_call 40; (with_reducible refine (HNM.out _ (Ext.trans HXW6.out (by repeat (first | with_reducible exact Ext.refl _ | with_reducible assumption | with_reducible refine Ext.alloc ?_ _ | with_reducible refine Ext.drew ?_ | (with_reducible refine Ext.setCell ?_ (by first | exact Nat.le_refl _ | (dsimp only; omega) | (simp; done) | (simp; omega)) _) | with_reducible refine Ext.trans ?_ (by with_reducible assumption))))).mono ?_); rintro x w7 ⟨rfl, hx7⟩; have hs7 := Ext.sz hx7; (try simp at hs7); (try first | (refine blk_with3 (w := w7) (b := w6.heap.size) #[.int .i64 0, .int .u64 0, .slice none 0 0] 42 ?_ ?_; (· ((repeat (first | (with_reducible refine Blk.new' _ _ _ ?_; (first | rfl | (simp; done))) | with_reducible refine Blk.alloc ?_ _ | with_reducible refine Blk.drew ?_ | (with_reducible apply Blk.ext; (rotate_left; with_reducible assumption)))); done)); intro bT) | (refine blk_with3 (w := w7) (b := w6.heap.size + 1) #[.int .i64 0, .int .u64 0, .slice none 0 0] 42 ?_ ?_; (· ((repeat (first | (with_reducible refine Blk.new' _ _ _ ?_; (first | rfl | (simp; done))) | with_reducible refine Blk.alloc ?_ _ | with_reducible refine Blk.drew ?_ | (with_reducible apply Blk.ext; (rotate_left; with_reducible assumption)))); done)); intro bT)); (try first | (refine blk_with3 (w := w7) (b := w6.heap.size) #[.int .u8 0, .int .u16 0, .int .u64 0, .int .u64 0, .int .u64 0, .int .u64 0, .int .u64 0, .bool false, .int .i64 0, .slice none 0 0] 77 ?_ ?_; (· ((repeat (first | (with_reducible refine Blk.new' _ _ _ ?_; (first | rfl | (simp; done))) | with_reducible refine Blk.alloc ?_ _ | with_reducible refine Blk.drew ?_ | (with_reducible apply Blk.ext; (rotate_left; with_reducible assumption)))); done)); intro bA) | (refine blk_with3 (w := w7) (b := w6.heap.size + 1) #[.int .u8 0, .int .u16 0, .int .u64 0, .int .u64 0, .int .u64 0, .int .u64 0, .int .u64 0, .bool false, .int .i64 0, .slice none 0 0] 77 ?_ ?_; (· ((repeat (first | (with_reducible refine Blk.new' _ _ _ ?_; (first | rfl | (simp; done))) | with_reducible refine Blk.alloc ?_ _ | with_reducible refine Blk.drew ?_ | (with_reducible apply Blk.ext; (rotate_left; with_reducible assumption)))); done)); intro bA)))
                | (go_at_call 35; (with_reducible refine (HRL.out _).mono ?_); rintro x w8 ⟨rfl, hx8⟩; have hs8 := Ext.sz hx8; (try simp at hs8); (try first | (with_reducible have bT := Blk.ext bT hx8) | (with_reducible have bT := Blk.ext (Blk.alloc bT _) hx8) | (with_reducible have bT := Blk.ext (Blk.alloc (Blk.alloc bT _) _) hx8) | (refine blk_with3 (w := w8) (b := w7.heap.size) #[.int .i64 0, .int .u64 0, .slice none 0 0] 42 ?_ ?_; (· ((repeat (first | (with_reducible refine Blk.new' _ _ _ ?_; (first | rfl | (simp; done))) | with_reducible refine Blk.alloc ?_ _ | with_reducible refine Blk.drew ?_ | (with_reducible apply Blk.ext; (rotate_left; with_reducible assumption)))); done)); intro bT) | (refine blk_with3 (w := w8) (b := w7.heap.size + 1) #[.int .i64 0, .int .u64 0, .slice none 0 0] 42 ?_ ?_; (· ((repeat (first | (with_reducible refine Blk.new' _ _ _ ?_; (first | rfl | (simp; done))) | with_reducible refine Blk.alloc ?_ _ | with_reducible refine Blk.drew ?_ | (with_reducible apply Blk.ext; (rotate_left; with_reducible assumption)))); done)); intro bT)); (try first | (with_reducible have bA := Blk.ext bA hx8) | (with_reducible have bA := Blk.ext (Blk.alloc bA _) hx8) | (with_reducible have bA := Blk.ext (Blk.alloc (Blk.alloc bA _) _) hx8) | (refine blk_with3 (w := w8) (b := w7.heap.size) #[.int .u8 0, .int .u16 0, .int .u64 0, .int .u64 0, .int .u64 0, .int .u64 0, .int .u64 0, .bool false, .int .i64 0, .slice none 0 0] 77 ?_ ?_; (· ((repeat (first | (with_reducible refine Blk.new' _ _ _ ?_; (first | rfl | (simp; done))) | with_reducible refine Blk.alloc ?_ _ | with_reducible refine Blk.drew ?_ | (with_reducible apply Blk.ext; (rotate_left; with_reducible assumption)))); done)); intro bA) | (refine blk_with3 (w := w8) (b := w7.heap.size + 1) #[.int .u8 0, .int .u16 0, .int .u64 0, .int .u64 0, .int .u64 0, .int .u64 0, .int .u64 0, .bool false, .int .i64 0, .slice none 0 0] 77 ?_ ?_; (· ((repeat (first | (with_reducible refine Blk.new' _ _ _ ?_; (first | rfl | (simp; done))) | with_reducible refine Blk.alloc ?_ _ | with_reducible refine Blk.drew ?_ | (with_reducible apply Blk.ext; (rotate_left; with_reducible assumption)))); done)); intro bA)))
                | (go_at_call 41; (with_reducible refine (HRR.out _ (by repeat (first | with_reducible exact Ext.refl _ | with_reducible assumption | with_reducible refine Ext.alloc ?_ _ | with_reducible refine Ext.drew ?_ | (with_reducible refine Ext.setCell ?_ (by first | exact Nat.le_refl _ | (dsimp only; omega) | (simp; done) | (simp; omega)) _) | with_reducible refine Ext.trans ?_ (by with_reducible assumption)))).mono ?_); rintro x w9 ⟨v', all', rfl, hr9, hrel9, hlen9, hx9⟩; obtain ⟨va', vc', rfl⟩ := hr9.size; have hs9 := Ext.sz hx9; (try simp at hs9); (try first | (with_reducible have bT := Blk.ext bT hx9) | (with_reducible have bT := Blk.ext (Blk.alloc bT _) hx9) | (with_reducible have bT := Blk.ext (Blk.alloc (Blk.alloc bT _) _) hx9) | (refine blk_with3 (w := w9) (b := w8.heap.size) #[.int .i64 0, .int .u64 0, .slice none 0 0] 42 ?_ ?_; (· ((repeat (first | (with_reducible refine Blk.new' _ _ _ ?_; (first | rfl | (simp; done))) | with_reducible refine Blk.alloc ?_ _ | with_reducible refine Blk.drew ?_ | (with_reducible apply Blk.ext; (rotate_left; with_reducible assumption)))); done)); intro bT) | (refine blk_with3 (w := w9) (b := w8.heap.size + 1) #[.int .i64 0, .int .u64 0, .slice none 0 0] 42 ?_ ?_; (· ((repeat (first | (with_reducible refine Blk.new' _ _ _ ?_; (first | rfl | (simp; done))) | with_reducible refine Blk.alloc ?_ _ | with_reducible refine Blk.drew ?_ | (with_reducible apply Blk.ext; (rotate_left; with_reducible assumption)))); done)); intro bT)); (try first | (with_reducible have bA := Blk.ext bA hx9) | (with_reducible have bA := Blk.ext (Blk.alloc bA _) hx9) | (with_reducible have bA := Blk.ext (Blk.alloc (Blk.alloc bA _) _) hx9) | (refine blk_with3 (w := w9) (b := w8.heap.size) #[.int .u8 0, .int .u16 0, .int .u64 0, .int .u64 0, .int .u64 0, .int .u64 0, .int .u64 0, .bool false, .int .i64 0, .slice none 0 0] 77 ?_ ?_; (· ((repeat (first | (with_reducible refine Blk.new' _ _ _ ?_; (first | rfl | (simp; done))) | with_reducible refine Blk.alloc ?_ _ | with_reducible refine Blk.drew ?_ | (with_reducible apply Blk.ext; (rotate_left; with_reducible assumption)))); done)); intro bA) | (refine blk_with3 (w := w9) (b := w8.heap.size + 1) #[.int .u8 0, .int .u16 0, .int .u64 0, .int .u64 0, .int .u64 0, .int .u64 0, .int .u64 0, .bool false, .int .i64 0, .slice none 0 0] 77 ?_ ?_; (· ((repeat (first | (with_reducible refine Blk.new' _ _ _ ?_; (first | rfl | (simp; done))) | with_reducible refine Blk.alloc ?_ _ | with_reducible refine Blk.drew ?_ | (with_reducible apply Blk.ext; (rotate_left; with_reducible assumption)))); done)); intro bA)); (try (have hne := Blk.ne bT bA (by decide); have hne' := hne.symm)); (try (have tc := bT.cell; have tf := bT.free; have tl := bT.lt)); (try (have ac := bA.cell; have af := bA.free; have al := bA.lt))))
            all_goals as_aux_lemma =>
              go_wp2
              go_meet
              have hxz : Ext w6 w9 := (by repeat (first | with_reducible exact Ext.refl _ | with_reducible assumption | with_reducible refine Ext.alloc ?_ _ | with_reducible refine Ext.drew ?_ | (with_reducible refine Ext.setCell ?_ (by first | exact Nat.le_refl _ | (dsimp only; omega) | (simp; done) | (simp; omega)) _) | with_reducible refine Ext.trans ?_ (by with_reducible assumption)))
              first
                | (with_reducible refine Cut17.both hr9 hrel9 hlen9 hxz hG6 bT bA ?_ ?_ <;> omega)
                | (with_reducible refine Cut17.tOnly hr9 hrel9 hlen9 hxz hG6 bT ?_ ?_; (· omega); (· first | rfl | omega))
                | (with_reducible refine Cut17.aOnly hr9 hrel9 hlen9 hxz hG6 bA ?_ ?_; (· omega); (· first | rfl | omega))
                | (with_reducible refine Cut17.aOnly2 hr9 hrel9 hlen9 hxz hG6 bA ?_ ?_; (· omega); (· first | rfl | omega))
                | (with_reducible refine Cut17.ta hr9 hrel9 hlen9 hxz hG6 ?_ ?_ <;> first | rfl | omega)
                | (with_reducible refine Cut17.at hr9 hrel9 hlen9 hxz hG6 ?_ ?_ <;> first | rfl | omega)
        case rest =>
          obtain ⟨g1, g2, vc', va', all', rfl, rfl, hg1, hb1, hb2, hr10, hrel10, hlen10, hx10⟩ := hcut
          have hbg := HB6.out.ext hx10
          have h10 : RelAt g wc (S + 1 + 1) (S + 1) c' most clock l' (.slice va' all'.length vc') all' (k + 1) := ⟨HT6.out.ext hx10, HOK.out, hr10, hrel10, hlen10, by omega, hbt, hbm, hn0, hn1⟩
          have H10 := Lib.hid h10
          have HBG := Lib.hid hbg
          have HX10 := Lib.hid (HX6.out.trans hx10)
          have q1 := hb1.cell
          have fg := hbg.free
          have qg := hbg.cell
          have lg := hbg.lt
          have hgg := HGG.out
          have hg1' : g < g1 := by omega
          clear hgg hg1
          clear h10 hbg hb1 hb2 hr10 hrel10 hx10
          go_wp2
          go_roundw
          case rel => exact ⟨k + 1, c', clock, l', va', vc', all', by omega, by omega, by go_num, H10.out.set3 (Nat.le_refl _) HBG.out (by decide) _ _ _, Blk.set3 HBG.out _ _ _, HX10.out.set3' (by omega) _ _ _, HGDL.out⟩
          case measure => simp [intOf]; omega
    · have hre := HRES.out.ext HX.out
      have rc := hre.cell
      have rf := hre.free
      have rl := hre.lt
      have hne : g ≠ S := by omega
      go_upto_region 13 with fail
      go_region_held3 (fun w' => ∀ o, w'.cell? ⟨g, o, none⟩ = (#[.int .i64 most, .int .u64 clock, .slice va all.length vc] : Array Value)[o]?)
        (first
          | with_reducible exact HBG.out.cell
          | with_reducible exact HBG.out.drew.cell
          | with_reducible exact (HBG.out.oth3 hne _ _ _).drew.cell)
        (fail)
      go_wp2
      refine ret_tmp_cell Tryz.results17 rfl rfl (Blk.set3 hre (.int .i64 most) (.int .u64 clock) (.slice va all.length vc)).drew Tryz.underlying42 rfl (by kernel_rfl) ?_
      exact ⟨g, c, clock, l, _, all, rfl, by simp [World.drew, World.setCell]; omega, ((HR.out.up30 hk30).setNe3 (by omega) (by omega) hre (by decide) _ _ _).up (Ext.refl _).drew, ((HXR.out.trans HX.out).set3' (by omega) _ _ _).drew, HGDD.out⟩
theorem law15_Both (q : Int) (v : Value) (ds : List Deed) (w : World) (hv : DeedSlice w v ds) (hq0 : 0 ≤ q) (hq1 : q < 256) :
    Calls Tryz.prog 17 #[.int .u8 q, v] w fun x w' => ∃ B c clock l v' all, x = .returned (.tuple #[.pointer (some ⟨w.heap.size + 1 + 1, 0, none⟩), .agg #[.int .i64 (mostOf (1 + q % 9)), .int .u64 clock, v']]) ∧ B ≤ w'.heap.size ∧ RelAt B w' (w.heap.size + 1 + 1) (w.heap.size + 1) c (mostOf (1 + q % 9)) clock l v' all 30 ∧ Ext w w' := by
  refine (law15_BothG q v ds w hv hq0 hq1).mono ?_
  rintro x w' ⟨B, c, clock, l, v', all, h1, h2, h3, h4, -⟩
  exact ⟨B, c, clock, l, v', all, h1, h2, h3, h4⟩
end Go.Proofs.YtfglpejbgfmojaaGreat
