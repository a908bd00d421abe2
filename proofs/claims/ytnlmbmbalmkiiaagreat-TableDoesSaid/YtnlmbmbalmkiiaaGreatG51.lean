/- Walk: tollerlaw14.does. Walks: tollerlaw14.known. Walk: tollerlaw14.TableDoes. -/
import Derived.Test.YtnlmbmbalmkiiaaGreatG50
import Derived.Test.YtnlmbmbalmkiiaaGreatG36

/- Walk: tollerlaw14.does. -/
namespace Go.Proofs.YtnlmbmbalmkiiaaGreat
open Go.RowKit
set_option linter.unusedVariables false
set_option linter.unusedSimpArgs false

/-- behind a deed -/
def DoesCut (B t m g : Nat) (most : Int) (k : Nat) (wr : World) (s8 s9 : Value) (wx : World) : Prop :=
  ∃ (g8 c' vc' : Nat) (clock' : Int) (l' : SMap) (va' : Option Addr) (all' : List Slot), s8 = .pointer (some ⟨g8, 0, none⟩) ∧ s9 = .bool true ∧ g < g8 ∧
    Blk wx g8 #[.int .i64 most, .int .u64 clock', .slice va' all'.length vc'] 47 ∧ RelAt B wx t m c' most clock' l' (.slice va' all'.length vc') all' (k + 1) ∧ Ext2 t m wr wx

set_option maxHeartbeats 8000000 in
set_option maxRecDepth 1000000 in
theorem law14_does (hst : StepLaw) (m : Int) (v : Value) (ds : List Deed) (w : World) (hv : DeedSlice w v ds) (hm0 : -9223372036854775808 ≤ m) (hm1 : m ≤ 9223372036854775807) (hlen : ds.length ≤ 40) :
    Calls Tryz.prog 7 #[.int .i64 m, v] w fun x w' => x = .returned (.bool true) ∧ Ext w w' := by
  obtain ⟨⟨sa, sc, rfl, hl⟩, -, heach⟩ := hv
  have HL := Lib.hid hl
  have HE := Lib.hid heach
  have HST := Lib.hid hst
  clear hl heach hst
  go_enter Tryz.func7, Tryz.ntmps7
  go_wp2_with fail
  refine (table_New m _ hm0 hm1).mono ?_
  rintro x w1 ⟨rfl, ht1, hx1⟩
  go_wp2_with fail
  refine (ref14_New m _ hm0 hm1).mono ?_
  rintro x w2 ⟨rfl, hx2⟩
  generalize hM : mostOf m = most at *
  clear hM
  have bG := Blk.new w2 #[.int .i64 most, .int .u64 0, .slice none 0 0] 47
  have hxG := hx2.alloc (.cells #[.int .i64 most, .int .u64 0, .slice none 0 0] 47)
  have hl1 := ht1.blk.lt
  have hl2 := hx2.sz
  go_wp2_with fail
  have hlG := bG.lt
  generalize w2.alloc (.cells #[.int .i64 most, .int .u64 0, .slice none 0 0] 47) = w3 at *
  generalize hg : w2.heap.size = g at *
  have HR0 := Lib.hid (show RelAt g w3 (w.heap.size + 1) w.heap.size 0 most 0 [] (.slice none 0 0) [] 0 from
    ⟨ht1.ext hxG, TabOk.nil 0, RowOf.empty _ _ _ _ _, Rel.nil 0, Nat.le_refl _, Nat.le_refl _, by omega, by omega, by omega, by omega⟩)
  have HX0 := Lib.hid (hx1.trans hxG)
  have HBG := Lib.hid bG
  clear ht1 bG hxG hx1 hx2
  go_loopw [7] (fun i wr => ∃ (k c : Nat) (clock : Int) (l : SMap) (va : Option Addr) (vc : Nat) (all : List Slot), k ≤ ds.length ∧ i = .int .i64 k ∧ RelAt g wr (w.heap.size + 1) w.heap.size c most clock l (.slice va all.length vc) all k ∧ Blk wr g #[.int .i64 most, .int .u64 clock, .slice va all.length vc] 47 ∧ Ext w wr) (fun i _ => ds.length - (intOf i).toNat)
  case atStart => exact ⟨0, 0, 0, [], none, 0, [], by omega, rfl, HR0.out, HBG.out, HX0.out⟩
  case round =>
    obtain ⟨k, c, clock, l, va, vc, all, hk, rfl, hrel, hbg, hx⟩ := hrel
    clear HR0 HBG HX0
    have HR := Lib.hid hrel
    have HBG := Lib.hid hbg
    have HX := Lib.hid hx
    have hgw := hbg.lt
    by_cases hlt : k < ds.length
    · obtain ⟨b, oo, rfl, hcc⟩ := HL.out (by intro e; rw [e] at hlt; simp at hlt)
      have hdd := HE.out ds[k] (List.getElem_mem _)
      obtain ⟨d0, d1, d2, d3, d4, d5, d6⟩ := deed_cells hcc hx k hlt
      have hbw : b < w.heap.size := cell_lt (hcc k hlt 0 (by omega))
      have HSTP := Lib.hid (fun W (hx : Ext wr W) => HST.out g (w.heap.size + 1) w.heap.size c k most clock l (.slice va all.length vc) all ds[k] w W (HR.out.up hx) (Nat.le_trans (Nat.le_of_lt hgw) hx.sz) (by omega) (HX.out.trans hx) (by omega) (Nat.le_refl _) hdd)
      obtain ⟨ka, kc, hkv, -⟩ := hdd.key.form
      rw [hkv] at d3
      simp only [hkv] at HSTP
      clear hcc hdd hkv
      generalize ds[k].kind = dk at *
      generalize ds[k].wait = dw at *
      generalize ds[k].big = db at *
      generalize ds[k].rule = dr at *
      generalize ds[k].n = dn at *
      generalize ds[k].to = dt at *
      generalize (ds[k].key).length = kn at *
      generalize hob : oo + k * 7 = ob at *
      have hn0 := hrel.n0
      have hn1 := hrel.n1
      have t0 : wr.cell? ⟨g, 0, none⟩ = some (.int .i64 most) := hbg.cell 0
      have t1 : wr.cell? ⟨g, 1, none⟩ = some (.int .u64 clock) := hbg.cell 1
      have t2 : wr.cell? ⟨g, 2, none⟩ = some (.slice va all.length vc) := hbg.cell 2
      clear hrel hbg hx
      go_upto_region 8 with fail
      go_cut [8, 9] from 16 to 65 (DoesCut g (w.heap.size + 1) w.heap.size g most k wr)
      case first =>
        go_region_held3 (fun w' => w'.cell? ⟨g, 0, none⟩ = some (.int .i64 most) ∧ w'.cell? ⟨g, 1, none⟩ = some (.int .u64 clock) ∧ w'.cell? ⟨g, 2, none⟩ = some (.slice va all.length vc) ∧ w'.cell? ⟨b, ob, none⟩ = some (.int .u8 dk) ∧ w'.cell? ⟨b, ob + 1, none⟩ = some (.int .u32 dw) ∧ w'.cell? ⟨b, ob + 2, none⟩ = some (.int .u8 db) ∧ w'.cell? ⟨b, ob + 3, none⟩ = some (.slice ka kn kc) ∧ w'.cell? ⟨b, ob + 4, none⟩ = some (.int .u8 dr) ∧ w'.cell? ⟨b, ob + 5, none⟩ = some (.int .u16 dn) ∧ w'.cell? ⟨b, ob + 6, none⟩ = some (.int .u8 dt))
          (((try go_split_ands); refine ⟨?_, ?_, ?_, ?_, ?_, ?_, ?_, ?_, ?_, ?_⟩ <;> first | with_reducible assumption | (refine Ext2.keep (w := wr) (t := w.heap.size + 1) (m := w.heap.size) (by repeat (first | with_reducible exact Ext2.refl _ _ _ | with_reducible assumption | with_reducible refine Ext2.alloc ?_ _ | with_reducible refine Ext2.drew ?_ | (with_reducible refine Ext2.set ?_ (by first | exact Nat.le_refl _ | omega) _ _) | with_reducible refine Ext2.trans ?_ (by with_reducible assumption))) ?_ ?_ ?_ <;> first | with_reducible assumption | (dsimp only; omega))))
          (first
            | (go_at_call 13; (with_reducible refine (HSTP.out _ (by repeat (first | with_reducible exact Ext.refl _ | with_reducible assumption | with_reducible refine Ext.alloc ?_ _ | with_reducible refine Ext.drew ?_ | (with_reducible refine Ext.setCell ?_ (by first | exact Nat.le_refl _ | (dsimp only; omega) | (simp; done) | (simp; omega)) _) | with_reducible refine Ext.trans ?_ (by with_reducible assumption)))).mono ?_); rintro x w9 ⟨clock', l', c', v', all', rfl, hrel9, hx9⟩; obtain ⟨va', vc', rfl⟩ := hrel9.row.size; have hs9 := hx9.size; (try simp at hs9); (try (have bS : Blk w9 wr.heap.size #[.int .i64 0, .int .u64 0, .slice none 0 0] 47 := Blk.ext2 (Blk.drew (Blk.new' _ _ _ rfl)) hx9 (by omega) (by omega); have bc := bS.cell; have bf := bS.free; have bl := bS.lt))))
        all_goals
          go_wp2
          go_meet
          first
            | exact ⟨_, c', vc', clock', l', va', all', rfl, rfl, by omega, Blk.new _ _ _, hrel9.up ((Ext.refl _).alloc _), (((Ext2.refl _ _ _).drew).trans hx9).alloc _⟩
            | exact ⟨_, c', vc', clock', l', va', all', rfl, rfl, by omega, Blk.set3 bS _ _ _, hrel9.set3 (by omega) bS (by decide) _ _ _, ((((Ext2.refl _ _ _).alloc _).drew).trans hx9).set3 (Nat.le_refl _) _ _ _⟩
      case rest =>
        obtain ⟨g8, c', vc', clock', l', va', all', rfl, rfl, hg8, hb8, hrel8, hx8⟩ := hcut
        have hbg' := HBG.out.ext2 hx8 (by omega) (by omega)
        have hc8 := hb8.cell
        have hcg := hbg'.cell
        have hfg := hbg'.free
        have hlg := hbg'.lt
        clear t0 t1 t2 d0 d1 d2 d3 d4 d5 d6
        go_upto_region 10 with fail
        refine wp_genD (fun wy hwy => ?_)
        have hby : Blk wy g #[.int .i64 most, .int .u64 clock', .slice va' all'.length vc'] 47 := by rw [hwy]; exact Blk.set3 hbg' _ _ _
        have hrely : RelAt g wy (w.heap.size + 1) w.heap.size c' most clock' l' (.slice va' all'.length vc') all' (k + 1) := by rw [hwy]; exact hrel8.set3 (Nat.le_refl _) hbg' (by decide) _ _ _
        have hxy2 : Ext w wy := by rw [hwy]; exact ((HX.out.own2 hx8 (by omega) (Nat.le_refl _)).setCell (by dsimp only; omega) _ |>.setCell (by dsimp only; omega) _).setCell (by dsimp only; omega) _
        have HXY := Lib.hid hxy2
        have HRY := Lib.hid hrely
        have HBY := Lib.hid hby
        have hsl := hrely.rel.slots hrely.ok hrely.n0 hrely.n1
        have hll := hrely.lenL
        have hla := hrely.lenA
        have hk40 : k + 1 ≤ 40 := by omega
        have hcl := fun W (hx : Ext wy W) => table_ClockX (w.heap.size + 1) w.heap.size c' most clock' l' W (HRY.out.tab.ext hx) HRY.out.n0 HRY.out.n1
        have hac := fun W (hx : Ext wy W) => table_Active (w.heap.size + 1) w.heap.size c' most clock' l' W (HRY.out.tab.ext hx) HRY.out.ok HRY.out.n0 HRY.out.n1 (by omega)
        have hst := fun W (hx : Ext wy W) => table_Slots (w.heap.size + 1) w.heap.size c' most clock' l' W (HRY.out.tab.ext hx) HRY.out.ok HRY.out.n0 HRY.out.n1 (by omega)
        have het := fun W (hx : Ext wy W) => table_Entries (w.heap.size + 1) w.heap.size c' most clock' l' W (HRY.out.tab.ext hx) HRY.out.ok HRY.out.n0 HRY.out.n1 (by omega)
        have hsr := fun W (hx : Ext wy W) => ref14_Slots most clock' (.slice va' all'.length vc') all' W (HRY.out.row.slots.ext hx) HRY.out.rel.ok HRY.out.n0 HRY.out.n1 (by omega)
        have her := fun W (hx : Ext wy W) => ref14_Entries most clock' (.slice va' all'.length vc') all' W (HRY.out.row.slots.ext hx) HRY.out.rel.ok HRY.out.n0 HRY.out.n1 (by omega)
        have hxl : (rSlots clock' all').length ≤ 1000000 := by have := rSlots_len clock' all'; omega
        unfold entsOf at het
        rw [hsl] at hac hst het
        generalize rSlots clock' all' = xs at *
        generalize hzs : xs.map (entOf clock') = zs at *
        have HCL := Lib.hid hcl
        have HAC := Lib.hid hac
        have HSL := Lib.hid hst
        have HET := Lib.hid het
        have HSR := Lib.hid hsr
        have HER := Lib.hid her
        have HXL := Lib.hid hxl
        have c0 : wy.cell? ⟨g, 0, none⟩ = some (.int .i64 most) := hby.cell 0
        have c1 : wy.cell? ⟨g, 1, none⟩ = some (.int .u64 clock') := hby.cell 1
        have c2 : wy.cell? ⟨g, 2, none⟩ = some (.slice va' all'.length vc') := hby.cell 2
        clear hwy hby hrely hxy2 hsl hll hla hcl hac hst het hsr her hxl hzs hcg hfg hlg hc8 hb8 hrel8 hx8 hbg'
        go_region_held3 (fun w' => w'.cell? ⟨g, 0, none⟩ = some (.int .i64 most) ∧ w'.cell? ⟨g, 1, none⟩ = some (.int .u64 clock') ∧ w'.cell? ⟨g, 2, none⟩ = some (.slice va' all'.length vc') ∧ Ext wy w')
          (((try go_split_ands); refine ⟨?_, ?_, ?_, ?_⟩ <;> first | with_reducible assumption | exact (Ext.refl _).drew | ((repeat (first | with_reducible exact Ext.refl _ | with_reducible assumption | with_reducible refine Ext.alloc ?_ _ | with_reducible refine Ext.drew ?_ | (with_reducible refine Ext.setCell ?_ (by first | exact Nat.le_refl _ | (dsimp only; omega) | (simp; done) | (simp; omega)) _) | with_reducible refine Ext.trans ?_ (by with_reducible assumption))); done) | (refine Ext.keep (w := wy) (by repeat (first | with_reducible exact Ext.refl _ | with_reducible assumption | with_reducible refine Ext.alloc ?_ _ | with_reducible refine Ext.drew ?_ | (with_reducible refine Ext.setCell ?_ (by first | exact Nat.le_refl _ | (dsimp only; omega) | (simp; done) | (simp; omega)) _) | with_reducible refine Ext.trans ?_ (by with_reducible assumption))) ?_; with_reducible assumption)))
          (first
            | (go_at_call 14; (with_reducible refine (HCL.out _ (by repeat (first | with_reducible exact Ext.refl _ | with_reducible assumption | with_reducible refine Ext.alloc ?_ _ | with_reducible refine Ext.drew ?_ | (with_reducible refine Ext.setCell ?_ (by first | exact Nat.le_refl _ | (dsimp only; omega) | (simp; done) | (simp; omega)) _) | with_reducible refine Ext.trans ?_ (by with_reducible assumption)))).mono ?_); rintro x w4 ⟨rfl, hx4⟩)
            | (go_at_call 15; (with_reducible refine (HAC.out _ (by repeat (first | with_reducible exact Ext.refl _ | with_reducible assumption | with_reducible refine Ext.alloc ?_ _ | with_reducible refine Ext.drew ?_ | (with_reducible refine Ext.setCell ?_ (by first | exact Nat.le_refl _ | (dsimp only; omega) | (simp; done) | (simp; omega)) _) | with_reducible refine Ext.trans ?_ (by with_reducible assumption)))).mono ?_); rintro x w5 ⟨rfl, hx5⟩)
            | (go_at_call 16; (with_reducible refine (HSR.out _ (by repeat (first | with_reducible exact Ext.refl _ | with_reducible assumption | with_reducible refine Ext.alloc ?_ _ | with_reducible refine Ext.drew ?_ | (with_reducible refine Ext.setCell ?_ (by first | exact Nat.le_refl _ | (dsimp only; omega) | (simp; done) | (simp; omega)) _) | with_reducible refine Ext.trans ?_ (by with_reducible assumption)))).mono ?_); rintro x w6 ⟨v6, rfl, hr6, hx6⟩; obtain ⟨a6, c6, rfl⟩ := hr6.size)
            | (go_at_call 18; (with_reducible refine (HSL.out _ (by repeat (first | with_reducible exact Ext.refl _ | with_reducible assumption | with_reducible refine Ext.alloc ?_ _ | with_reducible refine Ext.drew ?_ | (with_reducible refine Ext.setCell ?_ (by first | exact Nat.le_refl _ | (dsimp only; omega) | (simp; done) | (simp; omega)) _) | with_reducible refine Ext.trans ?_ (by with_reducible assumption)))).mono ?_); rintro x w7 ⟨v7, rfl, hr7, hx7⟩; obtain ⟨a7, c7, rfl⟩ := hr7.at.size)
            | (go_at_call 17; (with_reducible refine (ref14_Same_yes _ _ xs _ (hr7.at.ext (by repeat (first | with_reducible exact Ext.refl _ | with_reducible assumption | with_reducible refine Ext.alloc ?_ _ | with_reducible refine Ext.drew ?_ | (with_reducible refine Ext.setCell ?_ (by first | exact Nat.le_refl _ | (dsimp only; omega) | (simp; done) | (simp; omega)) _) | with_reducible refine Ext.trans ?_ (by with_reducible assumption)))) hr6.slots HXL.out).mono ?_); rintro x w8 ⟨rfl, hx8⟩)
            | (go_at_call 20; (with_reducible refine (HET.out _ (by repeat (first | with_reducible exact Ext.refl _ | with_reducible assumption | with_reducible refine Ext.alloc ?_ _ | with_reducible refine Ext.drew ?_ | (with_reducible refine Ext.setCell ?_ (by first | exact Nat.le_refl _ | (dsimp only; omega) | (simp; done) | (simp; omega)) _) | with_reducible refine Ext.trans ?_ (by with_reducible assumption)))).mono ?_); rintro x w9 ⟨v9, rfl, hr9, hx9⟩; obtain ⟨a9, c9, rfl⟩ := hr9.size)
            | (go_at_call 21; (with_reducible refine (HER.out _ (by repeat (first | with_reducible exact Ext.refl _ | with_reducible assumption | with_reducible refine Ext.alloc ?_ _ | with_reducible refine Ext.drew ?_ | (with_reducible refine Ext.setCell ?_ (by first | exact Nat.le_refl _ | (dsimp only; omega) | (simp; done) | (simp; omega)) _) | with_reducible refine Ext.trans ?_ (by with_reducible assumption)))).mono ?_); rintro x w10 ⟨v10, rfl, hr10, hx10⟩; obtain ⟨a10, c10, rfl⟩ := hr10.size)
            | (go_at_call 19; (with_reducible refine (ref14_Entry_yes _ _ _ _ zs _ (hr9.ext (by repeat (first | with_reducible exact Ext.refl _ | with_reducible assumption | with_reducible refine Ext.alloc ?_ _ | with_reducible refine Ext.drew ?_ | (with_reducible refine Ext.setCell ?_ (by first | exact Nat.le_refl _ | (dsimp only; omega) | (simp; done) | (simp; omega)) _) | with_reducible refine Ext.trans ?_ (by with_reducible assumption)))) hr10).mono ?_); rintro x w11 ⟨rfl, hx11⟩))
        have hxf : Ext wy w11 := (by repeat (first | with_reducible exact Ext.refl _ | with_reducible assumption | with_reducible refine Ext.alloc ?_ _ | with_reducible refine Ext.drew ?_ | (with_reducible refine Ext.setCell ?_ (by first | exact Nat.le_refl _ | (dsimp only; omega) | (simp; done) | (simp; omega)) _) | with_reducible refine Ext.trans ?_ (by with_reducible assumption)))
        clear hx4 hx5 hx7 hx8 hx9 hx10 hx11 hx6 c0 c1 c2
        go_wp2
        go_roundw
        case rel => exact ⟨k + 1, c', clock', l', va', vc', all', by omega, by go_num, HRY.out.up hxf, HBY.out.ext hxf, HXY.out.trans hxf⟩
        case measure => simp [intOf]; omega
    · go_wp2
      go_ret
      exact ⟨rfl, HX.out⟩
end Go.Proofs.YtnlmbmbalmkiiaaGreat

/- Walks: tollerlaw14.known. -/
namespace Go.Proofs.YtnlmbmbalmkiiaaGreat
open Go.RowKit
set_option linter.unusedVariables false
set_option linter.unusedSimpArgs false

set_option maxHeartbeats 1000000 in
set_option maxRecDepth 100000 in
theorem law14_known (w : World) :
    Calls Tryz.prog 6 #[] w fun x w' => x = .returned (.bool true) ∧ Ext w w' := by
  go_enter Tryz.func6, Tryz.ntmps6
  go_wp2_with fail
  refine (table_New 1 w (by decide) (by decide)).mono ?_
  rw [kn_most]
  rintro x w1 ⟨rfl, ht1, hx1⟩
  have HT1 := Lib.hid ht1
  have hsz := ht1.blk.lt
  clear ht1
  go_wp2_with fail
  have hxr := (Ext.refl w1).alloc (.cells #[.string ⟨#[]⟩, .int .u64 10, .int .u64 2, .int .u8 1] 41)
  have br := Blk.new w1 #[.string ⟨#[]⟩, .int .u64 10, .int .u64 2, .int .u8 1] 41
  refine (charge_any (w.heap.size + 1) w.heap.size 0 ⟨#[97]⟩ ⟨#[]⟩ 1 0 10 2 1 2 [] _ (HT1.out.ext hxr) (TabOk.nil 0) (by decide) (by decide) (by decide) (by decide) (by decide) (by decide) (by decide) (by decide) (by decide) (by decide) (by decide) (by decide)).mono ?_
  rw [kn_v1, kn_l1, kn_c1]
  rintro x w2 ⟨rfl, ht2, hok2, hx2⟩
  have hxr2 : ExtB w.heap.size w1 w2 := (hxr.toB _).trans hx2
  have br2 := br.extB hx2 (by omega)
  have HT2 := Lib.hid ht2
  have hok2' := Lib.hid hok2
  have hs2 := hx2.size
  have hs1 := hxr.sz
  have hcr := br2.cell
  have hbl := br2.lt
  clear ht2 hok2
  simp only [ansV, ansC]
  go_wp2_with fail
  have hxa := (Ext.refl w2).alloc (.cells (ansC 1 0 2 0 1 0 0 false) 44)
  have ba := Blk.new w2 (ansC 1 0 2 0 1 0 0 false) 44
  refine (charge_any (w.heap.size + 1) w.heap.size 1 ⟨#[98]⟩ ⟨#[]⟩ 1 0 10 2 1 1 kn_l _ (HT2.out.ext hxa) hok2'.out (by decide) (by decide) (by decide) (by decide) (by decide) (by decide) (by decide) (by decide) (by decide) (by decide) (by decide) (by decide)).mono ?_
  rw [kn_v2]
  rintro x w3 ⟨rfl, -, -, hx3⟩
  have ba3 := ba.extB hx3 (by omega)
  have hca := ba3.cell
  have hal := ba3.lt
  simp only [ansC] at hca
  simp only [ansV, ansC]
  go_wp2
  go_ret
  have hfin : Ext w (w3.alloc (.cells (ansC 3 0 2 0 0 0 0 false) 44)) := ((hx1.own (hxr2.trans ((hxa.toB _).trans hx3)) (Nat.le_refl _))).alloc _
  exact ⟨rfl, hfin⟩
end Go.Proofs.YtnlmbmbalmkiiaaGreat

/- Walk: tollerlaw14.TableDoes. -/
namespace Go.Proofs.YtnlmbmbalmkiiaaGreat
open Go.RowKit
set_option linter.unusedVariables false
set_option linter.unusedSimpArgs false

set_option maxHeartbeats 2000000 in
set_option maxRecDepth 100000 in
theorem tableDoes_walk (hst : StepLaw) (m k : Int) (v : Value) (ds : List Deed) (w : World) (hm0 : -9223372036854775808 ≤ m) (hm1 : m ≤ 9223372036854775807) (hk0 : 0 ≤ k) (hk1 : k < 256) (hv : DeedSlice w v ds) :
    Calls Tryz.prog 3 #[.int .i64 m, .int .u8 k, v] w fun x w' => x = .returned (.bool true) ∧ Ext w w' := by
  have HV := Lib.hid hv
  have HST := Lib.hid hst
  obtain ⟨a, c, rfl, -⟩ := hv.form
  clear hv hst
  go_enter Tryz.func3, Tryz.ntmps3
  go_wp2_with fail
  refine (law14_Heavy _ ds _ HV.out).mono ?_
  rintro x w1 ⟨⟨n, rfl⟩, hx1⟩
  by_cases hn : 500 < n
  · go_wp2_with fail
    refine (law14_known _).mono ?_
    rintro x w2 ⟨rfl, hx2⟩
    go_wp2
    go_ret
    exact ⟨rfl, hx1.trans hx2⟩
  by_cases hl : 40 < ds.length
  · go_wp2_with fail
    refine (law14_known _).mono ?_
    rintro x w2 ⟨rfl, hx2⟩
    go_wp2
    go_ret
    exact ⟨rfl, hx1.trans hx2⟩
  go_wp2_with fail
  refine (law14_known _).mono ?_
  rintro x w2 ⟨rfl, hx2⟩
  have hx12 := hx1.trans hx2
  go_wp2_with fail
  refine (law14_does HST.out m _ ds _ (HV.out.ext hx12) hm0 hm1 (by omega)).mono ?_
  rintro x w3 ⟨rfl, hx3⟩
  have htm : k.tmod 4 = k % 4 := Int.tmod_eq_emod_of_nonneg hk0
  have hw8 : IntKind.u8.wrap (k % 4) = k % 4 := by simp [IntKind.wrap, IntKind.signed, IntKind.bits]; omega
  have hw64 : IntKind.i64.wrap (k % 4) = k % 4 := by simp [IntKind.wrap, IntKind.signed, IntKind.bits]; omega
  go_wp2_with fail
  refine (law14_does HST.out (k % 4) _ ds _ (HV.out.ext (hx12.trans hx3)) (by omega) (by omega) (by omega)).mono ?_
  rintro x w4 ⟨rfl, hx4⟩
  go_wp2
  go_ret
  exact ⟨rfl, (hx12.trans hx3).trans hx4⟩
end Go.Proofs.YtnlmbmbalmkiiaaGreat
