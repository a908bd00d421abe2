/- Walk: tollerlaw14.does. Walks: tollerlaw14.known. Walk: tollerlaw14.of. How a slice of deeds comes out of an argument's reading. How a slice of slots comes out of an argument's reading. Walk: tollerlaw14.TableOf. -/
import Derived.Deep.Slices
import Derived.Deep.Fields
import Derived.ChangeSame
import Derived.Test.YtnlmbmbalmkiiaaGreatG50
import Derived.Test.YtnlmbmbalmkiiaaGreatG36
import Derived.Test.YtnlmbmbalmkiiaaGreatG55
import Derived.Test.YtnlmbmbalmkiiaaGreatDeeds
import Derived.Test.YtnlmbmbalmkiiaaGreatG45

/- Walk: tollerlaw14.does. -/
namespace Go.Proofs.YtnlmbmbalmkiiaaGreat
open Go.RowKit
set_option linter.unusedVariables false
set_option linter.unusedSimpArgs false

/-- behind a deed -/
def DoesCut (B t m g : Nat) (most : Int) (k : Nat) (wr : World) (s8 s9 : Value) (wx : World) : Prop :=
  ∃ (g8 c' vc' : Nat) (clock' : Int) (l' : SMap) (va' : Option Addr) (all' : List Slot), s8 = .pointer (some ⟨g8, 0, none⟩) ∧ s9 = .bool true ∧ g < g8 ∧
    Blk wx g8 #[.int .i64 most, .int .u64 clock', .slice va' all'.length vc'] 47 ∧ RelAt B wx t m c' most clock' l' (.slice va' all'.length vc') all' (k + 1) ∧ Ext2 t m wr wx

set_option maxHeartbeats 8000000 in
set_option maxRecDepth 1000000 in
theorem law14_does (hst : StepLaw) (m : Int) (v : Value) (ds : List Deed) (w : World) (hv : DeedSlice w v ds) (hm0 : -9223372036854775808 ≤ m) (hm1 : m ≤ 9223372036854775807) (hlen : ds.length ≤ 40) :
    Calls Tryz.prog 7 #[.int .i64 m, v] w fun x w' => x = .returned (.bool true) ∧ Ext w w' := by
  obtain ⟨⟨sa, sc, rfl, hl⟩, -, heach⟩ := hv
  have HL := Lib.hid hl
  have HE := Lib.hid heach
  have HST := Lib.hid hst
  clear hl heach hst
  go_enter Tryz.func7, Tryz.ntmps7
  go_wp2_with fail
  refine (table_New m _ hm0 hm1).mono ?_
  rintro x w1 ⟨rfl, ht1, hx1⟩
  go_wp2_with fail
  refine (ref14_New m _ hm0 hm1).mono ?_
  rintro x w2 ⟨rfl, hx2⟩
  generalize hM : mostOf m = most at *
  clear hM
  have bG := Blk.new w2 #[.int .i64 most, .int .u64 0, .slice none 0 0] 47
  have hxG := hx2.alloc (.cells #[.int .i64 most, .int .u64 0, .slice none 0 0] 47)
  have hl1 := ht1.blk.lt
  have hl2 := hx2.sz
  go_wp2_with fail
  have hlG := bG.lt
  generalize w2.alloc (.cells #[.int .i64 most, .int .u64 0, .slice none 0 0] 47) = w3 at *
  generalize hg : w2.heap.size = g at *
  have HR0 := Lib.hid (show RelAt g w3 (w.heap.size + 1) w.heap.size 0 most 0 [] (.slice none 0 0) [] 0 from
    ⟨ht1.ext hxG, TabOk.nil 0, RowOf.empty _ _ _ _ _, Rel.nil 0, Nat.le_refl _, Nat.le_refl _, by omega, by omega, by omega, by omega⟩)
  have HX0 := Lib.hid (hx1.trans hxG)
  have HBG := Lib.hid bG
  clear ht1 bG hxG hx1 hx2
  go_loopw [7] (fun i wr => ∃ (k c : Nat) (clock : Int) (l : SMap) (va : Option Addr) (vc : Nat) (all : List Slot), k ≤ ds.length ∧ i = .int .i64 k ∧ RelAt g wr (w.heap.size + 1) w.heap.size c most clock l (.slice va all.length vc) all k ∧ Blk wr g #[.int .i64 most, .int .u64 clock, .slice va all.length vc] 47 ∧ Ext w wr) (fun i _ => ds.length - (intOf i).toNat)
  case atStart => exact ⟨0, 0, 0, [], none, 0, [], by omega, rfl, HR0.out, HBG.out, HX0.out⟩
  case round =>
    obtain ⟨k, c, clock, l, va, vc, all, hk, rfl, hrel, hbg, hx⟩ := hrel
    clear HR0 HBG HX0
    have HR := Lib.hid hrel
    have HBG := Lib.hid hbg
    have HX := Lib.hid hx
    have hgw := hbg.lt
    by_cases hlt : k < ds.length
    · obtain ⟨b, oo, rfl, hcc⟩ := HL.out (by intro e; rw [e] at hlt; simp at hlt)
      have hdd := HE.out ds[k] (List.getElem_mem _)
      obtain ⟨d0, d1, d2, d3, d4, d5, d6⟩ := deed_cells hcc hx k hlt
      have hbw : b < w.heap.size := cell_lt (hcc k hlt 0 (by omega))
      have HSTP := Lib.hid (fun W (hx : Ext wr W) => HST.out g (w.heap.size + 1) w.heap.size c k most clock l (.slice va all.length vc) all ds[k] w W (HR.out.up hx) (Nat.le_trans (Nat.le_of_lt hgw) hx.sz) (by omega) (HX.out.trans hx) (by omega) (Nat.le_refl _) hdd)
      obtain ⟨ka, kc, hkv, -⟩ := hdd.key.form
      rw [hkv] at d3
      simp only [hkv] at HSTP
      clear hcc hdd hkv
      generalize ds[k].kind = dk at *
      generalize ds[k].wait = dw at *
      generalize ds[k].big = db at *
      generalize ds[k].rule = dr at *
      generalize ds[k].n = dn at *
      generalize ds[k].to = dt at *
      generalize (ds[k].key).length = kn at *
      generalize hob : oo + k * 7 = ob at *
      have hn0 := hrel.n0
      have hn1 := hrel.n1
      have t0 : wr.cell? ⟨g, 0, none⟩ = some (.int .i64 most) := hbg.cell 0
      have t1 : wr.cell? ⟨g, 1, none⟩ = some (.int .u64 clock) := hbg.cell 1
      have t2 : wr.cell? ⟨g, 2, none⟩ = some (.slice va all.length vc) := hbg.cell 2
      clear hrel hbg hx
      go_upto_region 8 with fail
      go_cut [8, 9] from 16 to 65 (DoesCut g (w.heap.size + 1) w.heap.size g most k wr)
      case first =>
        go_region_held3 (fun w' => w'.cell? ⟨g, 0, none⟩ = some (.int .i64 most) ∧ w'.cell? ⟨g, 1, none⟩ = some (.int .u64 clock) ∧ w'.cell? ⟨g, 2, none⟩ = some (.slice va all.length vc) ∧ w'.cell? ⟨b, ob, none⟩ = some (.int .u8 dk) ∧ w'.cell? ⟨b, ob + 1, none⟩ = some (.int .u32 dw) ∧ w'.cell? ⟨b, ob + 2, none⟩ = some (.int .u8 db) ∧ w'.cell? ⟨b, ob + 3, none⟩ = some (.slice ka kn kc) ∧ w'.cell? ⟨b, ob + 4, none⟩ = some (.int .u8 dr) ∧ w'.cell? ⟨b, ob + 5, none⟩ = some (.int .u16 dn) ∧ w'.cell? ⟨b, ob + 6, none⟩ = some (.int .u8 dt))
          (((try go_split_ands); refine ⟨?_, ?_, ?_, ?_, ?_, ?_, ?_, ?_, ?_, ?_⟩ <;> first | with_reducible assumption | (refine Ext2.keep (w := wr) (t := w.heap.size + 1) (m := w.heap.size) (by repeat (first | with_reducible exact Ext2.refl _ _ _ | with_reducible assumption | with_reducible refine Ext2.alloc ?_ _ | with_reducible refine Ext2.drew ?_ | (with_reducible refine Ext2.set ?_ (by first | exact Nat.le_refl _ | omega) _ _) | with_reducible refine Ext2.trans ?_ (by with_reducible assumption))) ?_ ?_ ?_ <;> first | with_reducible assumption | (dsimp only; omega))))
          (first
            | (go_at_call 13; (with_reducible refine (HSTP.out _ (by repeat (first | with_reducible exact Ext.refl _ | with_reducible assumption | with_reducible refine Ext.alloc ?_ _ | with_reducible refine Ext.drew ?_ | (with_reducible refine Ext.setCell ?_ (by first | exact Nat.le_refl _ | (dsimp only; omega) | (simp; done) | (simp; omega)) _) | with_reducible refine Ext.trans ?_ (by with_reducible assumption)))).mono ?_); rintro x w9 ⟨clock', l', c', v', all', rfl, hrel9, hx9⟩; obtain ⟨va', vc', rfl⟩ := hrel9.row.size; have hs9 := hx9.size; (try simp at hs9); (try (have bS : Blk w9 wr.heap.size #[.int .i64 0, .int .u64 0, .slice none 0 0] 47 := Blk.ext2 (Blk.drew (Blk.new' _ _ _ rfl)) hx9 (by omega) (by omega); have bc := bS.cell; have bf := bS.free; have bl := bS.lt))))
        all_goals
          go_wp2
          go_meet
          first
            | exact ⟨_, c', vc', clock', l', va', all', rfl, rfl, by omega, Blk.new _ _ _, hrel9.up ((Ext.refl _).alloc _), (((Ext2.refl _ _ _).drew).trans hx9).alloc _⟩
            | exact ⟨_, c', vc', clock', l', va', all', rfl, rfl, by omega, Blk.set3 bS _ _ _, hrel9.set3 (by omega) bS (by decide) _ _ _, ((((Ext2.refl _ _ _).alloc _).drew).trans hx9).set3 (Nat.le_refl _) _ _ _⟩
      case rest =>
        obtain ⟨g8, c', vc', clock', l', va', all', rfl, rfl, hg8, hb8, hrel8, hx8⟩ := hcut
        have hbg' := HBG.out.ext2 hx8 (by omega) (by omega)
        have hc8 := hb8.cell
        have hcg := hbg'.cell
        have hfg := hbg'.free
        have hlg := hbg'.lt
        clear t0 t1 t2 d0 d1 d2 d3 d4 d5 d6
        go_upto_region 10 with fail
        refine wp_genD (fun wy hwy => ?_)
        have hby : Blk wy g #[.int .i64 most, .int .u64 clock', .slice va' all'.length vc'] 47 := by rw [hwy]; exact Blk.set3 hbg' _ _ _
        have hrely : RelAt g wy (w.heap.size + 1) w.heap.size c' most clock' l' (.slice va' all'.length vc') all' (k + 1) := by rw [hwy]; exact hrel8.set3 (Nat.le_refl _) hbg' (by decide) _ _ _
        have hxy2 : Ext w wy := by rw [hwy]; exact ((HX.out.own2 hx8 (by omega) (Nat.le_refl _)).setCell (by dsimp only; omega) _ |>.setCell (by dsimp only; omega) _).setCell (by dsimp only; omega) _
        have HXY := Lib.hid hxy2
        have HRY := Lib.hid hrely
        have HBY := Lib.hid hby
        have hsl := hrely.rel.slots hrely.ok hrely.n0 hrely.n1
        have hll := hrely.lenL
        have hla := hrely.lenA
        have hk40 : k + 1 ≤ 40 := by omega
        have hcl := fun W (hx : Ext wy W) => table_ClockX (w.heap.size + 1) w.heap.size c' most clock' l' W (HRY.out.tab.ext hx) HRY.out.n0 HRY.out.n1
        have hac := fun W (hx : Ext wy W) => table_Active (w.heap.size + 1) w.heap.size c' most clock' l' W (HRY.out.tab.ext hx) HRY.out.ok HRY.out.n0 HRY.out.n1 (by omega)
        have hst := fun W (hx : Ext wy W) => table_Slots (w.heap.size + 1) w.heap.size c' most clock' l' W (HRY.out.tab.ext hx) HRY.out.ok HRY.out.n0 HRY.out.n1 (by omega)
        have het := fun W (hx : Ext wy W) => table_Entries (w.heap.size + 1) w.heap.size c' most clock' l' W (HRY.out.tab.ext hx) HRY.out.ok HRY.out.n0 HRY.out.n1 (by omega)
        have hsr := fun W (hx : Ext wy W) => ref14_Slots most clock' (.slice va' all'.length vc') all' W (HRY.out.row.slots.ext hx) HRY.out.rel.ok HRY.out.n0 HRY.out.n1 (by omega)
        have her := fun W (hx : Ext wy W) => ref14_Entries most clock' (.slice va' all'.length vc') all' W (HRY.out.row.slots.ext hx) HRY.out.rel.ok HRY.out.n0 HRY.out.n1 (by omega)
        have hxl : (rSlots clock' all').length ≤ 1000000 := by have := rSlots_len clock' all'; omega
        unfold entsOf at het
        rw [hsl] at hac hst het
        generalize rSlots clock' all' = xs at *
        generalize hzs : xs.map (entOf clock') = zs at *
        have HCL := Lib.hid hcl
        have HAC := Lib.hid hac
        have HSL := Lib.hid hst
        have HET := Lib.hid het
        have HSR := Lib.hid hsr
        have HER := Lib.hid her
        have HXL := Lib.hid hxl
        have c0 : wy.cell? ⟨g, 0, none⟩ = some (.int .i64 most) := hby.cell 0
        have c1 : wy.cell? ⟨g, 1, none⟩ = some (.int .u64 clock') := hby.cell 1
        have c2 : wy.cell? ⟨g, 2, none⟩ = some (.slice va' all'.length vc') := hby.cell 2
        clear hwy hby hrely hxy2 hsl hll hla hcl hac hst het hsr her hxl hzs hcg hfg hlg hc8 hb8 hrel8 hx8 hbg'
        go_region_held3 (fun w' => w'.cell? ⟨g, 0, none⟩ = some (.int .i64 most) ∧ w'.cell? ⟨g, 1, none⟩ = some (.int .u64 clock') ∧ w'.cell? ⟨g, 2, none⟩ = some (.slice va' all'.length vc') ∧ Ext wy w')
          (((try go_split_ands); refine ⟨?_, ?_, ?_, ?_⟩ <;> first | with_reducible assumption | exact (Ext.refl _).drew | ((repeat (first | with_reducible exact Ext.refl _ | with_reducible assumption | with_reducible refine Ext.alloc ?_ _ | with_reducible refine Ext.drew ?_ | (with_reducible refine Ext.setCell ?_ (by first | exact Nat.le_refl _ | (dsimp only; omega) | (simp; done) | (simp; omega)) _) | with_reducible refine Ext.trans ?_ (by with_reducible assumption))); done) | (refine Ext.keep (w := wy) (by repeat (first | with_reducible exact Ext.refl _ | with_reducible assumption | with_reducible refine Ext.alloc ?_ _ | with_reducible refine Ext.drew ?_ | (with_reducible refine Ext.setCell ?_ (by first | exact Nat.le_refl _ | (dsimp only; omega) | (simp; done) | (simp; omega)) _) | with_reducible refine Ext.trans ?_ (by with_reducible assumption))) ?_; with_reducible assumption)))
          (first
            | (go_at_call 14; (with_reducible refine (HCL.out _ (by repeat (first | with_reducible exact Ext.refl _ | with_reducible assumption | with_reducible refine Ext.alloc ?_ _ | with_reducible refine Ext.drew ?_ | (with_reducible refine Ext.setCell ?_ (by first | exact Nat.le_refl _ | (dsimp only; omega) | (simp; done) | (simp; omega)) _) | with_reducible refine Ext.trans ?_ (by with_reducible assumption)))).mono ?_); rintro x w4 ⟨rfl, hx4⟩)
            | (go_at_call 15; (with_reducible refine (HAC.out _ (by repeat (first | with_reducible exact Ext.refl _ | with_reducible assumption | with_reducible refine Ext.alloc ?_ _ | with_reducible refine Ext.drew ?_ | (with_reducible refine Ext.setCell ?_ (by first | exact Nat.le_refl _ | (dsimp only; omega) | (simp; done) | (simp; omega)) _) | with_reducible refine Ext.trans ?_ (by with_reducible assumption)))).mono ?_); rintro x w5 ⟨rfl, hx5⟩)
            | (go_at_call 16; (with_reducible refine (HSR.out _ (by repeat (first | with_reducible exact Ext.refl _ | with_reducible assumption | with_reducible refine Ext.alloc ?_ _ | with_reducible refine Ext.drew ?_ | (with_reducible refine Ext.setCell ?_ (by first | exact Nat.le_refl _ | (dsimp only; omega) | (simp; done) | (simp; omega)) _) | with_reducible refine Ext.trans ?_ (by with_reducible assumption)))).mono ?_); rintro x w6 ⟨v6, rfl, hr6, hx6⟩; obtain ⟨a6, c6, rfl⟩ := hr6.size)
            | (go_at_call 18; (with_reducible refine (HSL.out _ (by repeat (first | with_reducible exact Ext.refl _ | with_reducible assumption | with_reducible refine Ext.alloc ?_ _ | with_reducible refine Ext.drew ?_ | (with_reducible refine Ext.setCell ?_ (by first | exact Nat.le_refl _ | (dsimp only; omega) | (simp; done) | (simp; omega)) _) | with_reducible refine Ext.trans ?_ (by with_reducible assumption)))).mono ?_); rintro x w7 ⟨v7, rfl, hr7, hx7⟩; obtain ⟨a7, c7, rfl⟩ := hr7.at.size)
            | (go_at_call 17; (with_reducible refine (ref14_Same_yes _ _ xs _ (hr7.at.ext (by repeat (first | with_reducible exact Ext.refl _ | with_reducible assumption | with_reducible refine Ext.alloc ?_ _ | with_reducible refine Ext.drew ?_ | (with_reducible refine Ext.setCell ?_ (by first | exact Nat.le_refl _ | (dsimp only; omega) | (simp; done) | (simp; omega)) _) | with_reducible refine Ext.trans ?_ (by with_reducible assumption)))) hr6.slots HXL.out).mono ?_); rintro x w8 ⟨rfl, hx8⟩)
            | (go_at_call 20; (with_reducible refine (HET.out _ (by repeat (first | with_reducible exact Ext.refl _ | with_reducible assumption | with_reducible refine Ext.alloc ?_ _ | with_reducible refine Ext.drew ?_ | (with_reducible refine Ext.setCell ?_ (by first | exact Nat.le_refl _ | (dsimp only; omega) | (simp; done) | (simp; omega)) _) | with_reducible refine Ext.trans ?_ (by with_reducible assumption)))).mono ?_); rintro x w9 ⟨v9, rfl, hr9, hx9⟩; obtain ⟨a9, c9, rfl⟩ := hr9.size)
            | (go_at_call 21; (with_reducible refine (HER.out _ (by repeat (first | with_reducible exact Ext.refl _ | with_reducible assumption | with_reducible refine Ext.alloc ?_ _ | with_reducible refine Ext.drew ?_ | (with_reducible refine Ext.setCell ?_ (by first | exact Nat.le_refl _ | (dsimp only; omega) | (simp; done) | (simp; omega)) _) | with_reducible refine Ext.trans ?_ (by with_reducible assumption)))).mono ?_); rintro x w10 ⟨v10, rfl, hr10, hx10⟩; obtain ⟨a10, c10, rfl⟩ := hr10.size)
            | (go_at_call 19; (with_reducible refine (ref14_Entry_yes _ _ _ _ zs _ (hr9.ext (by repeat (first | with_reducible exact Ext.refl _ | with_reducible assumption | with_reducible refine Ext.alloc ?_ _ | with_reducible refine Ext.drew ?_ | (with_reducible refine Ext.setCell ?_ (by first | exact Nat.le_refl _ | (dsimp only; omega) | (simp; done) | (simp; omega)) _) | with_reducible refine Ext.trans ?_ (by with_reducible assumption)))) hr10).mono ?_); rintro x w11 ⟨rfl, hx11⟩))
        have hxf : Ext wy w11 := (by repeat (first | with_reducible exact Ext.refl _ | with_reducible assumption | with_reducible refine Ext.alloc ?_ _ | with_reducible refine Ext.drew ?_ | (with_reducible refine Ext.setCell ?_ (by first | exact Nat.le_refl _ | (dsimp only; omega) | (simp; done) | (simp; omega)) _) | with_reducible refine Ext.trans ?_ (by with_reducible assumption)))
        clear hx4 hx5 hx7 hx8 hx9 hx10 hx11 hx6 c0 c1 c2
        go_wp2
        go_roundw
        case rel => exact ⟨k + 1, c', clock', l', va', vc', all', by omega, by go_num, HRY.out.up hxf, HBY.out.ext hxf, HXY.out.trans hxf⟩
        case measure => simp [intOf]; omega
    · go_wp2
      go_ret
      exact ⟨rfl, HX.out⟩
end Go.Proofs.YtnlmbmbalmkiiaaGreat

/- Walks: tollerlaw14.known. -/
namespace Go.Proofs.YtnlmbmbalmkiiaaGreat
open Go.RowKit
set_option linter.unusedVariables false
set_option linter.unusedSimpArgs false

set_option maxHeartbeats 1000000 in
set_option maxRecDepth 100000 in
theorem law14_known (w : World) :
    Calls Tryz.prog 6 #[] w fun x w' => x = .returned (.bool true) ∧ Ext w w' := by
  go_enter Tryz.func6, Tryz.ntmps6
  go_wp2_with fail
  refine (table_New 1 w (by decide) (by decide)).mono ?_
  rw [kn_most]
  rintro x w1 ⟨rfl, ht1, hx1⟩
  have HT1 := Lib.hid ht1
  have hsz := ht1.blk.lt
  clear ht1
  go_wp2_with fail
  have hxr := (Ext.refl w1).alloc (.cells #[.string ⟨#[]⟩, .int .u64 10, .int .u64 2, .int .u8 1] 41)
  have br := Blk.new w1 #[.string ⟨#[]⟩, .int .u64 10, .int .u64 2, .int .u8 1] 41
  refine (charge_any (w.heap.size + 1) w.heap.size 0 ⟨#[97]⟩ ⟨#[]⟩ 1 0 10 2 1 2 [] _ (HT1.out.ext hxr) (TabOk.nil 0) (by decide) (by decide) (by decide) (by decide) (by decide) (by decide) (by decide) (by decide) (by decide) (by decide) (by decide) (by decide)).mono ?_
  rw [kn_v1, kn_l1, kn_c1]
  rintro x w2 ⟨rfl, ht2, hok2, hx2⟩
  have hxr2 : ExtB w.heap.size w1 w2 := (hxr.toB _).trans hx2
  have br2 := br.extB hx2 (by omega)
  have HT2 := Lib.hid ht2
  have hok2' := Lib.hid hok2
  have hs2 := hx2.size
  have hs1 := hxr.sz
  have hcr := br2.cell
  have hbl := br2.lt
  clear ht2 hok2
  simp only [ansV, ansC]
  go_wp2_with fail
  have hxa := (Ext.refl w2).alloc (.cells (ansC 1 0 2 0 1 0 0 false) 44)
  have ba := Blk.new w2 (ansC 1 0 2 0 1 0 0 false) 44
  refine (charge_any (w.heap.size + 1) w.heap.size 1 ⟨#[98]⟩ ⟨#[]⟩ 1 0 10 2 1 1 kn_l _ (HT2.out.ext hxa) hok2'.out (by decide) (by decide) (by decide) (by decide) (by decide) (by decide) (by decide) (by decide) (by decide) (by decide) (by decide) (by decide)).mono ?_
  rw [kn_v2]
  rintro x w3 ⟨rfl, -, -, hx3⟩
  have ba3 := ba.extB hx3 (by omega)
  have hca := ba3.cell
  have hal := ba3.lt
  simp only [ansC] at hca
  simp only [ansV, ansC]
  go_wp2
  go_ret
  have hfin : Ext w (w3.alloc (.cells (ansC 3 0 2 0 0 0 0 false) 44)) := ((hx1.own (hxr2.trans ((hxa.toB _).trans hx3)) (Nat.le_refl _))).alloc _
  exact ⟨rfl, hfin⟩
end Go.Proofs.YtnlmbmbalmkiiaaGreat

/- Walk: tollerlaw14.of. -/
namespace Go.Proofs.YtnlmbmbalmkiiaaGreat
open Go.RowKit
set_option linter.unusedVariables false
set_option linter.unusedSimpArgs false

theorem ofErr_u (most clock : Int) (xs : List Slot) : 0 ≤ ofErr most clock xs ∧ ofErr most clock xs ≤ 60 := by
  have h : ∀ xs : List Slot, 0 ≤ firstErr clock xs ∧ firstErr clock xs ≤ 60 := by
    intro xs
    induction xs with
    | nil => simp [firstErr]
    | cons s xs ih =>
      have := slotErr_u clock s
      simp only [firstErr]
      split <;> omega
  have := h xs
  unfold ofErr
  repeat' split
  all_goals omega

set_option maxHeartbeats 8000000 in
set_option maxRecDepth 1000000 in
theorem law14_of (hst : StepLaw) (most clock0 : Int) (v : Value) (xs0 : List Slot) (dv : Value) (ds : List Deed) (w : World) (hv : SlotsAt w v xs0) (hnil : ∀ n c, v = .slice none n c → v = .slice none 0 0) (hs : ∀ s ∈ xs0, SlotOk s) (hlen0 : xs0.length ≤ 100)
    (hd : DeedSlice w dv ds) (hlen : ds.length ≤ 40) (hc0 : 0 ≤ clock0) (hc1 : clock0 < 18446744073709551616) (hm0 : -9223372036854775808 ≤ most) (hm1 : most ≤ 9223372036854775807) :
    Calls Tryz.prog 8 #[.int .i64 most, .int .u64 clock0, v, dv] w fun x w' => x = .returned (.bool true) ∧ Ext w w' := by
  obtain ⟨⟨sa, sc, rfl, hl⟩, -, heach⟩ := hd
  have HL := Lib.hid hl
  have HE := Lib.hid heach
  have HST := Lib.hid hst
  have HV := Lib.hid hv
  have HN := Lib.hid hnil
  have HS := Lib.hid hs
  obtain ⟨xa, xc, rfl⟩ := hv.size
  clear hl heach hst hnil hs hv
  go_enter Tryz.func8, Tryz.ntmps8
  go_wp2_with fail
  refine (table_Of most clock0 _ xs0 _ HV.out HS.out (by omega) hc0 hc1 hm0 hm1).mono ?_
  rintro x w1 ⟨p, rfl, hx1, hp⟩
  go_wp2_with fail
  refine (ref14_Of most clock0 _ xs0 _ (HV.out.ext hx1) HN.out HS.out (by omega) hc0 hc1 hm0 hm1).mono ?_
  rintro x w2 ⟨M, C, v2, rfl, hx2, ⟨va2, vn2, vc2, rfl⟩, hgood⟩
  have hEu := ofErr_u most clock0 xs0
  have HREL := Lib.hid (fun h => of_rel (most := most) (clock := clock0) (xs := xs0) h HS.out)
  generalize hE : ofErr most clock0 xs0 = E at *
  have hwE : IntKind.i64.wrap E = E := by simp [IntKind.wrap, IntKind.signed, IntKind.bits]; omega
  clear hE
  by_cases hE0 : E = 0
  · subst hE0
    have hq0 : ((0 : Int) == 0) = true := rfl
    obtain ⟨rfl, rfl, hrow⟩ := hgood rfl
    obtain ⟨vb, vd, hvv⟩ := hrow.size
    injection hvv with e1 e2 e3
    subst e2
    clear e1 e3 vb vd hgood
    rcases hp with ⟨-, t, m, rfl, htw, hmw, ht1⟩ | ⟨h, -⟩
    rotate_left
    · exact absurd rfl h
    have bG := Blk.new w2 #[.int .i64 M, .int .u64 C, .slice va2 xs0.length vc2] 47
    have hxG := hx2.alloc (.cells #[.int .i64 M, .int .u64 C, .slice va2 xs0.length vc2] 47)
    have hl1 := ht1.blk.lt
    have hl1' := ht1.map.lt
    have hl2 := hx2.sz
    go_wp2_with fail
    have hlG := bG.lt
    have hrow3 := hrow.ext ((Ext.refl _).alloc (.cells #[.int .i64 M, .int .u64 C, .slice va2 xs0.length vc2] 47))
    generalize w2.alloc (.cells #[.int .i64 M, .int .u64 C, .slice va2 xs0.length vc2] 47) = w3 at *
    generalize hg : w2.heap.size = g at *
    generalize hB0 : w1.heap.size = B0 at *
    have HR0 := Lib.hid (show RelAt B0 w3 t m (putTo xs0).2 M C (putTo xs0).1 (.slice va2 xs0.length vc2) xs0 (xs0.length + 0) from
      ⟨ht1.ext hxG, putTo_ok xs0 HS.out, hrow3, (HREL.out (by trivial)).1, Nat.le_refl _, putTo_len xs0, by omega, by omega, hc0, hc1⟩)
    have HX0 := Lib.hid (hx1.trans hxG)
    have HBG := Lib.hid bG
    clear ht1 bG hxG hx1 hx2 hrow
    go_loopw [13] (fun i wr => ∃ (k c : Nat) (clock : Int) (l : SMap) (va : Option Addr) (vc : Nat) (all : List Slot), k ≤ ds.length ∧ i = .int .i64 k ∧ RelAt B0 wr t m c M clock l (.slice va all.length vc) all (xs0.length + k) ∧ Blk wr g #[.int .i64 M, .int .u64 clock, .slice va all.length vc] 47 ∧ Ext w wr) (fun i _ => ds.length - (intOf i).toNat)
    case atStart => exact ⟨0, _, _, _, va2, vc2, xs0, by omega, rfl, HR0.out, HBG.out, HX0.out⟩
    case round =>
      obtain ⟨k, c, clock, l, va, vc, all, hk, rfl, hrel, hbg, hx⟩ := hrel
      clear HR0 HBG HX0
      have HR := Lib.hid hrel
      have HBG := Lib.hid hbg
      have HX := Lib.hid hx
      have hgw := hbg.lt
      by_cases hlt : k < ds.length
      · have hll := hrel.lenL
        have hla := hrel.lenA
        have hsl := hrel.rel.slots hrel.ok hrel.n0 hrel.n1
        have hst := fun W (hx : Ext wr W) => table_Slots t m c M clock l W (HR.out.tab.ext hx) HR.out.ok HR.out.n0 HR.out.n1 (by omega)
        have hsr := fun W (hx : Ext wr W) => ref14_Slots M clock (.slice va all.length vc) all W (HR.out.row.slots.ext hx) HR.out.rel.ok HR.out.n0 HR.out.n1 (by omega)
        have hxl : (rSlots clock all).length ≤ 1000000 := by have := rSlots_len clock all; omega
        rw [hsl] at hst
        generalize rSlots clock all = xs at *
        have HSL := Lib.hid hst
        have HSR := Lib.hid hsr
        have HXL := Lib.hid hxl
        have c0 : wr.cell? ⟨g, 0, none⟩ = some (.int .i64 M) := hbg.cell 0
        have c1 : wr.cell? ⟨g, 1, none⟩ = some (.int .u64 clock) := hbg.cell 1
        have c2 : wr.cell? ⟨g, 2, none⟩ = some (.slice va all.length vc) := hbg.cell 2
        clear hst hsr hxl hsl hll hla hrel hbg hx
        go_upto_region 8 with fail
        go_region_held3 (fun w' => w'.cell? ⟨g, 0, none⟩ = some (.int .i64 M) ∧ w'.cell? ⟨g, 1, none⟩ = some (.int .u64 clock) ∧ w'.cell? ⟨g, 2, none⟩ = some (.slice va all.length vc) ∧ Ext wr w')
          (((try go_split_ands); refine ⟨?_, ?_, ?_, ?_⟩ <;> first | with_reducible assumption | exact (Ext.refl _).drew | ((repeat (first | with_reducible exact Ext.refl _ | with_reducible assumption | with_reducible refine Ext.alloc ?_ _ | with_reducible refine Ext.drew ?_ | (with_reducible refine Ext.setCell ?_ (by first | exact Nat.le_refl _ | (dsimp only; omega) | (simp; done) | (simp; omega)) _) | with_reducible refine Ext.trans ?_ (by with_reducible assumption))); done) | (refine Ext.keep (w := wr) (by repeat (first | with_reducible exact Ext.refl _ | with_reducible assumption | with_reducible refine Ext.alloc ?_ _ | with_reducible refine Ext.drew ?_ | (with_reducible refine Ext.setCell ?_ (by first | exact Nat.le_refl _ | (dsimp only; omega) | (simp; done) | (simp; omega)) _) | with_reducible refine Ext.trans ?_ (by with_reducible assumption))) ?_; with_reducible assumption)))
          (first
            | (go_at_call 16; (with_reducible refine (HSR.out _ (by repeat (first | with_reducible exact Ext.refl _ | with_reducible assumption | with_reducible refine Ext.alloc ?_ _ | with_reducible refine Ext.drew ?_ | (with_reducible refine Ext.setCell ?_ (by first | exact Nat.le_refl _ | (dsimp only; omega) | (simp; done) | (simp; omega)) _) | with_reducible refine Ext.trans ?_ (by with_reducible assumption)))).mono ?_); rintro x w6 ⟨v6, rfl, hr6, hx6⟩; obtain ⟨a6, c6, rfl⟩ := hr6.size)
            | (go_at_call 18; (with_reducible refine (HSL.out _ (by repeat (first | with_reducible exact Ext.refl _ | with_reducible assumption | with_reducible refine Ext.alloc ?_ _ | with_reducible refine Ext.drew ?_ | (with_reducible refine Ext.setCell ?_ (by first | exact Nat.le_refl _ | (dsimp only; omega) | (simp; done) | (simp; omega)) _) | with_reducible refine Ext.trans ?_ (by with_reducible assumption)))).mono ?_); rintro x w7 ⟨v7, rfl, hr7, hx7⟩; obtain ⟨a7, c7, rfl⟩ := hr7.at.size)
            | (go_at_call 17; (with_reducible refine (ref14_Same_yes _ _ xs _ (hr7.at.ext (by repeat (first | with_reducible exact Ext.refl _ | with_reducible assumption | with_reducible refine Ext.alloc ?_ _ | with_reducible refine Ext.drew ?_ | (with_reducible refine Ext.setCell ?_ (by first | exact Nat.le_refl _ | (dsimp only; omega) | (simp; done) | (simp; omega)) _) | with_reducible refine Ext.trans ?_ (by with_reducible assumption)))) hr6.slots HXL.out).mono ?_); rintro x w8 ⟨rfl, hx8⟩))
        have hxf : Ext wr w8 := (by repeat (first | with_reducible exact Ext.refl _ | with_reducible assumption | with_reducible refine Ext.alloc ?_ _ | with_reducible refine Ext.drew ?_ | (with_reducible refine Ext.setCell ?_ (by first | exact Nat.le_refl _ | (dsimp only; omega) | (simp; done) | (simp; omega)) _) | with_reducible refine Ext.trans ?_ (by with_reducible assumption)))
        have HR := Lib.hid (HR.out.up hxf)
        have HBG := Lib.hid (HBG.out.ext hxf)
        have HX := Lib.hid (HX.out.trans hxf)
        have hrel := HR.out
        have hbg := HBG.out
        have hx := HX.out
        have hgw8 := HBG.out.lt
        clear hx6 hx7 hx8 c0 c1 c2 hxf HSL HSR HXL hr6 hr7 hgw
        have hgw := hgw8
        clear hgw8
        obtain ⟨b, oo, rfl, hcc⟩ := HL.out (by intro e; rw [e] at hlt; simp at hlt)
        have hdd := HE.out ds[k] (List.getElem_mem _)
        obtain ⟨d0, d1, d2, d3, d4, d5, d6⟩ := deed_cells hcc hx k hlt
        have hbw : b < w.heap.size := cell_lt (hcc k hlt 0 (by omega))
        have HSTP := Lib.hid (fun W (hx : Ext w8 W) => HST.out B0 t m c (xs0.length + k) M clock l (.slice va all.length vc) all ds[k] w W (HR.out.up hx) (by have := hx.sz; omega) (by omega) (HX.out.trans hx) htw hmw hdd)
        obtain ⟨ka, kc, hkv, -⟩ := hdd.key.form
        rw [hkv] at d3
        simp only [hkv] at HSTP
        clear hcc hdd hkv
        generalize ds[k].kind = dk at *
        generalize ds[k].wait = dw at *
        generalize ds[k].big = db at *
        generalize ds[k].rule = dr at *
        generalize ds[k].n = dn at *
        generalize ds[k].to = dt at *
        generalize (ds[k].key).length = kn at *
        generalize hob : oo + k * 7 = ob at *
        have hn0 := hrel.n0
        have hn1 := hrel.n1
        have t0 : w8.cell? ⟨g, 0, none⟩ = some (.int .i64 M) := hbg.cell 0
        have t1 : w8.cell? ⟨g, 1, none⟩ = some (.int .u64 clock) := hbg.cell 1
        have t2 : w8.cell? ⟨g, 2, none⟩ = some (.slice va all.length vc) := hbg.cell 2
        clear hrel hbg hx
        go_upto_region 10 with fail
        go_cut [14, 15] from 41 to 69 (DoesCut B0 t m g M (xs0.length + k) w8)
        case first =>
          go_region_held3 (fun w' => w'.cell? ⟨g, 0, none⟩ = some (.int .i64 M) ∧ w'.cell? ⟨g, 1, none⟩ = some (.int .u64 clock) ∧ w'.cell? ⟨g, 2, none⟩ = some (.slice va all.length vc) ∧ w'.cell? ⟨b, ob, none⟩ = some (.int .u8 dk) ∧ w'.cell? ⟨b, ob + 1, none⟩ = some (.int .u32 dw) ∧ w'.cell? ⟨b, ob + 2, none⟩ = some (.int .u8 db) ∧ w'.cell? ⟨b, ob + 3, none⟩ = some (.slice ka kn kc) ∧ w'.cell? ⟨b, ob + 4, none⟩ = some (.int .u8 dr) ∧ w'.cell? ⟨b, ob + 5, none⟩ = some (.int .u16 dn) ∧ w'.cell? ⟨b, ob + 6, none⟩ = some (.int .u8 dt))
            (((try go_split_ands); refine ⟨?_, ?_, ?_, ?_, ?_, ?_, ?_, ?_, ?_, ?_⟩ <;> first | with_reducible assumption | (refine Ext2.keep (w := w8) (t := t) (m := m) (by repeat (first | with_reducible exact Ext2.refl _ _ _ | with_reducible assumption | with_reducible refine Ext2.alloc ?_ _ | with_reducible refine Ext2.drew ?_ | (with_reducible refine Ext2.set ?_ (by first | exact Nat.le_refl _ | omega) _ _) | with_reducible refine Ext2.trans ?_ (by with_reducible assumption))) ?_ ?_ ?_ <;> first | with_reducible assumption | (dsimp only; omega))))
            (first
              | (go_at_call 13; (with_reducible refine (HSTP.out _ (by repeat (first | with_reducible exact Ext.refl _ | with_reducible assumption | with_reducible refine Ext.alloc ?_ _ | with_reducible refine Ext.drew ?_ | (with_reducible refine Ext.setCell ?_ (by first | exact Nat.le_refl _ | (dsimp only; omega) | (simp; done) | (simp; omega)) _) | with_reducible refine Ext.trans ?_ (by with_reducible assumption)))).mono ?_); rintro x w9 ⟨clock', l', c', v', all', rfl, hrel9, hx9⟩; obtain ⟨va', vc', rfl⟩ := hrel9.row.size; have hs9 := hx9.size; (try simp at hs9); (try (have bS : Blk w9 w8.heap.size #[.int .i64 0, .int .u64 0, .slice none 0 0] 47 := Blk.ext2 (Blk.drew (Blk.new' _ _ _ rfl)) hx9 (by omega) (by omega); have bc := bS.cell; have bf := bS.free; have bl := bS.lt))))
          all_goals
            go_wp2
            go_meet
            first
              | exact ⟨_, c', vc', clock', l', va', all', rfl, rfl, by omega, Blk.new _ _ _, hrel9.up ((Ext.refl _).alloc _), (((Ext2.refl _ _ _).drew).trans hx9).alloc _⟩
              | exact ⟨_, c', vc', clock', l', va', all', rfl, rfl, by omega, Blk.set3 bS _ _ _, hrel9.set3 (by omega) bS (by decide) _ _ _, ((((Ext2.refl _ _ _).alloc _).drew).trans hx9).set3 (Nat.le_refl _) _ _ _⟩
        case rest =>
          obtain ⟨g8, c', vc', clock', l', va', all', rfl, rfl, hg8, hb8, hrel8, hx8⟩ := hcut
          have hbg' := HBG.out.ext2 hx8 (by omega) (by omega)
          have hc8 := hb8.cell
          have hcg := hbg'.cell
          have hfg := hbg'.free
          have hlg := hbg'.lt
          clear t0 t1 t2 d0 d1 d2 d3 d4 d5 d6
          go_upto_region 12 with fail
          refine wp_genD (fun wy hwy => ?_)
          have hby : Blk wy g #[.int .i64 M, .int .u64 clock', .slice va' all'.length vc'] 47 := by rw [hwy]; exact Blk.set3 hbg' _ _ _
          have hrely : RelAt B0 wy t m c' M clock' l' (.slice va' all'.length vc') all' (xs0.length + k + 1) := by rw [hwy]; exact hrel8.set3 (by omega) hbg' (by decide) _ _ _
          have hxy2 : Ext w wy := by rw [hwy]; exact ((HX.out.own2 hx8 htw hmw).setCell (by dsimp only; omega) _ |>.setCell (by dsimp only; omega) _).setCell (by dsimp only; omega) _
          have hxw := hxy2
          have HXY := Lib.hid hxy2
          have HRY := Lib.hid hrely
          have HBY := Lib.hid hby
          clear hwy hby hrely hxy2 hcg hfg hlg hc8 hb8 hrel8 hx8 hbg' hxw
          go_wp2
          go_roundw
          case rel => exact ⟨k + 1, c', clock', l', va', vc', all', by omega, by go_num, HRY.out, HBY.out, HXY.out⟩
          case measure => simp [intOf]; omega
      · go_wp2
        go_ret
        exact ⟨rfl, HX.out⟩
  · have hEq : (E == 0) = false := by simpa using hE0
    have hEn : (E != 0) = true := by simpa using hE0
    rcases hp with ⟨h, -⟩ | ⟨-, rfl⟩
    · exact absurd h hE0
    have hxG := hx2.alloc (.cells #[.int .i64 M, .int .u64 C, .slice va2 vn2 vc2] 47)
    obtain ⟨hEu0, hEu1⟩ := hEu
    go_wp2_with fail
    refine wp_loop_rounds 1 ?_
    rw [rounds_succ]
    go_wp2
    all_goals
      go_ret
      exact ⟨rfl, hx1.trans hxG⟩
end Go.Proofs.YtnlmbmbalmkiiaaGreat

/- How a slice of deeds comes out of an argument's reading. -/
namespace Go.Proofs.YtnlmbmbalmkiiaaGreat
open Go.ChangeShapes Go.WideShapes Go.ChangeAt Go.RowKit Go.Deep
set_option linter.unusedVariables false
set_option linter.unusedSimpArgs false

section
variable {H : Type} {enc : TypeId × Value → H} {P : Program} {w : World} {base : Nat} {held : Bool}

/-- one element's fields, a cell each -/
theorem field_cells {e : TypeId} {fs : Array Field} {fuel : Nat} {a : Addr} {cs : List Value} {x : DataW H × List MemPlace} {sp : Nat → Bool} (he : P.underlying e = some (.struct fs)) (hone : oneCellFields P fs = true) (hC : P.cellsOf e = fs.size)
    (hc : w.cells? base a (P.cellsOf e) = some cs) (ht : DataW.trod enc P w base sp held fuel e cs = some x) :
    ∀ (j : Nat) (f : Field), fs[j]? = some f → ∃ (v : Value) (y : DataW H × List MemPlace) (n : Nat), w.cell? (a.add j) = some v ∧ DataW.trod enc P w base sp held n f.type [v] = some y := by
  obtain ⟨xs, n, -, -, -, hlen, hf⟩ := DataW.trod_struct he ht
  obtain ⟨-, hcl, hat⟩ := World.cells?_some hc
  intro j f hj
  obtain ⟨ho, hk⟩ := hone_of hone j f hj
  have hjl : j < fs.size := (Array.getElem?_eq_some_iff.1 hj).1
  have hjc : j < cs.length := by rw [hcl, hC]; exact hjl
  have h1 := hf j f hj
  rw [ho, hk] at h1
  have e1 : (cs.drop j).take 1 = [cs[j]] := by rw [List.drop_eq_getElem_cons hjc]; rfl
  rw [e1] at h1
  refine ⟨cs[j], xs[j]'(by omega), n, ?_, h1.trans (List.getElem?_eq_getElem (by omega))⟩
  rw [hat j (by rw [hC]; exact hjl), List.getElem?_eq_getElem hjc]

theorem field_int {t : TypeId} {k : IntKind} {v : Value} {n : Nat} {sp : Nat → Bool} {y : DataW H × List MemPlace} (ht : P.underlying t = some (.int k)) (h : DataW.trod enc P w base sp held n t [v] = some y) : ∃ x, v = .int k x ∧ (Lit.int k x).wf = true := by
  obtain ⟨x, hv, -, hw⟩ := DataW.trod_int ht h
  simp only [List.cons.injEq, and_true] at hv
  exact ⟨x, hv, hw⟩

theorem field_bytes {t e : TypeId} {v : Value} {n : Nat} {y : DataW H × List MemPlace} (ht : P.underlying t = some (.slice e)) (he : P.underlying e = some (.int .u8)) (hc : P.cellsOf e = 1) (h : DataW.trod enc P w base (fun _ => true) held n t [v] = some y) : ∃ l, ByteSlice w v l := by
  rcases open_ints ht he hc h with ⟨hcs, _⟩ | ⟨x, len', cap', zs, hcs, _, hl, hm, hz, _, hcell, hwz⟩
  · simp only [List.cons.injEq, and_true] at hcs
    subst hcs
    exact ⟨[], ⟨_, _, rfl, fun h => absurd rfl h⟩, by simp⟩
  · simp only [List.cons.injEq, and_true] at hcs
    subst hcs
    simp only [if_true] at hz
    have hlen : ((zs.take len').map fun n => UInt8.ofNat n.toNat).length = len' := by rw [List.length_map, List.length_take, hz]; omega
    refine ⟨(zs.take len').map fun n => UInt8.ofNat n.toNat, ⟨some x, cap', by rw [hlen], fun hne => ?_⟩, by rw [hlen]; omega⟩
    have h0 : 0 < len' := by
      rcases Nat.eq_zero_or_pos len' with e | e
      · subst e; simp at hne
      · exact e
    have ex := plain_addr (hcell 0 (by omega))
    refine ⟨x.block, x.off, by rw [← ex], fun j hj => ?_⟩
    rw [hlen] at hj
    have hw := hwz (zs[j]'(by omega)) (List.getElem_mem _)
    have hb : 0 ≤ zs[j]'(by omega) ∧ zs[j]'(by omega) ≤ 255 := by simpa [Lit.wf, IntKind.min, IntKind.max, IntKind.signed, IntKind.bits] using hw
    rw [← addr_add, ← ex, hcell j (by omega)]
    simp only [List.getElem_map, List.getElem_take]
    simp [List.getD, List.getElem?_eq_getElem (show j < zs.length by omega)]
    omega
end

section
variable {H : Type} {enc : TypeId × Value → H} {W : World} {r : Reach} {b0 base : Nat} {held : Bool} {v : Value} {d : DataW H} {p : List MemPlace}

set_option maxRecDepth 100000 in
theorem open_deeds (hv : Value.okWide Tryz.prog W r b0 22 v) (h : DataW.Trod enc Tryz.prog W base (fun _ => true) held 22 v d p) : ∃ l, DeedSlice W v l := by
  obtain ⟨a0, len, cap, rfl⟩ := okWide_slice Tryz.underlying22 hv
  obtain ⟨fuel, hf⟩ := h
  rcases Go.Deep.open_slice Tryz.underlying22 hf with ⟨hcs, _⟩ | ⟨x, len', cap', m, n, D, Pl, hcs, hb, hl, hm, hmm, _, hi⟩
  · simp [Value.cells] at hcs
    obtain ⟨rfl, rfl, rfl⟩ := hcs
    exact ⟨[], ⟨_, _, rfl, fun h => absurd rfl h⟩, by simp, fun d hd => (by cases hd)⟩
  · simp [Value.cells] at hcs
    obtain ⟨rfl, rfl, rfl⟩ := hcs
    simp only [if_true] at hmm
    have hC : Tryz.prog.cellsOf 37 = 7 := by kernel_rfl
    have each : ∀ i : Fin len, ∃ q : Deed, DeedOk W q ∧ ∀ j, j < 7 → W.cell? ((x.add (i.1 * 7)).add j) = q.cells[j]? := by
      intro i
      obtain ⟨cs', hc', ht'⟩ := hi i.1 (by omega)
      rw [hC] at hc'
      have hF := field_cells (fs := _) Tryz.underlying37 (by kernel_rfl) (by kernel_rfl) (by rw [hC]; exact hc') ht'
      obtain ⟨v0, y0, n0, c0, t0⟩ := hF 0 _ rfl
      obtain ⟨v1, y1, n1, c1, t1⟩ := hF 1 _ rfl
      obtain ⟨v2, y2, n2, c2, t2⟩ := hF 2 _ rfl
      obtain ⟨v3, y3, n3, c3, t3⟩ := hF 3 _ rfl
      obtain ⟨v4, y4, n4, c4, t4⟩ := hF 4 _ rfl
      obtain ⟨v5, y5, n5, c5, t5⟩ := hF 5 _ rfl
      obtain ⟨v6, y6, n6, c6, t6⟩ := hF 6 _ rfl
      obtain ⟨x0, rfl, w0⟩ := field_int Tryz.underlying5 t0
      obtain ⟨x1, rfl, w1⟩ := field_int Tryz.underlying33 t1
      obtain ⟨x2, rfl, w2⟩ := field_int Tryz.underlying5 t2
      obtain ⟨l3, w3⟩ := field_bytes Tryz.underlying34 Tryz.underlying5 (by kernel_rfl) t3
      obtain ⟨x4, rfl, w4⟩ := field_int Tryz.underlying5 t4
      obtain ⟨x5, rfl, w5⟩ := field_int Tryz.underlying35 t5
      obtain ⟨x6, rfl, w6⟩ := field_int Tryz.underlying5 t6
      refine ⟨⟨x0, x1, x2, v3, l3, x4, x5, x6⟩, ⟨(wfu8 w0).1, (wfu8 w0).2, (wfu32 w1).1, (wfu32 w1).2, (wfu8 w2).1, (wfu8 w2).2, w3, (wfu8 w4).1, (wfu8 w4).2, (wfu16 w5).1, (wfu16 w5).2, (wfu8 w6).1, (wfu8 w6).2⟩, ?_⟩
      intro j hj
      rcases (by omega : j = 0 ∨ j = 1 ∨ j = 2 ∨ j = 3 ∨ j = 4 ∨ j = 5 ∨ j = 6) with rfl | rfl | rfl | rfl | rfl | rfl | rfl
      · exact c0
      · exact c1
      · exact c2
      · exact c3
      · exact c4
      · exact c5
      · exact c6
    have hlen : (List.ofFn fun i => Classical.choose (each i)).length = len := List.length_ofFn
    refine ⟨List.ofFn fun i => Classical.choose (each i), ⟨some x, cap, by rw [hlen], fun hne => ?_⟩, by rw [hlen]; omega, fun q hq => ?_⟩
    · have h0 : 0 < len := by
        rcases Nat.eq_zero_or_pos len with e | e
        · subst e; simp at hne
        · exact e
      have hx0 := (Classical.choose_spec (each ⟨0, h0⟩)).2 0 (by omega)
      have ex : x = ⟨x.block, x.off, none⟩ := by
        have e1 : (x.add (0 * 7)).add 0 = x.add 0 := by simp [Addr.add]
        rw [e1] at hx0
        exact plain_addr (v := (Classical.choose (each ⟨0, h0⟩)).cells[0]'(by simp [Deed.cells])) (by rw [hx0]; rfl)
      refine ⟨x.block, x.off, by rw [← ex], fun j hj i hi7 => ?_⟩
      rw [hlen] at hj
      have := (Classical.choose_spec (each ⟨j, hj⟩)).2 i hi7
      rw [List.getElem_ofFn, ← this, ex]
      simp only [addr_add]
    · obtain ⟨i, rfl⟩ := (List.mem_ofFn.1 hq)
      exact (Classical.choose_spec (each i)).1
end
end Go.Proofs.YtnlmbmbalmkiiaaGreat

/- How a slice of slots comes out of an argument's reading. -/
namespace Go.Proofs.YtnlmbmbalmkiiaaGreat
open Go.ChangeShapes Go.WideShapes Go.ChangeAt Go.RowKit Go.Deep
set_option linter.unusedVariables false
set_option linter.unusedSimpArgs false

section
variable {H : Type} {enc : TypeId × Value → H} {P : Program} {w : World} {base : Nat} {held : Bool}
theorem some_of_len {α : Type} {xs : List α} {n i : Nat} (h : xs.length = n) (hi : i < n) : ∃ y, xs[i]? = some y := ⟨xs[i]'(by omega), List.getElem?_eq_getElem (by omega)⟩
theorem field_at {fs : Array Field} {n : Nat} {cs : List Value} {xs : List (DataW H × List MemPlace)} {sp : Nat → Bool} (hf : ∀ (i : Nat) (f : Field), fs[i]? = some f → DataW.trod enc P w base sp held n f.type ((cs.drop f.offset).take (P.cellsOf f.type)) = xs[i]?)
    (i ty off sz : Nat) {f : Field} (h : fs[i]? = some f) (h1 : f.type = ty) (h2 : f.offset = off) (h3 : P.cellsOf ty = sz) : DataW.trod enc P w base sp held n ty ((cs.drop off).take sz) = xs[i]? := by
  subst h1 h2 h3
  exact hf i f h
theorem list8 {α : Type} {l : List α} (h : l.length = 8) : ∃ a b c d e f g i, l = [a, b, c, d, e, f, g, i] := by
  match l, h with
  | [a, b, c, d, e, f, g, i], _ => exact ⟨a, b, c, d, e, f, g, i, rfl⟩
theorem field_str {t : TypeId} {v : Value} {n : Nat} {sp : Nat → Bool} {y : DataW H × List MemPlace} (ht : P.underlying t = some .string) (h : DataW.trod enc P w base sp held n t [v] = some y) : ∃ x : ByteArray, v = .string x ∧ x.size ≤ maxLen := by
  obtain ⟨x, hv, -, hw⟩ := DataW.trod_string ht h
  simp only [List.cons.injEq, and_true] at hv
  exact ⟨x, hv, hw⟩
end

section
variable {H : Type} {enc : TypeId × Value → H} {W : World} {r : Reach} {b0 base : Nat} {held : Bool} {v : Value} {d : DataW H} {p : List MemPlace}

set_option maxRecDepth 100000 in
set_option maxHeartbeats 1000000 in
theorem slot_fields {sp : Nat → Bool} {n : Nat} {cs : List Value} {x : DataW H × List MemPlace} (ht : DataW.trod enc Tryz.prog W base sp held n 69 cs = some x) :
    ∃ q : Slot, SlotOk q ∧ cs = q.cells.toList := by
  obtain ⟨xs, n1, -, -, hcl, hlen, hf⟩ := DataW.trod_struct Tryz.underlying69 ht
  have k1 : Tryz.prog.cellsOf 9 = 1 := by kernel_rfl
  have k2 : Tryz.prog.cellsOf 41 = 4 := by kernel_rfl
  have k3 : Tryz.prog.cellsOf 65 = 3 := by kernel_rfl
  have k4 : Tryz.prog.cellsOf 27 = 1 := by kernel_rfl
  have k5 : Tryz.prog.cellsOf 5 = 1 := by kernel_rfl
  have k8 : Tryz.prog.cellsOf 69 = 8 := by kernel_rfl
  rw [k8] at hcl
  obtain ⟨c0, c1, c2, c3, c4, c5, c6, c7, rfl⟩ := list8 hcl
  have h0 := field_at hf 0 9 0 1 rfl rfl rfl k1
  have h1 := field_at hf 1 41 1 4 rfl rfl rfl k2
  have h2 := field_at hf 2 65 5 3 rfl rfl rfl k3
  obtain ⟨y0, e0⟩ := some_of_len (i := 0) hlen (by decide)
  obtain ⟨y1, e1⟩ := some_of_len (i := 1) hlen (by decide)
  obtain ⟨y2, e2⟩ := some_of_len (i := 2) hlen (by decide)
  rw [e0] at h0
  rw [e1] at h1
  rw [e2] at h2
  simp only [List.drop_zero, List.drop_succ_cons, List.take_succ_cons, List.take_zero] at h0 h1 h2
  obtain ⟨xr, n2, -, -, -, hlr, hfr⟩ := DataW.trod_struct Tryz.underlying41 h1
  obtain ⟨xt, n3, -, -, -, hls, hfs⟩ := DataW.trod_struct Tryz.underlying65 h2
  have r0 := field_at hfr 0 9 0 1 rfl rfl rfl k1
  have r1 := field_at hfr 1 27 1 1 rfl rfl rfl k4
  have r2 := field_at hfr 2 27 2 1 rfl rfl rfl k4
  have r3 := field_at hfr 3 5 3 1 rfl rfl rfl k5
  have s0 := field_at hfs 0 5 0 1 rfl rfl rfl k5
  have s1 := field_at hfs 1 27 1 1 rfl rfl rfl k4
  have s2 := field_at hfs 2 27 2 1 rfl rfl rfl k4
  obtain ⟨z0, g0⟩ := some_of_len (i := 0) hlr (by decide)
  obtain ⟨z1, g1⟩ := some_of_len (i := 1) hlr (by decide)
  obtain ⟨z2, g2⟩ := some_of_len (i := 2) hlr (by decide)
  obtain ⟨z3, g3⟩ := some_of_len (i := 3) hlr (by decide)
  obtain ⟨u0, t0⟩ := some_of_len (i := 0) hls (by decide)
  obtain ⟨u1, t1⟩ := some_of_len (i := 1) hls (by decide)
  obtain ⟨u2, t2⟩ := some_of_len (i := 2) hls (by decide)
  rw [g0] at r0
  rw [g1] at r1
  rw [g2] at r2
  rw [g3] at r3
  rw [t0] at s0
  rw [t1] at s1
  rw [t2] at s2
  simp only [List.drop_zero, List.drop_succ_cons, List.take_succ_cons, List.take_zero] at r0 r1 r2 r3 s0 s1 s2
  obtain ⟨v0, rfl, w0⟩ := field_str Tryz.underlying9 h0
  obtain ⟨v1, rfl, w1⟩ := field_str Tryz.underlying9 r0
  obtain ⟨v2, rfl, w2⟩ := field_int Tryz.underlying27 r1
  obtain ⟨v3, rfl, w3⟩ := field_int Tryz.underlying27 r2
  obtain ⟨v4, rfl, w4⟩ := field_int Tryz.underlying5 r3
  obtain ⟨v5, rfl, w5⟩ := field_int Tryz.underlying5 s0
  obtain ⟨v6, rfl, w6⟩ := field_int Tryz.underlying27 s1
  obtain ⟨v7, rfl, w7⟩ := field_int Tryz.underlying27 s2
  exact ⟨⟨v0, v1, v2, v3, v4, v5, v6, v7⟩, ⟨w0, w1, (wfu64 w2).1, (wfu64 w2).2, (wfu64 w3).1, (wfu64 w3).2, (wfu8 w4).1, (wfu8 w4).2, (wfu8 w5).1, (wfu8 w5).2, (wfu64 w6).1, (wfu64 w6).2, (wfu64 w7).1, (wfu64 w7).2⟩, rfl⟩

/-- what is known of a slice of slots that came in -/
structure SlotArg (w : World) (v : Value) (l : List Slot) : Prop where
  at' : SlotsAt w v l
  nil : ∀ n c, v = .slice none n c → v = .slice none 0 0
  ok : ∀ s ∈ l, SlotOk s
  len : l.length ≤ maxLen
set_option maxRecDepth 100000 in
theorem open_slots (hv : Value.okWide Tryz.prog W r b0 28 v) (h : DataW.Trod enc Tryz.prog W base (fun _ => true) held 28 v d p) : ∃ l, SlotArg W v l := by
  obtain ⟨a0, len, cap, rfl⟩ := okWide_slice Tryz.underlying28 hv
  obtain ⟨fuel, hf⟩ := h
  rcases Go.Deep.open_slice Tryz.underlying28 hf with ⟨hcs, _⟩ | ⟨x, len', cap', m, n, D, Pl, hcs, hb, hl, hm, hmm, _, hi⟩
  · simp [Value.cells] at hcs
    obtain ⟨rfl, rfl, rfl⟩ := hcs
    exact ⟨[], ⟨_, _, rfl, fun h => absurd rfl h⟩, fun _ _ _ => rfl, fun s hs => (by cases hs), by simp⟩
  · simp [Value.cells] at hcs
    obtain ⟨rfl, rfl, rfl⟩ := hcs
    simp only [if_true] at hmm
    have hC : Tryz.prog.cellsOf 69 = 8 := by kernel_rfl
    have each : ∀ i : Fin len, ∃ q : Slot, SlotOk q ∧ ∀ j, j < 8 → W.cell? ((x.add (i.1 * 8)).add j) = q.cells[j]? := by
      intro i
      obtain ⟨cs', hc', ht'⟩ := hi i.1 (by omega)
      obtain ⟨q, hq, rfl⟩ := slot_fields ht'
      refine ⟨q, hq, fun j hj => ?_⟩
      rw [hC] at hc'
      obtain ⟨-, hcl, hat⟩ := World.cells?_some hc'
      rw [hat j hj, Array.getElem?_toList]
    have hlen : (List.ofFn fun i => Classical.choose (each i)).length = len := List.length_ofFn
    refine ⟨List.ofFn fun i => Classical.choose (each i), ⟨some x, cap, by rw [hlen], fun hne => ?_⟩, fun n c h => (by cases h), fun q hq => ?_, by rw [hlen]; omega⟩
    · have h0 : 0 < len := by
        rcases Nat.eq_zero_or_pos len with e | e
        · subst e; simp at hne
        · exact e
      have hx0 := (Classical.choose_spec (each ⟨0, h0⟩)).2 0 (by omega)
      have ex : x = ⟨x.block, x.off, none⟩ := by
        have e1 : (x.add (0 * 8)).add 0 = x.add 0 := by simp [Addr.add]
        rw [e1] at hx0
        exact plain_addr (v := (Classical.choose (each ⟨0, h0⟩)).cells[0]'(by simp [Slot.cells])) (by rw [hx0]; rfl)
      refine ⟨x.block, x.off, by rw [← ex], fun j hj i hi7 => ?_⟩
      rw [hlen] at hj
      have := (Classical.choose_spec (each ⟨j, hj⟩)).2 i hi7
      rw [List.getElem_ofFn, ← this, ex]
      simp only [addr_add, Nat.add_assoc]
    · obtain ⟨i, rfl⟩ := (List.mem_ofFn.1 hq)
      exact (Classical.choose_spec (each i)).1
end
end Go.Proofs.YtnlmbmbalmkiiaaGreat

/- Walk: tollerlaw14.TableOf. -/
namespace Go.Proofs.YtnlmbmbalmkiiaaGreat
open Go.RowKit
set_option linter.unusedVariables false
set_option linter.unusedSimpArgs false

theorem RowOf.nils {α : Type} {enc : α → Array Value} {k : Nat} {E : TypeId} {base : Nat} {w : World} {v : Value} {l : List α} (h : RowOf enc k E base w v l) : ∀ n c, v = .slice none n c → v = .slice none 0 0 := by
  intro n c e
  obtain ⟨⟨-, ⟨hv, -⟩ | ⟨g, cap, cur, hv, -⟩⟩, -⟩ := h
  · exact hv
  · rw [hv] at e
    cases e

set_option maxHeartbeats 4000000 in
set_option maxRecDepth 100000 in
theorem tableOf_walk (hst : StepLaw) (m clock : Int) (rv : Value) (xs : List Slot) (k : Int) (v : Value) (ds : List Deed) (now : Int) (w : World) (hm0 : -9223372036854775808 ≤ m) (hm1 : m ≤ 9223372036854775807) (hc0 : 0 ≤ clock) (hc1 : clock < 18446744073709551616)
    (hr : SlotArg w rv xs) (hk0 : 0 ≤ k) (hk1 : k < 256) (hv : DeedSlice w v ds) (hn0 : 0 ≤ now) (hn1 : now < 18446744073709551616) :
    Calls Tryz.prog 4 #[.int .i64 m, .int .u64 clock, rv, .int .u8 k, v, .int .u64 now] w fun x w' => x = .returned (.bool true) ∧ Ext w w' := by
  have HV := Lib.hid hv
  have HR := Lib.hid hr
  have HST := Lib.hid hst
  obtain ⟨a, c, rfl, -⟩ := hv.form
  obtain ⟨ra, rc, rfl⟩ := hr.at'.size
  clear hv hst hr
  go_enter Tryz.func4, Tryz.ntmps4
  by_cases hx20 : 20 < xs.length
  · go_wp2_with fail
    refine (law14_known _).mono ?_
    rintro x w2 ⟨rfl, hx2⟩
    go_wp2
    go_ret
    exact ⟨rfl, hx2⟩
  go_wp2_with fail
  refine (law14_Heavy _ ds _ HV.out).mono ?_
  rintro x w1 ⟨⟨n, rfl⟩, hx1⟩
  by_cases hn : 500 < n
  · go_wp2_with fail
    refine (law14_known _).mono ?_
    rintro x w2 ⟨rfl, hx2⟩
    go_wp2
    go_ret
    exact ⟨rfl, hx1.trans hx2⟩
  by_cases hl : 30 < ds.length
  · go_wp2_with fail
    refine (law14_known _).mono ?_
    rintro x w2 ⟨rfl, hx2⟩
    go_wp2
    go_ret
    exact ⟨rfl, hx1.trans hx2⟩
  go_wp2_with fail
  refine (law14_known _).mono ?_
  rintro x w2 ⟨rfl, hx2⟩
  have hx12 := hx1.trans hx2
  go_wp2_with fail
  refine (law14_of HST.out m clock _ xs _ ds _ (HR.out.at'.ext hx12) HR.out.nil HR.out.ok (by omega) (HV.out.ext hx12) (by omega) hc0 hc1 hm0 hm1).mono ?_
  rintro x w3 ⟨rfl, hx3⟩
  have hx13 := hx12.trans hx3
  have htm : k.tmod 14 = k % 14 := Int.tmod_eq_emod_of_nonneg hk0
  have hw8 : IntKind.u8.wrap (k % 14) = k % 14 := by simp [IntKind.wrap, IntKind.signed, IntKind.bits]; omega
  have hw64 : IntKind.i64.wrap (k % 14) = k % 14 := by simp [IntKind.wrap, IntKind.signed, IntKind.bits]; omega
  go_wp2_with fail
  refine (law14_Slots _ ds (now / 4) _ (HV.out.ext hx13) (by omega) (by omega)).mono ?_
  rintro x w4 ⟨v4, xs4, rfl, hr4, hl4, hok4, hx4⟩
  have hx14 := hx13.trans hx4
  go_wp2_with fail
  refine (law14_of HST.out (k % 14) (now / 4) _ xs4 _ ds _ hr4.slots hr4.nils hok4 (by omega) (HV.out.ext hx14) (by omega) (by omega) (by omega) (by omega) (by omega)).mono ?_
  rintro x w5 ⟨rfl, hx5⟩
  have hx15 := hx14.trans hx5
  go_wp2_with fail
  refine (law14_Slots _ ds (now / 4) _ (HV.out.ext hx15) (by omega) (by omega)).mono ?_
  rintro x w6 ⟨v6, xs6, rfl, hr6, hl6, hok6, hx6⟩
  have hx16 := hx15.trans hx6
  go_wp2_with fail
  refine (law14_of HST.out 5 clock _ xs6 _ ds _ hr6.slots hr6.nils hok6 (by omega) (HV.out.ext hx16) (by omega) hc0 hc1 (by omega) (by omega)).mono ?_
  rintro x w7 ⟨rfl, hx7⟩
  go_wp2
  go_ret
  exact ⟨rfl, hx16.trans hx7⟩
end Go.Proofs.YtnlmbmbalmkiiaaGreat
