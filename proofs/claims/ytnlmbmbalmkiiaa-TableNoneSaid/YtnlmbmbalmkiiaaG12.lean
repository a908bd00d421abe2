/- The walk of tollerlaw14.TableOther. -/
import Derived.Deep.DeepCutAuto
import Derived.Deep.CutRange
import Derived.Deep.CutBlock
import Derived.Test.YtnlmbmbalmkiiaaG8
import Derived.Test.YtnlmbmbalmkiiaaG10
import Derived.Test.YtnlmbmbalmkiiaaG9

/- The walk of tollerlaw14.TableOther. -/
namespace Go.Proofs.Ytnlmbmbalmkiiaa
open Go.RowKit
set_option linter.unusedVariables false
set_option linter.unusedSimpArgs false

theorem TabAt.extB {w w' : World} {t mb c g : Nat} {most clock : Int} {l : SMap} (h : TabAt w t mb most clock l c) (e : ExtB g w w') (n1 : t ≠ g) (n2 : mb ≠ g) : TabAt w' t mb most clock l c := ⟨h.blk.extB e n1, h.map.extB e n2⟩
theorem x_key (s : ByteArray) (h : s.size ≤ 12) {P : Program} (w : World) : (Op.stringOp .add (⟨#[120]⟩ : ByteArray) s).run P w = .ok (.string (⟨#[120]⟩ ++ s)) w := by
  refine run_string_add_sum (P := P) (w := w) _ _ ?_
  have : (⟨#[120]⟩ : ByteArray).size = 1 := rfl
  omega

theorem law14_RuleY (k e b rk : Int) (p : ByteArray) (w : World) (hk0 : 0 ≤ k) (hk1 : k < 256) (h : Hid (rP k = p ∧ rE k = e ∧ rB k = b ∧ rK k = rk)) :
    Calls Try.prog 11 #[.int .u8 k] w fun x w' => x = .returned (.agg #[.string p, .int .u64 e, .int .u64 b, .int .u8 rk]) ∧ Ext w w' := by
  obtain ⟨rfl, rfl, rfl, rfl⟩ := h.out
  exact law14_Rule k w hk0 hk1

/-- two tables that are alike in a key -/
structure Two (w : World) (t m t' m' : Nat) (i : Nat) (clock : Int) (l l' : SMap) (c c' : Nat) : Prop where
  a : TabAt w t m 50 clock l c
  b : TabAt w t' m' 50 clock l' c'
  aok : TabOk l c
  bok : TabOk l' c'
  alike : l.look ⟨#[121]⟩ = l'.look ⟨#[121]⟩
  alen : l.length ≤ i
  blen : l'.length ≤ i

set_option maxHeartbeats 4000000 in
set_option maxRecDepth 100000 in
theorem other_walk (v : Value) (l : List Deed) (k : Int) (w : World) (hv : DeedSlice w v l) (hk0 : 0 ≤ k) (hk1 : k < 256) :
    Calls Try.prog 4 #[v, .int .u8 k] w fun x w' => x = .returned (.bool true) ∧ Ext w w' := by
  have HV := Lib.hid hv
  clear hv
  go_enter Try.func4, Try.ntmps4
  go_wp2_with fail
  refine (law14_Heavy v l _ HV.out).mono ?_
  rintro x w1 ⟨⟨hvn, rfl⟩, hx1⟩
  by_cases hbig : 300 < hvn
  · go_wp2_with fail
    refine (law14_known _).mono ?_
    rintro x w2 ⟨rfl, hx2⟩
    go_wp2
    go_ret
    exact ⟨rfl, (by repeat (first | with_reducible exact Ext.refl _ | with_reducible assumption | with_reducible refine Ext.alloc ?_ _ | with_reducible refine Ext.drew ?_ | (with_reducible refine Ext.setCell ?_ (by first | exact Nat.le_refl _ | (dsimp only; omega) | (simp; done) | (simp; omega)) _) | with_reducible refine Ext.trans ?_ (by with_reducible assumption)))⟩
  · have hrk := rule_ok (j := k % 240) (by omega) (by omega)
    go_wp2_with fail
    refine (table_New 50 _ (by decide) (by decide)).mono ?_
    rintro x w2 ⟨rfl, ht2, hx2⟩
    go_wp2_with fail
    refine (table_New 50 _ (by decide) (by decide)).mono ?_
    rintro x w3 ⟨rfl, ht3, hx3⟩
    have h23 := ht2.blk.lt
    have hT : Two w3 (w1.heap.size + 1) w1.heap.size (w2.heap.size + 1) w2.heap.size 0 0 [] [] 0 0 := ⟨ht2.ext hx3, ht3, TabOk.nil 0, TabOk.nil 0, rfl, Nat.le_refl _, Nat.le_refl _⟩
    have HT := Lib.hid hT
    have hxa := hx1.trans (hx2.trans hx3)
    have HV2 := Lib.hid (HV.out.ext hx1)
    obtain ⟨⟨va, vc, rfl, hl⟩, hlen, heach⟩ := HV2.out
    unfold maxLen at hlen
    have HL := Lib.hid hl
    have HE := Lib.hid heach
    have HX := Lib.hid (hx2.trans hx3)
    clear hl heach HV HV2 ht2 ht3 hT hx2 hx3
    generalize hm1 : w1.heap.size = m1 at *
    generalize w2.heap.size = m2 at *
    have hw0 : k.tmod 240 = k % 240 := Int.tmod_eq_emod_of_nonneg hk0
    have hw1 : IntKind.u8.wrap (k % 240) = k % 240 := by simp [IntKind.wrap, IntKind.signed, IntKind.bits]; omega
    go_wp2_with fail
    go_loopw [7] (fun j wr => ∃ (i : Nat) (lt lu : SMap) (ct cu : Nat) (clk : Int), i ≤ l.length ∧ i ≤ 30 ∧ j = .int .i64 i ∧ 0 ≤ clk ∧ clk ≤ 50 * i ∧ Two wr (m1 + 1) m1 (m2 + 1) m2 i clk lt lu ct cu ∧ Ext w1 wr) (fun j _ => 30 - (intOf j).toNat)
    case atStart => exact ⟨0, [], [], 0, 0, 0, by omega, by omega, rfl, by omega, by omega, HT.out, HX.out⟩
    case round =>
      obtain ⟨i, lt, lu, ct, cu, clk, hi1, hi2, rfl, hcl0, hcl1, hT, hxr⟩ := hrel
      have HTT := Lib.hid hT
      clear hT
      have fin : ∀ W : World, Ext wr W → True := fun _ _ => trivial
      by_cases hi3 : i < l.length
      · by_cases hi4 : i < 30
        · obtain ⟨bb, oo, rfl, hcc⟩ := HL.out (by intro e; rw [e] at hi3; simp at hi3)
          have hdd := HE.out l[i] (List.getElem_mem _)
          obtain ⟨d0, d1, -, d3, d4, d5, -⟩ := deed_cells hcc hxr i hi3
          have hdk0 := hdd.k0
          have hdk1 := hdd.k1
          have hdr0 := hdd.r0
          have hdr1 := hdd.r1
          have hdn0 := hdd.n0
          have hdn1 := hdd.n1
          have hdw0 := hdd.w0
          have hdw1 := hdd.w1
          have HBK := Lib.hid (hdd.key.ext hxr)
          have hbl : bb < w1.heap.size := by
            have := hcc i hi3 1 (by omega)
            exact cell_lt (v := .int .u32 l[i].wait) this
          generalize l[i].kind = dk at *
          generalize l[i].rule = dr at *
          generalize l[i].n = dn at *
          generalize l[i].wait = dw at *
          generalize l[i].keyv = dkv at *
          generalize l[i].key = dkl at *
          clear hcc hdd
          rcases (by omega : dk % 8 = 0 ∨ (dk % 8 ≠ 0 ∧ dk % 2 = 1) ∨ (dk % 8 ≠ 0 ∧ dk % 2 = 0)) with q | ⟨q, q2⟩ | ⟨q, q2⟩
          · have hv2 : dw.tmod 50 = dw % 50 := Int.tmod_eq_emod_of_nonneg hdw0
            have hv3 : IntKind.u64.wrap (dw % 50) = dw % 50 := by rw [wrap_u64]; omega
            have hv4 : IntKind.u64.wrap (clk + dw % 50) = clk + dw % 50 := by rw [wrap_u64]; omega
            have hmx : max clk (clk + dw % 50) = clk + dw % 50 := by omega
            go_upto_region 11 with fail
            go_region_held3 (fun w' => w'.cell? ⟨bb, oo + i * 7 + 1, none⟩ = some (.int .u32 dw))
              (first | exact d1)
              (first
                | (go_at_call 15; (with_reducible refine (table_Clock (m1 + 1) m1 ct 50 clk lt _ (HTT.out.a.ext ((Ext.refl _).drew)) hcl0 (by omega)).mono ?_); rintro x w6 ⟨rfl, ht6, hx6⟩; have d1 := hx6.keep d1 (by dsimp only; omega))
                | (go_at_call 14; (with_reducible refine (table_Tick (m1 + 1) m1 ct 50 clk (clk + dw % 50) lt _ ht6 hcl0 (by omega) (by omega) (by omega)).mono ?_); rw [hmx]; rintro x w7 ⟨rfl, ht7, hx7⟩; have d1 := hx7.keep d1 (by dsimp only; omega)))
            have hA7 : ExtB (m1 + 1) wr w7 := ((((Ext.refl _).drew).toB _).trans hx6).trans hx7
            have HA := Lib.hid ht7
            have HB := Lib.hid (HTT.out.b.extB hA7 (by omega) (by omega))
            clear hx6 hx7 ht6 ht7
            go_upto_region 12 with fail
            go_region_held3 (fun w' => w'.cell? ⟨bb, oo + i * 7 + 1, none⟩ = some (.int .u32 dw))
              (first | exact d1)
              (first
                | (go_at_call 15; (with_reducible refine (table_Clock (m2 + 1) m2 cu 50 clk lu _ (HB.out.ext ((Ext.refl _).drew)) hcl0 (by omega)).mono ?_); rintro x w8 ⟨rfl, ht8, hx8⟩; have d1 := hx8.keep d1 (by dsimp only; omega))
                | (go_at_call 14; (with_reducible refine (table_Tick (m2 + 1) m2 cu 50 clk (clk + dw % 50) lu _ ht8 hcl0 (by omega) (by omega) (by omega)).mono ?_); rw [hmx]; rintro x w9 ⟨rfl, ht9, hx9⟩; have d1 := hx9.keep d1 (by dsimp only; omega)))
            have hB9 : ExtB (m2 + 1) w7 w9 := ((((Ext.refl _).drew).toB _).trans hx8).trans hx9
            have hxf : Ext w1 w9 := (hxr.own hA7 (by omega)).own hB9 (by omega)
            go_wp2
            go_roundw
            case rel => exact ⟨i + 1, lt, lu, ct, cu, clk + dw % 50, by omega, by omega, by go_num, by omega, by omega, ⟨HA.out.extB hB9 (by omega) (by omega), ht9, HTT.out.aok, HTT.out.bok, HTT.out.alike, by have := HTT.out.alen; omega, by have := HTT.out.blen; omega⟩, hxf⟩
            case measure => simp [intOf]; omega
          · have q' : (dk % 8 == 0) = false := by simpa using q
            have hrb := rule_bounds hdr0 hdr1
            have hkt := keyText_ok dkl
            generalize hkx : keyText dkl = kx at hkt
            have HKX := Lib.hid hkx
            have hxk := fun W => x_key kx hkt.2 (P := Try.prog) W
            have hne := xkey_ne kx
            have hsz : ((⟨#[120]⟩ : ByteArray) ++ kx).size ≤ maxLen := by
              rw [ByteArray.size_append]
              have h1 : (⟨#[120]⟩ : ByteArray).size = 1 := rfl
              have h2 : 13 ≤ maxLen := by decide
              have h3 := hkt.2
              omega
            generalize (⟨#[120]⟩ : ByteArray) ++ kx = xk at *
            generalize hp2 : rP dr = p2 at *
            generalize he2 : rE dr = e2 at *
            generalize hb2 : rB dr = b2 at *
            generalize hk2 : rK dr = k2 at *
            have HRY := Lib.hid (And.intro hp2 (And.intro he2 (And.intro hb2 hk2)))
            obtain ⟨g1, g2, g3, g4, g5, g6, g7⟩ := hrb
            clear hkx hp2 he2 hb2 hk2 hkt
            go_upto_region 14 with fail
            go_region_held3 (fun w' => w'.cell? ⟨bb, oo + i * 7 + 3, none⟩ = some dkv ∧ w'.cell? ⟨bb, oo + i * 7 + 4, none⟩ = some (.int .u8 dr))
              (first | exact ⟨d3, d4⟩)
              (first
                | (go_at_call 10; (with_reducible refine (law09_Key dkv dkl _ (HBK.out.ext ((Ext.refl _).drew))).mono ?_); rw [HKX.out]; rintro x w5 ⟨rfl, hx5⟩; have d3 := hx5.keep d3; have d4 := hx5.keep d4)
                | (go_at_call 11; (with_reducible refine (law14_RuleY dr e2 b2 k2 p2 _ hdr0 hdr1 HRY).mono ?_); rintro x w6 ⟨rfl, hx6⟩; have d3 := hx6.keep d3; have d4 := hx6.keep d4)
                | (go_at_call 13; (with_reducible refine (charge_any (m2 + 1) m2 cu xk p2 50 clk e2 b2 k2 1 lu _ (((HTT.out.b.ext ((Ext.refl _).drew)).ext hx5).ext hx6) HTT.out.bok hcl0 (by omega) hsz g7 g1 g2 g3 g4 g5 g6 (by omega) (by omega)).mono ?_); rintro x w7 ⟨rfl, ht7, hok7, hx7⟩; have d3 := hx7.keep d3 (by dsimp only; omega); have d4 := hx7.keep d4 (by dsimp only; omega)))
            have hB7 : ExtB m2 wr w7 := ((((Ext.refl _).drew.trans hx5).trans hx6).toB _).trans hx7
            have hl7 := cgL_len (clock := clk) cu xk p2 e2 b2 k2 1 (show (lu.length : Int) < 50 by have := HTT.out.blen; omega)
            have hn7 := cgL_ne (clock := clk) cu xk p2 e2 b2 k2 1 hne (show (lu.length : Int) < 50 by have := HTT.out.blen; omega)
            go_wp2
            go_roundw
            case rel => exact ⟨i + 1, lt, _, ct, _, clk, by omega, by omega, by go_num, by omega, by omega, ⟨HTT.out.a.extB hB7 (by omega) (by omega), ht7, HTT.out.aok, hok7, HTT.out.alike.trans hn7.symm, by have := HTT.out.alen; omega, by have := HTT.out.blen; omega⟩, hxr.own hB7 (by omega)⟩
            case measure => simp [intOf]; omega
          · have q' : (dk % 8 == 0) = false := by simpa using q
            have hv0 : dn.tmod 4 = dn % 4 := Int.tmod_eq_emod_of_nonneg hdn0
            have hv1 : IntKind.u64.wrap (dn % 4) = dn % 4 := by rw [wrap_u64]; omega
            generalize hp2 : rP (k % 240) = p2 at *
            generalize he2 : rE (k % 240) = e2 at *
            generalize hb2 : rB (k % 240) = b2 at *
            generalize hk2 : rK (k % 240) = k2 at *
            have HRY := Lib.hid (And.intro hp2 (And.intro he2 (And.intro hb2 hk2)))
            obtain ⟨f1, f2, f3, f4, f5, -, f7, -⟩ := hrk
            have hk2b : 0 ≤ k2 ∧ k2 < 256 := by rw [← hk2]; unfold rK; omega
            obtain ⟨k20, k21⟩ := hk2b
            have hla : (lt.length : Int) < 50 := by have := HTT.out.alen; omega
            have hlb : (lu.length : Int) < 50 := by have := HTT.out.blen; omega
            have hsame := cg_same (clock := clk) ct cu ⟨#[121]⟩ p2 e2 b2 k2 (dn % 4) HTT.out.alike hla hlb
            have hl7 := cgL_len (clock := clk) ct ⟨#[121]⟩ p2 e2 b2 k2 (dn % 4) hla
            have hl8 := cgL_len (clock := clk) cu ⟨#[121]⟩ p2 e2 b2 k2 (dn % 4) hlb
            obtain ⟨code, err, lim, left, reset, aft, nan, ret, hV⟩ := cgV_form 50 clk lt ⟨#[121]⟩ p2 e2 b2 k2 (dn % 4)
            have HV1 := Lib.hid (show cgV 50 clk lt ⟨#[121]⟩ p2 e2 b2 k2 (dn % 4) = .agg #[.int .u8 code, .int .u16 err, .int .u64 lim, .int .u64 left, .int .u64 reset, .int .u64 aft, .int .u64 nan, .bool ret, .int .i64 0, .slice none 0 0] from hV)
            have HV3 := Lib.hid (hsame.1.trans HV1.out)
            have HS3 := Lib.hid hsame.2
            have HL7 := Lib.hid hl7
            have HL8 := Lib.hid hl8
            clear hp2 he2 hb2 hk2 hV hsame hl7 hl8
            go_upto_region 15 with fail
            go_region_held3 (fun w' => w'.cell? ⟨bb, oo + i * 7 + 5, none⟩ = some (.int .u16 dn))
              (first | exact d5)
              (first
                | (go_at_call 11; (with_reducible refine (law14_RuleY (k % 240) e2 b2 k2 p2 _ (by omega) (by omega) HRY).mono ?_); rintro x w5 ⟨rfl, hx5⟩; have d5 := hx5.keep d5)
                | (go_at_call 13; (with_reducible refine (charge_any (m1 + 1) m1 ct ⟨#[121]⟩ p2 50 clk e2 b2 k2 (dn % 4) lt _ ((HTT.out.a.ext ((Ext.refl _).drew)).ext hx5) HTT.out.aok hcl0 (by omega) (by decide) f7 (by omega) f2 (by omega) f3 k20 k21 (by omega) (by omega)).mono ?_); rw [HV1.out]; rintro x w6 ⟨rfl, ht6, hok6, hx6⟩; have d5 := hx6.keep d5 (by dsimp only; omega); have e6 : ExtB m1 wr w6 := (((Ext.refl _).drew.trans hx5).toB _).trans hx6; have hB6 := HTT.out.b.extB e6 (by omega) (by omega))
                | (go_at_call 13; (with_reducible refine (charge_any (m2 + 1) m2 cu ⟨#[121]⟩ p2 50 clk e2 b2 k2 (dn % 4) lu _ (hB6.ext hx5) HTT.out.bok hcl0 (by omega) (by decide) f7 (by omega) f2 (by omega) f3 k20 k21 (by omega) (by omega)).mono ?_); rw [HV3.out]; rintro x w7 ⟨rfl, ht7, hok7, hx7⟩; have d5 := hx7.keep d5 (by dsimp only; omega); have e7 : ExtB m2 w6 w7 := (hx5.toB _).trans hx7)
                | (go_at_call 16; (with_reducible refine (ref14_Answers_yes code err lim left reset aft nan ret _).mono ?_); rintro x w8 ⟨rfl, hx8⟩; have d5 := hx8.keep d5))
            have hA8 := (ht6.extB e7 (by omega) (by omega)).ext hx8
            have hxf : Ext w1 w8 := ((hxr.own e6 (by omega)).own e7 (by omega)).trans hx8
            have hl7 := HL7.out
            have hl8 := HL8.out
            have hla0 := HTT.out.alen
            have hlb0 := HTT.out.blen
            clear d0 d1 d3 d4 d5
            go_wp2
            go_roundw
            case rel => exact ⟨i + 1, _, _, _, _, clk, by omega, by omega, by go_num, by omega, by omega, ⟨hA8, ht7.ext hx8, hok6, hok7, HS3.out, by omega, by omega⟩, hxf⟩
            case measure => simp [intOf]; omega
        · go_wp2_with fail
          refine (law14_known _).mono ?_
          rintro x w5 ⟨rfl, hx5⟩
          go_wp2_with fail
          refine (table_Clock (m1 + 1) m1 ct 50 clk lt _ (HTT.out.a.ext hx5) hcl0 (by omega)).mono ?_
          rintro x w6 ⟨rfl, ht6, hx6⟩
          go_wp2_with fail
          refine (table_Clock (m2 + 1) m2 cu 50 clk lu _ ((HTT.out.b.ext hx5).extB hx6 (by omega) (by omega)) hcl0 (by omega)).mono ?_
          rintro x w7 ⟨rfl, ht7, hx7⟩
          go_wp2
          go_ret
          exact ⟨rfl, hx1.trans (((hxr.trans hx5).own hx6 (by omega)).own hx7 (by omega))⟩
      · go_wp2_with fail
        refine (law14_known _).mono ?_
        rintro x w5 ⟨rfl, hx5⟩
        go_wp2_with fail
        refine (table_Clock (m1 + 1) m1 ct 50 clk lt _ (HTT.out.a.ext hx5) hcl0 (by omega)).mono ?_
        rintro x w6 ⟨rfl, ht6, hx6⟩
        go_wp2_with fail
        refine (table_Clock (m2 + 1) m2 cu 50 clk lu _ ((HTT.out.b.ext hx5).extB hx6 (by omega) (by omega)) hcl0 (by omega)).mono ?_
        rintro x w7 ⟨rfl, ht7, hx7⟩
        go_wp2
        go_ret
        exact ⟨rfl, hx1.trans (((hxr.trans hx5).own hx6 (by omega)).own hx7 (by omega))⟩
end Go.Proofs.Ytnlmbmbalmkiiaa
