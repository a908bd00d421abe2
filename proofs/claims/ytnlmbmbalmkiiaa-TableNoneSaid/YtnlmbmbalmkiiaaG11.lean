/- The walk of tollerlaw14.TableRetry. -/
import Derived.Deep.DeepCutAuto
import Derived.Deep.CutRange
import Derived.Deep.CutBlock
import Derived.Test.YtnlmbmbalmkiiaaG8
import Derived.Test.YtnlmbmbalmkiiaaG10
import Derived.Test.YtnlmbmbalmkiiaaG9

/- The walk of tollerlaw14.TableRetry. -/
namespace Go.Proofs.Ytnlmbmbalmkiiaa
open Go.RowKit
set_option linter.unusedVariables false
set_option linter.unusedSimpArgs false

def chF (f W cap : Int) : Int := if f + W ≤ cap then f + W else f
/-- a charge of the one key of a table -/
theorem charge1 (t mb c : Nat) (name p : ByteArray) (clock e b rk n : Int) (l : SMap) (w : World) (h : TabAt w t mb 9 clock l c) (h1 : OneAt l c name p e b rk clock) (hko : keyOk name = true) (hm : name.size ≤ maxLen) (hr : ruleErr p e b rk = 0) (hp : p.size ≤ maxLen)
    (he1 : e < 18446744073709551616) (hb1 : b < 18446744073709551616) (hn0 : 0 ≤ clock) (hb : clock + e * b < 18446744073709551616) (hw0 : 0 ≤ n) (hw1 : n < 18446744073709551616) :
    Calls Try.prog 13 #[.pointer (some ⟨t, 0, none⟩), .string name, .agg #[.string p, .int .u64 e, .int .u64 b, .int .u8 rk], .int .u64 n] w fun x w' =>
      ∃ (l' : SMap) (c' : Nat) (code left reset aft nan : Int) (ret : Bool), x = .returned (.agg #[.int .u8 code, .int .u16 0, .int .u64 b, .int .u64 left, .int .u64 reset, .int .u64 aft, .int .u64 nan, .bool ret, .int .i64 0, .slice none 0 0]) ∧
        Hid (code = chCode (decide (vfill l name clock (e * b) + satMul n e ≤ e * b)) ∧ aft = ceilS nan 1000000000 ∧ nan = kWait (vfill l name clock (e * b)) (e * b) (satMul n e) ∧ ret = kRetry (vfill l name clock (e * b)) (e * b) (satMul n e)) ∧
        TabAt w' t mb 9 clock l' c' ∧ OneAt l' c' name p e b rk clock ∧ Hid (vfill l' name clock (e * b) = chF (vfill l name clock (e * b)) (satMul n e) (e * b)) ∧ ExtB mb w w' := by
  obtain ⟨-, he, hbb, -, hrk⟩ := ruleErr_zero hr
  have hrk' : 1 ≤ rk ∧ rk ≤ 3 := by unfold rightKind at hrk; simpa using hrk
  have hc : 0 ≤ e * b := Int.mul_nonneg (by omega) (by omega)
  obtain ⟨⟨left, reset, hv⟩, ho, hf⟩ := charge_one h1 hko hr hm hp he1 hb1 hn0 hb hw0 _ _ rfl rfl
  refine (charge_any t mb c name p 9 clock e b rk n l w h h1.ok hn0 (by omega) hm hp (by omega) he1 (by omega) hb1 (by omega) (by omega) hw0 hw1).mono ?_
  rintro x w' ⟨rfl, ht, -, hx⟩
  exact ⟨_, _, _, left, reset, _, _, _, by rw [hv]; rfl, Lib.hid ⟨rfl, rfl, rfl, rfl⟩, ht, ho, Lib.hid hf, hx⟩

theorem ans_code (W : World) (a0 a1 a2 a3 a4 a5 a6 a7 a8 a9 : Value) : (Instr.field 36 (.agg #[a0, a1, a2, a3, a4, a5, a6, a7, a8, a9]) 0).run Try.prog W = .ok a0 W := by kernel_rfl
theorem ceil_up {x : Int} (h : 0 ≤ x) : ceilS x 1000000000 = (x + 999999999) / 1000000000 := by
  unfold ceilS
  rw [if_neg (by decide)]
  split <;> omega

set_option maxHeartbeats 8000000 in
set_option maxRecDepth 100000 in
theorem retry_walk (v : Value) (l : List Deed) (cv : Value) (cl : List UInt8) (k n : Int) (w : World) (hv : DeedSlice w v l) (hc : ByteSlice w cv cl) (hk0 : 0 ≤ k) (hk1 : k < 256) (hn0 : 0 ≤ n) (hn1 : n < 65536) :
    Calls Try.prog 3 #[v, cv, .int .u8 k, .int .u16 n] w fun x w' => x = .returned (.bool true) ∧ Ext w w' := by
  have HV := Lib.hid hv
  have HCV := Lib.hid hc
  clear hv hc
  go_enter Try.func3, Try.ntmps3
  go_wp2_with fail
  refine (law14_Heavy v l _ HV.out).mono ?_
  rintro x w1 ⟨⟨hvn, rfl⟩, hx1⟩
  by_cases hbig : 300 < hvn
  · go_wp2_with fail
    refine (law14_known _).mono ?_
    rintro x w2 ⟨rfl, hx2⟩
    go_wp2
    go_ret
    exact ⟨rfl, (by repeat (first | with_reducible exact Ext.refl _ | with_reducible assumption | with_reducible refine Ext.alloc ?_ _ | with_reducible refine Ext.drew ?_ | (with_reducible refine Ext.setCell ?_ (by first | exact Nat.le_refl _ | (dsimp only; omega) | (simp; done) | (simp; omega)) _) | with_reducible refine Ext.trans ?_ (by with_reducible assumption)))⟩
  · go_wp2_with fail
    refine (law09_Key cv cl _ (HCV.out.ext hx1)).mono ?_
    rintro x w2 ⟨rfl, hx2⟩
    have hkt := keyText_ok cl
    have hname := first1_ok hkt.1
    have hksz : 1 ≤ (keyText cl).size := by have := hkt.1; unfold keyOk at this; simp at this; omega
    generalize hkx : keyText cl = kx at *
    have HN := Lib.hid (show kx.extract 0 1 = first1 kx from rfl)
    generalize hnm : first1 kx = name at *
    clear hkx hnm
    have hrk := rule_ok (j := k % 240) (by omega) (by omega)
    go_wp2_with fail
    refine (law14_Rule (k % 240) _ (by omega) (by omega)).mono ?_
    rintro x w3 ⟨rfl, hx3⟩
    rw [HN.out]
    simp only [ruleV]
    generalize rP (k % 240) = p at *
    generalize rE (k % 240) = e at *
    generalize rB (k % 240) = b at *
    generalize rK (k % 240) = rk at *
    obtain ⟨hr, he1, hb1, he0, hb0, hcap, hp, he3⟩ := hrk
    have hm : name.size ≤ maxLen := by rw [hname.2]; decide
    obtain ⟨hko, -⟩ := hname
    have HR := Lib.hid hr
    have HKO := Lib.hid hko
    have HCAP := Lib.hid hcap
    have hxa : Ext w (w3.alloc (.cells #[.string p, .int .u64 e, .int .u64 b, .int .u8 rk] 30)) := ((hx1.trans hx2).trans hx3).alloc _
    have br := Blk.new w3 #[.string p, .int .u64 e, .int .u64 b, .int .u8 rk] 30
    clear hr hko hcap HN hkt hksz hx1 hx2 hx3
    go_upto_region 6 with fail
    generalize w3.alloc (.cells #[.string p, .int .u64 e, .int .u64 b, .int .u8 rk] 30) = wa at *
    generalize w3.heap.size = G at *
    have HV2 := Lib.hid (HV.out.ext hxa)
    obtain ⟨⟨va, vc, rfl, hl⟩, hlen, heach⟩ := HV2.out
    unfold maxLen at hlen
    have HL := Lib.hid hl
    have HE := Lib.hid heach
    have HB := Lib.hid br
    clear hl heach HV HV2 br
    go_wp2_with fail
    have hm0 : 0 ≤ 1 + n % 8 := by omega
    have hm1 : 1 + n % 8 ≤ 8 := by omega
    generalize 1 + n % 8 = m at *
    go_loopw [12] (fun la wr => ∃ late : Int, 0 ≤ late ∧ late ≤ 2 ∧ la = .int .u64 late ∧ Ext wa wr) (fun la _ => (2 - intOf la).toNat)
    case atStart => exact ⟨0, by omega, by omega, rfl, Ext.refl _⟩
    case round =>
      obtain ⟨late, hl0, hl2, rfl, hxr⟩ := hrel
      by_cases hlt : late < 2
      · go_wp2_with fail
        refine (table_New 9 _ (by decide) (by decide)).mono ?_
        rintro x w4 ⟨rfl, ht4, hx4⟩
        have ht4' : TabAt w4 (wr.heap.size + 1) wr.heap.size 9 0 [] 0 := ht4
        have HT4 := Lib.hid ht4'
        clear ht4 ht4'
        go_upto_block 2 with fail
        obtain ⟨wo, rfl⟩ : ∃ wo : World, wo = wr := ⟨_, rfl⟩
        have HX4 := Lib.hid hx4
        have hcap0 : 0 ≤ e * b := Int.mul_nonneg (by omega) (by omega)
        have HCAP0 := Lib.hid hcap0
        clear hcap0
        go_cut [14] from 38 to 70 (fun j wq => ∃ (lt : SMap) (c : Nat) (cl : Int), 0 ≤ cl ∧ cl ≤ 180 ∧ TabAt wq (wo.heap.size + 1) wo.heap.size 9 cl lt c ∧ OneAt lt c name p e b rk cl ∧ Ext wo wq)
        case first =>
          go_wp2_with fail
          go_loopw [14] (fun j wq => ∃ (i : Nat) (lt : SMap) (c : Nat) (cl : Int), i ≤ l.length ∧ i ≤ 20 ∧ j = .int .i64 i ∧ 0 ≤ cl ∧ cl ≤ 9 * i ∧ TabAt wq (wo.heap.size + 1) wo.heap.size 9 cl lt c ∧ OneAt lt c name p e b rk cl ∧ Ext wo wq) (fun j _ => 20 - (intOf j).toNat)
          case atStart => exact ⟨0, [], 0, 0, by omega, by omega, rfl, by omega, by omega, HT4.out, OneAt.nil _ _ _ _ _ _ _, HX4.out⟩
          case round =>
            obtain ⟨i, lt, c, cl, hi1, hi2, rfl, hcl0, hcl1, ht, ho, hxq⟩ := hrel
            have HT := Lib.hid ht
            have HO := Lib.hid ho
            have hG := HB.out.lt
            have hwo := hxr.sz
            clear ht ho
            by_cases hi3 : i < l.length
            · by_cases hi4 : i < 20
              · obtain ⟨bb, oo, rfl, hcc⟩ := HL.out (by intro e; rw [e] at hi3; simp at hi3)
                have hdd := HE.out l[i] (List.getElem_mem _)
                obtain ⟨-, d1, -, -, -, d5, -⟩ := deed_cells hcc (hxr.trans hxq) i hi3
                have hdn0 := hdd.n0
                have hdn1 := hdd.n1
                have hdw0 := hdd.w0
                have hdw1 := hdd.w1
                have hbl : bb < wa.heap.size := by
                  have := hcc i hi3 1 (by omega)
                  exact cell_lt (v := .int .u32 l[i].wait) this
                generalize l[i].n = dn at *
                generalize l[i].wait = dw at *
                clear hcc hdd
                have r0 := (hxr.trans hxq).keep (show wa.cell? ⟨G, 0, none⟩ = some (.string p) from HB.out.cell 0)
                have r1 := (hxr.trans hxq).keep (show wa.cell? ⟨G, 1, none⟩ = some (.int .u64 e) from HB.out.cell 1)
                have r2 := (hxr.trans hxq).keep (show wa.cell? ⟨G, 2, none⟩ = some (.int .u64 b) from HB.out.cell 2)
                have r3 := (hxr.trans hxq).keep (show wa.cell? ⟨G, 3, none⟩ = some (.int .u8 rk) from HB.out.cell 3)
                have hw0 : dn.tmod 4 = dn % 4 := Int.tmod_eq_emod_of_nonneg hdn0
                have hw1 : IntKind.u64.wrap (dn % 4) = dn % 4 := by rw [wrap_u64]; omega
                have hw2 : dw.tmod 9 = dw % 9 := Int.tmod_eq_emod_of_nonneg hdw0
                have hw3 : IntKind.u64.wrap (dw % 9) = dw % 9 := by rw [wrap_u64]; omega
                have hw4 : IntKind.u64.wrap (cl + dw % 9) = cl + dw % 9 := by rw [wrap_u64]; omega
                go_upto_region 15 with fail
                go_region_held3 (fun w' => w'.cell? ⟨bb, oo + i * 7 + 5, none⟩ = some (.int .u16 dn) ∧ w'.cell? ⟨G, 0, none⟩ = some (.string p) ∧ w'.cell? ⟨G, 1, none⟩ = some (.int .u64 e) ∧ w'.cell? ⟨G, 2, none⟩ = some (.int .u64 b) ∧ w'.cell? ⟨G, 3, none⟩ = some (.int .u8 rk))
                  (first | exact ⟨d5, r0, r1, r2, r3⟩ | exact ⟨hxx.keep d5 (by dsimp only; omega), hxx.keep r0 (by dsimp only; omega), hxx.keep r1 (by dsimp only; omega), hxx.keep r2 (by dsimp only; omega), hxx.keep r3 (by dsimp only; omega)⟩)
                  (first
                    | (go_at_call 13; (with_reducible refine (charge1 (wo.heap.size + 1) wo.heap.size c name p cl e b rk (dn % 4) lt _ (HT.out.ext ((Ext.refl _).drew)) HO.out HKO.out hm HR.out hp he1 hb1 hcl0 (by have := HCAP.out; omega) (by omega) (by omega)).mono ?_); rintro x w5 ⟨lt5, c5, code, left, reset, aft, nan, ret, rfl, -, ht5, ho5, -, hx5⟩; have hxx : ExtB wo.heap.size wr w5 := (((Ext.refl _).drew).toB _).trans hx5))
                have d1' := hxx.keep d1 (by dsimp only; omega)
                have HT5 := Lib.hid ht5
                have HO5 := Lib.hid ho5
                have HX5 := Lib.hid hxx
                have hs5 := hxx.size
                clear ht5 ho5 hx5 hxx r0 r1 r2 r3 d5 d1
                go_upto_region 16 with fail
                have hcd : max cl (cl + dw % 9) = cl + dw % 9 := by omega
                go_region_held3 (fun w' => w'.cell? ⟨bb, oo + i * 7 + 1, none⟩ = some (.int .u32 dw))
                  (first | exact d1' | exact d6 | exact d7)
                  (first
                    | (go_at_call 15; (with_reducible refine (table_Clock (wo.heap.size + 1) wo.heap.size c5 9 cl lt5 _ (HT5.out.ext ((Ext.refl _).drew)) hcl0 (by omega)).mono ?_); rintro x w6 ⟨rfl, ht6, hx6⟩; have hxx6 : ExtB (wo.heap.size + 1) w5 w6 := (((Ext.refl _).drew).toB _).trans hx6; have d6 := hxx6.keep d1' (by dsimp only; omega))
                    | (go_at_call 14; (with_reducible refine (table_Tick (wo.heap.size + 1) wo.heap.size c5 9 cl (cl + dw % 9) lt5 _ ht6 hcl0 (by omega) (by omega) (by omega)).mono ?_); rw [hcd]; rintro x w7 ⟨rfl, ht7, hx7⟩; have d7 := hx7.keep d6 (by dsimp only; omega)))
                have hxf : Ext wo w7 := ((hxq.own HX5.out (Nat.le_refl _)).own hxx6 (by omega)).own hx7 (by omega)
                go_wp2
                go_roundw
                case rel => exact ⟨i + 1, lt5, c5, cl + dw % 9, by omega, by omega, by go_num, by omega, by omega, ht7, HO5.out.later (by omega), hxf⟩
                case measure => simp [intOf]; omega
              · go_wp2
                go_meet
                exact ⟨lt, c, cl, hcl0, by omega, HT.out, HO.out, hxq⟩
            · go_wp2
              go_meet
              exact ⟨lt, c, cl, hcl0, by omega, HT.out, HO.out, hxq⟩
        case rest =>
        obtain ⟨lt, c, cl, hcl0, hcl1, ht, ho, hxq⟩ := hcut
        have HT := Lib.hid ht
        have HO := Lib.hid ho
        clear ht ho
        have hG := HB.out.lt
        have hwo := hxr.sz
        have hxw := hxr.trans hxq
        have r0 := hxw.keep (show wa.cell? ⟨G, 0, none⟩ = some (.string p) from HB.out.cell 0)
        have r1 := hxw.keep (show wa.cell? ⟨G, 1, none⟩ = some (.int .u64 e) from HB.out.cell 1)
        have r2 := hxw.keep (show wa.cell? ⟨G, 2, none⟩ = some (.int .u64 b) from HB.out.cell 2)
        have r3 := hxw.keep (show wa.cell? ⟨G, 3, none⟩ = some (.int .u8 rk) from HB.out.cell 3)
        have hme : 0 ≤ m * e ∧ m * e ≤ 24000000000 := by
          refine ⟨Int.mul_nonneg hm0 (by omega), ?_⟩
          have := Int.mul_le_mul hm1 he3 (by omega) (by omega)
          omega
        have HW := Lib.hid (show satMul m e = m * e from satMul_lt (by omega))
        have hbig2 : ¬ m * e ≤ e * b → b < m := fun q => by
          rcases (by omega : b < m ∨ m ≤ b) with h | h
          · exact h
          · exfalso
            apply q
            rw [Int.mul_comm e b]
            exact Int.mul_le_mul_of_nonneg_right h (by omega)
        have HBIG := Lib.hid hbig2
        have hfl := HO.out.vfill_le HCAP0.out hcl0
        generalize hff : vfill lt name cl (e * b) = f at hfl
        have HF := Lib.hid hff
        obtain ⟨hf0, hf1⟩ := hfl
        obtain ⟨hW0, hW1⟩ := hme
        have HF1 := Lib.hid hf1
        clear hbig2 hff hf1 hW0 hW1
        go_wp2_with fail
        refine (charge1 (wo.heap.size + 1) wo.heap.size c name p cl e b rk m lt _ HT.out HO.out HKO.out hm HR.out hp he1 hb1 hcl0 (by have := HCAP.out; omega) hm0 (by omega)).mono ?_
        rintro x w5 ⟨lt5, c5, code, left, reset, aft, nan, ret, rfl, hinfo, ht5, ho5, hf5, hx5⟩
        have hxx : Ext wo w5 := hxq.own hx5 (Nat.le_refl _)
        have r0' := hx5.keep r0 (by dsimp only; omega)
        have r1' := hx5.keep r1 (by dsimp only; omega)
        have r2' := hx5.keep r2 (by dsimp only; omega)
        have r3' := hx5.keep r3 (by dsimp only; omega)
        have HT5 := Lib.hid ht5
        have HO5 := Lib.hid ho5
        clear r0 r1 r2 r3 ht5 ho5
        by_cases hfit : f + m * e ≤ e * b
        · have hc1 : code = 1 ∧ nan = 0 ∧ ret = false := by
            obtain ⟨ic, ia, iN, ir⟩ := hinfo.out
            rw [HF.out, HW.out] at ic iN ir
            have := kWait_no (f := f) (cap := e * b) (x := m * e) (Or.inr hfit)
            refine ⟨?_, iN.trans this.2, ir.trans this.1⟩
            rw [ic, decide_eq_true hfit]; rfl
          obtain ⟨rfl, rfl, rfl⟩ := hc1
          clear hfit hinfo
          have bA := Blk.new w5 #[.int .u8 1, .int .u16 0, .int .u64 b, .int .u64 left, .int .u64 reset, .int .u64 aft, .int .u64 0, .bool false, .int .i64 0, .slice none 0 0] 36
          go_wp2_with fail
          refine (law14_known _).mono ?_
          rintro x w6 ⟨rfl, hx6⟩
          have hcA := (bA.ext hx6).cell
          have hlA := (bA.ext hx6).lt
          go_wp2
          go_ret
          exact ⟨rfl, ((hxa.trans hxr).trans (hxx.alloc _)).trans hx6⟩
        · by_cases hret : m * e ≤ e * b
          · have hc1 : code = 2 ∧ ret = true ∧ nan = f - (e * b - m * e) ∧ aft = ceilS nan 1000000000 := by
              obtain ⟨ic, ia, iN, ir⟩ := hinfo.out
              rw [HF.out, HW.out] at ic iN ir
              have := kWait_yes (f := f) (cap := e * b) (x := m * e) hret (by omega)
              refine ⟨?_, ir.trans this.1, iN.trans this.2, ia⟩
              rw [ic, decide_eq_false hfit]; rfl
            obtain ⟨rfl, rfl, hnan, haft⟩ := hc1
            have hW0 : 0 ≤ m * e := Int.mul_nonneg hm0 (by omega)
            have hnb : 1 ≤ nan ∧ nan ≤ f ∧ nan ≤ 4611686018427387904 := by
              have := HF1.out
              have := HCAP.out
              omega
            have hf5' : vfill lt5 name cl (e * b) = f := by
              rw [hf5.out, HF.out, HW.out]; exact if_neg hfit
            have HF5 := Lib.hid hf5'
            have HNAN := Lib.hid hnan
            obtain ⟨hn1', hn2', hn3'⟩ := hnb
            rw [ceil_up (by omega)] at haft
            have HAFT := Lib.hid haft
            have HRET := Lib.hid hret
            have HW0 := Lib.hid hW0
            clear hfit hinfo hret hf5 hf5' hnan hW0 haft
            have bA := Blk.new w5 #[.int .u8 2, .int .u16 0, .int .u64 b, .int .u64 left, .int .u64 reset, .int .u64 aft, .int .u64 nan, .bool true, .int .i64 0, .slice none 0 0] 36
            have hs5 := hx5.size
            have hsq := hxq.sz
            have htl := HT5.out.blk.lt
            go_upto_region 23 with fail
            have hxA : Ext w5 (w5.alloc (.cells #[.int .u8 2, .int .u16 0, .int .u64 b, .int .u64 left, .int .u64 reset, .int .u64 aft, .int .u64 nan, .bool true, .int .i64 0, .slice none 0 0] 36)) := (Ext.refl w5).alloc _
            generalize w5.alloc (.cells #[.int .u8 2, .int .u16 0, .int .u64 b, .int .u64 left, .int .u64 reset, .int .u64 aft, .int .u64 nan, .bool true, .int .i64 0, .slice none 0 0] 36) = w6 at *
            have HA := Lib.hid bA
            have c6 : w6.cell? ⟨w5.heap.size, 6, none⟩ = some (.int .u64 nan) := bA.cell 6
            have hw1 : IntKind.u64.wrap (cl + nan) = cl + nan := by rw [wrap_u64]; omega
            have hw2 : IntKind.u64.wrap (cl + nan - late) = cl + nan - late := by rw [wrap_u64]; omega
            have hmx : max cl (cl + nan - late) = cl + nan - late := by omega
            clear bA
            go_region_held3 (fun w' => w'.cell? ⟨w5.heap.size, 6, none⟩ = some (.int .u64 nan))
              (first | exact c6 | exact d6 | exact d7)
              (first
                | (go_at_call 14; (with_reducible refine (table_Tick (wo.heap.size + 1) wo.heap.size c5 9 cl (cl + nan - late) lt5 _ ht7 hcl0 (by omega) (by omega) (by omega)).mono ?_); rw [hmx]; rintro x w8 ⟨rfl, ht8, hx8⟩; have d7 := hx8.keep d6 (by dsimp only; omega))
                | (go_at_call 15; (with_reducible refine (table_Clock (wo.heap.size + 1) wo.heap.size c5 9 cl lt5 _ ((HT5.out.ext hxA).ext ((Ext.refl _).drew)) hcl0 (by omega)).mono ?_); rintro x w7 ⟨rfl, ht7, hx7⟩; have hxx7 : ExtB (wo.heap.size + 1) w6 w7 := (((Ext.refl _).drew).toB _).trans hx7; have d6 := hxx7.keep c6 (by dsimp only; omega)))
            have hx68 := hxx7.trans hx8
            have hx58 := (hxA.toB _).trans hx68
            have q0 := hx58.keep r0' (by dsimp only; omega)
            have q1 := hx58.keep r1' (by dsimp only; omega)
            have q2 := hx58.keep r2' (by dsimp only; omega)
            have q3 := hx58.keep r3' (by dsimp only; omega)
            have HA8 := Lib.hid (HA.out.extB hx68 (by omega))
            have hxo8 : Ext wo w8 := hxx.own hx58 (by omega)
            have hlA := HA8.out.lt
            have HT8 := Lib.hid ht8
            clear r0' r1' r2' r3' c6 d6 d7 ht8 hx7 hx8 hxx7 ht7 hw1 hw2 hmx
            go_wp2_with fail
            refine (charge1 (wo.heap.size + 1) wo.heap.size c5 name p (cl + nan - late) e b rk m lt5 _ HT8.out (HO5.out.later (by omega)) HKO.out hm HR.out hp he1 hb1 (by omega) (by have := HCAP.out; omega) hm0 (by omega)).mono ?_
            rintro x w9 ⟨lt9, c9, code9, left9, reset9, aft9, nan9, ret9, rfl, hinfo9, -, -, -, hx9⟩
            have hc9 : code9 = chCode (decide (late = 0)) := by
              obtain ⟨ic, -⟩ := hinfo9.out
              have hv := HO5.out.vfill_later (now := cl + nan - late) HCAP0.out HCAP.out hcl0 (by omega) (by omega)
              rw [HF5.out, satSub_le (by omega)] at hv
              rw [HW.out, hv] at ic
              rw [ic]
              have := HNAN.out
              congr 1
              rw [decide_eq_decide]
              omega
            have hbA9 := HA8.out.extB hx9 (by omega)
            have hcA := hbA9.cell
            have hlA9 := hbA9.lt
            have hxo9 : Ext wo w9 := hxo8.own hx9 (Nat.le_refl _)
            clear hinfo9
            have hdv := HAFT.out.symm
            rcases (by omega : late = 0 ∨ late = 1) with rfl | rfl
            · have e9 : code9 = 1 := hc9
              clear hc9
              subst e9
              go_wp2
              go_roundw
              case rel => exact ⟨1, by omega, by omega, rfl, hxr.trans (hxo9.alloc _)⟩
              case measure => simp [intOf]
            · have e9 : code9 = 2 := hc9
              clear hc9
              subst e9
              go_wp2
              go_roundw
              case rel => exact ⟨2, by omega, by omega, rfl, hxr.trans (hxo9.alloc _)⟩
              case measure => simp [intOf]
          · have hc1 : code = 2 ∧ ret = false := by
              obtain ⟨ic, ia, iN, ir⟩ := hinfo.out
              rw [HF.out, HW.out] at ic iN ir
              have := kWait_no (f := f) (cap := e * b) (x := m * e) (Or.inl (by omega))
              refine ⟨?_, ir.trans this.1⟩
              rw [ic, decide_eq_false hfit]; rfl
            obtain ⟨rfl, rfl⟩ := hc1
            have hbm := HBIG.out (by omega)
            have HRET := Lib.hid hret
            clear hfit hinfo hret
            have bA := Blk.new w5 #[.int .u8 2, .int .u16 0, .int .u64 b, .int .u64 left, .int .u64 reset, .int .u64 aft, .int .u64 nan, .bool false, .int .i64 0, .slice none 0 0] 36
            have hmx : max cl (cl + 4611686018427387904) = cl + 4611686018427387904 := by omega
            have hs5 := hx5.size
            have hsq := hxq.sz
            go_wp2_with fail
            refine (table_Clock (wo.heap.size + 1) wo.heap.size c5 9 cl lt5 _ (HT5.out.ext ((Ext.refl w5).alloc _)) hcl0 (by omega)).mono ?_
            rintro x w6 ⟨rfl, ht6, hx6⟩
            have HT6 := Lib.hid ht6
            clear ht6
            go_wp2_with fail
            refine (table_Tick (wo.heap.size + 1) wo.heap.size c5 9 cl (cl + 4611686018427387904) lt5 _ HT6.out hcl0 (by omega) (by omega) (by omega)).mono ?_
            rw [hmx]
            rintro x w7 ⟨rfl, ht7, hx7⟩
            have HT7 := Lib.hid ht7
            clear ht7
            go_wp2_with fail
            refine (law14_known _).mono ?_
            rintro x w8 ⟨rfl, hx8⟩
            have hxb : ExtB (wo.heap.size + 1) w5 w8 := (((((Ext.refl w5).alloc _).toB _).trans hx6).trans hx7).trans (hx8.toB _)
            have q0 := hxb.keep r0' (by dsimp only; omega)
            have q1 := hxb.keep r1' (by dsimp only; omega)
            have q2 := hxb.keep r2' (by dsimp only; omega)
            have q3 := hxb.keep r3' (by dsimp only; omega)
            clear r0' r1' r2' r3'
            go_wp2_with fail
            refine (charge1 (wo.heap.size + 1) wo.heap.size c5 name p (cl + 4611686018427387904) e b rk m lt5 _ (HT7.out.ext hx8) (HO5.out.later (by omega)) HKO.out hm HR.out hp he1 hb1 (by omega) (by have := HCAP.out; omega) hm0 (by omega)).mono ?_
            rintro x w9 ⟨lt9, c9, code9, left9, reset9, aft9, nan9, ret9, rfl, hinfo9, -, -, -, hx9⟩
            have hc9 : code9 = 2 := by
              obtain ⟨ic, -⟩ := hinfo9.out
              rw [HW.out] at ic
              have hv := ((HO5.out.later (now := cl + 4611686018427387904) (by omega)).vfill_le HCAP0.out (by omega)).1
              have hrr := HRET.out
              rw [ic, decide_eq_false (by omega)]; rfl
            subst hc9
            clear hinfo9
            have hfld := ans_code w9 (.int .u8 2) (.int .u16 0) (.int .u64 b) (.int .u64 left9) (.int .u64 reset9) (.int .u64 aft9) (.int .u64 nan9) (.bool ret9) (.int .i64 0) (.slice none 0 0)
            go_wp2
            go_ret
            have hxy : Ext wo w9 := (hxx.own hxb (by omega)).own hx9 (Nat.le_refl _)
            exact ⟨rfl, (hxa.trans hxr).trans hxy⟩
      · have e2 : late = 2 := by omega
        subst e2
        go_wp2_with fail
        refine (law14_known _).mono ?_
        rintro x w5 ⟨rfl, hx5⟩
        go_wp2
        go_ret
        exact ⟨rfl, (hxa.trans hxr).trans hx5⟩
end Go.Proofs.Ytnlmbmbalmkiiaa
