/- The walk of tollerlaw11.RuleBack. -/
import Derived.Test.YtphbhinobdkidaaStrs
import Derived.Test.YtphbhinobdkidaaLaw11
namespace Go.Proofs.Ytphbhinobdkidaa
open Go.RowKit
set_option linter.unusedVariables false
set_option linter.unusedSimpArgs false

def BackS (w w' : World) (b1 b2 b3 : Nat) (p P : ByteArray) (e b k E B K : Int) : Prop := True

set_option maxHeartbeats 8000000 in
set_option maxRecDepth 100000 in
theorem back_walk (p : ByteArray) (e b k : Int) (vl : Value) (ll : List ByteArray) (v : Value) (l0 : List UInt8) (e1 b1 k1 : Int) (w : World)
    (hpm : p.size ≤ maxLen) (he0 : 0 ≤ e) (he1 : e < 18446744073709551616) (hb0 : 0 ≤ b) (hb1 : b < 18446744073709551616)
    (hll : StrSlice w vl ll) (hv : ByteSlice w v l0) (hr0 : 0 ≤ e1) (hr1 : e1 < 4294967296) (hs0 : 0 ≤ b1) (hs1 : b1 < 65536) (hk0 : 0 ≤ k1) (hk1 : k1 < 256) :
    Calls Try.prog 7 #[.agg #[.string p, .int .u64 e, .int .u64 b, .int .u8 k], vl, v, .int .u32 e1, .int .u16 b1, .int .u8 k1] w fun x w' => x = .returned (.bool true) ∧ Ext w w' := by
  have HLL := Lib.hid hll
  obtain ⟨⟨a, c, rfl, -⟩, hlen, heach⟩ := hll
  have HEA := Lib.hid heach
  have hbig := len_big hlen
  clear heach
  by_cases h12 : 12 < ll.length
  · have h12' : (12 : Int) < ll.length := by omega
    go_enter Try.func7, Try.ntmps7
    go_wp2_with (go_at_call 11; refine (law11_known _).mono ?_; rintro x w' ⟨rfl, hx⟩)
    go_ret
    exact ⟨rfl, (by repeat (first | with_reducible exact Ext.refl _ | with_reducible assumption | with_reducible refine Ext.alloc ?_ _ | with_reducible refine Ext.drew ?_ | with_reducible refine Ext.trans ?_ (by with_reducible assumption)))⟩
  have h12' : ¬ (12 : Int) < ll.length := by omega
  by_cases h300 : 300 < p.size
  · have h300' : (300 : Int) < p.size := by omega
    go_enter Try.func7, Try.ntmps7
    go_wp2_with (go_at_call 11; refine (law11_known _).mono ?_; rintro x w' ⟨rfl, hx⟩)
    go_ret
    exact ⟨rfl, (by repeat (first | with_reducible exact Ext.refl _ | with_reducible assumption | with_reducible refine Ext.alloc ?_ _ | with_reducible refine Ext.drew ?_ | with_reducible refine Ext.trans ?_ (by with_reducible assumption)))⟩
  have h300' : ¬ (300 : Int) < p.size := by omega
  have hR := own_right l0 e1 b1 k1 hr0 hr1 hs0 hs1 hk0
  have HP := Lib.hid (print_parse hR (by omega) (by omega))
  have hps := Nat.le_trans (lawPre_size l0) (by decide : 12 ≤ maxLen)
  have hrl := read_line ll
  generalize hl : printWords (lawPre l0) (1 + e1) (1 + b1) (1 + k1 % 3) = l at *
  generalize hrr : ruleParse ll = r at *
  have HL := Lib.hid hl
  have HR := Lib.hid hrr
  have HRL := Lib.hid hrl
  have hN := words_none (p := p) (e := e) (b := b) (k := k)
  have hN4 := fun h => words_len (p := p) (e := e) (b := b) (k := k) h
  generalize hLL : printWords p e b k = LL at *
  generalize hE0 : ruleErr p e b k = E0 at *
  have HLW := Lib.hid hLL
  have HE0 := Lib.hid hE0
  have HN := Lib.hid hN
  have HN4 := Lib.hid hN4
  clear hl hrr hrl hN hN4 hLL hE0 hR h12 h300
  go_enter Try.func7, Try.ntmps7
  go_wp2_with fail
  refine (law11_Rule v l0 e1 b1 k1 _ (hv.ext ((Ext.refl _).alloc _)) hr0 hr1 hs0 hs1 hk0 hk1).mono ?_
  rintro x w1 ⟨rfl, hx1⟩
  go_wp2_with fail
  refine (rule_Print _ _ _ _ _ hps (by omega) (by omega) (by omega) (by omega)).mono ?_
  rw [HL.out]
  rintro x w2 ⟨v2, rfl, hs2, -, hx2⟩
  go_wp2_with fail
  refine (rule_Parse v2 l _ hs2).mono ?_
  rw [HP.out]
  rintro x w3 ⟨rfl, hx3⟩
  clear hs2
  simp only [PRes.v, parseRet]
  have B6 : Blk w3 w.heap.size #[.string p, .int .u64 e, .int .u64 b, .int .u8 k] 25 := (((Blk.new _ _ _).ext hx1).alloc _ |>.ext hx2).ext hx3
  have B13 : Blk w3 w1.heap.size #[.string (lawPre l0), .int .u64 (1 + e1), .int .u64 (1 + b1), .int .u8 (1 + k1 % 3)] 25 := ((Blk.new _ _ _).ext hx2).ext hx3
  have hx03 : Ext w w3 := ((Ext.refl _).alloc _).trans (hx1.trans (((Ext.refl _).alloc _).trans (hx2.trans hx3)))
  have HB6 := Lib.hid B6
  have HB13 := Lib.hid B13
  clear B6 B13 hx1 hx2 hx3
  go_wp2_with fail
  refine (rule_Parse _ ll _ (HLL.out.ext (hx03.alloc _))).mono ?_
  rw [HR.out]
  rintro x w4 ⟨rfl, hx4⟩
  have B6 := (HB6.out.alloc _).ext hx4
  have B13 := (HB13.out.alloc _).ext hx4
  have B14 := (Blk.new w3 _ _).ext hx4
  have hx04 : Ext w w4 := (hx03.alloc _).trans hx4
  simp only [PRes.v, parseRet]
  have hE0N : (E0 = 0 ∧ (E0 == 0) = true ∧ 4 ≤ (LL.length : Int) ∧ ((LL.length : Int) == 0) = false) ∨ (E0 ≠ 0 ∧ (E0 == 0) = false ∧ (LL.length : Int) = 0 ∧ ((LL.length : Int) == 0) = true) := by
    by_cases h : E0 = 0
    · left
      have := HN4.out h
      refine ⟨h, by simpa using h, by omega, by simp; intro q; rw [q] at this; simp at this⟩
    · right
      have := HN.out.2 h
      exact ⟨h, by simpa using h, by omega, by simpa using this⟩
  have HEN := Lib.hid hE0N
  clear hE0N
  by_cases hz : r.err = 0
  · obtain ⟨u0, u1, u2, u3, u4, u5, hsz, hgood, -⟩ := HRL.out
    obtain ⟨hg1, hg2⟩ := hgood hz
    have hsz' : r.p.size ≤ maxLen := by
      rcases hsz hz with q | q
      · rw [q]; decide
      · exact HEA.out _ q
    clear hsz hgood HRL HR
    obtain ⟨yp, ye, yb, yk, yerr, yat⟩ := r
    simp only at u0 u1 u2 u3 u4 u5 hg1 hg2 hsz' hz
    subst hz
    have HG1 := Lib.hid hg1
    have HG2 := Lib.hid hg2
    have HB6 := Lib.hid B6
    have HB13 := Lib.hid B13
    have HB14 := Lib.hid B14
    clear B6 B13 B14 hg1 hg2
    go_wp2_with fail
    refine (rule_Right yp ye yb yk _ hsz' u0 u1 u2 u3).mono ?_
    rw [HG1.out]
    rintro x w5 ⟨rfl, hx5⟩
    have B17 := (Blk.new w4 #[.string yp, .int .u64 ye, .int .u64 yb, .int .u8 yk] 25).ext hx5
    have s0 : w5.cell? ⟨w4.heap.size, 0, none⟩ = some (.string yp) := B17.cell 0
    have s1 : w5.cell? ⟨w4.heap.size, 1, none⟩ = some (.int .u64 ye) := B17.cell 1
    have s2 : w5.cell? ⟨w4.heap.size, 2, none⟩ = some (.int .u64 yb) := B17.cell 2
    have s3 : w5.cell? ⟨w4.heap.size, 3, none⟩ = some (.int .u8 yk) := B17.cell 3
    clear B17
    go_wp2_with fail
    refine (rule_Print yp ye yb yk _ hsz' u0 u1 u2 u3).mono ?_
    rw [HG2.out]
    rintro x w6 ⟨v6, rfl, hs6, -, hx6⟩
    clear s0 s1 s2 s3
    have hx46 := ((Ext.refl w4).alloc (.cells #[.string yp, .int .u64 ye, .int .u64 yb, .int .u8 yk] 25)).trans (hx5.trans hx6)
    have hx06 := hx04.trans hx46
    go_wp2_with fail
    refine (ref11_Strings_yes v6 _ ll _ hs6 (HLL.out.ext hx06)).mono ?_
    rintro x wt ⟨rfl, hx7⟩
    have hx4t := hx46.trans hx7
    have hx0t := hx04.trans hx4t
    have B6' := HB6.out.ext hx4t
    have B13' := HB13.out.ext hx4t
    have B14' := HB14.out.ext hx4t
    clear hs6 hx5 hx6 hx7 hx46 hx06 hx4t
    rcases HEN.out with ⟨g1, g2, g3, g4⟩ | ⟨g1, g2, g3, g4⟩
    all_goals
    go_wp2_with fail
    have C6 := B6'.cell
    have C13 := B13'.cell
    have C14 := B14'.cell
    have q60 : wt.cell? ⟨w.heap.size, 0, none⟩ = some (.string p) := C6 0
    have q61 : wt.cell? ⟨w.heap.size, 1, none⟩ = some (.int .u64 e) := C6 1
    have q62 : wt.cell? ⟨w.heap.size, 2, none⟩ = some (.int .u64 b) := C6 2
    have q63 : wt.cell? ⟨w.heap.size, 3, none⟩ = some (.int .u8 k) := C6 3
    have q10 : wt.cell? ⟨w1.heap.size, 0, none⟩ = some (.string (lawPre l0)) := C13 0
    have q11 : wt.cell? ⟨w1.heap.size, 1, none⟩ = some (.int .u64 (1 + e1)) := C13 1
    have q12 : wt.cell? ⟨w1.heap.size, 2, none⟩ = some (.int .u64 (1 + b1)) := C13 2
    have q13 : wt.cell? ⟨w1.heap.size, 3, none⟩ = some (.int .u8 (1 + k1 % 3)) := C13 3
    have q40 : wt.cell? ⟨w3.heap.size, 0, none⟩ = some (.string (lawPre l0)) := C14 0
    have q41 : wt.cell? ⟨w3.heap.size, 1, none⟩ = some (.int .u64 (1 + e1)) := C14 1
    have q42 : wt.cell? ⟨w3.heap.size, 2, none⟩ = some (.int .u64 (1 + b1)) := C14 2
    have q43 : wt.cell? ⟨w3.heap.size, 3, none⟩ = some (.int .u8 (1 + k1 % 3)) := C14 3
    clear C6 C13 C14 B6' B13' B14'
    go_region_held3 (fun w' => w'.cell? ⟨w.heap.size, 0, none⟩ = some (.string p) ∧ w'.cell? ⟨w.heap.size, 1, none⟩ = some (.int .u64 e) ∧ w'.cell? ⟨w.heap.size, 2, none⟩ = some (.int .u64 b) ∧ w'.cell? ⟨w.heap.size, 3, none⟩ = some (.int .u8 k)
        ∧ w'.cell? ⟨w1.heap.size, 0, none⟩ = some (.string (lawPre l0)) ∧ w'.cell? ⟨w1.heap.size, 1, none⟩ = some (.int .u64 (1 + e1)) ∧ w'.cell? ⟨w1.heap.size, 2, none⟩ = some (.int .u64 (1 + b1)) ∧ w'.cell? ⟨w1.heap.size, 3, none⟩ = some (.int .u8 (1 + k1 % 3))
        ∧ w'.cell? ⟨w3.heap.size, 0, none⟩ = some (.string (lawPre l0)) ∧ w'.cell? ⟨w3.heap.size, 1, none⟩ = some (.int .u64 (1 + e1)) ∧ w'.cell? ⟨w3.heap.size, 2, none⟩ = some (.int .u64 (1 + b1)) ∧ w'.cell? ⟨w3.heap.size, 3, none⟩ = some (.int .u8 (1 + k1 % 3)) ∧ Ext wt w')
      (first
        | exact ⟨q60, q61, q62, q63, q10, q11, q12, q13, q40, q41, q42, q43, (Ext.refl _).drew⟩
        | ((try go_split_ands); refine ⟨Ext.keep hx ?_, Ext.keep hx ?_, Ext.keep hx ?_, Ext.keep hx ?_, Ext.keep hx ?_, Ext.keep hx ?_, Ext.keep hx ?_, Ext.keep hx ?_, Ext.keep hx ?_, Ext.keep hx ?_, Ext.keep hx ?_, Ext.keep hx ?_, Ext.trans ?_ hx⟩ <;> first | with_reducible assumption | exact q60 | exact q61 | exact q62 | exact q63 | exact q10 | exact q11 | exact q12 | exact q13 | exact q40 | exact q41 | exact q42 | exact q43 | exact (Ext.refl _).drew))
      (first
        | (go_at_call 11; refine (law11_known _).mono ?_; rintro x w' ⟨rfl, hx⟩)
        | (go_at_call 23; refine (rule_Print p e b k _ hpm he0 he1 hb0 hb1).mono ?_; rw [HLW.out]; rintro x w' ⟨v9, rfl, hs9, -, hx⟩; obtain ⟨⟨a9, c9, rfl, -⟩, -, -⟩ := hs9)
        | (go_at_call 12; refine (rule_Right p e b k _ hpm he0 he1 hb0 hb1).mono ?_; rw [HE0.out]; rintro x w' ⟨rfl, hx⟩))
    go_wp2
    go_split_ands
    go_ret
    exact ⟨ret_bool (by first | rfl | simp [g1] | simp [g1, g3] | (simp; omega)), hx0t.trans (by assumption)⟩
  · obtain ⟨hq, ha0, ha1⟩ := HRL.out.bad hz
    generalize hre : r.err = er at *
    generalize hra : r.at_ = at_ at *
    subst hq
    simp only [pbad]
    clear hre hra
    have hz1 : (er == 0) = false := by simpa using hz
    have ha2 : (at_ < (ll.length : Int)) ∨ (¬ at_ < (ll.length : Int) ∧ at_ = 0) := by omega
    have HA2 := Lib.hid ha2
    clear ha1 ha2
    have HB6 := Lib.hid B6
    have HB13 := Lib.hid B13
    have HB14 := Lib.hid B14
    clear B6 B13 B14
    have hx0t := hx04.alloc (.cells #[.string ⟨#[]⟩, .int .u64 0, .int .u64 0, .int .u8 0] 25)
    have B6' := HB6.out.alloc (.cells #[.string ⟨#[]⟩, .int .u64 0, .int .u64 0, .int .u8 0] 25)
    have B13' := HB13.out.alloc (.cells #[.string ⟨#[]⟩, .int .u64 0, .int .u64 0, .int .u8 0] 25)
    have B14' := HB14.out.alloc (.cells #[.string ⟨#[]⟩, .int .u64 0, .int .u64 0, .int .u8 0] 25)
    rcases HA2.out with h | ⟨h, rfl⟩
    case' inr =>
      have hnil : ll = [] := List.eq_nil_of_length_eq_zero (by omega)
      subst hnil
      clear h
    all_goals
    rcases HEN.out with ⟨g1, g2, g3, g4⟩ | ⟨g1, g2, g3, g4⟩
    all_goals
    go_wp2_with fail
    generalize hwt : w4.alloc (Obj.cells #[.string ⟨#[]⟩, .int .u64 0, .int .u64 0, .int .u8 0] 25) = wt at *
    have C6 := B6'.cell
    have C13 := B13'.cell
    have C14 := B14'.cell
    have q60 : wt.cell? ⟨w.heap.size, 0, none⟩ = some (.string p) := C6 0
    have q61 : wt.cell? ⟨w.heap.size, 1, none⟩ = some (.int .u64 e) := C6 1
    have q62 : wt.cell? ⟨w.heap.size, 2, none⟩ = some (.int .u64 b) := C6 2
    have q63 : wt.cell? ⟨w.heap.size, 3, none⟩ = some (.int .u8 k) := C6 3
    have q10 : wt.cell? ⟨w1.heap.size, 0, none⟩ = some (.string (lawPre l0)) := C13 0
    have q11 : wt.cell? ⟨w1.heap.size, 1, none⟩ = some (.int .u64 (1 + e1)) := C13 1
    have q12 : wt.cell? ⟨w1.heap.size, 2, none⟩ = some (.int .u64 (1 + b1)) := C13 2
    have q13 : wt.cell? ⟨w1.heap.size, 3, none⟩ = some (.int .u8 (1 + k1 % 3)) := C13 3
    have q40 : wt.cell? ⟨w3.heap.size, 0, none⟩ = some (.string (lawPre l0)) := C14 0
    have q41 : wt.cell? ⟨w3.heap.size, 1, none⟩ = some (.int .u64 (1 + e1)) := C14 1
    have q42 : wt.cell? ⟨w3.heap.size, 2, none⟩ = some (.int .u64 (1 + b1)) := C14 2
    have q43 : wt.cell? ⟨w3.heap.size, 3, none⟩ = some (.int .u8 (1 + k1 % 3)) := C14 3
    clear C6 C13 C14 B6' B13' B14'
    go_region_held3 (fun w' => w'.cell? ⟨w.heap.size, 0, none⟩ = some (.string p) ∧ w'.cell? ⟨w.heap.size, 1, none⟩ = some (.int .u64 e) ∧ w'.cell? ⟨w.heap.size, 2, none⟩ = some (.int .u64 b) ∧ w'.cell? ⟨w.heap.size, 3, none⟩ = some (.int .u8 k)
        ∧ w'.cell? ⟨w1.heap.size, 0, none⟩ = some (.string (lawPre l0)) ∧ w'.cell? ⟨w1.heap.size, 1, none⟩ = some (.int .u64 (1 + e1)) ∧ w'.cell? ⟨w1.heap.size, 2, none⟩ = some (.int .u64 (1 + b1)) ∧ w'.cell? ⟨w1.heap.size, 3, none⟩ = some (.int .u8 (1 + k1 % 3))
        ∧ w'.cell? ⟨w3.heap.size, 0, none⟩ = some (.string (lawPre l0)) ∧ w'.cell? ⟨w3.heap.size, 1, none⟩ = some (.int .u64 (1 + e1)) ∧ w'.cell? ⟨w3.heap.size, 2, none⟩ = some (.int .u64 (1 + b1)) ∧ w'.cell? ⟨w3.heap.size, 3, none⟩ = some (.int .u8 (1 + k1 % 3)) ∧ Ext wt w')
      (first
        | exact ⟨q60, q61, q62, q63, q10, q11, q12, q13, q40, q41, q42, q43, (Ext.refl _).drew⟩
        | ((try go_split_ands); refine ⟨Ext.keep hx ?_, Ext.keep hx ?_, Ext.keep hx ?_, Ext.keep hx ?_, Ext.keep hx ?_, Ext.keep hx ?_, Ext.keep hx ?_, Ext.keep hx ?_, Ext.keep hx ?_, Ext.keep hx ?_, Ext.keep hx ?_, Ext.keep hx ?_, Ext.trans ?_ hx⟩ <;> first | with_reducible assumption | exact q60 | exact q61 | exact q62 | exact q63 | exact q10 | exact q11 | exact q12 | exact q13 | exact q40 | exact q41 | exact q42 | exact q43 | exact (Ext.refl _).drew))
      (first
        | (go_at_call 11; refine (law11_known _).mono ?_; rintro x w' ⟨rfl, hx⟩)
        | (go_at_call 23; refine (rule_Print p e b k _ hpm he0 he1 hb0 hb1).mono ?_; rw [HLW.out]; rintro x w' ⟨v9, rfl, hs9, -, hx⟩; obtain ⟨⟨a9, c9, rfl, -⟩, -, -⟩ := hs9)
        | (go_at_call 12; refine (rule_Right p e b k _ hpm he0 he1 hb0 hb1).mono ?_; rw [HE0.out]; rintro x w' ⟨rfl, hx⟩))
    go_wp2
    go_split_ands
    go_ret
    exact ⟨ret_bool (by first | rfl | simp [g1] | simp [g1, g3] | (simp; omega)), hx0t.trans (by assumption)⟩
end Go.Proofs.Ytphbhinobdkidaa
