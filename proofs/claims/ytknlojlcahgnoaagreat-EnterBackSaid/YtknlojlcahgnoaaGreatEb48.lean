/- Walks: table.Of. -/
import Derived.Deep.RegionHeld3
import Derived.Deep.DrawnRows
import Derived.Test.YtknlojlcahgnoaaGreatEb44

namespace Go.Proofs.YtknlojlcahgnoaaGreat
open Go.RowKit
set_option linter.unusedVariables false
set_option linter.unusedSimpArgs false
attribute [local go_sem ↓] Go.wp_at_zero Go.wp_at_succ

abbrev strE (s : ByteArray) : Array Value := #[.string s]
theorem strE_size (s : ByteArray) : (strE s).size = 1 := rfl
theorem str_infoO : (Tryz.prog.info? 9).map (fun i => (i.zero, i.size, i.bytes)) = some (some (.string ⟨#[]⟩), 1, 16) := by kernel_rfl
theorem RowOf.strs {base : Nat} {w : World} {v : Value} {l : List ByteArray} (h : RowOf strE 1 9 base w v l) (heach : ∀ s ∈ l, s.size ≤ maxLen) : StrSlice w v l := by
  obtain ⟨a, c, hv⟩ := h.size
  refine ⟨⟨a, c, hv, fun hne => ?_⟩, h.len, heach⟩
  obtain ⟨b, c', hv', -, -, -⟩ := h.cells strE_size 0 (List.length_pos_iff.2 hne)
  rw [hv] at hv'
  cases hv'
  refine ⟨b, 0, rfl, fun j hj => ?_⟩
  obtain ⟨b', c', hv', -, -, hq⟩ := h.cells strE_size j hj
  rw [hv] at hv'
  cases hv'
  have := hq 0 (by omega)
  simpa using this
theorem rowStr_more {base : Nat} {w : World} {v : Value} {l l' : List ByteArray} {s : ByteArray} (h : w.ownsRow base 9 1 v (l.length + 1) (flatE strE l ++ (strE s).toList)) (e : l' = l ++ [s]) : RowOf strE 1 9 base w v l' := by
  subst e
  refine RowOf.mk' h (by simp) (flatE_snoc _ _ _).symm ?_
  obtain ⟨g, cap, rfl⟩ := ownsRow_succ h
  simp

/-- what table.Of hands back -/
def OfIs (w : World) (most clock : Int) (xs : List Slot) (x : Ending) (w' : World) : Prop :=
  ∃ p, x = .returned (.tuple #[.pointer p, .int .u16 (ofErr most clock xs)]) ∧ Ext w w' ∧
    ((ofErr most clock xs = 0 ∧ ∃ t m, p = some ⟨t, 0, none⟩ ∧ w.heap.size ≤ t ∧ w.heap.size ≤ m ∧ TabAt w' t m most clock (putTo xs).1 (putTo xs).2) ∨ (ofErr most clock xs ≠ 0 ∧ p = none))
theorem OfIs.bad {w w' : World} {most clock E : Int} {xs : List Slot} (hE : ofErr most clock xs = E) (h0 : E ≠ 0) (hx : Ext w w') : OfIs w most clock xs (.returned (.tuple #[.pointer none, .int .u16 E])) w' :=
  ⟨none, by rw [hE], hx, Or.inr ⟨by rw [hE]; exact h0, rfl⟩⟩

theorem OfIs.good {w w' : World} {most clock : Int} {xs : List Slot} {t m : Nat} (hE : ofErr most clock xs = 0) (hx : Ext w w') (h1 : w.heap.size ≤ t) (h2 : w.heap.size ≤ m) (ht : TabAt w' t m most clock (putTo xs).1 (putTo xs).2) :
    OfIs w most clock xs (.returned (.tuple #[.pointer (some ⟨t, 0, none⟩), .int .u16 0])) w' :=
  ⟨some ⟨t, 0, none⟩, by rw [hE], hx, Or.inl ⟨hE, t, m, rfl, h1, h2, ht⟩⟩
/-- a block that is not the row's is as it was -/
theorem grown_at {x y z : World} {base size n k : Nat} {e : TypeId} {v : Value} {xs : List Value} (g : y.grownBy z v.ownBlock) (o : x.ownsRow base e size v n xs) (hk : k < y.heap.size) (hf : k < base ∨ x.heap.size ≤ k) : z.heap[k]? = y.heap[k]? := by
  refine g.block k hk fun h => ?_
  obtain ⟨-, ⟨rfl, -⟩ | ⟨g', cap, cur, rfl, h2, h3, -⟩⟩ := o
  · cases h
  · cases h
    have := lt_of_block h3
    dsimp only at hf
    omega
theorem ExtB.grownAt {b : Nat} {x y z : World} {base size n : Nat} {e : TypeId} {v : Value} {xs : List Value} (h : ExtB b x y) (o : y.ownsRow base e size v n xs) (hb : x.heap.size ≤ base) (g : y.grownBy z v.ownBlock) : ExtB b x z :=
  ⟨g.os.trans h.os, g.tape.trans h.tape, g.output.trans h.output, Nat.le_trans h.size g.size, fun k hk hne => (grown_at g o (Nat.lt_of_lt_of_le hk h.size) (Or.inl (Nat.lt_of_lt_of_le hk hb))).trans (h.block k hk hne)⟩

set_option maxHeartbeats 4000000 in
set_option maxRecDepth 100000 in
theorem table_Of (most clock : Int) (v : Value) (xs : List Slot) (w : World) (hv : SlotsAt w v xs) (hs : ∀ s ∈ xs, SlotOk s) (hlen : xs.length ≤ 1000000) (hn0 : 0 ≤ clock) (hn1 : clock < 18446744073709551616) (hm0 : -9223372036854775808 ≤ most) (hm1 : most ≤ 9223372036854775807) :
    Calls Tryz.prog 70 #[.int .i64 most, .int .u64 clock, v] w fun x w' => OfIs w most clock xs x w' := by
  obtain ⟨a, cp, rfl⟩ := hv.size
  have HV := Lib.hid hv
  have HS := Lib.hid hs
  clear hv hs
  obtain ⟨i0, hi, hz0, hz1, hz2⟩ := info_parts str_infoO
  have HI := Lib.hid (And.intro hi (And.intro hz0 (And.intro hz1 hz2)))
  have hml : (1000000 : Nat) + 1 ≤ maxLen := by decide
  clear hi hz0 hz1 hz2
  by_cases hr : most < 1 ∨ 1000000 < most
  · have HE := Lib.hid (show ofErr most clock xs = 29 by unfold ofErr; rw [if_pos hr])
    by_cases h1 : most < 1
    · go_enter Tryz.func70, Tryz.ntmps70
      go_wp2
      go_ret2
      exact OfIs.bad HE.out (by decide) (Ext.refl _)
    · have h2 : 1000000 < most := by omega
      go_enter Tryz.func70, Tryz.ntmps70
      go_wp2
      go_ret2
      exact OfIs.bad HE.out (by decide) (Ext.refl _)
  · have h1 : ¬ most < 1 := by omega
    have h2 : ¬ 1000000 < most := by omega
    have hmo : mostOf most = most := by unfold mostOf; omega
    have HMO := Lib.hid hmo
    have HR := Lib.hid hr
    clear hmo hr
    go_enter Tryz.func70, Tryz.ntmps70
    go_wp2_with fail
    refine (table_New most _ hm0 hm1).mono ?_
    rw [HMO.out]
    rintro x w1 ⟨rfl, ht1, hx1⟩
    have hbc := ht1.blk.cell
    have hbf := ht1.blk.free
    have hT2 : TabAt (w1.setCell ⟨w.heap.size + 1, 1, none⟩ (.int .u64 clock)) (w.heap.size + 1) w.heap.size most clock [] 0 := ⟨ht1.blk.set 1 (.int .u64 clock), ht1.map.other (by dsimp only; omega) _⟩
    have hx2 : Ext w (w1.setCell ⟨w.heap.size + 1, 1, none⟩ (.int .u64 clock)) := hx1.setCell (by dsimp only; omega) _
    have hlt1 := ht1.blk.lt
    have hsz2 : (w1.setCell ⟨w.heap.size + 1, 1, none⟩ (.int .u64 clock)).heap.size = w1.heap.size := by simp [World.setCell]
    go_wp2_with fail
    rw [← hsz2] at hlt1
    generalize w1.setCell ⟨w.heap.size + 1, 1, none⟩ (.int .u64 clock) = w2 at *
    have HT2 := Lib.hid hT2
    have HX2 := Lib.hid hx2
    clear hbc hbf ht1 hx1 hT2 hsz2 hx2 HMO
    go_loopw [9, 27] (fun o i wr => ∃ (k : Nat), k ≤ xs.length ∧ i = .int .i64 k ∧ RowOf strE 1 9 w2.heap.size wr o ((xs.take k).map (·.key)) ∧ TabAt wr (w.heap.size + 1) w.heap.size most clock (putTo (xs.take k)).1 (putTo (xs.take k)).2 ∧
      (∀ i (hi : i < xs.length), i < k → slotErr clock xs[i] = 0) ∧ ExtB w.heap.size w2 wr) (fun _ i _ => xs.length - (intOf i).toNat)
    case atStart => exact ⟨0, by omega, rfl, RowOf.empty _ _ _ _ _, HT2.out, fun i _ h => by omega, ExtB.refl _ _⟩
    case round =>
      obtain ⟨k, hk, rfl, hrow, htab, hgood, hx⟩ := hrel
      have HROW := Lib.hid hrow
      have HTAB := Lib.hid htab
      have HGOOD := Lib.hid hgood
      have HX := Lib.hid hx
      clear hrow htab hgood
      have hsz := hx.size
      by_cases hlt : k < xs.length
      · obtain ⟨b, oo, rfl, hbl, e0, e1, e2, e3, e4, e5, e6, e7⟩ := (HV.out).cells k hlt
        have hbw : b ≠ w.heap.size := by omega
        have hxw := HX2.out
        have e0 := hx.keep (hxw.keep e0) (by dsimp only; omega)
        have e1 := hx.keep (hxw.keep e1) (by dsimp only; omega)
        have e2 := hx.keep (hxw.keep e2) (by dsimp only; omega)
        have e3 := hx.keep (hxw.keep e3) (by dsimp only; omega)
        have e4 := hx.keep (hxw.keep e4) (by dsimp only; omega)
        have e5 := hx.keep (hxw.keep e5) (by dsimp only; omega)
        have e6 := hx.keep (hxw.keep e6) (by dsimp only; omega)
        have e7 := hx.keep (hxw.keep e7) (by dsimp only; omega)
        clear hxw hx
        have hso := HS.out xs[k] (List.getElem_mem _)
        have HW := Lib.hid (fun W => table_wrong xs[k] clock W hso hn0 hn1)
        have hu := slotErr_u clock xs[k]
        have HBAD := Lib.hid (fun he => firstErr_at clock xs k hlt (fun i hi => HGOOD.out i (by omega) hi) he)
        have HNEXT := Lib.hid (fun (he : slotErr clock xs[k] = 0) i (hi : i < xs.length) (hik : i < k + 1) => show slotErr clock xs[i] = 0 from by
          by_cases q : i = k
          · subst q; exact he
          · exact HGOOD.out i hi (by omega))
        have HTK := Lib.hid (List.take_succ_eq_append_getElem hlt)
        generalize hse : slotErr clock xs[k] = se at *
        obtain ⟨hu0, hu1⟩ := hu
        have HSE := Lib.hid hse
        clear hse
        generalize xs[k] = s at *
        have HSO := Lib.hid hso
        obtain ⟨s1, s2, s3, s4, s5, s6, s7, s8⟩ := s
        simp only [Slot.val, Slot.cells] at e0 e1 e2 e3 e4 e5 e6 e7 HW
        clear hso
        generalize hoo : oo + k * 8 = ob at *
        have bq := Blk.new wr #[.string s1, .string s2, .int .u64 s3, .int .u64 s4, .int .u8 s5, .int .u8 s6, .int .u64 s7, .int .u64 s8] 145
        have hxa : Ext wr (wr.alloc (.cells #[.string s1, .string s2, .int .u64 s3, .int .u64 s4, .int .u8 s5, .int .u8 s6, .int .u64 s7, .int .u64 s8] 145)) := (Ext.refl wr).alloc _
        go_wp2_with fail
        generalize wr.alloc (.cells #[.string s1, .string s2, .int .u64 s3, .int .u64 s4, .int .u8 s5, .int .u8 s6, .int .u64 s7, .int .u64 s8] 145) = wa at *
        refine (HW.out _).mono ?_
        rintro x w3 ⟨rfl, hx3⟩
        have hx03 := hxa.trans hx3
        have bq3 := bq.ext hx3
        by_cases hse0 : se = 0
        · subst hse0
          have htab3 := HTAB.out.ext hx03
          have hcb3 := bq3.cell
          have hsz3 := hx03.sz
          have hkl : ((xs.take k).map (·.key)).length = k := by rw [List.length_map, List.length_take]; omega
          have HKL := Lib.hid hkl
          clear hkl
          go_wp2_with (first
            | (at_builtin; refine wpList_append_own _ rfl (.tmp 37) (.tmp 40) 32 rfl w2.heap.size 9 i0 (.string ⟨#[]⟩) 1 16 Tryz.underlying32 HI.out.1 HI.out.2.1 HI.out.2.2.1 HI.out.2.2.2 rfl (by decide) _ _ _ rfl ((own_ext HROW.out.own hx03).alloc _) ⟨w3.heap.size, 0, none⟩ 1 1 [.string s1] rfl rfl (blk_news (C := #[.string s1]) (Blk.new _ _ _)) (by simp [Value.oneCell']) (by have := HKL.out; omega) (by have := HKL.out; omega) (by simp; omega) ?_; rintro v' w4 hown hgrow -)
            | fail)
          have hx34 := hx03.alloc (.cells #[.string s1] 9)
          have hs34 := hx34.sz
          have hxm := ((HX.out.trans (hx34.toB w.heap.size))).grownAt ((own_ext HROW.out.own hx03).alloc _) (Nat.le_refl _) hgrow
          have htab4 : TabAt w4 (w.heap.size + 1) w.heap.size most clock (putTo (xs.take k)).1 (putTo (xs.take k)).2 :=
            ⟨(grown_at hgrow HROW.out.own (by omega) (Or.inl (by omega))).trans (htab3.ext ((Ext.refl _).alloc (.cells #[.string s1] 9))).blk, (grown_at hgrow HROW.out.own (by omega) (Or.inl (by omega))).trans (htab3.ext ((Ext.refl _).alloc (.cells #[.string s1] 9))).map⟩
          have bq4 : Blk w4 wr.heap.size #[.string s1, .string s2, .int .u64 s3, .int .u64 s4, .int .u8 s5, .int .u8 s6, .int .u64 s7, .int .u64 s8] 145 :=
            (grown_at hgrow HROW.out.own (Nat.lt_of_lt_of_le bq3.lt (by simp)) (Or.inr (Nat.le_refl _))).trans (bq3.alloc (.cells #[.string s1] 9))
          have hok := putTo_ok (xs.take k) (fun s hs => HS.out s (List.mem_of_mem_take hs))
          have hrow4 : RowOf strE 1 9 w2.heap.size w4 v' ((xs.take (k + 1)).map (·.key)) := rowStr_more hown (by rw [HTK.out, List.map_append]; rfl)
          have hps := putTo_snoc (xs.take k) ⟨s1, s2, s3, s4, s5, s6, s7, s8⟩
          rw [← HTK.out] at hps
          have HPS := Lib.hid hps
          obtain ⟨w14, hput, hm14, hx14⟩ := run_sput (P := Tryz.prog) Tryz.underlying128 Tryz.underlying9 (htab4.map.ext ((Ext.refl _).drew)) hok.keys ⟨s1, s2, s3, s4, s5, s6, s7, s8⟩
          simp only [Slot.val, Slot.cells] at hput
          have hxx : ExtB w.heap.size w4 w14 := ((ExtB.refl _ w4).drew).trans hx14
          have htab14 := htab4.swap hxx hm14
          have g2 : w4.cell? ⟨w.heap.size + 1, 2, none⟩ = some (.map (some w.heap.size)) := htab4.blk.cell 2
          have r0 : w4.cell? ⟨wr.heap.size, 0, none⟩ = some (.string s1) := bq4.cell 0
          have r1 : w4.cell? ⟨wr.heap.size, 1, none⟩ = some (.string s2) := bq4.cell 1
          have r2 : w4.cell? ⟨wr.heap.size, 2, none⟩ = some (.int .u64 s3) := bq4.cell 2
          have r3 : w4.cell? ⟨wr.heap.size, 3, none⟩ = some (.int .u64 s4) := bq4.cell 3
          have r4 : w4.cell? ⟨wr.heap.size, 4, none⟩ = some (.int .u8 s5) := bq4.cell 4
          have r5 : w4.cell? ⟨wr.heap.size, 5, none⟩ = some (.int .u8 s6) := bq4.cell 5
          have r6 : w4.cell? ⟨wr.heap.size, 6, none⟩ = some (.int .u64 s7) := bq4.cell 6
          have r7 : w4.cell? ⟨wr.heap.size, 7, none⟩ = some (.int .u64 s8) := bq4.cell 7
          have HT14 := Lib.hid htab14
          have HROW14 := Lib.hid (hrow4.extB hxx (by omega))
          have HX14 := Lib.hid (hxm.trans hxx)
          clear hcb3 e0 e1 e2 e3 e4 e5 e6 e7 htab14 hm14 hown hgrow hrow4 hps htab4 bq4 htab3 bq3 bq hok hxm hx34
          go_upto_region 13 with fail
          go_region_held3 (fun w' => w'.cell? ⟨w.heap.size + 1, 2, none⟩ = some (.map (some w.heap.size)) ∧ w'.cell? ⟨wr.heap.size, 0, none⟩ = some (.string s1) ∧ w'.cell? ⟨wr.heap.size, 1, none⟩ = some (.string s2) ∧ w'.cell? ⟨wr.heap.size, 2, none⟩ = some (.int .u64 s3) ∧ w'.cell? ⟨wr.heap.size, 3, none⟩ = some (.int .u64 s4) ∧ w'.cell? ⟨wr.heap.size, 4, none⟩ = some (.int .u8 s5) ∧ w'.cell? ⟨wr.heap.size, 5, none⟩ = some (.int .u8 s6) ∧ w'.cell? ⟨wr.heap.size, 6, none⟩ = some (.int .u64 s7) ∧ w'.cell? ⟨wr.heap.size, 7, none⟩ = some (.int .u64 s8))
            (first | exact ⟨g2, r0, r1, r2, r3, r4, r5, r6, r7⟩ | exact ⟨hxx.keep g2 (by dsimp only; omega), hxx.keep r0 (by dsimp only; omega), hxx.keep r1 (by dsimp only; omega), hxx.keep r2 (by dsimp only; omega), hxx.keep r3 (by dsimp only; omega), hxx.keep r4 (by dsimp only; omega), hxx.keep r5 (by dsimp only; omega), hxx.keep r6 (by dsimp only; omega), hxx.keep r7 (by dsimp only; omega)⟩)
            (fail)
          go_wp2
          go_roundw
          case rel => exact ⟨k + 1, by omega, by go_num, HROW14.out, by rw [HPS.out]; exact HT14.out, fun i hi hik => HNEXT.out (by trivial) i hi hik, HX14.out⟩
          case measure => simp [intOf]; omega
        · have hq : (se == 0) = false := by simpa using hse0
          have hq2 : (se != 0) = true := by simpa using hse0
          have HE := Lib.hid (show ofErr most clock xs = se by
            unfold ofErr
            rw [if_neg HR.out, HBAD.out hse0, if_pos hse0])
          clear bq bq3
          go_wp2
          go_ret2
          exact OfIs.bad HE.out hse0 ((HX2.out.own HX.out (Nat.le_refl _)).trans hx03)
      · obtain rfl : k = xs.length := by omega
        have HF := Lib.hid (firstErr_no clock xs fun i hi => HGOOD.out i hi hi)
        have hst := (HROW.out.strs (fun s hs => by
          obtain ⟨x, hx, rfl⟩ := List.mem_map.1 hs
          exact (HS.out x (List.mem_of_mem_take hx)).key)).ext (Ext.refl _)
        rw [List.take_length] at hst
        have HST := Lib.hid hst
        have htab := HTAB.out
        rw [List.take_length] at htab
        have HT3 := Lib.hid htab
        clear hst htab hx
        go_wp2_with fail
        refine (key_Sorted _ _ _ HST.out (by rw [List.length_map]; omega)).mono ?_
        generalize hsb : sortedB (xs.map (·.key)) = sb
        have HSB := Lib.hid hsb
        clear hsb
        rintro x w3 ⟨rfl, hx3⟩
        cases sb with
        | false =>
          have HE := Lib.hid (show ofErr most clock xs = 42 by
            unfold ofErr
            rw [if_neg HR.out, HF.out, HSB.out]
            simp)
          go_wp2
          go_ret2
          exact OfIs.bad HE.out (by decide) ((HX2.out.own HX.out (Nat.le_refl _)).trans hx3)
        | true =>
          by_cases hfull : most < xs.length
          · have HE := Lib.hid (show ofErr most clock xs = 50 by
              unfold ofErr
              rw [if_neg HR.out, HF.out, HSB.out]
              simp [hfull])
            go_wp2
            go_ret2
            exact OfIs.bad HE.out (by decide) ((HX2.out.own HX.out (Nat.le_refl _)).trans hx3)
          · have HE := Lib.hid (show ofErr most clock xs = 0 by
              unfold ofErr
              rw [if_neg HR.out, HF.out, HSB.out]
              simp [hfull])
            go_wp2
            go_ret2
            exact OfIs.good HE.out ((HX2.out.own HX.out (Nat.le_refl _)).trans hx3) (by omega) (by omega) (HT3.out.ext hx3)
end Go.Proofs.YtknlojlcahgnoaaGreat
