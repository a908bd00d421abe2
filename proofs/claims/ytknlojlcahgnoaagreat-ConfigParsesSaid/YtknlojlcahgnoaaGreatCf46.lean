/- Walks: tollerref10.blank, tollerref10.line. Walk: tollerref10.Split. -/
import Derived.Deep.CutBlock
import Derived.Test.YtknlojlcahgnoaaGreatCf44
import Derived.Test.YtknlojlcahgnoaaGreatCf32

namespace Go.Proofs.YtknlojlcahgnoaaGreat
open Go.RowKit
set_option linter.unusedVariables false
set_option linter.unusedSimpArgs false

theorem u8_eq {b : UInt8} {n : Nat} (hn : n < 256) : b = UInt8.ofNat n ↔ (b.toNat : Int) = (n : Int) := by
  constructor
  · intro e
    rw [e]
    simp
    omega
  · intro e
    exact UInt8.toNat_inj.1 (by simp; omega)
set_option maxHeartbeats 400000 in
theorem ref10_blank (b : UInt8) (w : World) : Calls Tryz.prog 134 #[.int .u8 (b.toNat : Int)] w fun x w' => x = .returned (.bool (blankB b)) ∧ w = w' := by
  have h1 := u8_eq (b := b) (n := 32) (by decide)
  have h2 := u8_eq (b := b) (n := 9) (by decide)
  have hb : blankB b = (decide ((b.toNat : Int) = 32) || decide ((b.toNat : Int) = 9)) := by
    unfold blankB
    congr 1
    · exact decide_eq_decide.2 h1
    · exact decide_eq_decide.2 h2
  rw [hb]
  generalize (b.toNat : Int) = y at *
  clear hb h1 h2
  by_cases q1 : y = 32
  · subst q1
    go_enter Tryz.func134, Tryz.ntmps134
    go_wp2
    go_ret
    exact ⟨by simp, rfl⟩
  · have z1 : (y == 32) = false := by simpa using q1
    have z3 : decide (y = 32) = false := by simpa using q1
    by_cases q2 : y = 9
    · subst q2
      go_enter Tryz.func134, Tryz.ntmps134
      go_wp2
      go_ret
      exact ⟨by simp, rfl⟩
    · have z2 : (y == 9) = false := by simpa using q2
      have z4 : decide (y = 9) = false := by simpa using q2
      go_enter Tryz.func134, Tryz.ntmps134
      go_wp2
      go_ret
      exact ⟨by simp [q1, q2], rfl⟩
theorem wdrow_more {base : Nat} {w : World} {v : Value} {l : List Wd} {x : Wd} (h : w.ownsRow base 108 3 v (l.length + 1) (flatE Wd.cells l ++ x.cells.toList)) : WdRow base w v (l ++ [x]) := by
  refine RowOf.mk' h (by simp) (flatE_snoc _ _ _).symm ?_
  obtain ⟨g, cap, rfl⟩ := ownsRow_succ h
  simp
set_option maxHeartbeats 4000000 in
set_option maxRecDepth 100000 in
theorem ref10_line (v : Value) (l : List UInt8) (n : Nat) (w : World) (h : ByteSlice w v l) (hcp : CapLe v) (hl : l.length ≤ 1048576) :
    Calls Tryz.prog 135 #[v, .int .i64 (n : Int)] w fun x w' => ∃ v', x = .returned v' ∧ WdRow w.heap.size w' v' (refLine l n) ∧ Ext w w' := by
  obtain ⟨⟨a, c, rfl, hcl⟩, -⟩ := id h
  have hlc : l.length ≤ c := hcp _ _ _ rfl
  have HCL := Lib.hid hcl
  obtain ⟨i0, hi, hz0, hz1, hz2⟩ := info_parts word_info
  have HI := Lib.hid (And.intro hi (And.intro hz0 (And.intro hz1 hz2)))
  have hm : (2000000 : Nat) ≤ maxLen := by decide
  clear hi hz0 hz1 hz2 h hcp hcl
  go_enter Tryz.func135, Tryz.ntmps135
  go_wp2
  go_loopw [5, 6] (fun rv i wr => ∃ (k : Nat) (row : List Wd), i = .int .i64 k ∧ LnAt n l k row ∧ row.length ≤ k ∧ WdRow w.heap.size wr rv row ∧ Ext w wr) (fun _ i _ => l.length - (intOf i).toNat)
  case atStart => exact ⟨0, [], rfl, LnAt.start n l, Nat.le_refl _, RowOf.empty _ _ _ _ _, Ext.refl _⟩
  case round =>
    obtain ⟨k, row, rfl, hat, hrl, hrow, hx⟩ := hrel
    have HAT := Lib.hid hat
    have HROW := Lib.hid hrow
    have HX := Lib.hid hx
    have hk := hat.le
    obtain ⟨va, vc, rfl⟩ := hrow.size
    clear hat hrow
    by_cases hlt : k < l.length
    · obtain ⟨b, o, rfl, hc⟩ := HCL.out (by intro e; rw [e] at hlt; simp at hlt)
      have HC : Hid (∀ j (h : j < l.length), wr.cell? ⟨b, o + j, none⟩ = some (.int .u8 (l[j].toNat : Int))) := Lib.hid (fun j hj => HX.out.keep (hc j hj))
      have ck := HC.out k hlt
      have HBL := Lib.hid (fun j (hj : j < l.length) => ref10_blank l[j] wr)
      have hblk := HBL.out k hlt
      clear hc hx
      cases hb : blankB l[k] with
      | true =>
        rw [hb] at hblk
        have HB := Lib.hid hblk
        have HN := Lib.hid (HAT.out.blank hlt hb)
        generalize (l[k].toNat : Int) = y at *
        clear hblk hb
        go_wp2_with (first | (go_at_call 134; refine HB.out.mono ?_; rintro x w2 ⟨rfl, rfl⟩) | fail)
        go_roundw
        case rel => exact ⟨k + 1, row, by go_num, HN.out, by omega, HROW.out, HX.out⟩
        case measure => simp [intOf]; omega
      | false =>
        rw [hb] at hblk
        have HB := Lib.hid hblk
        have HKB := Lib.hid hb
        obtain ⟨y, hy⟩ : ∃ y : Int, (l[k].toNat : Int) = y := ⟨_, rfl⟩
        have HY := Lib.hid hy
        have HSH := Lib.hid (u8_eq (b := l[k]) (n := 35) (by decide))
        rw [hy] at ck HB HSH
        clear hblk hb hy
        go_wp2_with (first | (go_at_call 134; refine HB.out.mono ?_; rintro x w2 ⟨rfl, rfl⟩) | fail)
        go_loopw [6] (fun i ws => ∃ j : Nat, i = .int .i64 j ∧ k ≤ j ∧ j ≤ l.length ∧ ws = wr ∧ Hid (∀ i (h : i < l.length), k ≤ i → i < j → blankB l[i] = false)) (fun i _ => l.length - (intOf i).toNat)
        case atStart => exact ⟨k, rfl, Nat.le_refl _, by omega, rfl, Lib.hid (fun i h h1 h2 => by omega)⟩
        case round =>
          obtain ⟨j, rfl, hkj, hjl, rfl, hws⟩ := hrel
          by_cases hjlt : j < l.length
          · have cj := HC.out j hjlt
            have hblj := HBL.out j hjlt
            cases hbj : blankB l[j] with
            | false =>
              rw [hbj] at hblj
              have HBJ := Lib.hid hblj
              have HNX : Hid (∀ i (h : i < l.length), k ≤ i → i < j + 1 → blankB l[i] = false) := Lib.hid (fun i h h1 h2 => by
                rcases Nat.lt_or_ge i j with q | q
                · exact hws.out i h h1 q
                · have : i = j := by omega
                  subst this
                  exact hbj)
              generalize (l[j].toNat : Int) = z at *
              clear hblj hbj hws
              go_wp2_with (first | (go_at_call 134; refine HBJ.out.mono ?_; rintro x w2 ⟨rfl, rfl⟩) | fail)
              go_roundw
              case rel => exact ⟨j + 1, by go_num, by omega, by omega, trivial, HNX⟩
              case measure => simp [intOf]; omega
            | true =>
              rw [hbj] at hblj
              have HBJ := Lib.hid hblj
              have HEND : Hid (∀ h : j < l.length, blankB l[j] = true) := Lib.hid (fun _ => hbj)
              generalize (l[j].toNat : Int) = z at *
              clear hblj hbj
--WAYA
              have hkj2 : k < j := by
                rcases Nat.lt_or_ge k j with q | q
                · exact q
                · have : j = k := by omega
                  subst this
                  have e := HEND.out hlt
                  rw [HKB.out] at e
                  cases e
              have hsl : ∀ V, (Instr.slice 22 (.slice (some ⟨b, o, none⟩) l.length c) (some (.int .i64 (k : Int))) (some (.int .i64 (j : Int))) none).run Tryz.prog V = .ok (.slice (some ⟨b, o + k, none⟩) (j - k) (c - k)) V := fun V => by rw [slice_lh ⟨b, o, none⟩ l.length c k j hkj2 (by omega) V, addr_add]
              have hseg : ((l.take j).drop k).length = j - k := by rw [List.length_drop, List.length_take]; omega
              have hcv : (convert 22 9 (.slice (some ⟨b, o + k, none⟩) (j - k) (c - k))).run Tryz.prog wr = .ok (.string (bText ((l.take j).drop k))) wr := by
                rw [← hseg]
                refine run_convert_bytes_back wr 22 9 5 ⟨b, o + k, none⟩ _ ((l.take j).drop k) Tryz.underlying22 Tryz.underlying5 Tryz.underlying9 ?_
                intro i hi
                rw [hseg] at hi
                rw [addr_add, List.getElem_drop, List.getElem_take, Nat.add_assoc]
                exact HC.out (k + i) (by omega)
              have HW := Lib.hid (fun hs => HAT.out.word hkj2 hjl hws.out HEND.out hs)
              have hs0 := HX.out.sz
              have hk1 : IntKind.i64.wrap ((k : Int) + 1) = ((k + 1 : Nat) : Int) := by simp [IntKind.wrap, IntKind.signed, IntKind.bits]; omega
              clear hws hseg
              cases row with
              | nil =>
                by_cases h35 : y = 35
                · have HN := Lib.hid (refLine_sharp (n := n) hlt HAT.out.is.symm (HSH.out.2 h35))
                  subst h35
                  go_wp2_with (first | (go_at_call 134; refine HBJ.out.mono ?_; rintro x w2 ⟨rfl, rfl⟩) | fail)
                  go_ret
                  exact ⟨_, rfl, by rw [HN.out]; exact RowOf.empty _ _ _ _ _, HX.out⟩
                · have hz : (y == 35) = false := by simpa using h35
                  have hz2 : decide (y = 35) = false := by simpa using h35
                  go_wp2_with (first | (go_at_call 134; refine HBJ.out.mono ?_; rintro x w2 ⟨rfl, rfl⟩) | (at_builtin; refine wpList_append_own _ rfl (.tmp 44) (.tmp 54) 106 rfl w.heap.size 108 i0 (.agg #[.string ⟨#[]⟩, .int .i64 0, .int .i64 0]) 3 32 Tryz.underlying106 HI.out.1 HI.out.2.1 HI.out.2.2.1 HI.out.2.2.2 rfl (by decide) _ _ _ rfl (HROW.out.own.alloc _) ⟨wr.heap.size, 0, none⟩ 1 1 [.string (bText ((l.take j).drop k)), .int .i64 (n : Int), .int .i64 ((k + 1 : Nat) : Int)] rfl rfl (blk_news (C := #[.string (bText ((l.take j).drop k)), .int .i64 (n : Int), .int .i64 ((k + 1 : Nat) : Int)]) (Blk.new _ _ _)) (by simp [Value.oneCell']) (by omega) (by omega) (by simp; omega) ?_; rintro v' w4 hown hgrow -) | fail)
                  have hx4 : Ext w w4 := Ext.grownAt (HX.out.alloc _) (HROW.out.own.alloc _) (Nat.le_refl _) hgrow
                  have hrow4 := wdrow_more (x := ⟨bText ((l.take j).drop k), n, ((k + 1 : Nat) : Int)⟩) hown
                  clear hown hgrow
                  go_wp2
                  go_roundw
                  case rel => exact ⟨j, [] ++ [⟨bText ((l.take j).drop k), n, ((k + 1 : Nat) : Int)⟩], rfl, HW.out (by exact fun _ q => h35 (HSH.out.1 q)), by rw [List.length_append, List.length_singleton]; omega, hrow4, hx4⟩
                  case measure => simp [intOf]; omega
              | cons r t =>
                have hz : (((r :: t).length : Int) == 0) = false := by simp; omega
                go_wp2_with (first | (go_at_call 134; refine HBJ.out.mono ?_; rintro x w2 ⟨rfl, rfl⟩) | (at_builtin; refine wpList_append_own _ rfl (.tmp 44) (.tmp 54) 106 rfl w.heap.size 108 i0 (.agg #[.string ⟨#[]⟩, .int .i64 0, .int .i64 0]) 3 32 Tryz.underlying106 HI.out.1 HI.out.2.1 HI.out.2.2.1 HI.out.2.2.2 rfl (by decide) _ _ _ rfl (HROW.out.own.alloc _) ⟨wr.heap.size, 0, none⟩ 1 1 [.string (bText ((l.take j).drop k)), .int .i64 (n : Int), .int .i64 ((k + 1 : Nat) : Int)] rfl rfl (blk_news (C := #[.string (bText ((l.take j).drop k)), .int .i64 (n : Int), .int .i64 ((k + 1 : Nat) : Int)]) (Blk.new _ _ _)) (by simp [Value.oneCell']) (by omega) (by omega) (by simp; omega) ?_; rintro v' w4 hown hgrow -) | fail)
                have hx4 : Ext w w4 := Ext.grownAt (HX.out.alloc _) (HROW.out.own.alloc _) (Nat.le_refl _) hgrow
                have hrow4 := wdrow_more (x := ⟨bText ((l.take j).drop k), n, ((k + 1 : Nat) : Int)⟩) hown
                clear hown hgrow
                go_wp2
                go_roundw
                case rel => exact ⟨j, (r :: t) ++ [⟨bText ((l.take j).drop k), n, ((k + 1 : Nat) : Int)⟩], rfl, HW.out (by intro q; cases q), by rw [List.length_append, List.length_singleton]; omega, hrow4, hx4⟩
                case measure => simp [intOf]; omega
--ENDA
          · have HEND : Hid (∀ h : j < l.length, blankB l[j] = true) := Lib.hid (fun h => absurd h hjlt)
--WAYB
            have hkj2 : k < j := by
              rcases Nat.lt_or_ge k j with q | q
              · exact q
              · have : j = k := by omega
                subst this
                have e := HEND.out hlt
                rw [HKB.out] at e
                cases e
            have hsl : ∀ V, (Instr.slice 22 (.slice (some ⟨b, o, none⟩) l.length c) (some (.int .i64 (k : Int))) (some (.int .i64 (j : Int))) none).run Tryz.prog V = .ok (.slice (some ⟨b, o + k, none⟩) (j - k) (c - k)) V := fun V => by rw [slice_lh ⟨b, o, none⟩ l.length c k j hkj2 (by omega) V, addr_add]
            have hseg : ((l.take j).drop k).length = j - k := by rw [List.length_drop, List.length_take]; omega
            have hcv : (convert 22 9 (.slice (some ⟨b, o + k, none⟩) (j - k) (c - k))).run Tryz.prog wr = .ok (.string (bText ((l.take j).drop k))) wr := by
              rw [← hseg]
              refine run_convert_bytes_back wr 22 9 5 ⟨b, o + k, none⟩ _ ((l.take j).drop k) Tryz.underlying22 Tryz.underlying5 Tryz.underlying9 ?_
              intro i hi
              rw [hseg] at hi
              rw [addr_add, List.getElem_drop, List.getElem_take, Nat.add_assoc]
              exact HC.out (k + i) (by omega)
            have HW := Lib.hid (fun hs => HAT.out.word hkj2 hjl hws.out HEND.out hs)
            have hs0 := HX.out.sz
            have hk1 : IntKind.i64.wrap ((k : Int) + 1) = ((k + 1 : Nat) : Int) := by simp [IntKind.wrap, IntKind.signed, IntKind.bits]; omega
            clear hws hseg
            cases row with
            | nil =>
              by_cases h35 : y = 35
              · have HN := Lib.hid (refLine_sharp (n := n) hlt HAT.out.is.symm (HSH.out.2 h35))
                subst h35
                go_wp2_with (first | fail)
                go_ret
                exact ⟨_, rfl, by rw [HN.out]; exact RowOf.empty _ _ _ _ _, HX.out⟩
              · have hz : (y == 35) = false := by simpa using h35
                have hz2 : decide (y = 35) = false := by simpa using h35
                go_wp2_with (first | (at_builtin; refine wpList_append_own _ rfl (.tmp 44) (.tmp 54) 106 rfl w.heap.size 108 i0 (.agg #[.string ⟨#[]⟩, .int .i64 0, .int .i64 0]) 3 32 Tryz.underlying106 HI.out.1 HI.out.2.1 HI.out.2.2.1 HI.out.2.2.2 rfl (by decide) _ _ _ rfl (HROW.out.own.alloc _) ⟨wr.heap.size, 0, none⟩ 1 1 [.string (bText ((l.take j).drop k)), .int .i64 (n : Int), .int .i64 ((k + 1 : Nat) : Int)] rfl rfl (blk_news (C := #[.string (bText ((l.take j).drop k)), .int .i64 (n : Int), .int .i64 ((k + 1 : Nat) : Int)]) (Blk.new _ _ _)) (by simp [Value.oneCell']) (by omega) (by omega) (by simp; omega) ?_; rintro v' w4 hown hgrow -) | fail)
                have hx4 : Ext w w4 := Ext.grownAt (HX.out.alloc _) (HROW.out.own.alloc _) (Nat.le_refl _) hgrow
                have hrow4 := wdrow_more (x := ⟨bText ((l.take j).drop k), n, ((k + 1 : Nat) : Int)⟩) hown
                clear hown hgrow
                go_wp2
                go_roundw
                case rel => exact ⟨j, [] ++ [⟨bText ((l.take j).drop k), n, ((k + 1 : Nat) : Int)⟩], rfl, HW.out (by exact fun _ q => h35 (HSH.out.1 q)), by rw [List.length_append, List.length_singleton]; omega, hrow4, hx4⟩
                case measure => simp [intOf]; omega
            | cons r t =>
              have hz : (((r :: t).length : Int) == 0) = false := by simp; omega
              go_wp2_with (first | (at_builtin; refine wpList_append_own _ rfl (.tmp 44) (.tmp 54) 106 rfl w.heap.size 108 i0 (.agg #[.string ⟨#[]⟩, .int .i64 0, .int .i64 0]) 3 32 Tryz.underlying106 HI.out.1 HI.out.2.1 HI.out.2.2.1 HI.out.2.2.2 rfl (by decide) _ _ _ rfl (HROW.out.own.alloc _) ⟨wr.heap.size, 0, none⟩ 1 1 [.string (bText ((l.take j).drop k)), .int .i64 (n : Int), .int .i64 ((k + 1 : Nat) : Int)] rfl rfl (blk_news (C := #[.string (bText ((l.take j).drop k)), .int .i64 (n : Int), .int .i64 ((k + 1 : Nat) : Int)]) (Blk.new _ _ _)) (by simp [Value.oneCell']) (by omega) (by omega) (by simp; omega) ?_; rintro v' w4 hown hgrow -) | fail)
              have hx4 : Ext w w4 := Ext.grownAt (HX.out.alloc _) (HROW.out.own.alloc _) (Nat.le_refl _) hgrow
              have hrow4 := wdrow_more (x := ⟨bText ((l.take j).drop k), n, ((k + 1 : Nat) : Int)⟩) hown
              clear hown hgrow
              go_wp2
              go_roundw
              case rel => exact ⟨j, (r :: t) ++ [⟨bText ((l.take j).drop k), n, ((k + 1 : Nat) : Int)⟩], rfl, HW.out (by intro q; cases q), by rw [List.length_append, List.length_singleton]; omega, hrow4, hx4⟩
              case measure => simp [intOf]; omega
--ENDB
    · have hkl : k = l.length := by omega
      subst hkl
      have HD := Lib.hid HAT.out.done
      go_wp2
      go_ret
      exact ⟨_, rfl, by rw [HD.out]; exact HROW.out, HX.out⟩
end Go.Proofs.YtknlojlcahgnoaaGreat

namespace Go.Proofs.YtknlojlcahgnoaaGreat
open Go.RowKit
set_option linter.unusedVariables false
set_option linter.unusedSimpArgs false

/-- lines in a row of the call's own, each in one, too -/
def OutAt (base : Nat) (w : World) (ov : Value) (out : List (List Wd)) : Prop :=
  ∃ vs, w.ownsRow base 106 1 ov out.length vs ∧ vs.length = out.length ∧ ∀ j (h : j < vs.length) (h2 : j < out.length), WdRow base w vs[j] out[j]
theorem OutAt.ext {base : Nat} {w w' : World} {ov : Value} {out : List (List Wd)} (h : OutAt base w ov out) (e : Ext w w') : OutAt base w' ov out := by
  obtain ⟨vs, h1, h2, h3⟩ := h
  exact ⟨vs, own_ext h1 e, h2, fun j q1 q2 => (h3 j q1 q2).ext e⟩
theorem row_base {b c : Nat} {w : World} {v : Value} {l : List Wd} (h : WdRow c w v l) (hb : b ≤ c) : WdRow b w v l := by
  refine ⟨?_, h.nil⟩
  obtain ⟨h0, h | ⟨g, cap, cur, q1, q2, q3⟩⟩ := h.own
  · exact ⟨h0, Or.inl h⟩
  · exact ⟨h0, Or.inr ⟨g, cap, cur, q1, Nat.le_trans hb q2, q3⟩⟩
theorem OutAt.step {base : Nat} {wr w5 w6 : World} {u v' x : Value} {vs : List Value} {out : List (List Wd)} {ln : List Wd} (o : wr.ownsRow base 106 1 u out.length vs) (hvl : vs.length = out.length) (hel : ∀ j (h : j < vs.length) (h2 : j < out.length), WdRow base wr vs[j] out[j]) (hx : Ext wr w5) (hl : WdRow base w5 x ln)
    (ho : w6.ownsRow base 106 1 v' (out.length + 1) (vs ++ [x])) (hg : (w5.alloc (.cells #[x] 106)).grownBy w6 u.ownBlock) : OutAt base w6 v' (out ++ [ln]) := by
  have ox := (own_ext o hx).alloc (.cells #[x] 106)
  have keep : ∀ {y : Value} {l : List Wd}, WdRow base w5 y l → WdRow base w6 y l := fun {y l} h =>
    ⟨own_other (h.own.alloc (.cells #[x] 106)) ox (by decide) hg, h.nil⟩
  refine ⟨vs ++ [x], by rw [List.length_append]; exact ho, by simp [hvl], fun j h1 h2 => ?_⟩
  by_cases q : j < vs.length
  · rw [List.getElem_append_left q, List.getElem_append_left (by omega)]
    exact keep ((hel j q (by omega)).ext hx)
  · have hj : j = out.length := by simp at h2; omega
    subst hj
    rw [List.getElem_append_right (by omega), List.getElem_append_right (Nat.le_refl _)]
    simpa [hvl] using keep hl
theorem OutAt.extB {base b : Nat} {w w' : World} {ov : Value} {out : List (List Wd)} (h : OutAt base w ov out) (e : ExtB b w w') (hb : b < base) : OutAt base w' ov out := by
  obtain ⟨vs, h1, h2, h3⟩ := h
  exact ⟨vs, own_extB h1 e hb, h2, fun j q1 q2 => ⟨own_extB (h3 j q1 q2).own e hb, (h3 j q1 q2).nil⟩⟩
theorem OutAt.lines {base : Nat} {w : World} {ov : Value} {out : List (List Wd)} (h : OutAt base w ov out) : LinesAt w ov out := by
  obtain ⟨vs, ⟨h0, ⟨rfl, q⟩ | ⟨g, cap, cur, rfl, q2, q3, q4, q5, q6, q7⟩⟩, h2, h3⟩ := h
  · have : out = [] := List.length_eq_zero_iff.1 q
    subst this
    exact ⟨none, 0, rfl, fun e => absurd rfl e⟩
  · refine ⟨_, _, rfl, fun hne => ⟨g, 0, rfl, fun j hj => ?_⟩⟩
    refine ⟨vs[j], ?_, (h3 j (by omega) hj).elems Wd.size3⟩
    have : cur.toList[j]? = some vs[j] := by
      rw [← List.getElem?_eq_getElem (by omega), ← q7, List.getElem?_take_of_lt (by omega)]
    rw [Blk.cell (show Blk w g cur 106 from q3)]
    simpa using this
/-- what was told by the document: the lines, or what is wrong, and where -/
def SplitR (w : World) (l : List UInt8) (x : Ending) (w' : World) : Prop :=
  ∃ ov, x = .returned (.tuple #[ov, .int .i64 (splitE l), .agg #[.int .i64 (splitAt' l).1, .int .i64 (splitAt' l).2]]) ∧ LinesAt w' ov (splitL l) ∧ Ext w w'
theorem SplitR.of {w w' : World} {l : List UInt8} {ov : Value} {e a b : Int} {ls : List (List Wd)} (h : splitE l = e ∧ splitAt' l = (a, b) ∧ splitL l = ls) (hl : LinesAt w' ov ls) (hx : Ext w w') : SplitR w l (.returned (.tuple #[ov, .int .i64 e, .agg #[.int .i64 a, .int .i64 b]])) w' := by
  obtain ⟨h1, h2, h3⟩ := h
  exact ⟨ov, by rw [h1, h2], by rw [h3]; exact hl, hx⟩
theorem lines_nil (w : World) : LinesAt w (.slice none 0 0) [] := ⟨none, 0, rfl, fun e => absurd rfl e⟩
/-- a part of a text -/
theorem cap_le2 {a : Option Addr} {n c : Nat} (h : n ≤ c) : CapLe (.slice a n c) := fun a2 n2 c2 e => by
  simp only [Value.slice.injEq] at e
  obtain ⟨-, e2, e3⟩ := e
  omega
theorem slice_part (a : Option Addr) (n c lo hi : Nat) (h1 : lo ≤ hi) (h2 : hi ≤ n) (h3 : n ≤ c) : ∃ sv, (∀ V, (Instr.slice 22 (.slice a n c) (some (.int .i64 (lo : Int))) (some (.int .i64 (hi : Int))) none).run Tryz.prog V = .ok sv V) ∧ (∃ a', sv = .slice a' (hi - lo) (c - lo)) ∧
    ∀ (w : World) (l : List UInt8), ByteSlice w (.slice a n c) l → ByteSlice w sv ((l.take hi).drop lo) := by
  have hz : ∀ V, (sizeOf (Tryz.prog.elem 22)).run Tryz.prog V = .ok 1 V := fun V => by kernel_rfl
  refine ⟨sliced a lo hi c 1, fun V => ?_, ⟨_, rfl⟩, fun w l h => ?_⟩
  · rw [run_slice_lh V 22 a n c (by kernel_rfl) .i64 .i64 (lo : Int) (hi : Int) (by omega) (by omega) (by omega), hz]
    rfl
  · obtain ⟨a', c', e, hc⟩ := h.form
    simp only [Value.slice.injEq] at e
    obtain ⟨rfl, rfl, rfl⟩ := e
    have hlen : ((l.take hi).drop lo).length = hi - lo := by rw [List.length_drop, List.length_take]; omega
    refine ⟨⟨_, _, by rw [hlen]; rfl, fun hne => ?_⟩, by have := h.len; omega⟩
    have h0 : 0 < hi - lo := by rw [← hlen]; exact List.length_pos_iff.2 hne
    obtain ⟨b, o, rfl, hcc⟩ := hc (by intro q; subst q; simp at hne)
    refine ⟨b, o + lo, ?_, fun j hj => ?_⟩
    · rw [if_neg (by omega), Option.map_some, Nat.mul_one, addr_add]
    · rw [hlen] at hj
      rw [List.getElem_drop, List.getElem_take, Nat.add_assoc]
      exact hcc (lo + j) (by omega)
theorem rf_n (l : List UInt8) : 1 ≤ (rfTo l).n ∧ (rfTo l).n ≤ l.length + 1 := by
  induction l using list_snoc' with
  | h0 => exact ⟨Nat.le_refl _, Nat.le_refl _⟩
  | h1 l b ih =>
    rw [rfTo_snoc, List.length_append]
    unfold rfStep
    split
    · simp; omega
    · simp; omega
theorem rf_out (l : List UInt8) : (rfTo l).out.length ≤ l.length := by
  induction l using list_snoc' with
  | h0 => exact Nat.le_refl _
  | h1 l b ih =>
    rw [rfTo_snoc, List.length_append]
    unfold rfStep
    split
    · show (addL _ _).length ≤ _
      unfold addL
      split
      · simp; omega
      · rw [List.length_append]; simp; omega
    · simp; omega
theorem words_sl_info : (Tryz.prog.info? 106).map (fun i => (i.zero, i.size, i.bytes)) = some (some (.slice none 0 0), 1, 24) := by kernel_rfl
/-- where the walk through a text is -/
def RfAt (l : List UInt8) (base : Nat) (K n from_ : Nat) (ov : Value) (w : World) : Prop :=
  (K ≤ l.length ∧ Fair (l.take K) ∧ n = (rfTo (l.take K)).n ∧ from_ + (rfTo (l.take K)).ln.length = K ∧ OutAt base w ov (rfTo (l.take K)).out) ∨
  (K = l.length + 1 ∧ Fair l ∧ n ≤ l.length + 2 ∧ from_ ≤ l.length + 1 ∧ OutAt base w ov (rfTo l).lay)
set_option maxHeartbeats 4000000 in
set_option maxRecDepth 100000 in
theorem ref10_Split (tv : Value) (l : List UInt8) (w : World) (ht : ByteSlice w tv l) (hcp : CapLe tv) : Calls Tryz.prog 86 #[tv] w fun x w' => SplitR w l x w' := by
  obtain ⟨⟨a, c, rfl, hcl⟩, hlm⟩ := id ht
  have hlc : l.length ≤ c := hcp _ _ _ rfl
  have bP := Blk.new w #[.int .i64 0, .int .i64 0] 44
  have hx0 : Ext w (w.alloc (.cells #[.int .i64 0, .int .i64 0] 44)) := (Ext.refl w).alloc _
  have HT := Lib.hid (ht.ext hx0)
  obtain ⟨i0, hi, hz0, hz1, hz2⟩ := info_parts words_sl_info
  have HI := Lib.hid (And.intro hi (And.intro hz0 (And.intro hz1 hz2)))
  have hm : (2000000 : Nat) ≤ maxLen := by decide
  clear hi hz0 hz1 hz2 ht hcp hcl
  go_enter Tryz.func86, Tryz.ntmps86
  go_upto_region 1 with fail
  generalize w.alloc (.cells #[.int .i64 0, .int .i64 0] 44) = w0 at *
  have HBP := Lib.hid bP
  have HX0 := Lib.hid hx0
  have hs0 := hx0.sz
  clear hx0
  by_cases hbig : 1048576 < l.length
  · have cP0 := bP.cell 0
    have cP1 := bP.cell 1
    have fP0 := bP.free 0
    have fP1 := bP.free 1
    have lP := bP.lt
    have hb2 : (1048576 : Int) < (l.length : Int) := by omega
    clear bP
    go_wp2_with fail
    have hS := (HBP.out.set 0 (.int .i64 0)).set 1 (.int .i64 0)
    exact ret_ttc (v := .slice none 0 0) (u := .int .i64 21) Tryz.results86 rfl rfl rfl hS Tryz.underlying44 rfl (by kernel_rfl) (SplitR.of (split_big hbig) (lines_nil _) ((HX0.out.setCell (p := ⟨w.heap.size, 0, none⟩) (Nat.le_refl _) _).setCell (p := ⟨w.heap.size, 1, none⟩) (Nat.le_refl _) _))
  · have hb2 : ¬ (1048576 : Int) < (l.length : Int) := by omega
    have hl0 : l.length ≤ 1048576 := by omega
    clear bP
    go_wp2_with fail
    go_loopw [5, 6, 7, 8] (fun ov nv fv i wr => ∃ (K n from_ : Nat), i = .int .i64 (K : Int) ∧ nv = .int .i64 (n : Int) ∧ fv = .int .i64 (from_ : Int) ∧ RfAt l w0.heap.size K n from_ ov wr ∧ Ext w0 wr) (fun _ _ _ i _ => l.length + 1 - (intOf i).toNat)
    case atStart => exact ⟨0, 1, 0, rfl, rfl, rfl, Or.inl ⟨Nat.zero_le _, (by intro b hb; simp at hb), rfl, rfl, ⟨[], World.ownsRow_nil _ _ _ _, rfl, fun j h => absurd h (Nat.not_lt_zero j)⟩⟩, Ext.refl _⟩
    case round =>
      obtain ⟨K, n, from_, rfl, rfl, rfl, hrf, hx⟩ := hrel
      have HX := Lib.hid hx
      have hsz := hx.sz
      rcases hrf with ⟨hK, hfair, hn, hfrom, hout⟩ | ⟨hK, hfair, hn, hfrom, hout⟩
      · have HFAIR := Lib.hid hfair
        obtain ⟨hn1, hn2⟩ := rf_n (l.take K)
        obtain ⟨-, hln⟩ := rf_ln l K hK
        have hol := rf_out (l.take K)
        rw [List.length_take, Nat.min_eq_left hK] at hn2 hol
        rw [← hn] at hn1 hn2
        have HN := Lib.hid hn
        have HLNE : Hid ((rfTo (l.take K)).ln = (l.take K).drop from_) := Lib.hid (by rw [hln, show K - (rfTo (l.take K)).ln.length = from_ by omega])
        have hfk : from_ ≤ K := by omega
        have HFR := Lib.hid hfrom
        obtain ⟨vs, ho1, ho2, ho3⟩ := hout
        have HO1 := Lib.hid ho1
        have HO2 := Lib.hid ho2
        have HO3 := Lib.hid ho3
        obtain ⟨va, vc, hov⟩ : ∃ va vc, u5 = .slice va (rfTo (l.take K)).out.length vc := by
          obtain ⟨-, ⟨q1, q2⟩ | ⟨g, cap, cur, q1, -⟩⟩ := ho1
          · exact ⟨none, 0, by rw [q1, q2]⟩
          · exact ⟨_, _, q1⟩
        subst hov
        clear hfair hn hfrom ho1 ho2 ho3 hx hln
        by_cases hlt : K < l.length
        · have hbyte : ∃ b o, a = some ⟨b, o, none⟩ ∧ wr.cell? ⟨b, o + K, none⟩ = some (.int .u8 (l[K].toNat : Int)) := by
            obtain ⟨a', c', e, hc⟩ := (HT.out.ext HX.out).form
            simp only [Value.slice.injEq] at e
            obtain ⟨rfl, -, -⟩ := e
            obtain ⟨b, o, rfl, hcc⟩ := hc (by intro q; rw [q] at hlt; simp at hlt)
            exact ⟨b, o, rfl, hcc K hlt⟩
          obtain ⟨b, o, rfl, ck⟩ := hbyte
          have h10 := u8_eq (b := l[K]) (n := 10) (by decide)
          have hlt2 : (K : Int) < (l.length : Int) := by omega
          by_cases hnl : l[K] = 10
          · have HNL := Lib.hid hnl
            have hy : (l[K].toNat : Int) = 10 := h10.1 hnl
            rw [hy] at ck
            clear h10 hy hnl
--WAYA
            obtain ⟨sv, hsl, ⟨sa, rfl⟩, hsb⟩ := slice_part (some ⟨b, o, none⟩) l.length c from_ K hfk hK hlc
            have hsvb := hsb wr l (HT.out.ext HX.out)
            rw [← HLNE.out] at hsvb
            have hll : (rfTo (l.take K)).ln.length ≤ 1048576 := by have := HFR.out; omega
            have HLN := Lib.hid (ref10_line _ (rfTo (l.take K)).ln n wr hsvb (cap_le2 (by omega)) hll)
            have HLAY : Hid (∀ row, refLine (rfTo (l.take K)).ln n = row → ∀ ov W, OutAt w0.heap.size W ov (addL row (rfTo (l.take K)).out) → RfAt l w0.heap.size (K + 1) (n + 1) (K + 1) ov W) := Lib.hid (by
              intro row hrow
              intro ov W h
              have e : rfTo (l.take (K + 1)) = ⟨(rfTo (l.take K)).n + 1, [], (rfTo (l.take K)).lay⟩ := by
                rw [take_more hlt, rfTo_snoc]
                unfold rfStep
                rw [if_pos HNL.out]
              refine Or.inl ⟨hlt, ?_, by rw [e, ← HN.out], by rw [e]; rfl, ?_⟩
              · rw [take_more hlt]
                intro x hx
                rcases List.mem_append.1 hx with hx | hx
                · exact HFAIR.out x hx
                · rw [List.mem_singleton.1 hx, HNL.out]; decide
              · rw [e]
                show OutAt _ _ _ (addL (refLine (rfTo (l.take K)).ln (rfTo (l.take K)).n) (rfTo (l.take K)).out)
                rw [← HN.out, hrow]
                exact h)
            obtain ⟨row, hrow⟩ : ∃ row, refLine (rfTo (l.take K)).ln n = row := ⟨_, rfl⟩
            rw [hrow] at HLN
            have HLY := Lib.hid (HLAY.out row hrow)
            have hk1 : IntKind.i64.wrap ((K : Int) + 1) = ((K + 1 : Nat) : Int) := by simp [IntKind.wrap, IntKind.signed, IntKind.bits]; omega
            have hn1' : IntKind.i64.wrap ((n : Int) + 1) = ((n + 1 : Nat) : Int) := by simp [IntKind.wrap, IntKind.signed, IntKind.bits]; omega
            clear hsvb hsb hrow HLAY
            cases row with
            | nil =>
              go_wp2_with (first | (go_at_call 135; refine HLN.out.mono ?_; rintro x w5 ⟨lv, rfl, hlv, hx5⟩; obtain ⟨la, lc, rfl⟩ := hlv.size; have HLV := Lib.hid hlv; have HX5 := Lib.hid hx5; have hsz5 := hx5.sz; clear hlv hx5) | fail)
              go_roundw
              case rel =>
                refine ⟨K + 1, n + 1, K + 1, rfl, rfl, rfl, HLY.out _ _ ?_, HX.out.trans HX5.out⟩
                exact (show OutAt w0.heap.size wr _ _ from ⟨vs, HO1.out, HO2.out, HO3.out⟩).ext HX5.out
              case measure => simp [intOf]; omega
            | cons r t =>
              have hpos : (0 : Int) < ((r :: t).length : Int) := by simp
              go_wp2_with (first
                | (go_at_call 135; refine HLN.out.mono ?_; rintro x w5 ⟨lv, rfl, hlv, hx5⟩; obtain ⟨la, lc, rfl⟩ := hlv.size; have HLV := Lib.hid hlv; have HX5 := Lib.hid hx5; have hsz5 := hx5.sz; clear hlv hx5)
                | (at_builtin; refine wpList_append_own _ rfl (.tmp 66) (.tmp 68) 96 rfl w0.heap.size 106 i0 (.slice none 0 0) 1 24 Tryz.underlying96 HI.out.1 HI.out.2.1 HI.out.2.2.1 HI.out.2.2.2 rfl (by decide) _ _ _ rfl ((own_ext HO1.out HX5.out).alloc _) ⟨w5.heap.size, 0, none⟩ 1 1 [_] rfl rfl (blk_news (C := #[_]) (Blk.new _ _ _)) (by simp [Value.oneCell']) (by omega) (by omega) (by simp; omega) ?_; rintro v' w6 hown hgrow -)
                | fail)
              have hx6 : Ext w0 w6 := Ext.grownAt ((HX.out.trans HX5.out).alloc _) ((own_ext HO1.out HX5.out).alloc _) (Nat.le_refl _) hgrow
              have hout6 := OutAt.step HO1.out HO2.out HO3.out HX5.out (row_base HLV.out hsz) hown hgrow
              clear hown hgrow
              go_wp2
              go_roundw
              case rel => exact ⟨K + 1, n + 1, K + 1, rfl, rfl, rfl, HLY.out _ _ hout6, hx6⟩
              case measure => simp [intOf]; omega
--ENDA
          · have HNL := Lib.hid hnl
            have hy : ¬ (l[K].toNat : Int) = 10 := fun e => hnl (h10.2 e)
            have hkd := bKind_3 (b := l[K])
            have HBL := Lib.hid (ref10_blank l[K] wr)
            have hul := l[K].toNat_lt
            have HLST : Hid (rfTo (l.take (K + 1)) = ⟨(rfTo (l.take K)).n, (rfTo (l.take K)).ln ++ [l[K]], (rfTo (l.take K)).out⟩) := Lib.hid (by
              rw [take_more hlt, rfTo_snoc]
              unfold rfStep
              rw [if_neg hnl])
            have HBAD := Lib.hid (fun q => split_ref_bad hbig hlt HFAIR.out q)
            have HGOOD : Hid (¬ bKind l[K] = 3 → Fair (l.take (K + 1))) := Lib.hid (fun q => by
              rw [take_more hlt]
              intro x hx
              rcases List.mem_append.1 hx with hx | hx
              · exact HFAIR.out x hx
              · rw [List.mem_singleton.1 hx]; exact q)
            have HNEXT : Hid (¬ bKind l[K] = 3 → RfAt l w0.heap.size (K + 1) n from_ (.slice va (rfTo (l.take K)).out.length vc) wr) := Lib.hid (fun q => by
              refine Or.inl ⟨hlt, HGOOD.out q, ?_, ?_, ?_⟩
              · rw [HLST.out]; exact HN.out
              · rw [HLST.out, List.length_append]
                have := HFR.out
                simp
                omega
              · rw [HLST.out]
                exact ⟨vs, HO1.out, HO2.out, HO3.out⟩)
            have HKD := Lib.hid hkd
            obtain ⟨y, hyy⟩ : ∃ y : Int, (l[K].toNat : Int) = y := ⟨_, rfl⟩
            rw [hyy] at ck hy HBL
            have hyn : (y == 10) = false := by simpa using hy
            have hyn2 : decide (y = 10) = false := by simpa using hy
            have HYY := Lib.hid hyy
            have HNL10 := Lib.hid (show l[K] ≠ 10 from hnl)
            clear h10 hnl hkd HGOOD HLST
            cases hbl : blankB l[K] with
            | true =>
              rw [hbl] at HBL
              have HNX := Lib.hid (HNEXT.out (fun q => by have := (HKD.out.1 q).2.1; rw [hbl] at this; cases this))
              clear hbl
              go_wp2_with (first | (go_at_call 134; refine HBL.out.mono ?_; rintro x w2 ⟨rfl, rfl⟩) | fail)
              go_roundw
              case rel => exact ⟨K + 1, n, from_, by go_num, rfl, rfl, HNX.out, HX.out⟩
              case measure => simp [intOf]; omega
            | false =>
              rw [hbl] at HBL
              have HK3 : Hid (bKind l[K] = 3 ↔ (y < 33 ∨ 126 < y)) := Lib.hid (by
                rw [HKD.out]
                have h1 := HNL10.out
                constructor
                · rintro ⟨-, -, q⟩; omega
                · intro q; exact ⟨h1, hbl, by omega⟩)
              clear hbl HKD
              by_cases h33 : y < 33
              · have HB := Lib.hid (HBAD.out (HK3.out.2 (Or.inl h33)))
--BAD
                have hP := HBP.out.ext HX.out
                have cP0 := hP.cell 0
                have cP1 := hP.cell 1
                have fP0 := hP.free 0
                have fP1 := hP.free 1
                have lP := hP.lt
                have HP := Lib.hid hP
                have hlen := HFR.out
                have HB2 := Lib.hid (show splitE l = 20 ∧ splitAt' l = ((n : Int), (K : Int) - (from_ : Int) + 1) ∧ splitL l = [] from by
                  have h := HB.out
                  rw [← HN.out] at h
                  rw [show (K : Int) - (from_ : Int) + 1 = (((rfTo (l.take K)).ln.length + 1 : Nat) : Int) by omega]
                  exact h)
                clear hP
                go_wp2_with (first | (go_at_call 134; refine HBL.out.mono ?_; rintro x w2 ⟨rfl, rfl⟩) | fail)
                have hS := (HP.out.set 0 (.int .i64 (n : Int))).set 1 (.int .i64 ((K : Int) - (from_ : Int) + 1))
                exact ret_ttc (v := .slice none 0 0) (u := .int .i64 20) Tryz.results86 rfl rfl rfl hS Tryz.underlying44 rfl (by kernel_rfl) (SplitR.of HB2.out (lines_nil _) (((HX0.out.trans HX.out).setCell (p := ⟨w.heap.size, 0, none⟩) (Nat.le_refl _) _).setCell (p := ⟨w.heap.size, 1, none⟩) (Nat.le_refl _) _))
--ENDBAD
              · by_cases h126 : 126 < y
                · have HB := Lib.hid (HBAD.out (HK3.out.2 (Or.inr h126)))
--BAD
                  have hP := HBP.out.ext HX.out
                  have cP0 := hP.cell 0
                  have cP1 := hP.cell 1
                  have fP0 := hP.free 0
                  have fP1 := hP.free 1
                  have lP := hP.lt
                  have HP := Lib.hid hP
                  have hlen := HFR.out
                  have HB2 := Lib.hid (show splitE l = 20 ∧ splitAt' l = ((n : Int), (K : Int) - (from_ : Int) + 1) ∧ splitL l = [] from by
                    have h := HB.out
                    rw [← HN.out] at h
                    rw [show (K : Int) - (from_ : Int) + 1 = (((rfTo (l.take K)).ln.length + 1 : Nat) : Int) by omega]
                    exact h)
                  clear hP
                  go_wp2_with (first | (go_at_call 134; refine HBL.out.mono ?_; rintro x w2 ⟨rfl, rfl⟩) | fail)
                  have hS := (HP.out.set 0 (.int .i64 (n : Int))).set 1 (.int .i64 ((K : Int) - (from_ : Int) + 1))
                  exact ret_ttc (v := .slice none 0 0) (u := .int .i64 20) Tryz.results86 rfl rfl rfl hS Tryz.underlying44 rfl (by kernel_rfl) (SplitR.of HB2.out (lines_nil _) (((HX0.out.trans HX.out).setCell (p := ⟨w.heap.size, 0, none⟩) (Nat.le_refl _) _).setCell (p := ⟨w.heap.size, 1, none⟩) (Nat.le_refl _) _))
--ENDBAD
                · have HNX := Lib.hid (HNEXT.out (fun q => by have := HK3.out.1 q; omega))
                  go_wp2_with (first | (go_at_call 134; refine HBL.out.mono ?_; rintro x w2 ⟨rfl, rfl⟩) | fail)
                  go_roundw
                  case rel => exact ⟨K + 1, n, from_, by go_num, rfl, rfl, HNX.out, HX.out⟩
                  case measure => simp [intOf]; omega
        · have hkl : K = l.length := by omega
          have hlt2 : ¬ (K : Int) < (l.length : Int) := by omega
          have HKL := Lib.hid hkl
          clear hkl
--WAYB
          obtain ⟨sv, hsl, ⟨sa, rfl⟩, hsb⟩ := slice_part a l.length c from_ K hfk hK hlc
          have hsvb := hsb wr l (HT.out.ext HX.out)
          rw [← HLNE.out] at hsvb
          have hll : (rfTo (l.take K)).ln.length ≤ 1048576 := by have := HFR.out; omega
          have HLN := Lib.hid (ref10_line _ (rfTo (l.take K)).ln n wr hsvb (cap_le2 (by omega)) hll)
          have HLAY : Hid (∀ row, refLine (rfTo (l.take K)).ln n = row → ∀ ov W, OutAt w0.heap.size W ov (addL row (rfTo (l.take K)).out) → RfAt l w0.heap.size (K + 1) (n + 1) (K + 1) ov W) := Lib.hid (by
            intro row hrow
            intro ov W h
            have e : l.take K = l := List.take_of_length_le (by have := HKL.out; omega)
            have hf := HFAIR.out
            have hn := HN.out
            rw [e] at hf hn hrow h
            refine Or.inr ⟨by rw [HKL.out], hf, by omega, by omega, ?_⟩
            show OutAt _ _ _ (addL (refLine (rfTo l).ln (rfTo l).n) (rfTo l).out)
            rw [← hn, hrow]
            exact h)
          obtain ⟨row, hrow⟩ : ∃ row, refLine (rfTo (l.take K)).ln n = row := ⟨_, rfl⟩
          rw [hrow] at HLN
          have HLY := Lib.hid (HLAY.out row hrow)
          have hk1 : IntKind.i64.wrap ((K : Int) + 1) = ((K + 1 : Nat) : Int) := by simp [IntKind.wrap, IntKind.signed, IntKind.bits]; omega
          have hn1' : IntKind.i64.wrap ((n : Int) + 1) = ((n + 1 : Nat) : Int) := by simp [IntKind.wrap, IntKind.signed, IntKind.bits]; omega
          clear hsvb hsb hrow HLAY
          cases row with
          | nil =>
            go_wp2_with (first | (go_at_call 135; refine HLN.out.mono ?_; rintro x w5 ⟨lv, rfl, hlv, hx5⟩; obtain ⟨la, lc, rfl⟩ := hlv.size; have HLV := Lib.hid hlv; have HX5 := Lib.hid hx5; have hsz5 := hx5.sz; clear hlv hx5) | fail)
            go_roundw
            case rel =>
              refine ⟨K + 1, n + 1, K + 1, rfl, rfl, rfl, HLY.out _ _ ?_, HX.out.trans HX5.out⟩
              exact (show OutAt w0.heap.size wr _ _ from ⟨vs, HO1.out, HO2.out, HO3.out⟩).ext HX5.out
            case measure => simp [intOf]; omega
          | cons r t =>
            have hpos : (0 : Int) < ((r :: t).length : Int) := by simp
            go_wp2_with (first
              | (go_at_call 135; refine HLN.out.mono ?_; rintro x w5 ⟨lv, rfl, hlv, hx5⟩; obtain ⟨la, lc, rfl⟩ := hlv.size; have HLV := Lib.hid hlv; have HX5 := Lib.hid hx5; have hsz5 := hx5.sz; clear hlv hx5)
              | (at_builtin; refine wpList_append_own _ rfl (.tmp 66) (.tmp 68) 96 rfl w0.heap.size 106 i0 (.slice none 0 0) 1 24 Tryz.underlying96 HI.out.1 HI.out.2.1 HI.out.2.2.1 HI.out.2.2.2 rfl (by decide) _ _ _ rfl ((own_ext HO1.out HX5.out).alloc _) ⟨w5.heap.size, 0, none⟩ 1 1 [_] rfl rfl (blk_news (C := #[_]) (Blk.new _ _ _)) (by simp [Value.oneCell']) (by omega) (by omega) (by simp; omega) ?_; rintro v' w6 hown hgrow -)
              | fail)
            have hx6 : Ext w0 w6 := Ext.grownAt ((HX.out.trans HX5.out).alloc _) ((own_ext HO1.out HX5.out).alloc _) (Nat.le_refl _) hgrow
            have hout6 := OutAt.step HO1.out HO2.out HO3.out HX5.out (row_base HLV.out hsz) hown hgrow
            clear hown hgrow
            go_wp2
            go_roundw
            case rel => exact ⟨K + 1, n + 1, K + 1, rfl, rfl, rfl, HLY.out _ _ hout6, hx6⟩
            case measure => simp [intOf]; omega
--ENDB
      · subst hK
        have HS := Lib.hid (split_ref hbig hfair)
        have HOL := Lib.hid (hout.extB (((ExtB.refl w.heap.size wr).setCell 0 (.int .i64 0)).setCell 1 (.int .i64 0)) HBP.out.lt).lines
        have hP := HBP.out.ext hx
        have cP0 := hP.cell 0
        have cP1 := hP.cell 1
        have fP0 := hP.free 0
        have fP1 := hP.free 1
        have lP := hP.lt
        have HP := Lib.hid hP
        clear hout hx hP
        have hno : ¬ ((l.length : Int) + 1 ≤ (l.length : Int)) := by omega
        go_wp2_with fail
        have hS := (HP.out.set 0 (.int .i64 0)).set 1 (.int .i64 0)
        exact ret_ttc (v := u5) (u := .int .i64 0) Tryz.results86 rfl rfl rfl hS Tryz.underlying44 rfl (by kernel_rfl) (SplitR.of HS.out HOL.out (((HX0.out.trans HX.out).setCell (p := ⟨w.heap.size, 0, none⟩) (Nat.le_refl _) _).setCell (p := ⟨w.heap.size, 1, none⟩) (Nat.le_refl _) _))
end Go.Proofs.YtknlojlcahgnoaaGreat
