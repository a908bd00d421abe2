/- Walks: keep.parted, keep.both, given the contract of keep.judge.stays. -/
import Derived.Maps.AppendAt
import Derived.Test.YtfglpejbgfmojaaGreatG39
import Derived.Test.YtfglpejbgfmojaaGreatG34
import Derived.Test.YtfglpejbgfmojaaGreatG40

/- Walks: keep.parted, keep.both, given the contract of keep.judge.stays. -/
namespace Go.Proofs.YtfglpejbgfmojaaGreat
open Go.RowKit
set_option linter.unusedVariables false
set_option linter.unusedSimpArgs false

/-- the contract of stays -/
def StaysLaw : Prop := ∀ (lo root : Nat) (many clock : Int) (ns : NSet) (rs : List Rl) (s : Slot) (w : World), TreeAt w lo root many ns → HoldsR ns rs → (∀ r ∈ rs, RlOk r) → SlotOk s → rightKind s.sk = true → 0 ≤ clock → clock < 18446744073709551616 →
    Calls Tryz.prog 83 #[.agg #[.pointer (some ⟨root, 0, none⟩), .int .u64 clock], s.val] w fun x w' => x = .returned (staysV clock rs s) ∧ Ext w w'
theorem staysR_some {rs : List Rl} {s : Slot} {r : Rl} (h : staysR rs s = some r) : bestR rs s.key.data.toList = some r ∧ r.e = s.e ∧ r.b = s.b ∧ r.err = 0 := by
  unfold staysR at h
  cases hb : bestR rs s.key.data.toList with
  | none => rw [hb] at h; cases h
  | some q =>
    rw [hb] at h
    simp only at h
    split at h
    · rename_i hc; cases h; exact ⟨rfl, hc⟩
    · cases h
theorem staysR_mem {rs : List Rl} {s : Slot} {r : Rl} (h : staysR rs s = some r) : r ∈ rs := (firstAt_mem ((bestR_char _ rs).2 r (staysR_some h).1).first).1

/-- those that stay -/
def keptL (clock : Int) (rs : List Rl) (l : List Slot) : List Slot := l.filterMap fun s => (staysR rs s).map fun r => keptS clock r s
/-- those that do not -/
def goneL (rs : List Rl) (l : List Slot) : List Slot := l.filter fun s => (staysR rs s).isNone
theorem keptL_snoc_yes {clock : Int} {rs : List Rl} {l : List Slot} {s : Slot} {r : Rl} (h : staysR rs s = some r) : keptL clock rs (l ++ [s]) = keptL clock rs l ++ [keptS clock r s] ∧ goneL rs (l ++ [s]) = goneL rs l := by
  unfold keptL goneL
  rw [List.filterMap_append, List.filter_append]
  simp [h]
theorem keptL_snoc_no {clock : Int} {rs : List Rl} {l : List Slot} {s : Slot} (h : staysR rs s = none) : keptL clock rs (l ++ [s]) = keptL clock rs l ∧ goneL rs (l ++ [s]) = goneL rs l ++ [s] := by
  unfold keptL goneL
  rw [List.filterMap_append, List.filter_append]
  simp [h]
theorem keptL_len (clock : Int) (rs : List Rl) (l : List Slot) : (keptL clock rs l).length ≤ l.length := List.length_filterMap_le _ _
theorem goneL_len (rs : List Rl) (l : List Slot) : (goneL rs l).length ≤ l.length := List.length_filter_le _ _

/-- an own row, while another block is written -/
theorem own_apart {w w' : World} {base k n : Nat} {E : TypeId} {v : Value} {xs : List Value} {row : Option Nat} (h : w.ownsRow base E k v n xs) (g : w.grownBy w' row) (ne : ∀ b, v.ownBlock = some b → row ≠ some b) : w'.ownsRow base E k v n xs := by
  obtain ⟨h0, h | ⟨b, cap, cur, h1, h2, h3, h4, h5, h6, h7⟩⟩ := h
  · exact ⟨h0, Or.inl h⟩
  · refine ⟨h0, Or.inr ⟨b, cap, cur, h1, h2, ?_, h4, h5, h6, h7⟩⟩
    refine (g.block b (lt_of_block h3) (fun e => ne b (by rw [h1]; rfl) e.symm)).trans h3
/-- two rows in blocks of their own -/
def Apart (v u : Value) : Prop := ∀ b, v.ownBlock = some b → u.ownBlock ≠ some b
theorem Apart.symm {v u : Value} (h : Apart v u) : Apart u v := fun b hb e => h b e hb
theorem own_block_lt {w : World} {base k n : Nat} {E : TypeId} {v : Value} {xs : List Value} (h : w.ownsRow base E k v n xs) {b : Nat} (hb : v.ownBlock = some b) : b < w.heap.size := by
  obtain ⟨h0, ⟨h, -⟩ | ⟨g, cap, cur, h1, h2, h3, h4, h5, h6, h7⟩⟩ := h
  · rw [h] at hb; cases hb
  · rw [h1] at hb
    have : g = b := Option.some.inj hb
    subst this
    exact lt_of_block h3
theorem Apart.grown {w : World} {base k n H : Nat} {E : TypeId} {v v' u : Value} {xs : List Value} (h : Apart v u) (hu : w.ownsRow base E k u n xs) (hat : v'.ownBlock = v.ownBlock ∨ v'.ownBlock = some H) (hH : w.heap.size ≤ H) : Apart v' u := by
  intro b hb e
  rcases hat with q | q
  · exact h b (q ▸ hb) e
  · rw [q] at hb
    cases hb
    have := own_block_lt hu e
    omega

/-- where parted's loop stands -/
def PartAt (w : World) (clock : Int) (rs : List Rl) (l : List Slot) (k : Nat) (yes no : Value) (wr : World) : Prop :=
  SlotRow w.heap.size wr yes (keptL clock rs (l.take k)) ∧ SlotRow w.heap.size wr no (goneL rs (l.take k)) ∧ Apart yes no ∧ Ext w wr
/-- what parted tells -/
def PartEnd (w : World) (clock : Int) (rs : List Rl) (l : List Slot) (x : Ending) (w' : World) : Prop :=
  ∃ yes no, x = .returned (.tuple #[yes, no]) ∧ SlotRow w.heap.size w' yes (keptL clock rs l) ∧ SlotRow w.heap.size w' no (goneL rs l) ∧ Ext w w'

set_option maxHeartbeats 4000000 in
set_option maxRecDepth 100000 in
theorem keep_parted (hst : StaysLaw) (lo root : Nat) (many clock : Int) (ns : NSet) (rs : List Rl) (v : Value) (l : List Slot) (w : World) (hT : TreeAt w lo root many ns) (hh : HoldsR ns rs) (hok : ∀ r ∈ rs, RlOk r) (hv : SlotsAt w v l) (hs : ∀ s ∈ l, SlotOk s ∧ rightKind s.sk = true) (hn0 : 0 ≤ clock) (hn1 : clock < 18446744073709551616) (hlen : l.length ≤ 1000000) :
    Calls Tryz.prog 81 #[v, .func (.func 83) #[.agg #[.pointer (some ⟨root, 0, none⟩), .int .u64 clock]] #[]] w (PartEnd w clock rs l) := by
  obtain ⟨a, cp, rfl⟩ := hv.size
  have HV := Lib.hid hv
  have HS := Lib.hid hs
  obtain ⟨i0, hi, hz0, hz1, hz2⟩ := info_parts slot_info
  have HI := Lib.hid (And.intro hi (And.intro hz0 (And.intro hz1 hz2)))
  have hml : (1000000 : Nat) + 1 ≤ maxLen := by decide
  have HST := Lib.hid (fun (s : Slot) (W : World) (hx : Ext w W) (h1 : SlotOk s) (h2 : rightKind s.sk = true) => hst lo root many clock ns rs s W (hT.ext hx) hh hok h1 h2 hn0 hn1)
  clear hv hs hi hz0 hz1 hz2 hst hT hh hok
  go_enter Tryz.func81, Tryz.ntmps81
  go_wp2
  go_loopw [4, 5, 12] (fun yes no i wr => ∃ (k : Nat), k ≤ l.length ∧ i = .int .i64 k ∧ PartAt w clock rs l k yes no wr) (fun _ _ i _ => l.length - (intOf i).toNat)
  case atStart => exact ⟨0, by omega, rfl, RowOf.empty _ _ _ _ _, RowOf.empty _ _ _ _ _, fun b hb => (by cases hb), Ext.refl _⟩
  case round =>
    obtain ⟨k, hk, rfl, hyes, hno, hap, hx⟩ := hrel
    have HYES := Lib.hid hyes
    have HNO := Lib.hid hno
    have HAP := Lib.hid hap
    have HX := Lib.hid hx
    have hsz := Ext.sz hx
    clear hyes hno hap
    by_cases hlt : k < l.length
    · obtain ⟨b, oo, rfl, hbl, e0, e1, e2, e3, e4, e5, e6, e7⟩ := (HV.out.ext hx).cells k hlt
      have hso := HS.out l[k] (List.getElem_mem _)
      have htk := List.take_succ_eq_append_getElem hlt
      have hyl := keptL_len clock rs (l.take k)
      have hnl := goneL_len rs (l.take k)
      rw [List.length_take] at hyl hnl
      have HYL := Lib.hid (Nat.le_trans hyl (Nat.min_le_left _ _))
      have HNL := Lib.hid (Nat.le_trans hnl (Nat.min_le_left _ _))
      have HSO := Lib.hid hso
      have HTK := Lib.hid htk
      clear hyl hnl hso htk hx
      obtain ⟨s, hsl⟩ : ∃ s, l[k] = s := ⟨_, rfl⟩
      rw [hsl] at e0 e1 e2 e3 e4 e5 e6 e7 HSO HTK
      clear hsl
      have HCL := Lib.hid (fun W (hx : Ext w W) => HST.out s W hx HSO.out.1 HSO.out.2)
      cases hsr : staysR rs s with
      | none =>
        have hsv := staysV_none (clock := clock) hsr
        have HSV := Lib.hid hsv
        have HKN := Lib.hid (keptL_snoc_no (clock := clock) (l := l.take k) hsr)
        rw [hsv] at HCL
        clear hsv hsr HSV
        obtain ⟨s1, s2, s3, s4, s5, s6, s7, s8⟩ := s
        simp only [Slot.val, Slot.cells] at e0 e1 e2 e3 e4 e5 e6 e7 HCL
        have bz := Blk.new wr #[.string s1, .string s2, .int .u64 s3, .int .u64 s4, .int .u8 s5, .int .u8 s6, .int .u64 s7, .int .u64 s8] 65
        have hxa : Ext wr (wr.alloc (.cells #[.string s1, .string s2, .int .u64 s3, .int .u64 s4, .int .u8 s5, .int .u8 s6, .int .u64 s7, .int .u64 s8] 65)) := (Ext.refl wr).alloc _
        go_upto_region 4 with fail
        generalize wr.alloc (.cells #[.string s1, .string s2, .int .u64 s3, .int .u64 s4, .int .u8 s5, .int .u8 s6, .int .u64 s7, .int .u64 s8] 65) = wa at *
        have qc := bz.cell
        have BZ := Lib.hid bz
        have HXA := Lib.hid (HX.out.trans hxa)
        have HXB := Lib.hid hxa
        have hwa := Ext.sz hxa
        clear bz hxa e0 e1 e2 e3 e4 e5 e6 e7
        go_wp2_with fail
        refine (HCL.out _ HXA.out).mono ?_
        rintro x w1 ⟨rfl, hx1⟩
        have bz1 := (BZ.out.ext hx1).alloc (.cells #[.string s1, .string s2, .int .u64 s3, .int .u64 s4, .int .u8 s5, .int .u8 s6, .int .u64 s7, .int .u64 s8] 65)
        have hxw : Ext wr (w1.alloc (.cells #[.string s1, .string s2, .int .u64 s3, .int .u64 s4, .int .u8 s5, .int .u8 s6, .int .u64 s7, .int .u64 s8] 65)) := (HXB.out.trans hx1).alloc _
        have HXW := Lib.hid hxw
        have hw1 := Ext.sz hx1
        have zc := bz1.cell
        have zl := bz1.lt
        clear qc bz1 hx1 HCL HXB hxw
        go_upto_region 7 with fail
        generalize w1.alloc (.cells #[.string s1, .string s2, .int .u64 s3, .int .u64 s4, .int .u8 s5, .int .u8 s6, .int .u64 s7, .int .u64 s8] 65) = w2 at *
        go_wp2_with (first
          | (at_builtin; refine wpList_append_own_at _ rfl (.tmp 27) (.tmp 29) 40 rfl w.heap.size 65 i0 slot0.val 8 80 Tryz.underlying40 HI.out.1 HI.out.2.1 HI.out.2.2.1 HI.out.2.2.2 rfl (by decide) _ _ _ rfl ((own_ext HNO.out.own HXW.out).alloc _) ⟨w2.heap.size, 0, none⟩ 1 1 [.string s1, .string s2, .int .u64 s3, .int .u64 s4, .int .u8 s5, .int .u8 s6, .int .u64 s7, .int .u64 s8] rfl rfl (blk_news (C := #[.string s1, .string s2, .int .u64 s3, .int .u64 s4, .int .u8 s5, .int .u8 s6, .int .u64 s7, .int .u64 s8]) (Blk.new _ _ _)) (by simp [Value.oneCell']) (by have := HNL.out; omega) (by have := HNL.out; omega) (by have := Ext.sz HXW.out; simp; omega) ?_; rintro v' w3 hown hgrow - hat)
          | fail)
        have hxw2 : Ext w w3 := Ext.grownAt ((HX.out.trans HXW.out).alloc _) ((own_ext HNO.out.own HXW.out).alloc _) (Nat.le_refl _) hgrow
        have hyes3 : SlotRow w.heap.size w3 u4 (keptL clock rs (l.take (k + 1))) := by
          rw [HTK.out, HKN.out.1]
          exact ⟨own_apart ((own_ext HYES.out.own HXW.out).alloc _) hgrow (fun b hb e => HAP.out b hb e), HYES.out.nil⟩
        have hno3 : SlotRow w.heap.size w3 v' (goneL rs (l.take (k + 1))) := row_more hown (by rw [HTK.out, HKN.out.2])
        have hap3 : Apart u4 v' := Apart.symm (Apart.grown (Apart.symm HAP.out) ((own_ext HYES.out.own HXW.out).alloc _) hat (Nat.le_refl _))
        clear hown hgrow hat zc
        go_wp2
        go_roundw
        case rel => exact ⟨k + 1, by omega, by go_num, hyes3, hno3, hap3, hxw2⟩
        case measure => simp [intOf]; omega
      | some r =>
        have hsv := staysV_some (clock := clock) hsr
        have HSV := Lib.hid hsv
        have HKN := Lib.hid (keptL_snoc_yes (clock := clock) (l := l.take k) hsr)
        rw [hsv] at HCL
        clear hsv hsr HSV
        have hky : (keptS clock r s).key = s.key := rfl
        obtain ⟨y, hy⟩ : ∃ y, keptS clock r s = y := ⟨_, rfl⟩
        rw [hy] at HCL HKN hky
        clear hy
        obtain ⟨s1, s2, s3, s4, s5, s6, s7, s8⟩ := s
        obtain ⟨y1, y2, y3, y4, y5, y6, y7, y8⟩ := y
        simp only at hky
        subst hky
        simp only [Slot.val, Slot.cells] at e0 e1 e2 e3 e4 e5 e6 e7 HCL
        have bz := Blk.new wr #[.string y1, .string s2, .int .u64 s3, .int .u64 s4, .int .u8 s5, .int .u8 s6, .int .u64 s7, .int .u64 s8] 65
        have hxa : Ext wr (wr.alloc (.cells #[.string y1, .string s2, .int .u64 s3, .int .u64 s4, .int .u8 s5, .int .u8 s6, .int .u64 s7, .int .u64 s8] 65)) := (Ext.refl wr).alloc _
        go_upto_region 4 with fail
        generalize wr.alloc (.cells #[.string y1, .string s2, .int .u64 s3, .int .u64 s4, .int .u8 s5, .int .u8 s6, .int .u64 s7, .int .u64 s8] 65) = wa at *
        have qc := bz.cell
        have HXA := Lib.hid (HX.out.trans hxa)
        have HXB := Lib.hid hxa
        have hwa := Ext.sz hxa
        clear bz hxa e0 e1 e2 e3 e4 e5 e6 e7
        go_wp2_with fail
        refine (HCL.out _ HXA.out).mono ?_
        rintro x w1 ⟨rfl, hx1⟩
        have bz1 := Blk.new w1 #[.string y1, .string y2, .int .u64 y3, .int .u64 y4, .int .u8 y5, .int .u8 y6, .int .u64 y7, .int .u64 y8] 65
        have hxw : Ext wr (w1.alloc (.cells #[.string y1, .string y2, .int .u64 y3, .int .u64 y4, .int .u8 y5, .int .u8 y6, .int .u64 y7, .int .u64 y8] 65)) := (HXB.out.trans hx1).alloc _
        have HXW := Lib.hid hxw
        have hw1 := Ext.sz hx1
        clear qc hx1 HCL HXB hxw
        go_upto_region 6 with fail
        generalize w1.alloc (.cells #[.string y1, .string y2, .int .u64 y3, .int .u64 y4, .int .u8 y5, .int .u8 y6, .int .u64 y7, .int .u64 y8] 65) = w2 at *
        have zc := bz1.cell
        have zl := bz1.lt
        clear bz1
        go_wp2_with (first
          | (at_builtin; refine wpList_append_own_at _ rfl (.tmp 23) (.tmp 25) 40 rfl w.heap.size 65 i0 slot0.val 8 80 Tryz.underlying40 HI.out.1 HI.out.2.1 HI.out.2.2.1 HI.out.2.2.2 rfl (by decide) _ _ _ rfl ((own_ext HYES.out.own HXW.out).alloc _) ⟨w2.heap.size, 0, none⟩ 1 1 [.string y1, .string y2, .int .u64 y3, .int .u64 y4, .int .u8 y5, .int .u8 y6, .int .u64 y7, .int .u64 y8] rfl rfl (blk_news (C := #[.string y1, .string y2, .int .u64 y3, .int .u64 y4, .int .u8 y5, .int .u8 y6, .int .u64 y7, .int .u64 y8]) (Blk.new _ _ _)) (by simp [Value.oneCell']) (by have := HYL.out; omega) (by have := HYL.out; omega) (by have := Ext.sz HXW.out; simp; omega) ?_; rintro v' w3 hown hgrow - hat)
          | fail)
        have hxw2 : Ext w w3 := Ext.grownAt ((HX.out.trans HXW.out).alloc _) ((own_ext HYES.out.own HXW.out).alloc _) (Nat.le_refl _) hgrow
        have hno3 : SlotRow w.heap.size w3 u5 (goneL rs (l.take (k + 1))) := by
          rw [HTK.out, HKN.out.2]
          exact ⟨own_apart ((own_ext HNO.out.own HXW.out).alloc _) hgrow (fun b hb e => HAP.out b e hb), HNO.out.nil⟩
        have hyes3 : SlotRow w.heap.size w3 v' (keptL clock rs (l.take (k + 1))) := row_more hown (by rw [HTK.out, HKN.out.1])
        have hap3 : Apart v' u5 := Apart.grown HAP.out ((own_ext HNO.out.own HXW.out).alloc _) hat (Nat.le_refl _)
        clear hown hgrow hat zc
        go_wp2
        go_roundw
        case rel => exact ⟨k + 1, by omega, by go_num, hyes3, hno3, hap3, hxw2⟩
        case measure => simp [intOf]; omega
    · have hkl : k = l.length := by omega
      subst hkl
      clear hx
      go_wp2
      go_ret2
      exact ⟨_, _, rfl, by have := HYES.out; rw [List.take_length] at this; exact this, by have := HNO.out; rw [List.take_length] at this; exact this, HX.out⟩
end Go.Proofs.YtfglpejbgfmojaaGreat
