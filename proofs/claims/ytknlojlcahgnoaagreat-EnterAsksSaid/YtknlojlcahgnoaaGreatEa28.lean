/- Walks: tollerref14's lists of slots: fill, Slots, find, without. Walks: tollerref14: with, Same, Tick, New. Walks: tollerref14: Same, Tick, New, told. Walks: tollerref14.Move. What the reference's Charge tells and leaves: plain. -/
import Derived.Laws.AppendOwn
import Derived.Laws.AppendOwnNone
import Derived.RangeFuncBox
import Derived.Test.YtknlojlcahgnoaaGreatEa20
import Derived.Test.YtknlojlcahgnoaaGreatEa7
import Derived.Test.YtknlojlcahgnoaaGreatEa11
import Derived.Test.YtknlojlcahgnoaaGreatEa18
import Derived.Test.YtknlojlcahgnoaaGreatEa3
import Derived.Test.YtknlojlcahgnoaaGreatEa21
import Derived.Test.YtknlojlcahgnoaaGreatEa25

namespace Go.Proofs.YtknlojlcahgnoaaGreat
open Go.RowKit
set_option linter.unusedVariables false
set_option linter.unusedSimpArgs false

theorem slot_size (x : Slot) : x.cells.size = 8 := rfl
theorem slot_info : (Tryz.prog.info? 145).map (fun i => (i.zero, i.size, i.bytes)) = some (some slot0.val, 8, 80) := by kernel_rfl
/-- a slice of slots, in memory of its own -/
abbrev SlotRow (base : Nat) (w : World) (v : Value) (l : List Slot) : Prop := RowOf Slot.cells 8 145 base w v l
/-- a slice that reads as slots -/
def SlotsAt (w : World) (v : Value) (l : List Slot) : Prop := ∃ a c, v = .slice a l.length c ∧ (l ≠ [] → ∃ b o, a = some ⟨b, o, none⟩ ∧ ∀ j (h : j < l.length) i, i < 8 → w.cell? ⟨b, o + (j * 8 + i), none⟩ = (l[j].cells)[i]?)
theorem SlotsAt.ext {w w' : World} {v : Value} {l : List Slot} (h : SlotsAt w v l) (e : Ext w w') : SlotsAt w' v l := by
  obtain ⟨a, c, hv, hf⟩ := h
  refine ⟨a, c, hv, fun hl => ?_⟩
  obtain ⟨b, o, ha, hc⟩ := hf hl
  refine ⟨b, o, ha, fun j hj i hi => ?_⟩
  have h8 : (l[j].cells)[i]? = some ((l[j].cells)[i]'(by rw [slot_size]; exact hi)) := Array.getElem?_eq_getElem _
  rw [h8]
  exact e.keep ((hc j hj i hi).trans h8)
theorem SlotsAt.size {w : World} {v : Value} {l : List Slot} (h : SlotsAt w v l) : ∃ a c, v = .slice a l.length c := by
  obtain ⟨a, c, hv, -⟩ := h
  exact ⟨a, c, hv⟩
theorem SlotsAt.cells {w : World} {a : Option Addr} {n c : Nat} {l : List Slot} (h : SlotsAt w (.slice a n c) l) (j : Nat) (hj : j < l.length) : ∃ b o, a = some ⟨b, o, none⟩ ∧ b < w.heap.size ∧
    w.cell? ⟨b, o + j * 8, none⟩ = some (.string l[j].key) ∧ w.cell? ⟨b, o + j * 8 + 1, none⟩ = some (.string l[j].p) ∧ w.cell? ⟨b, o + j * 8 + 2, none⟩ = some (.int .u64 l[j].e) ∧ w.cell? ⟨b, o + j * 8 + 3, none⟩ = some (.int .u64 l[j].b) ∧
    w.cell? ⟨b, o + j * 8 + 4, none⟩ = some (.int .u8 l[j].rk) ∧ w.cell? ⟨b, o + j * 8 + 5, none⟩ = some (.int .u8 l[j].sk) ∧ w.cell? ⟨b, o + j * 8 + 6, none⟩ = some (.int .u64 l[j].sa) ∧ w.cell? ⟨b, o + j * 8 + 7, none⟩ = some (.int .u64 l[j].sb) := by
  obtain ⟨a', c', hv, hf⟩ := h
  cases hv
  obtain ⟨b, o, ha, hc⟩ := hf (fun q => by rw [q] at hj; simp at hj)
  have c0 : w.cell? ⟨b, o + j * 8, none⟩ = some (.string l[j].key) := hc j hj 0 (by omega)
  exact ⟨b, o, ha, cell_lt c0, c0, hc j hj 1 (by omega), hc j hj 2 (by omega), hc j hj 3 (by omega), hc j hj 4 (by omega), hc j hj 5 (by omega), hc j hj 6 (by omega), hc j hj 7 (by omega)⟩
theorem RowOf.slots {base : Nat} {w : World} {v : Value} {l : List Slot} (h : SlotRow base w v l) : SlotsAt w v l := by
  obtain ⟨a, c, hv⟩ := h.size
  refine ⟨a, c, hv, fun hl => ?_⟩
  obtain ⟨b, c', hv', -, -, -⟩ := h.cells slot_size 0 (List.length_pos_iff.2 hl)
  rw [hv] at hv'
  cases hv'
  refine ⟨b, 0, rfl, fun j hj i hi => ?_⟩
  obtain ⟨b', c', hv', -, -, hq⟩ := h.cells slot_size j hj
  rw [hv] at hv'
  cases hv'
  rw [Nat.zero_add]
  exact hq i hi

set_option maxHeartbeats 1000000 in
set_option maxRecDepth 100000 in
theorem ref14_fill (most clock : Int) (a : Option Addr) (n c : Nat) (s : Slot) (w : World) (hs : SlotOk s) (hn0 : 0 ≤ clock) (hn1 : clock < 18446744073709551616) :
    Calls Tryz.prog 121 #[.agg #[.int .i64 most, .int .u64 clock, .slice a n c], s.val] w fun x w' => x = .returned (.int .u64 (s.fill clock)) ∧ Ext w w' := by
  obtain ⟨k, sp, se, sbu, srk, sk, sa, sb⟩ := s
  obtain ⟨m1, m2, v1, v2, v3, v4, v5, v6, v7, v8, v9, v10, v11, v12⟩ := hs
  simp only at m1 m2 v1 v2 v3 v4 v5 v6 v7 v8 v9 v10 v11 v12
  have hc := ruleCap_u sp se sbu srk v1 v3
  have hE : Slot.fill ⟨k, sp, se, sbu, srk, sk, sa, sb⟩ clock = kFill sk sa sb clock (ruleCap sp se sbu srk) := rfl
  rw [hE]
  have hcp := fun W : World => ref11_Cap sp se sbu srk W m2 v1 v2 v3 v4
  generalize hcap : ruleCap sp se sbu srk = cap at *
  have HC := Lib.hid hcp
  obtain ⟨hc0, hc1⟩ := hc
  have HU := Lib.hid (fun W : World => ref07_Fill sk sa sb clock cap W v9 v10 v11 v12 hn0 hn1 hc0 (by omega))
  generalize kFill sk sa sb clock cap = U at *
  clear hcap hE hcp
  simp only [Slot.val, Slot.cells]
  have bt := (Blk.new w #[.int .i64 most, .int .u64 clock, .slice a n c] 120).alloc (.cells #[.string k, .string sp, .int .u64 se, .int .u64 sbu, .int .u8 srk, .int .u8 sk, .int .u64 sa, .int .u64 sb] 145)
  have bq := Blk.new' (w.alloc (.cells #[.int .i64 most, .int .u64 clock, .slice a n c] 120)) #[.string k, .string sp, .int .u64 se, .int .u64 sbu, .int .u8 srk, .int .u8 sk, .int .u64 sa, .int .u64 sb] 145 (b := w.heap.size + 1) (by simp)
  have hx0 : Ext w ((w.alloc (.cells #[.int .i64 most, .int .u64 clock, .slice a n c] 120)).alloc (.cells #[.string k, .string sp, .int .u64 se, .int .u64 sbu, .int .u8 srk, .int .u8 sk, .int .u64 sa, .int .u64 sb] 145)) := ((Ext.refl w).alloc _).alloc _
  go_enter Tryz.func121, Tryz.ntmps121
  go_upto_region 1 with fail
  generalize (w.alloc (.cells #[.int .i64 most, .int .u64 clock, .slice a n c] 120)).alloc (.cells #[.string k, .string sp, .int .u64 se, .int .u64 sbu, .int .u8 srk, .int .u8 sk, .int .u64 sa, .int .u64 sb] 145) = w0 at *
  have q1 : ∀ s, (grown w0 s).cell? ⟨w.heap.size + 1, 1, none⟩ = some (.string sp) := grown_cell (bq.cell 1)
  have q2 : ∀ s, (grown w0 s).cell? ⟨w.heap.size + 1, 2, none⟩ = some (.int .u64 se) := grown_cell (bq.cell 2)
  have q3 : ∀ s, (grown w0 s).cell? ⟨w.heap.size + 1, 3, none⟩ = some (.int .u64 sbu) := grown_cell (bq.cell 3)
  have q4 : ∀ s, (grown w0 s).cell? ⟨w.heap.size + 1, 4, none⟩ = some (.int .u8 srk) := grown_cell (bq.cell 4)
  have q5 : ∀ s, (grown w0 s).cell? ⟨w.heap.size + 1, 5, none⟩ = some (.int .u8 sk) := grown_cell (bq.cell 5)
  have q6 : ∀ s, (grown w0 s).cell? ⟨w.heap.size + 1, 6, none⟩ = some (.int .u64 sa) := grown_cell (bq.cell 6)
  have q7 : ∀ s, (grown w0 s).cell? ⟨w.heap.size + 1, 7, none⟩ = some (.int .u64 sb) := grown_cell (bq.cell 7)
  have g1 : ∀ s, (grown w0 s).cell? ⟨w.heap.size, 1, none⟩ = some (.int .u64 clock) := grown_cell (bt.cell 1)
  clear bt bq
  refine wp_region_grow (by kernel_rfl) (by kernel_rfl) ?_
  repeat (go_big_quiet_step (first
    | (go_at_call 115; exact grow_call (HC.out _))
    | (go_at_call 166; exact grow_call (HU.out _))))
  refine wpQuiet_nil ?_
  rintro _ ⟨sg, rfl⟩
  have hxg := hx0.trans (grown_ext w0 sg)
  go_wp2
  go_ret
  exact ⟨rfl, hxg⟩

theorem row_more {base : Nat} {w : World} {v : Value} {l l' : List Slot} {s : Slot} (h : w.ownsRow base 145 8 v (l.length + 1) (flatE Slot.cells l ++ s.cells.toList)) (e : l' = l ++ [s]) : SlotRow base w v l' := by
  subst e
  refine RowOf.mk' h (by simp) (flatE_snoc _ _ _).symm ?_
  obtain ⟨g, cap, rfl⟩ := ownsRow_succ h
  simp
/-- those that are active -/
def rSlots (clock : Int) (l : List Slot) : List Slot := l.filter fun s => decide (0 < s.fill clock)
set_option maxHeartbeats 4000000 in
set_option maxRecDepth 100000 in
theorem ref14_Slots (most clock : Int) (v : Value) (l : List Slot) (w : World) (hv : SlotsAt w v l) (hs : ∀ s ∈ l, SlotOk s) (hn0 : 0 ≤ clock) (hn1 : clock < 18446744073709551616) (hlen : l.length ≤ 1000000) :
    Calls Tryz.prog 61 #[.agg #[.int .i64 most, .int .u64 clock, v]] w fun x w' => ∃ v', x = .returned v' ∧ SlotRow w.heap.size w' v' (rSlots clock l) ∧ Ext w w' := by
  obtain ⟨a, cp, rfl⟩ := hv.size
  have HV := Lib.hid hv
  have HS := Lib.hid hs
  obtain ⟨i0, hi, hz0, hz1, hz2⟩ := info_parts slot_info
  have HI := Lib.hid (And.intro hi (And.intro hz0 (And.intro hz1 hz2)))
  have hml : (1000000 : Nat) + 1 ≤ maxLen := by decide
  have hx0 : Ext w (w.alloc (.cells #[.int .i64 most, .int .u64 clock, .slice a l.length cp] 120)) := (Ext.refl w).alloc _
  have bt := Blk.new w #[.int .i64 most, .int .u64 clock, .slice a l.length cp] 120
  have hw0 : w.heap.size < (w.alloc (.cells #[.int .i64 most, .int .u64 clock, .slice a l.length cp] 120)).heap.size := by simp
  clear hv hs hi hz0 hz1 hz2
  go_enter Tryz.func61, Tryz.ntmps61
  go_upto_region 1 with fail
  generalize w.alloc (.cells #[.int .i64 most, .int .u64 clock, .slice a l.length cp] 120) = w0 at *
  have HT := Lib.hid bt
  have HX0 := Lib.hid hx0
  clear bt hx0
  go_wp2
  go_loopw [3, 4] (fun o i wr => ∃ (k : Nat), k ≤ l.length ∧ i = .int .i64 k ∧ SlotRow w0.heap.size wr o (rSlots clock (l.take k)) ∧ Ext w0 wr) (fun _ i _ => l.length - (intOf i).toNat)
  case atStart => exact ⟨0, by omega, rfl, RowOf.empty _ _ _ _ _, Ext.refl _⟩
  case round =>
    obtain ⟨k, hk, rfl, hrow, hx⟩ := hrel
    have bt := HT.out.ext hx
    have g0 : wr.cell? ⟨w.heap.size, 0, none⟩ = some (.int .i64 most) := bt.cell 0
    have g1 : wr.cell? ⟨w.heap.size, 1, none⟩ = some (.int .u64 clock) := bt.cell 1
    have g2 : wr.cell? ⟨w.heap.size, 2, none⟩ = some (.slice a l.length cp) := bt.cell 2
    clear bt
    by_cases hlt : k < l.length
    · obtain ⟨b, oo, rfl, hbl, e0, e1, e2, e3, e4, e5, e6, e7⟩ := (HV.out.ext (HX0.out.trans hx)).cells k hlt
      have hso := HS.out l[k] (List.getElem_mem _)
      have htk : rSlots clock (l.take (k + 1)) = rSlots clock (l.take k) ++ (if 0 < l[k].fill clock then [l[k]] else []) := by
        unfold rSlots
        rw [List.take_succ_eq_append_getElem hlt, List.filter_append]
        congr 1
        by_cases q : 0 < l[k].fill clock <;> simp [q]
      have htl : (rSlots clock (l.take k)).length ≤ k := Nat.le_trans (List.length_filter_le _ _) (by simp; omega)
      have HE := Lib.hid (fun W => ref14_fill most clock (some ⟨b, oo, none⟩) l.length cp l[k] W hso hn0 hn1)
      have hF := kFill_u l[k].sk l[k].sa l[k].sb clock l[k].cap hso.sa0 hso.sa1 hso.sb0 hn0 hn1 (ruleCap_u _ _ _ _ hso.e0 hso.b0).1 (by have := (ruleCap_u l[k].p l[k].e l[k].b l[k].rk hso.e0 hso.b0).2; unfold Slot.cap; omega)
      have hF' : 0 ≤ l[k].fill clock ∧ l[k].fill clock < 18446744073709551616 := hF
      have HROW := Lib.hid hrow
      have HTL := Lib.hid htl
      clear hrow htl hso hF
      generalize hfl : l[k].fill clock = fl at *
      obtain ⟨hf0, hf1⟩ := hF'
      generalize l[k] = s at *
      obtain ⟨s1, s2, s3, s4, s5, s6, s7, s8⟩ := s
      simp only [Slot.val, Slot.cells] at e0 e1 e2 e3 e4 e5 e6 e7 HE
      generalize hoo : oo + k * 8 = ob at *
      have p0 : ∀ s, (grown wr s).cell? ⟨w.heap.size, 0, none⟩ = some (.int .i64 most) := grown_cell g0
      have p1 : ∀ s, (grown wr s).cell? ⟨w.heap.size, 1, none⟩ = some (.int .u64 clock) := grown_cell g1
      have p2 : ∀ s, (grown wr s).cell? ⟨w.heap.size, 2, none⟩ = some (.slice (some ⟨b, oo, none⟩) l.length cp) := grown_cell g2
      have q0 : ∀ s, (grown wr s).cell? ⟨b, ob, none⟩ = some (.string s1) := grown_cell e0
      have q1 : ∀ s, (grown wr s).cell? ⟨b, ob + 1, none⟩ = some (.string s2) := grown_cell e1
      have q2 : ∀ s, (grown wr s).cell? ⟨b, ob + 2, none⟩ = some (.int .u64 s3) := grown_cell e2
      have q3 : ∀ s, (grown wr s).cell? ⟨b, ob + 3, none⟩ = some (.int .u64 s4) := grown_cell e3
      have q4 : ∀ s, (grown wr s).cell? ⟨b, ob + 4, none⟩ = some (.int .u8 s5) := grown_cell e4
      have q5 : ∀ s, (grown wr s).cell? ⟨b, ob + 5, none⟩ = some (.int .u8 s6) := grown_cell e5
      have q6 : ∀ s, (grown wr s).cell? ⟨b, ob + 6, none⟩ = some (.int .u64 s7) := grown_cell e6
      have q7 : ∀ s, (grown wr s).cell? ⟨b, ob + 7, none⟩ = some (.int .u64 s8) := grown_cell e7
      go_upto_region 5 with fail
      refine wp_region_grow (by kernel_rfl) (by kernel_rfl) ?_
      repeat (go_big_quiet_step (first
        | (go_at_call 121; exact grow_call (HE.out _))))
      refine wpQuiet_nil ?_
      rintro _ ⟨sg, rfl⟩
      have hxg := grown_ext wr sg
      generalize grown wr sg = w1 at *
      clear p0 p1 p2 q0 q1 q2 q3 q4 q5 q6 q7 HE
      by_cases hpos : 0 < fl
      · have f2 := hxg.keep g2
        have h0 := hxg.keep e0
        have h1 := hxg.keep e1
        have h2 := hxg.keep e2
        have h3 := hxg.keep e3
        have h4 := hxg.keep e4
        have h5 := hxg.keep e5
        have h6 := hxg.keep e6
        have h7 := hxg.keep e7
        clear g0 g1 g2 e0 e1 e2 e3 e4 e5 e6 e7
        rw [if_pos hpos] at htk
        have HTK := Lib.hid htk
        clear htk
        go_wp2_with (first
          | (at_builtin; refine wpList_append_own _ rfl (.tmp 20) (.tmp 26) 118 rfl w0.heap.size 145 i0 slot0.val 8 80 Tryz.underlying118 HI.out.1 HI.out.2.1 HI.out.2.2.1 HI.out.2.2.2 rfl (by decide) _ _ _ rfl ((own_ext HROW.out.own hxg).alloc _) ⟨w1.heap.size, 0, none⟩ 1 1 [.string s1, .string s2, .int .u64 s3, .int .u64 s4, .int .u8 s5, .int .u8 s6, .int .u64 s7, .int .u64 s8] rfl rfl (blk_news (C := #[.string s1, .string s2, .int .u64 s3, .int .u64 s4, .int .u8 s5, .int .u8 s6, .int .u64 s7, .int .u64 s8]) (Blk.new _ _ _)) (by simp [Value.oneCell']) (by have := HTL.out; omega) (by have := HTL.out; omega) (by have := hx.sz; have := hxg.sz; simp; omega) ?_; rintro v' w3 hown hgrow -)
          | fail)
        have hx3 : Ext w0 w3 := Ext.grownAt ((hx.trans hxg).alloc _) ((own_ext HROW.out.own hxg).alloc _) (Nat.le_refl _) hgrow
        have hrow3 : SlotRow w0.heap.size w3 v' (rSlots clock (l.take (k + 1))) := row_more hown HTK.out
        go_roundw
        case rel => exact ⟨k + 1, by omega, by go_num, hrow3, hx3⟩
        case measure => simp [intOf]; omega
      · rw [if_neg hpos, List.append_nil] at htk
        have HTK := Lib.hid htk
        clear htk
        go_wp2
        go_roundw
        case rel => exact ⟨k + 1, by omega, by go_num, by rw [HTK.out]; exact HROW.out.ext hxg, hx.trans hxg⟩
        case measure => simp [intOf]; omega
    · rw [List.take_of_length_le (by omega)] at hrow
      have HROW := Lib.hid hrow
      clear hrow
      go_wp2
      go_ret
      exact ⟨_, rfl, HROW.out.low (by omega), HX0.out.trans hx⟩
/-- those of other keys -/
def rWithout (l : List Slot) (k : ByteArray) : List Slot := l.filter fun s => decide (s.key ≠ k)
end Go.Proofs.YtknlojlcahgnoaaGreat

namespace Go.Proofs.YtknlojlcahgnoaaGreat
open Go.RowKit
set_option linter.unusedVariables false
set_option linter.unusedSimpArgs false

/-- where a key would stand -/
def rAt (x : List Slot) (k : ByteArray) : Nat := (x.takeWhile fun y => keyLt y.key k).length
/-- a slot, in its place -/
def rWith (l : List Slot) (s : Slot) : List Slot := (rWithout l s.key).take (rAt (rWithout l s.key) s.key) ++ s :: (rWithout l s.key).drop (rAt (rWithout l s.key) s.key)
theorem RowOf.cap {α : Type} {enc : α → Array Value} {k : Nat} {E : TypeId} {base : Nat} {w : World} {a : Option Addr} {n c : Nat} {l : List α} (h : RowOf enc k E base w (.slice a n c) l) : l.length ≤ c := by
  obtain ⟨⟨-, ⟨hv, h0⟩ | ⟨g, cap, cur, h1, h2, h3, h4, -⟩⟩, -⟩ := h
  · cases hv; omega
  · cases h1; exact h4
end Go.Proofs.YtknlojlcahgnoaaGreat

namespace Go.Proofs.YtknlojlcahgnoaaGreat
open Go.RowKit
set_option linter.unusedVariables false
set_option linter.unusedSimpArgs false

theorem ref14_New (m : Int) (w : World) (hm0 : -9223372036854775808 ≤ m) (hm1 : m ≤ 9223372036854775807) :
    Calls Tryz.prog 112 #[.int .i64 m] w fun x w' => x = .returned (.agg #[.int .i64 (mostOf m), .int .u64 0, .slice none 0 0]) ∧ Ext w w' := by
  have hdef : mostOf m = max 1 (min m 1000000) := rfl
  generalize mostOf m = q at *
  have HQ := Lib.hid hdef
  clear hdef
  go_enter Tryz.func112, Tryz.ntmps112
  go_wp2
  all_goals
    refine ret_cell Tryz.results112 rfl (Blk.new w _ 120) Tryz.underlying120 rfl (by kernel_rfl) ⟨?_, (Ext.refl w).alloc _⟩
    first
      | (rw [show q = m by have := HQ.out; omega])
      | (rw [show q = 1000000 by have := HQ.out; omega])
      | (rw [show q = 1 by have := HQ.out; omega])

set_option maxHeartbeats 1000000 in
set_option maxRecDepth 100000 in
theorem ref14_Same_yes (v1 v2 : Value) (l : List Slot) (w : World) (h1 : SlotsAt w v1 l) (h2 : SlotsAt w v2 l) (hlen : l.length ≤ 1000000) :
    Calls Tryz.prog 59 #[v1, v2] w fun x w' => x = .returned (.bool true) ∧ Ext w w' := by
  obtain ⟨a1, c1, rfl⟩ := h1.size
  obtain ⟨a2, c2, rfl⟩ := h2.size
  have H1 := Lib.hid h1
  have H2 := Lib.hid h2
  clear h1 h2
  have hll : ((l.length : Int) == (l.length : Int)) = true := by simp
  go_enter Tryz.func59, Tryz.ntmps59
  go_wp2
  go_loopw [5] (fun i wr => ∃ k : Nat, k ≤ l.length ∧ i = .int .i64 k ∧ Ext w wr) (fun i _ => l.length - (intOf i).toNat)
  case atStart => exact ⟨0, by omega, rfl, Ext.refl _⟩
  case round =>
    obtain ⟨k, hk, rfl, hx⟩ := hrel
    by_cases hlt : k < l.length
    · obtain ⟨g1, o1, rfl, -, p0, p1, p2, p3, p4, p5, p6, p7⟩ := (H1.out.ext hx).cells k hlt
      obtain ⟨g2, o2, rfl, -, q0, q1, q2, q3, q4, q5, q6, q7⟩ := (H2.out.ext hx).cells k hlt
      generalize l[k] = s at *
      obtain ⟨s1, s2, s3, s4, s5, s6, s7, s8⟩ := s
      simp only at p0 p1 p2 p3 p4 p5 p6 p7 q0 q1 q2 q3 q4 q5 q6 q7
      generalize hoo1 : o1 + k * 8 = ob1 at *
      generalize hoo2 : o2 + k * 8 = ob2 at *
      go_upto_region 6 with fail
      go_quiet (fail)
      go_wp2
      go_roundw
      case rel => exact ⟨k + 1, by omega, by go_num, hx.trans (Ext.drewNs _ _)⟩
      case measure => simp [intOf]; omega
    · go_wp2
      go_ret
      exact ⟨rfl, hx⟩

end Go.Proofs.YtknlojlcahgnoaaGreat

namespace Go.Proofs.YtknlojlcahgnoaaGreat
open Go.RowKit
set_option linter.unusedVariables false
set_option linter.unusedSimpArgs false

theorem Blk.set3 {w : World} {b : Nat} {a0 a1 a2 : Value} {t : TypeId} (h : Blk w b #[a0, a1, a2] t) (v0 v1 v2 : Value) : Blk (((w.setCell ⟨b, 0, none⟩ v0).setCell ⟨b, 1, none⟩ v1).setCell ⟨b, 2, none⟩ v2) b #[v0, v1, v2] t := by
  have h0 : Blk _ b #[v0, a1, a2] t := h.set 0 v0
  have h1 : Blk _ b #[v0, v1, a2] t := h0.set 1 v1
  have h2 : Blk _ b #[v0, v1, v2] t := h1.set 2 v2
  exact h2
theorem RowOf.set1 {α : Type} {enc : α → Array Value} {k : Nat} {E : TypeId} {base b : Nat} {w : World} {v : Value} {l : List α} (h : RowOf enc k E base w v l) (hb : b < base) (o : Nat) (x : Value) : RowOf enc k E base (w.setCell ⟨b, o, none⟩ x) v l := h.extB ((ExtB.refl _ _).setCell _ _) hb
theorem fill_right {clock : Int} {s : Slot} (h : 0 < s.fill clock) : rightKind s.sk = true := by
  unfold Slot.fill kFill at h
  unfold rightKind
  by_cases q1 : s.sk = 1
  · rw [q1]; rfl
  by_cases q2 : s.sk = 2
  · rw [q2]; rfl
  by_cases q3 : s.sk = 3
  · rw [q3]; rfl
  simp [q1, q2, q3] at h
theorem cap_u {s : Slot} (h : SlotOk s) : 0 ≤ s.cap ∧ s.cap < 18446744073709551616 := by
  have := ruleCap_u s.p s.e s.b s.rk h.e0 h.b0
  show 0 ≤ ruleCap s.p s.e s.b s.rk ∧ ruleCap s.p s.e s.b s.rk < 18446744073709551616
  omega
theorem fill_u {clock : Int} {s : Slot} (h : SlotOk s) (hn0 : 0 ≤ clock) (hn1 : clock < 18446744073709551616) : 0 ≤ s.fill clock ∧ s.fill clock < 18446744073709551616 := by
  have hc := cap_u h
  exact kFill_u s.sk s.sa s.sb clock s.cap h.sa0 h.sa1 h.sb0 hn0 hn1 hc.1 hc.2
end Go.Proofs.YtknlojlcahgnoaaGreat

namespace Go.Proofs.YtknlojlcahgnoaaGreat
open Go.RowKit
set_option linter.unusedVariables false
set_option linter.unusedSimpArgs false

def rFind (xs : List Slot) (k : ByteArray) : Option Slot := xs.find? fun s => decide (s.key = k)
def rIdx (xs : List Slot) (k : ByteArray) : Int := match xs.findIdx? (fun s => decide (s.key = k)) with | some i => (i : Int) | none => -1
/-- the slot of a key, if its numbers are the rule's -/
def rHit (xs : List Slot) (k : ByteArray) (e b : Int) : Option Slot := (rFind xs k).filter fun s => s.e == e && s.b == b
/-- is there one by other numbers -/
def rOth (xs : List Slot) (k : ByteArray) (e b : Int) : Bool := (rFind xs k).isSome && !(rHit xs k e b).isSome
def rLeft (xs : List Slot) (k : ByteArray) (e b : Int) : List Slot := if rOth xs k e b then rWithout xs k else xs
theorem rIdx_cases (xs : List Slot) (k : ByteArray) : (rIdx xs k = -1 ∧ rFind xs k = none ∧ ∀ x ∈ xs, x.key ≠ k) ∨
    ∃ m, ∃ h : m < xs.length, rIdx xs k = (m : Int) ∧ rFind xs k = some xs[m] ∧ xs[m].key = k ∧ ∀ i (hi : i < m), (xs[i]'(by omega)).key ≠ k := by
  unfold rIdx rFind
  cases hf : xs.findIdx? (fun s => decide (s.key = k)) with
  | none =>
    left
    rw [List.findIdx?_eq_none_iff] at hf
    have hf' : ∀ x ∈ xs, x.key ≠ k := fun x hx => by simpa using hf x hx
    refine ⟨rfl, ?_, hf'⟩
    rw [List.find?_eq_none]
    intro x hx
    simpa using hf' x hx
  | some m =>
    right
    rw [List.findIdx?_eq_some_iff_getElem] at hf
    obtain ⟨h, h1, h2⟩ := hf
    have h1' : xs[m].key = k := by simpa using h1
    refine ⟨m, h, rfl, ?_, h1', fun i hi => by simpa using h2 i hi⟩
    rw [List.find?_eq_some_iff_getElem]
    exact ⟨by simpa using h1', m, h, rfl, fun j hj => by simpa using h2 j hj⟩
theorem rLeft_mem {xs : List Slot} {k : ByteArray} {e b : Int} {s : Slot} (h : s ∈ rLeft xs k e b) : s ∈ xs := by
  unfold rLeft at h
  split at h
  · exact (List.mem_filter.1 h).1
  · exact h
theorem rHit_mem {xs : List Slot} {k : ByteArray} {e b : Int} {s : Slot} (h : rHit xs k e b = some s) : s ∈ xs ∧ s.key = k ∧ s.e = e ∧ s.b = b := by
  unfold rHit at h
  obtain ⟨h1, h2⟩ := Option.filter_eq_some_iff.1 h
  have h3 := List.find?_some h1
  have h4 := List.mem_of_find?_eq_some h1
  simp at h2 h3
  exact ⟨h4, h3, h2.1, h2.2⟩
end Go.Proofs.YtknlojlcahgnoaaGreat
