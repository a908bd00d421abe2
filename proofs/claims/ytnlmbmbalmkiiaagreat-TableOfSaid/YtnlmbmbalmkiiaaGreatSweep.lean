/- Walks: table.sweep, maps.DeleteFunc. -/
import Derived.Test.YtnlmbmbalmkiiaaGreatTabS
import Derived.Test.YtnlmbmbalmkiiaaGreatSRange
namespace Go.Proofs.YtnlmbmbalmkiiaaGreat
open Go.RowKit
set_option linter.unusedVariables false
set_option linter.unusedSimpArgs false

theorem ExtB.keep {b : Nat} {w w' : World} (h : ExtB b w w') {a : Addr} {v : Value} (c : w.cell? a = some v) (ne : a.block ≠ b) : w'.cell? a = some v := by
  have hlt : a.block < w.heap.size := by
    unfold World.cell? at c
    rcases Nat.lt_or_ge a.block w.heap.size with h | h
    · exact h
    · rw [Array.getElem?_eq_none h] at c; cases c
  unfold World.cell? at c ⊢
  rw [h.block a.block hlt ne]; exact c

set_option maxHeartbeats 1000000 in
set_option maxRecDepth 100000 in
theorem sweep_1 (bx t : Nat) (k sp : ByteArray) (se sbu srk sk sa sb clock : Int) (w : World) (m1 : k.size ≤ maxLen) (m2 : sp.size ≤ maxLen) (u1 : 0 ≤ se) (u2 : se < 18446744073709551616) (u3 : 0 ≤ sbu) (u4 : sbu < 18446744073709551616) (u5 : 0 ≤ srk) (u6 : srk < 256) (u7 : 0 ≤ sk) (u8 : sk < 256) (u9 : 0 ≤ sa) (u10 : sa < 18446744073709551616) (u11 : 0 ≤ sb) (u12 : sb < 18446744073709551616) (hn0 : 0 ≤ clock) (hn1 : clock < 18446744073709551616)
    (hb : w.cell? ⟨bx, 0, none⟩ = some (.pointer (some ⟨t, 0, none⟩))) (ht : w.cell? ⟨t, 1, none⟩ = some (.int .u64 clock)) :
    Calls Tryz.prog 73 #[.string k, .agg #[.string k, .string sp, .int .u64 se, .int .u64 sbu, .int .u8 srk, .int .u8 sk, .int .u64 sa, .int .u64 sb], .pointer (some ⟨bx, 0, none⟩)] w fun x w' => x = .returned (.bool (Slot.fill ⟨k, sp, se, sbu, srk, sk, sa, sb⟩ clock == 0)) ∧ Ext w w' := by
  generalize hf : Slot.fill ⟨k, sp, se, sbu, srk, sk, sa, sb⟩ clock = F
  have HF := Lib.hid hf
  clear hf
  have hbl := cell_lt hb
  have htl := cell_lt ht
  go_enter Tryz.func73, Tryz.ntmps73
  go_wp2_with fail
  have hx0 : Ext w (w.alloc (.cells #[.string k, .string sp, .int .u64 se, .int .u64 sbu, .int .u8 srk, .int .u8 sk, .int .u64 sa, .int .u64 sb] 69)) := (Ext.refl w).alloc _
  have bq := Blk.new w #[.string k, .string sp, .int .u64 se, .int .u64 sbu, .int .u8 srk, .int .u8 sk, .int .u64 sa, .int .u64 sb] 69
  have hb' := hx0.keep hb
  have ht' := hx0.keep ht
  generalize w.alloc (.cells #[.string k, .string sp, .int .u64 se, .int .u64 sbu, .int .u8 srk, .int .u8 sk, .int .u64 sa, .int .u64 sb] 69) = w0 at *
  have q0 : w0.cell? ⟨w.heap.size, 0, none⟩ = some (.string k) := bq.cell 0
  have q1 : w0.cell? ⟨w.heap.size, 1, none⟩ = some (.string sp) := bq.cell 1
  have q2 : w0.cell? ⟨w.heap.size, 2, none⟩ = some (.int .u64 se) := bq.cell 2
  have q3 : w0.cell? ⟨w.heap.size, 3, none⟩ = some (.int .u64 sbu) := bq.cell 3
  have q4 : w0.cell? ⟨w.heap.size, 4, none⟩ = some (.int .u8 srk) := bq.cell 4
  have q5 : w0.cell? ⟨w.heap.size, 5, none⟩ = some (.int .u8 sk) := bq.cell 5
  have q6 : w0.cell? ⟨w.heap.size, 6, none⟩ = some (.int .u64 sa) := bq.cell 6
  have q7 : w0.cell? ⟨w.heap.size, 7, none⟩ = some (.int .u64 sb) := bq.cell 7
  go_region_held3 (fun w' => w'.cell? ⟨w.heap.size, 0, none⟩ = some (.string k) ∧ w'.cell? ⟨w.heap.size, 1, none⟩ = some (.string sp) ∧ w'.cell? ⟨w.heap.size, 2, none⟩ = some (.int .u64 se) ∧ w'.cell? ⟨w.heap.size, 3, none⟩ = some (.int .u64 sbu) ∧ w'.cell? ⟨w.heap.size, 4, none⟩ = some (.int .u8 srk) ∧ w'.cell? ⟨w.heap.size, 5, none⟩ = some (.int .u8 sk) ∧ w'.cell? ⟨w.heap.size, 6, none⟩ = some (.int .u64 sa) ∧ w'.cell? ⟨w.heap.size, 7, none⟩ = some (.int .u64 sb) ∧ w'.cell? ⟨bx, 0, none⟩ = some (.pointer (some ⟨t, 0, none⟩)) ∧ w'.cell? ⟨t, 1, none⟩ = some (.int .u64 clock) ∧ Ext w0 w')
    (((try go_split_ands); refine ⟨?_, ?_, ?_, ?_, ?_, ?_, ?_, ?_, ?_, ?_, ?_⟩ <;> first | with_reducible assumption | exact (Ext.refl _).drew | ((repeat (first | with_reducible exact Ext.refl _ | with_reducible assumption | with_reducible refine Ext.alloc ?_ _ | with_reducible refine Ext.drew ?_ | (with_reducible refine Ext.setCell ?_ (by first | exact Nat.le_refl _ | (dsimp only; omega) | (simp; done) | (simp; omega)) _) | with_reducible refine Ext.trans ?_ (by with_reducible assumption))); done) | (refine Ext.keep (w := w0) (by repeat (first | with_reducible exact Ext.refl _ | with_reducible assumption | with_reducible refine Ext.alloc ?_ _ | with_reducible refine Ext.drew ?_ | (with_reducible refine Ext.setCell ?_ (by first | exact Nat.le_refl _ | (dsimp only; omega) | (simp; done) | (simp; omega)) _) | with_reducible refine Ext.trans ?_ (by with_reducible assumption))) ?_; with_reducible assumption)))
    (first
      | (go_at_call 71; (with_reducible refine (table_fillX k sp se sbu srk sk sa sb clock _ m1 m2 u1 u2 u3 u4 u5 u6 u7 u8 u9 u10 u11 u12 hn0 hn1).mono ?_); rw [HF.out]; rintro x w1 ⟨rfl, hx⟩))
  go_wp2
  go_ret
  exact ⟨rfl, (by repeat (first | with_reducible exact Ext.refl _ | with_reducible assumption | with_reducible refine Ext.alloc ?_ _ | with_reducible refine Ext.drew ?_ | (with_reducible refine Ext.setCell ?_ (by first | exact Nat.le_refl _ | (dsimp only; omega) | (simp; done) | (simp; omega)) _) | with_reducible refine Ext.trans ?_ (by with_reducible assumption)))⟩

theorem IterAt.del {w w' : World} {r b c : Nat} {l : SMap} {seen : Array Nat} {k : ByteArray} (h : IterAt w r b l c seen) (e : ExtB b w w') (m : MapIs w' b (l.del k) c) : IterAt w' r b (l.del k) c seen := by
  have hne := h.ne
  have hlt := h.lt
  obtain ⟨_, ⟨c0, h1, h2⟩, ho, hb⟩ := h
  exact ⟨m, ⟨c0, (e.block r hlt (fun q => hne q.symm)).trans h1, h2⟩, fun x hx => ho x (List.mem_filter.1 hx).1, hb.sublist (List.filter_sublist.map _)⟩

def drained (clock : Int) (s : Slot) : Bool := s.fill clock == 0

set_option maxHeartbeats 4000000 in
set_option maxRecDepth 100000 in
theorem delete_func (bx t mb c : Nat) (clock : Int) (l : SMap) (w : World) (hm : MapIs w mb l c) (ho : ∀ x ∈ l, x.2 < c) (hbn : (l.map (·.2)).Nodup) (hk : l.keys.Nodup) (hok : ∀ x ∈ l, SlotOk x.1) (hn0 : 0 ≤ clock) (hn1 : clock < 18446744073709551616)
    (hb : w.cell? ⟨bx, 0, none⟩ = some (.pointer (some ⟨t, 0, none⟩))) (ht : w.cell? ⟨t, 1, none⟩ = some (.int .u64 clock)) (ne1 : bx ≠ mb) (ne2 : t ≠ mb) :
    Calls Tryz.prog 72 #[.map (some mb), .func (.func 73) #[] #[.pointer (some ⟨bx, 0, none⟩)]] w fun x w' => x = .returned (.tuple #[]) ∧ MapIs w' mb (l.filter fun x => !drained clock x.1) c ∧ ExtB mb w w' := by
  obtain ⟨hrg, hit⟩ := run_srange (P := Tryz.prog) Tryz.underlying70 hm ho hbn
  have hbl := cell_lt hb
  have htl := cell_lt ht
  have hml := hm.lt
  go_enter Tryz.func72, Tryz.ntmps72
  go_wp2
  have hx0 : ExtB mb w (w.alloc (.mapIter (some mb) c #[] c)) := (ExtB.refl mb w).alloc _
  clear hrg
  go_loopw [8] (fun _ wr => ∃ seen, IterAt wr w.heap.size mb (swept (drained clock) l seen) c seen ∧ ExtB mb w wr) (fun _ wr => wr.rangeLeft mb w.heap.size)
  case atStart => exact ⟨#[], by rw [swept_start]; exact hit, hx0⟩
  case round =>
    obtain ⟨seen, hi, hxr⟩ := hrel
    rcases run_snext (P := Tryz.prog) hi with ⟨h0, hrun⟩ | ⟨s, n, w1, hmem, hns, hrun, hi1, hx1, hen⟩
    · go_wp2
      go_end0
      exact ⟨rfl, by rw [← swept_end h0]; exact hi.map, hxr⟩
    · have hsok := hok _ (swept_mem hmem)
      have hleft := hi.left
      have hlt := toCome_push hmem hns
      have hxr1 : ExtB mb w w1 := ⟨hx1.os.trans hxr.os, hx1.tape.trans hxr.tape, hx1.output.trans hxr.output, Nat.le_trans hxr.size hx1.size, fun i hi2 hne => (hx1.block i (Nat.lt_of_lt_of_le hi2 hxr.size) (by omega)).trans (hxr.block i hi2 hne)⟩
      have hb1 : w1.cell? ⟨bx, 0, none⟩ = some (.pointer (some ⟨t, 0, none⟩)) := hxr1.keep hb ne1
      have ht1 : w1.cell? ⟨t, 1, none⟩ = some (.int .u64 clock) := hxr1.keep ht ne2
      have hst := @swept_stays (drained clock) l seen hbn s n hmem
      have hsk := @swept_struck (drained clock) l seen hbn hk s n hmem
      obtain ⟨k, sp, se, sbu, srk, sk, sa, sb⟩ := s
      obtain ⟨m1, m2, u1, u2, u3, u4, u5, u6, u7, u8, u9, u10, u11, u12⟩ := hsok
      simp only at m1 m2 u1 u2 u3 u4 u5 u6 u7 u8 u9 u10 u11 u12
      simp only [Slot.val, Slot.cells] at hrun hen
      have HC := Lib.hid (fun W h1 h2 => sweep_1 bx t k sp se sbu srk sk sa sb clock W m1 m2 u1 u2 u3 u4 u5 u6 u7 u8 u9 u10 u11 u12 hn0 hn1 h1 h2)
      have HL := Lib.hid hst
      have HS := Lib.hid hsk
      clear hst hsk hi hmem
      generalize hD : (Slot.fill ⟨k, sp, se, sbu, srk, sk, sa, sb⟩ clock == 0) = D at HC
      have HD := Lib.hid hD
      clear hD
      cases D
      · go_wp2_with fail
        have hx1a : Ext w1 (w1.alloc (.cells #[.string k, .string sp, .int .u64 se, .int .u64 sbu, .int .u8 srk, .int .u8 sk, .int .u64 sa, .int .u64 sb] 69)) := (Ext.refl w1).alloc _
        refine (HC.out _ (hx1a.keep hb1) (hx1a.keep ht1)).mono ?_
        rintro x w2 ⟨rfl, hx2⟩
        have hx12 := hx1a.trans hx2
        go_wp2
        go_roundw
        case rel => exact ⟨seen.push n, by rw [HL.out HD.out]; exact hi1.ext hx12, hxr1.trans (hx12.toB mb)⟩
        case measure => rw [(hi1.ext hx12).left, hleft]; exact hlt
      · go_wp2_with fail
        have hx1a : Ext w1 (w1.alloc (.cells #[.string k, .string sp, .int .u64 se, .int .u64 sbu, .int .u8 srk, .int .u8 sk, .int .u64 sa, .int .u64 sb] 69)) := (Ext.refl w1).alloc _
        refine (HC.out _ (hx1a.keep hb1) (hx1a.keep ht1)).mono ?_
        rintro x w2 ⟨rfl, hx2⟩
        have hx12 := hx1a.trans hx2
        have hi2 := hi1.ext hx12
        obtain ⟨w3, hdel, hm3, hxB⟩ := run_sdel (P := Tryz.prog) Tryz.underlying70 Tryz.underlying9 hi2.map (swept_keys hk) k
        go_wp2
        have hi3 := hi2.del hxB hm3
        go_roundw
        case rel => exact ⟨seen.push n, by rw [HS.out HD.out]; exact hi3, (hxr1.trans (hx12.toB mb)).trans hxB⟩
        case measure => rw [hi3.left, hleft]; exact Nat.lt_of_le_of_lt (toCome_del k) hlt

set_option maxHeartbeats 1000000 in
set_option maxRecDepth 100000 in
theorem table_sweep (t mb c : Nat) (most clock : Int) (l : SMap) (w : World) (h : TabAt w t mb most clock l c) (ho : ∀ x ∈ l, x.2 < c) (hbn : (l.map (·.2)).Nodup) (hk : l.keys.Nodup) (hok : ∀ x ∈ l, SlotOk x.1) (hn0 : 0 ≤ clock) (hn1 : clock < 18446744073709551616) :
    Calls Tryz.prog 30 #[.pointer (some ⟨t, 0, none⟩)] w fun x w' => x = .returned (.tuple #[]) ∧ TabAt w' t mb most clock (l.filter fun x => !drained clock x.1) c ∧ ExtB mb w w' := by
  have hbc := h.blk.cell
  have c2 : w.cell? ⟨t, 2, none⟩ = some (.map (some mb)) := hbc 2
  have c1 : w.cell? ⟨t, 1, none⟩ = some (.int .u64 clock) := hbc 1
  have hlt := h.blk.lt
  have hmlt := h.map.lt
  have hne := h.ne
  have HT := Lib.hid h
  clear h hbc
  go_enter Tryz.func30, Tryz.ntmps30
  go_wp2_with fail
  have hxa : Ext w (w.alloc (.cells #[.pointer (some ⟨t, 0, none⟩)] 38)) := (Ext.refl w).alloc _
  have ba := Blk.new w #[.pointer (some ⟨t, 0, none⟩)] 38
  refine (delete_func w.heap.size t mb c clock l _ (HT.out.map.ext hxa) ho hbn hk hok hn0 hn1 (ba.cell 0) (hxa.keep c1) (by omega) hne).mono ?_
  rintro x w2 ⟨rfl, hm2, hx2⟩
  go_wp2
  go_end0
  exact ⟨rfl, (HT.out.ext hxa).swap hx2 hm2, (hxa.toB mb).trans hx2⟩
end Go.Proofs.YtnlmbmbalmkiiaaGreat
