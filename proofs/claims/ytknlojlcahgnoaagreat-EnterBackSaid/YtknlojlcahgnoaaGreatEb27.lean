/- Walks: table.sweep, maps.DeleteFunc. A table's slots, plainly; table.slot by one contract. Walks: table.New, Tick, Clock. Walks: Charge: a wrong key, a wrong rule. Walks: Charge: a wrong rule. Walks: tollerref14.Answers at answers that are alike. -/
import Derived.Deep.QuietTactic
import Derived.BigQuiet
import Derived.Test.YtknlojlcahgnoaaGreatEb25
import Derived.Test.YtknlojlcahgnoaaGreatEb13

namespace Go.Proofs.YtknlojlcahgnoaaGreat
open Go.RowKit
set_option linter.unusedVariables false
set_option linter.unusedSimpArgs false

theorem ExtB.keep {b : Nat} {w w' : World} (h : ExtB b w w') {a : Addr} {v : Value} (c : w.cell? a = some v) (ne : a.block ≠ b) : w'.cell? a = some v := by
  have hlt : a.block < w.heap.size := by
    unfold World.cell? at c
    rcases Nat.lt_or_ge a.block w.heap.size with h | h
    · exact h
    · rw [Array.getElem?_eq_none h] at c; cases c
  unfold World.cell? at c ⊢
  rw [h.block a.block hlt ne]; exact c

set_option maxHeartbeats 1000000 in
set_option maxRecDepth 100000 in
theorem sweep_1 (bx t : Nat) (k sp : ByteArray) (se sbu srk sk sa sb clock : Int) (w : World) (m1 : k.size ≤ maxLen) (m2 : sp.size ≤ maxLen) (u1 : 0 ≤ se) (u2 : se < 18446744073709551616) (u3 : 0 ≤ sbu) (u4 : sbu < 18446744073709551616) (u5 : 0 ≤ srk) (u6 : srk < 256) (u7 : 0 ≤ sk) (u8 : sk < 256) (u9 : 0 ≤ sa) (u10 : sa < 18446744073709551616) (u11 : 0 ≤ sb) (u12 : sb < 18446744073709551616) (hn0 : 0 ≤ clock) (hn1 : clock < 18446744073709551616)
    (hb : w.cell? ⟨bx, 0, none⟩ = some (.pointer (some ⟨t, 0, none⟩))) (ht : w.cell? ⟨t, 1, none⟩ = some (.int .u64 clock)) :
    Calls Tryz.prog 153 #[.string k, .agg #[.string k, .string sp, .int .u64 se, .int .u64 sbu, .int .u8 srk, .int .u8 sk, .int .u64 sa, .int .u64 sb], .pointer (some ⟨bx, 0, none⟩)] w fun x w' => x = .returned (.bool (Slot.fill ⟨k, sp, se, sbu, srk, sk, sa, sb⟩ clock == 0)) ∧ Ext w w' := by
  generalize hf : Slot.fill ⟨k, sp, se, sbu, srk, sk, sa, sb⟩ clock = F
  have HF := Lib.hid hf
  clear hf
  have hbl := cell_lt hb
  have htl := cell_lt ht
  go_enter Tryz.func153, Tryz.ntmps153
  go_wp2_with fail
  have hx0 : Ext w (w.alloc (.cells #[.string k, .string sp, .int .u64 se, .int .u64 sbu, .int .u8 srk, .int .u8 sk, .int .u64 sa, .int .u64 sb] 145)) := (Ext.refl w).alloc _
  have bq := Blk.new w #[.string k, .string sp, .int .u64 se, .int .u64 sbu, .int .u8 srk, .int .u8 sk, .int .u64 sa, .int .u64 sb] 145
  have hb' := hx0.keep hb
  have ht' := hx0.keep ht
  generalize w.alloc (.cells #[.string k, .string sp, .int .u64 se, .int .u64 sbu, .int .u8 srk, .int .u8 sk, .int .u64 sa, .int .u64 sb] 145) = w0 at *
  have q0 : w0.cell? ⟨w.heap.size, 0, none⟩ = some (.string k) := bq.cell 0
  have q1 : w0.cell? ⟨w.heap.size, 1, none⟩ = some (.string sp) := bq.cell 1
  have q2 : w0.cell? ⟨w.heap.size, 2, none⟩ = some (.int .u64 se) := bq.cell 2
  have q3 : w0.cell? ⟨w.heap.size, 3, none⟩ = some (.int .u64 sbu) := bq.cell 3
  have q4 : w0.cell? ⟨w.heap.size, 4, none⟩ = some (.int .u8 srk) := bq.cell 4
  have q5 : w0.cell? ⟨w.heap.size, 5, none⟩ = some (.int .u8 sk) := bq.cell 5
  have q6 : w0.cell? ⟨w.heap.size, 6, none⟩ = some (.int .u64 sa) := bq.cell 6
  have q7 : w0.cell? ⟨w.heap.size, 7, none⟩ = some (.int .u64 sb) := bq.cell 7
  go_region_held3 (fun w' => w'.cell? ⟨w.heap.size, 0, none⟩ = some (.string k) ∧ w'.cell? ⟨w.heap.size, 1, none⟩ = some (.string sp) ∧ w'.cell? ⟨w.heap.size, 2, none⟩ = some (.int .u64 se) ∧ w'.cell? ⟨w.heap.size, 3, none⟩ = some (.int .u64 sbu) ∧ w'.cell? ⟨w.heap.size, 4, none⟩ = some (.int .u8 srk) ∧ w'.cell? ⟨w.heap.size, 5, none⟩ = some (.int .u8 sk) ∧ w'.cell? ⟨w.heap.size, 6, none⟩ = some (.int .u64 sa) ∧ w'.cell? ⟨w.heap.size, 7, none⟩ = some (.int .u64 sb) ∧ w'.cell? ⟨bx, 0, none⟩ = some (.pointer (some ⟨t, 0, none⟩)) ∧ w'.cell? ⟨t, 1, none⟩ = some (.int .u64 clock) ∧ Ext w0 w')
    (((try go_split_ands); refine ⟨?_, ?_, ?_, ?_, ?_, ?_, ?_, ?_, ?_, ?_, ?_⟩ <;> first | with_reducible assumption | exact (Ext.refl _).drew | ((repeat (first | with_reducible exact Ext.refl _ | with_reducible assumption | with_reducible refine Ext.alloc ?_ _ | with_reducible refine Ext.drew ?_ | (with_reducible refine Ext.setCell ?_ (by first | exact Nat.le_refl _ | (dsimp only; omega) | (simp; done) | (simp; omega)) _) | with_reducible refine Ext.trans ?_ (by with_reducible assumption))); done) | (refine Ext.keep (w := w0) (by repeat (first | with_reducible exact Ext.refl _ | with_reducible assumption | with_reducible refine Ext.alloc ?_ _ | with_reducible refine Ext.drew ?_ | (with_reducible refine Ext.setCell ?_ (by first | exact Nat.le_refl _ | (dsimp only; omega) | (simp; done) | (simp; omega)) _) | with_reducible refine Ext.trans ?_ (by with_reducible assumption))) ?_; with_reducible assumption)))
    (first
      | (go_at_call 151; (with_reducible refine (table_fillX k sp se sbu srk sk sa sb clock _ m1 m2 u1 u2 u3 u4 u5 u6 u7 u8 u9 u10 u11 u12 hn0 hn1).mono ?_); rw [HF.out]; rintro x w1 ⟨rfl, hx⟩))
  go_wp2
  go_ret
  exact ⟨rfl, (by repeat (first | with_reducible exact Ext.refl _ | with_reducible assumption | with_reducible refine Ext.alloc ?_ _ | with_reducible refine Ext.drew ?_ | (with_reducible refine Ext.setCell ?_ (by first | exact Nat.le_refl _ | (dsimp only; omega) | (simp; done) | (simp; omega)) _) | with_reducible refine Ext.trans ?_ (by with_reducible assumption)))⟩

theorem IterAt.del {w w' : World} {r b c : Nat} {l : SMap} {seen : Array Nat} {k : ByteArray} (h : IterAt w r b l c seen) (e : ExtB b w w') (m : MapIs w' b (l.del k) c) : IterAt w' r b (l.del k) c seen := by
  have hne := h.ne
  have hlt := h.lt
  obtain ⟨_, ⟨c0, h1, h2⟩, ho, hb⟩ := h
  exact ⟨m, ⟨c0, (e.block r hlt (fun q => hne q.symm)).trans h1, h2⟩, fun x hx => ho x (List.mem_filter.1 hx).1, hb.sublist (List.filter_sublist.map _)⟩

def drained (clock : Int) (s : Slot) : Bool := s.fill clock == 0

set_option maxHeartbeats 4000000 in
set_option maxRecDepth 100000 in
theorem delete_func (bx t mb c : Nat) (clock : Int) (l : SMap) (w : World) (hm : MapIs w mb l c) (ho : ∀ x ∈ l, x.2 < c) (hbn : (l.map (·.2)).Nodup) (hk : l.keys.Nodup) (hok : ∀ x ∈ l, SlotOk x.1) (hn0 : 0 ≤ clock) (hn1 : clock < 18446744073709551616)
    (hb : w.cell? ⟨bx, 0, none⟩ = some (.pointer (some ⟨t, 0, none⟩))) (ht : w.cell? ⟨t, 1, none⟩ = some (.int .u64 clock)) (ne1 : bx ≠ mb) (ne2 : t ≠ mb) :
    Calls Tryz.prog 152 #[.map (some mb), .func (.func 153) #[] #[.pointer (some ⟨bx, 0, none⟩)]] w fun x w' => x = .returned (.tuple #[]) ∧ MapIs w' mb (l.filter fun x => !drained clock x.1) c ∧ ExtB mb w w' := by
  obtain ⟨hrg, hit⟩ := run_srange (P := Tryz.prog) Tryz.underlying128 hm ho hbn
  have hbl := cell_lt hb
  have htl := cell_lt ht
  have hml := hm.lt
  go_enter Tryz.func152, Tryz.ntmps152
  go_wp2
  have hx0 : ExtB mb w (w.alloc (.mapIter (some mb) c #[] c)) := (ExtB.refl mb w).alloc _
  clear hrg
  go_loopw [8] (fun _ wr => ∃ seen, IterAt wr w.heap.size mb (swept (drained clock) l seen) c seen ∧ ExtB mb w wr) (fun _ wr => wr.rangeLeft mb w.heap.size)
  case atStart => exact ⟨#[], by rw [swept_start]; exact hit, hx0⟩
  case round =>
    obtain ⟨seen, hi, hxr⟩ := hrel
    rcases run_snext (P := Tryz.prog) hi with ⟨h0, hrun⟩ | ⟨s, n, w1, hmem, hns, hrun, hi1, hx1, hen⟩
    · go_wp2
      go_end0
      exact ⟨rfl, by rw [← swept_end h0]; exact hi.map, hxr⟩
    · have hsok := hok _ (swept_mem hmem)
      have hleft := hi.left
      have hlt := toCome_push hmem hns
      have hxr1 : ExtB mb w w1 := ⟨hx1.os.trans hxr.os, hx1.tape.trans hxr.tape, hx1.output.trans hxr.output, Nat.le_trans hxr.size hx1.size, fun i hi2 hne => (hx1.block i (Nat.lt_of_lt_of_le hi2 hxr.size) (by omega)).trans (hxr.block i hi2 hne)⟩
      have hb1 : w1.cell? ⟨bx, 0, none⟩ = some (.pointer (some ⟨t, 0, none⟩)) := hxr1.keep hb ne1
      have ht1 : w1.cell? ⟨t, 1, none⟩ = some (.int .u64 clock) := hxr1.keep ht ne2
      have hst := @swept_stays (drained clock) l seen hbn s n hmem
      have hsk := @swept_struck (drained clock) l seen hbn hk s n hmem
      obtain ⟨k, sp, se, sbu, srk, sk, sa, sb⟩ := s
      obtain ⟨m1, m2, u1, u2, u3, u4, u5, u6, u7, u8, u9, u10, u11, u12⟩ := hsok
      simp only at m1 m2 u1 u2 u3 u4 u5 u6 u7 u8 u9 u10 u11 u12
      simp only [Slot.val, Slot.cells] at hrun hen
      have HC := Lib.hid (fun W h1 h2 => sweep_1 bx t k sp se sbu srk sk sa sb clock W m1 m2 u1 u2 u3 u4 u5 u6 u7 u8 u9 u10 u11 u12 hn0 hn1 h1 h2)
      have HL := Lib.hid hst
      have HS := Lib.hid hsk
      clear hst hsk hi hmem
      generalize hD : (Slot.fill ⟨k, sp, se, sbu, srk, sk, sa, sb⟩ clock == 0) = D at HC
      have HD := Lib.hid hD
      clear hD
      cases D
      · go_wp2_with fail
        have hx1a : Ext w1 (w1.alloc (.cells #[.string k, .string sp, .int .u64 se, .int .u64 sbu, .int .u8 srk, .int .u8 sk, .int .u64 sa, .int .u64 sb] 145)) := (Ext.refl w1).alloc _
        refine (HC.out _ (hx1a.keep hb1) (hx1a.keep ht1)).mono ?_
        rintro x w2 ⟨rfl, hx2⟩
        have hx12 := hx1a.trans hx2
        go_wp2
        go_roundw
        case rel => exact ⟨seen.push n, by rw [HL.out HD.out]; exact hi1.ext hx12, hxr1.trans (hx12.toB mb)⟩
        case measure => rw [(hi1.ext hx12).left, hleft]; exact hlt
      · go_wp2_with fail
        have hx1a : Ext w1 (w1.alloc (.cells #[.string k, .string sp, .int .u64 se, .int .u64 sbu, .int .u8 srk, .int .u8 sk, .int .u64 sa, .int .u64 sb] 145)) := (Ext.refl w1).alloc _
        refine (HC.out _ (hx1a.keep hb1) (hx1a.keep ht1)).mono ?_
        rintro x w2 ⟨rfl, hx2⟩
        have hx12 := hx1a.trans hx2
        have hi2 := hi1.ext hx12
        obtain ⟨w3, hdel, hm3, hxB⟩ := run_sdel (P := Tryz.prog) Tryz.underlying128 Tryz.underlying9 hi2.map (swept_keys hk) k
        go_wp2
        have hi3 := hi2.del hxB hm3
        go_roundw
        case rel => exact ⟨seen.push n, by rw [HS.out HD.out]; exact hi3, (hxr1.trans (hx12.toB mb)).trans hxB⟩
        case measure => rw [hi3.left, hleft]; exact Nat.lt_of_le_of_lt (toCome_del k) hlt

set_option maxHeartbeats 1000000 in
set_option maxRecDepth 100000 in
theorem table_sweep (t mb c : Nat) (most clock : Int) (l : SMap) (w : World) (h : TabAt w t mb most clock l c) (ho : ∀ x ∈ l, x.2 < c) (hbn : (l.map (·.2)).Nodup) (hk : l.keys.Nodup) (hok : ∀ x ∈ l, SlotOk x.1) (hn0 : 0 ≤ clock) (hn1 : clock < 18446744073709551616) :
    Calls Tryz.prog 104 #[.pointer (some ⟨t, 0, none⟩)] w fun x w' => x = .returned (.tuple #[]) ∧ TabAt w' t mb most clock (l.filter fun x => !drained clock x.1) c ∧ ExtB mb w w' := by
  have hbc := h.blk.cell
  have c2 : w.cell? ⟨t, 2, none⟩ = some (.map (some mb)) := hbc 2
  have c1 : w.cell? ⟨t, 1, none⟩ = some (.int .u64 clock) := hbc 1
  have hlt := h.blk.lt
  have hmlt := h.map.lt
  have hne := h.ne
  have HT := Lib.hid h
  clear h hbc
  go_enter Tryz.func104, Tryz.ntmps104
  go_wp2_with fail
  have hxa : Ext w (w.alloc (.cells #[.pointer (some ⟨t, 0, none⟩)] 63)) := (Ext.refl w).alloc _
  have ba := Blk.new w #[.pointer (some ⟨t, 0, none⟩)] 63
  refine (delete_func w.heap.size t mb c clock l _ (HT.out.map.ext hxa) ho hbn hk hok hn0 hn1 (ba.cell 0) (hxa.keep c1) (by omega) hne).mono ?_
  rintro x w2 ⟨rfl, hm2, hx2⟩
  go_wp2
  go_end0
  exact ⟨rfl, (HT.out.ext hxa).swap hx2 hm2, (hxa.toB mb).trans hx2⟩
end Go.Proofs.YtknlojlcahgnoaaGreat

namespace Go.Proofs.YtknlojlcahgnoaaGreat
open Go.RowKit
set_option linter.unusedVariables false
set_option linter.unusedSimpArgs false

/-- what a table's map is at any time -/
structure TabOk (l : SMap) (c : Nat) : Prop where
  old : ∀ x ∈ l, x.2 < c
  born : (l.map (·.2)).Nodup
  keys : l.keys.Nodup
  ok : ∀ x ∈ l, SlotOk x.1
theorem TabOk.nil (c : Nat) : TabOk [] c := ⟨fun x h => (by cases h), List.nodup_nil, List.nodup_nil, fun x h => (by cases h)⟩
theorem TabOk.filter {l : SMap} {c : Nat} (h : TabOk l c) (p : Slot × Nat → Bool) : TabOk (l.filter p) c :=
  ⟨fun x hx => h.old x (List.mem_filter.1 hx).1, h.born.sublist (List.filter_sublist.map _), h.keys.sublist (List.filter_sublist.map _), fun x hx => h.ok x (List.mem_filter.1 hx).1⟩
theorem TabOk.del {l : SMap} {c : Nat} (h : TabOk l c) (k : ByteArray) : TabOk (l.del k) c := h.filter _
theorem rep_keys (l : SMap) (s : Slot) : (l.rep s).keys = l.keys := by
  unfold SMap.rep SMap.keys
  rw [List.map_map]
  refine List.map_congr_left fun x _ => ?_
  simp only [Function.comp]
  split
  · rename_i h; exact h.symm
  · rfl
theorem rep_born (l : SMap) (s : Slot) : (l.rep s).map (·.2) = l.map (·.2) := by
  unfold SMap.rep
  rw [List.map_map]
  refine List.map_congr_left fun x _ => ?_
  simp only [Function.comp]
  split <;> rfl
theorem TabOk.put {l : SMap} {c : Nat} (h : TabOk l c) {s : Slot} (hs : SlotOk s) : TabOk (l.put s c) (l.putC s c) := by
  unfold SMap.put SMap.putC
  split
  · refine ⟨?_, by rw [rep_born]; exact h.born, by rw [rep_keys]; exact h.keys, ?_⟩
    · intro x hx
      obtain ⟨y, hy, rfl⟩ := List.mem_map.1 hx
      have := h.old y hy
      split <;> exact this
    · intro x hx
      obtain ⟨y, hy, rfl⟩ := List.mem_map.1 hx
      have := h.ok y hy
      split
      · exact hs
      · exact this
  · rename_i hl
    have hn : l.look s.key = none := by
      cases e : l.look s.key with
      | none => rfl
      | some _ => rw [e] at hl; exact absurd rfl hl
    have hnk := look_none.1 hn
    refine ⟨?_, ?_, ?_, ?_⟩
    · intro x hx
      rcases List.mem_append.1 hx with hx | hx
      · have := h.old x hx; omega
      · obtain rfl := List.mem_singleton.1 hx; exact Nat.lt_succ_self _
    · rw [List.map_append, List.nodup_append]
      refine ⟨h.born, by simp, ?_⟩
      intro a ha b hb
      obtain ⟨y, hy, rfl⟩ := List.mem_map.1 ha
      have := h.old y hy
      simp at hb
      omega
    · unfold SMap.keys
      rw [List.map_append, List.nodup_append]
      refine ⟨h.keys, by simp, ?_⟩
      intro a ha b hb
      obtain ⟨y, hy, rfl⟩ := List.mem_map.1 ha
      have := hnk y hy
      simp at hb
      subst hb
      exact this
    · intro x hx
      rcases List.mem_append.1 hx with hx | hx
      · exact h.ok x hx
      · obtain rfl := List.mem_singleton.1 hx; exact hs

/-- the slot of a key, if it is active by these numbers -/
def slotHit (l : SMap) (k : ByteArray) (e b clock : Int) : Option Slot := (l.look k).filter fun s => s.e == e && s.b == b && !(s.fill clock == 0)
/-- what is left then -/
def slotLeft (l : SMap) (k : ByteArray) (e b clock : Int) : SMap := if (slotHit l k e b clock).isSome then l else l.del k

theorem look_ok {l : SMap} {c : Nat} {k : ByteArray} {s : Slot} (h : TabOk l c) (hl : l.look k = some s) : SlotOk s := by
  obtain ⟨n, hn⟩ := look_mem hl
  exact h.ok _ hn

theorem table_slot (t mb c : Nat) (k p : ByteArray) (most clock e b rk : Int) (l : SMap) (w : World) (h : TabAt w t mb most clock l c) (hok : TabOk l c) (hn0 : 0 ≤ clock) (hn1 : clock < 18446744073709551616) :
    Calls Tryz.prog 103 #[.pointer (some ⟨t, 0, none⟩), .string k, .agg #[.string p, .int .u64 e, .int .u64 b, .int .u8 rk]] w fun x w' =>
      ∃ s0 : Slot, SlotOk s0 ∧ x = .returned (.tuple #[s0.val, .bool (slotHit l k e b clock).isSome]) ∧ (∀ s, slotHit l k e b clock = some s → s0 = s) ∧ TabAt w' t mb most clock (slotLeft l k e b clock) c ∧ ExtB mb w w' := by
  cases hl : l.look k with
  | none =>
    have hh : slotHit l k e b clock = none := by unfold slotHit; rw [hl]; rfl
    have hd : slotLeft l k e b clock = l := by unfold slotLeft; rw [hh]; exact del_none (look_none.1 hl)
    refine (table_slot_none t mb c k p most clock e b rk l w h hl).mono ?_
    rintro x w' ⟨rfl, hx⟩
    refine ⟨slot0, ?_, by rw [hh]; rfl, fun s hs => (by rw [hh] at hs; cases hs), by rw [hd]; exact h.ext hx, hx.toB mb⟩
    constructor <;> simp [slot0, maxLen] <;> decide
  | some s =>
    have hs := look_ok hok hl
    have hkk := look_key hl
    obtain ⟨k', sp, se, sbu, srk, sk, sa, sb⟩ := s
    simp only at hkk
    subst hkk
    have hs' := hs
    obtain ⟨m1, m2, u1, u2, u3, u4, u5, u6, u7, u8, u9, u10, u11, u12⟩ := hs
    simp only at m1 m2 u1 u2 u3 u4 u5 u6 u7 u8 u9 u10 u11 u12
    have gone : ((se == e && sbu == b && !(Slot.fill ⟨k', sp, se, sbu, srk, sk, sa, sb⟩ clock == 0)) = false) → slotHit l k' e b clock = none ∧ slotLeft l k' e b clock = l.del k' := fun q => by
      have hh : slotHit l k' e b clock = none := by unfold slotHit; rw [hl]; exact if_neg (fun qq => Bool.noConfusion (q.symm.trans qq))
      exact ⟨hh, by unfold slotLeft; rw [hh]; rfl⟩
    by_cases h1 : se = e
    · by_cases h2 : sbu = b
      · subst h1; subst h2
        by_cases h3 : Slot.fill ⟨k', sp, se, sbu, srk, sk, sa, sb⟩ clock = 0
        · obtain ⟨hh, hd⟩ := gone (by rw [h3]; simp)
          refine (table_slot_drained t mb c k' sp p se sbu srk sk sa sb most clock rk l w h m1 m2 u1 u2 u3 u4 u5 u6 u7 u8 u9 u10 u11 u12 hn0 hn1 hl hok.keys _ h3 (by decide)).mono ?_
          rintro x w' ⟨rfl, ht, hx⟩
          exact ⟨_, hs', by rw [hh]; rfl, fun s hs => (by rw [hh] at hs; cases hs), by rw [hd]; exact ht, hx⟩
        · have hh : slotHit l k' se sbu clock = some ⟨k', sp, se, sbu, srk, sk, sa, sb⟩ := by
            unfold slotHit; rw [hl]; simp [Option.filter, h3]
          have hd : slotLeft l k' se sbu clock = l := by unfold slotLeft; rw [hh]; rfl
          refine (table_slot_yes t mb c k' sp p se sbu srk sk sa sb most clock rk l w h m1 m2 u1 u2 u3 u4 u5 u6 u7 u8 u9 u10 u11 u12 hn0 hn1 hl _ rfl (by simpa using h3)).mono ?_
          rintro x w' ⟨rfl, hx⟩
          exact ⟨_, hs', by rw [hh]; rfl, fun s hs => (by rw [hh] at hs; cases hs; rfl), by rw [hd]; exact h.ext hx, hx.toB mb⟩
      · obtain ⟨hh, hd⟩ := gone (by rw [beq_eq_false_iff_ne.2 h2]; simp)
        refine (table_slot_burst t mb c k' sp p se sbu srk sk sa sb most clock e b rk l w h m1 m2 u1 u2 u3 u4 u5 u6 u7 u8 u9 u10 u11 u12 hn0 hn1 hl hok.keys (by simpa using h1) (by simpa using h2)).mono ?_
        rintro x w' ⟨rfl, ht, hx⟩
        exact ⟨_, hs', by rw [hh]; rfl, fun s hs => (by rw [hh] at hs; cases hs), by rw [hd]; exact ht, hx⟩
    · obtain ⟨hh, hd⟩ := gone (by rw [beq_eq_false_iff_ne.2 h1]; simp)
      refine (table_slot_every t mb c k' sp p se sbu srk sk sa sb most clock e b rk l w h m1 m2 u1 u2 u3 u4 u5 u6 u7 u8 u9 u10 u11 u12 hn0 hn1 hl hok.keys (by simpa using h1)).mono ?_
      rintro x w' ⟨rfl, ht, hx⟩
      exact ⟨_, hs', by rw [hh]; rfl, fun s hs => (by rw [hh] at hs; cases hs), by rw [hd]; exact ht, hx⟩

/-! ## bounds -/
theorem kOf_u (k now cap fill : Int) (hn0 : 0 ≤ now) (hn1 : now < 18446744073709551616) (hc0 : 0 ≤ cap) (hc1 : cap < 18446744073709551616) (hf0 : 0 ≤ fill) (hf1 : fill < 18446744073709551616) :
    0 ≤ kOfA k now cap fill ∧ kOfA k now cap fill < 18446744073709551616 ∧ 0 ≤ kOfB k now ∧ kOfB k now < 18446744073709551616 := by
  have h1 := satAdd_u now fill hn0 hf0
  have h2 := satSub_u cap fill hc0 hc1 hf0
  unfold kOfA kOfB
  refine ⟨?_, ?_, ?_, ?_⟩ <;> repeat' split
  all_goals omega
theorem kNext_u (k a b now cap x : Int) (ha0 : 0 ≤ a) (ha1 : a < 18446744073709551616) (hb0 : 0 ≤ b) (hb1 : b < 18446744073709551616) (hn0 : 0 ≤ now) (hn1 : now < 18446744073709551616) (hc0 : 0 ≤ cap) (hc1 : cap < 18446744073709551616) (hx0 : 0 ≤ x) (hx1 : x < 18446744073709551616) :
    0 ≤ kNextA k a b now cap x ∧ kNextA k a b now cap x < 18446744073709551616 ∧ 0 ≤ kNextB k a b now cap x ∧ kNextB k a b now cap x < 18446744073709551616 := by
  have h2 := satSub_u now b hn0 hn1 hb0
  have h1 := satAdd_u (max a now) x (by omega) hx0
  have h3 := satAdd_u a (satSub now b) ha0 h2.1
  have h4 := satSub_u a (satSub now b) ha0 ha1 h2.1
  unfold kNextA kNextB kOk fitsB
  refine ⟨?_, ?_, ?_, ?_⟩ <;> repeat' split
  all_goals first
    | omega
    | (rename_i q; simp at q; omega)
    | (rename_i q _; simp at q; omega)
    | (rename_i q _ _; simp at q; omega)
    | (rename_i q _ _ _; simp at q; omega)
theorem satMul_u (a b : Int) (ha : 0 ≤ a) (hb : 0 ≤ b) : 0 ≤ satMul a b ∧ satMul a b < 18446744073709551616 := by
  have := Int.mul_nonneg ha hb
  unfold satMul; split <;> omega
end Go.Proofs.YtknlojlcahgnoaaGreat

namespace Go.Proofs.YtknlojlcahgnoaaGreat
open Go.RowKit
set_option linter.unusedVariables false
set_option linter.unusedSimpArgs false

def mostOf (m : Int) : Int := max 1 (min m 1000000)

set_option maxHeartbeats 400000 in
set_option maxRecDepth 100000 in
theorem table_New (m : Int) (w : World) (hm0 : -9223372036854775808 ≤ m) (hm1 : m ≤ 9223372036854775807) :
    Calls Tryz.prog 26 #[.int .i64 m] w fun x w' => x = .returned (.pointer (some ⟨w.heap.size + 1, 0, none⟩)) ∧ TabAt w' (w.heap.size + 1) w.heap.size (mostOf m) 0 [] 0 ∧ Ext w w' := by
  generalize hq : mostOf m = q
  have HQ := Lib.hid (show max 1 (min m 1000000) = q from hq)
  clear hq
  have hmk : (Instr.makeMap 128 none).run Tryz.prog w = .ok (.map (some w.heap.size)) (w.alloc (.map #[] 0)) := by kernel_rfl
  go_enter Tryz.func26, Tryz.ntmps26
  go_wp2
  all_goals
    go_ret
    have hmp : MapIs (w.alloc (.map #[] 0)) w.heap.size [] 0 := map_new_at w _
    have hq1 := HQ.out
    clear HQ
    first
      | (rw [show q = 1000000 by omega]; exact ⟨rfl, ⟨Blk.new' (w.alloc (.map #[] 0)) _ 130 (b := w.heap.size + 1) (by simp), hmp.ext ((Ext.refl _).alloc _)⟩, ((Ext.refl w).alloc _).alloc _⟩)
      | (rw [show q = m by omega]; exact ⟨rfl, ⟨Blk.new' (w.alloc (.map #[] 0)) _ 130 (b := w.heap.size + 1) (by simp), hmp.ext ((Ext.refl _).alloc _)⟩, ((Ext.refl w).alloc _).alloc _⟩)
      | (rw [show q = 1 by omega]; exact ⟨rfl, ⟨Blk.new' (w.alloc (.map #[] 0)) _ 130 (b := w.heap.size + 1) (by simp), hmp.ext ((Ext.refl _).alloc _)⟩, ((Ext.refl w).alloc _).alloc _⟩)

set_option maxHeartbeats 400000 in
set_option maxRecDepth 100000 in
theorem table_Tick (t mb c : Nat) (most clock now : Int) (l : SMap) (w : World) (h : TabAt w t mb most clock l c) (hn0 : 0 ≤ clock) (hn1 : clock < 18446744073709551616) (hx0 : 0 ≤ now) (hx1 : now < 18446744073709551616) :
    Calls Tryz.prog 53 #[.pointer (some ⟨t, 0, none⟩), .int .u64 now] w fun x w' => x = .returned (.int .u64 (max clock now)) ∧ TabAt w' t mb most (max clock now) l c ∧ ExtB t w w' := by
  have hbc := h.blk.cell
  have hbf := h.blk.free
  have HT := Lib.hid h
  generalize hq : max clock now = q
  have HQ := Lib.hid hq
  clear h
  go_enter Tryz.func53, Tryz.ntmps53
  go_wp2
  all_goals
    go_ret
    refine ⟨ret_int (by omega), ⟨?_, HT.out.map.other (by simp only; exact HT.out.ne.symm) _⟩, (ExtB.refl t w).setCell _ _⟩
    have := HT.out.blk.set 1 (.int .u64 q)
    first
      | (rw [show clock = q by omega]; exact this)
      | (rw [show now = q by omega]; exact this)

theorem table_Clock (t mb c : Nat) (most clock : Int) (l : SMap) (w : World) (h : TabAt w t mb most clock l c) (hn0 : 0 ≤ clock) (hn1 : clock < 18446744073709551616) :
    Calls Tryz.prog 33 #[.pointer (some ⟨t, 0, none⟩)] w fun x w' => x = .returned (.int .u64 clock) ∧ TabAt w' t mb most clock l c ∧ ExtB t w w' := by
  have hq : max clock 0 = clock := by omega
  have HT := table_Tick t mb c most clock 0 l w h hn0 hn1 (by omega) (by omega)
  rw [hq] at HT
  have HH := Lib.hid HT
  clear h HT
  go_enter Tryz.func33, Tryz.ntmps33
  go_wp2_with fail
  refine HH.out.mono ?_
  rintro x w' ⟨rfl, ht, hx⟩
  go_wp2
  go_ret
  exact ⟨rfl, ht, hx⟩
end Go.Proofs.YtknlojlcahgnoaaGreat

namespace Go.Proofs.YtknlojlcahgnoaaGreat
open Go.RowKit
set_option linter.unusedVariables false
set_option linter.unusedSimpArgs false

/-- an answer's cells: those that a table tells -/
def ansC (code err limit left reset after nanos : Int) (retry : Bool) : Array Value :=
  #[.int .u8 code, .int .u16 err, .int .u64 limit, .int .u64 left, .int .u64 reset, .int .u64 after, .int .u64 nanos, .bool retry, .int .i64 0, .slice none 0 0]
def ansV (code err limit left reset after nanos : Int) (retry : Bool) : Value := .agg (ansC code err limit left reset after nanos retry)

/-- ten cells written, one behind another -/
theorem Blk.set10 {w : World} {b : Nat} {a0 a1 a2 a3 a4 a5 a6 a7 a8 a9 : Value} {t : TypeId} (h : Blk w b #[a0, a1, a2, a3, a4, a5, a6, a7, a8, a9] t) (v0 v1 v2 v3 v4 v5 v6 v7 v8 v9 : Value) :
    Blk ((((((((((w.setCell ⟨b, 0, none⟩ v0).setCell ⟨b, 1, none⟩ v1).setCell ⟨b, 2, none⟩ v2).setCell ⟨b, 3, none⟩ v3).setCell ⟨b, 4, none⟩ v4).setCell ⟨b, 5, none⟩ v5).setCell ⟨b, 6, none⟩ v6).setCell ⟨b, 7, none⟩ v7).setCell ⟨b, 8, none⟩ v8).setCell ⟨b, 9, none⟩ v9) b #[v0, v1, v2, v3, v4, v5, v6, v7, v8, v9] t := by
  have h0 : Blk _ b #[v0, a1, a2, a3, a4, a5, a6, a7, a8, a9] t := h.set 0 v0
  have h1 : Blk _ b #[v0, v1, a2, a3, a4, a5, a6, a7, a8, a9] t := h0.set 1 v1
  have h2 : Blk _ b #[v0, v1, v2, a3, a4, a5, a6, a7, a8, a9] t := h1.set 2 v2
  have h3 : Blk _ b #[v0, v1, v2, v3, a4, a5, a6, a7, a8, a9] t := h2.set 3 v3
  have h4 : Blk _ b #[v0, v1, v2, v3, v4, a5, a6, a7, a8, a9] t := h3.set 4 v4
  have h5 : Blk _ b #[v0, v1, v2, v3, v4, v5, a6, a7, a8, a9] t := h4.set 5 v5
  have h6 : Blk _ b #[v0, v1, v2, v3, v4, v5, v6, a7, a8, a9] t := h5.set 6 v6
  have h7 : Blk _ b #[v0, v1, v2, v3, v4, v5, v6, v7, a8, a9] t := h6.set 7 v7
  have h8 : Blk _ b #[v0, v1, v2, v3, v4, v5, v6, v7, v8, a9] t := h7.set 8 v8
  have h9 : Blk _ b #[v0, v1, v2, v3, v4, v5, v6, v7, v8, v9] t := h8.set 9 v9
  exact h9
theorem Blk.oth10 {w : World} {g b : Nat} {C : Array Value} {t : TypeId} (h : Blk w g C t) (ne : g ≠ b) (v0 v1 v2 v3 v4 v5 v6 v7 v8 v9 : Value) : Blk ((((((((((w.setCell ⟨b, 0, none⟩ v0).setCell ⟨b, 1, none⟩ v1).setCell ⟨b, 2, none⟩ v2).setCell ⟨b, 3, none⟩ v3).setCell ⟨b, 4, none⟩ v4).setCell ⟨b, 5, none⟩ v5).setCell ⟨b, 6, none⟩ v6).setCell ⟨b, 7, none⟩ v7).setCell ⟨b, 8, none⟩ v8).setCell ⟨b, 9, none⟩ v9) g C t := ((((((((((h.other (a := ⟨_, 0, none⟩) ne _).other (a := ⟨_, 1, none⟩) ne _).other (a := ⟨_, 2, none⟩) ne _).other (a := ⟨_, 3, none⟩) ne _).other (a := ⟨_, 4, none⟩) ne _).other (a := ⟨_, 5, none⟩) ne _).other (a := ⟨_, 6, none⟩) ne _).other (a := ⟨_, 7, none⟩) ne _).other (a := ⟨_, 8, none⟩) ne _).other (a := ⟨_, 9, none⟩) ne _)
theorem MapIs.oth10 {w : World} {g b c : Nat} {l : SMap} (h : MapIs w g l c) (ne : g ≠ b) (v0 v1 v2 v3 v4 v5 v6 v7 v8 v9 : Value) : MapIs ((((((((((w.setCell ⟨b, 0, none⟩ v0).setCell ⟨b, 1, none⟩ v1).setCell ⟨b, 2, none⟩ v2).setCell ⟨b, 3, none⟩ v3).setCell ⟨b, 4, none⟩ v4).setCell ⟨b, 5, none⟩ v5).setCell ⟨b, 6, none⟩ v6).setCell ⟨b, 7, none⟩ v7).setCell ⟨b, 8, none⟩ v8).setCell ⟨b, 9, none⟩ v9) g l c := ((((((((((h.other (a := ⟨_, 0, none⟩) ne _).other (a := ⟨_, 1, none⟩) ne _).other (a := ⟨_, 2, none⟩) ne _).other (a := ⟨_, 3, none⟩) ne _).other (a := ⟨_, 4, none⟩) ne _).other (a := ⟨_, 5, none⟩) ne _).other (a := ⟨_, 6, none⟩) ne _).other (a := ⟨_, 7, none⟩) ne _).other (a := ⟨_, 8, none⟩) ne _).other (a := ⟨_, 9, none⟩) ne _)
theorem ExtB.new10 {x w : World} {g b : Nat} (h : ExtB g x w) (le : x.heap.size ≤ b) (v0 v1 v2 v3 v4 v5 v6 v7 v8 v9 : Value) : ExtB g x ((((((((((w.setCell ⟨b, 0, none⟩ v0).setCell ⟨b, 1, none⟩ v1).setCell ⟨b, 2, none⟩ v2).setCell ⟨b, 3, none⟩ v3).setCell ⟨b, 4, none⟩ v4).setCell ⟨b, 5, none⟩ v5).setCell ⟨b, 6, none⟩ v6).setCell ⟨b, 7, none⟩ v7).setCell ⟨b, 8, none⟩ v8).setCell ⟨b, 9, none⟩ v9) := ((((((((((h.setNew (a := ⟨_, 0, none⟩) le _).setNew (a := ⟨_, 1, none⟩) le _).setNew (a := ⟨_, 2, none⟩) le _).setNew (a := ⟨_, 3, none⟩) le _).setNew (a := ⟨_, 4, none⟩) le _).setNew (a := ⟨_, 5, none⟩) le _).setNew (a := ⟨_, 6, none⟩) le _).setNew (a := ⟨_, 7, none⟩) le _).setNew (a := ⟨_, 8, none⟩) le _).setNew (a := ⟨_, 9, none⟩) le _)
theorem Ext.new10 {x w : World} {b : Nat} (h : Ext x w) (le : x.heap.size ≤ b) (v0 v1 v2 v3 v4 v5 v6 v7 v8 v9 : Value) : Ext x ((((((((((w.setCell ⟨b, 0, none⟩ v0).setCell ⟨b, 1, none⟩ v1).setCell ⟨b, 2, none⟩ v2).setCell ⟨b, 3, none⟩ v3).setCell ⟨b, 4, none⟩ v4).setCell ⟨b, 5, none⟩ v5).setCell ⟨b, 6, none⟩ v6).setCell ⟨b, 7, none⟩ v7).setCell ⟨b, 8, none⟩ v8).setCell ⟨b, 9, none⟩ v9) := ((((((((((h.set le _ _).set le _ _).set le _ _).set le _ _).set le _ _).set le _ _).set le _ _).set le _ _).set le _ _).set le _ _)

set_option maxHeartbeats 1000000 in
set_option maxRecDepth 100000 in
theorem charge_key (t : Nat) (k p : ByteArray) (e b rk n : Int) (w : World) (hk : k.size ≤ maxLen) (H : Hid (keyOk k = false)) :
    Calls Tryz.prog 54 #[.pointer (some ⟨t, 0, none⟩), .string k, .agg #[.string p, .int .u64 e, .int .u64 b, .int .u8 rk], .int .u64 n] w fun x w' => x = .returned (ansV 5 12 0 0 0 0 0 false) ∧ Ext w w' := by
  go_enter Tryz.func54, Tryz.ntmps54
  go_wp2_with fail
  refine (key_Right k _ hk).mono ?_
  rw [H.out]
  rintro x w1 ⟨rfl, hx⟩
  have bz := (Blk.new' (w.alloc (.cells #[.string p, .int .u64 e, .int .u64 b, .int .u8 rk] 37)) (ansC 0 0 0 0 0 0 0 false) 66 (b := w.heap.size + 1) (by simp)).ext hx
  have hxw := (((Ext.refl w).alloc (.cells #[.string p, .int .u64 e, .int .u64 b, .int .u8 rk] 37)).alloc (.cells (ansC 0 0 0 0 0 0 0 false) 66)).trans hx
  simp only [ansC] at bz
  have hfz := bz.free
  have hcz := bz.cell
  go_wp2
  have hS := bz.set10 (.int .u8 5) (.int .u16 12) (.int .u64 0) (.int .u64 0) (.int .u64 0) (.int .u64 0) (.int .u64 0) (.bool false) (.int .i64 0) (.slice none 0 0)
  refine ret_cell Tryz.results54 rfl hS Tryz.underlying66 rfl (by kernel_rfl) ⟨rfl, ?_⟩
  exact hxw.new10 (by omega) _ _ _ _ _ _ _ _ _ _ 
end Go.Proofs.YtknlojlcahgnoaaGreat

namespace Go.Proofs.YtknlojlcahgnoaaGreat
open Go.RowKit
set_option linter.unusedVariables false
set_option linter.unusedSimpArgs false

set_option maxHeartbeats 1000000 in
set_option maxRecDepth 100000 in
theorem charge_rule (t : Nat) (k p : ByteArray) (e b rk n er : Int) (w : World) (hk : k.size ≤ maxLen) (H : Hid (keyOk k = true)) (hp : p.size ≤ maxLen) (he0 : 0 ≤ e) (he1 : e < 18446744073709551616) (hb0 : 0 ≤ b) (hb1 : b < 18446744073709551616)
    (HR : Hid (ruleErr p e b rk = er)) (hne : (er != 0) = true) :
    Calls Tryz.prog 54 #[.pointer (some ⟨t, 0, none⟩), .string k, .agg #[.string p, .int .u64 e, .int .u64 b, .int .u8 rk], .int .u64 n] w fun x w' => x = .returned (ansV 5 er 0 0 0 0 0 false) ∧ Ext w w' := by
  have br := (Blk.new w #[.string p, .int .u64 e, .int .u64 b, .int .u8 rk] 37).alloc (.cells (ansC 0 0 0 0 0 0 0 false) 66)
  go_enter Tryz.func54, Tryz.ntmps54
  go_wp2_with fail
  refine (key_Right k _ hk).mono ?_
  rw [H.out]
  rintro x w1 ⟨rfl, hx⟩
  have br1 := br.ext hx
  have hcr := br1.cell
  go_wp2_with fail
  refine (rule_Right p e b rk _ hp he0 he1 hb0 hb1).mono ?_
  rw [HR.out]
  rintro x w2 ⟨rfl, hx2⟩
  have bz := ((Blk.new' (w.alloc (.cells #[.string p, .int .u64 e, .int .u64 b, .int .u8 rk] 37)) (ansC 0 0 0 0 0 0 0 false) 66 (b := w.heap.size + 1) (by simp)).ext hx).ext hx2
  have hxw := ((((Ext.refl w).alloc (.cells #[.string p, .int .u64 e, .int .u64 b, .int .u8 rk] 37)).alloc (.cells (ansC 0 0 0 0 0 0 0 false) 66)).trans hx).trans hx2
  simp only [ansC] at bz
  clear hcr
  have hfz := bz.free
  have hcz := bz.cell
  go_wp2
  have hS := bz.set10 (.int .u8 5) (.int .u16 er) (.int .u64 0) (.int .u64 0) (.int .u64 0) (.int .u64 0) (.int .u64 0) (.bool false) (.int .i64 0) (.slice none 0 0)
  refine ret_cell Tryz.results54 rfl hS Tryz.underlying66 rfl (by kernel_rfl) ⟨rfl, ?_⟩
  exact hxw.new10 (by omega) _ _ _ _ _ _ _ _ _ _ 
end Go.Proofs.YtknlojlcahgnoaaGreat

namespace Go.Proofs.YtknlojlcahgnoaaGreat
open Go.RowKit
set_option linter.unusedVariables false
set_option linter.unusedSimpArgs false

set_option maxHeartbeats 1000000 in
set_option maxRecDepth 100000 in
theorem ref14_Answers_yes (code err limit left reset aft nan : Int) (ret : Bool) (w : World) :
    Calls Tryz.prog 34 #[.agg #[.int .u8 code, .int .u16 err, .int .u64 limit, .int .u64 left, .int .u64 reset, .int .u64 aft, .int .u64 nan, .bool ret, .int .i64 0, .slice none 0 0], .agg #[.int .u8 code, .int .u16 err, .int .u64 limit, .int .u64 left, .int .u64 reset, .int .u64 aft, .int .u64 nan, .bool ret, .int .i64 0, .slice none 0 0]] w fun x w' => x = .returned (.bool true) ∧ Ext w w' := by
  have hcv : ∀ W : World, (convert 22 9 (.slice none 0 0)).run Tryz.prog W = .ok (.string ⟨#[]⟩) W := fun W => by kernel_rfl
  go_enter Tryz.func34, Tryz.ntmps34
  go_wp2
  go_ret
  exact ⟨rfl, ((Ext.refl w).alloc _).alloc _⟩
end Go.Proofs.YtknlojlcahgnoaaGreat
