/- Walks: tollerlaw14.Name, holds; Active. -/
import Derived.Test.YtnlmbmbalmkiiaaMost
import Derived.Test.YtnlmbmbalmkiiaaKeyOk
import Derived.Test.YtnlmbmbalmkiiaaDeeds
import Derived.Deep.QuietTactic
import Derived.BigQuiet
namespace Go.Proofs.Ytnlmbmbalmkiiaa
open Go.RowKit
set_option linter.unusedVariables false
set_option linter.unusedSimpArgs false

def nameOf (d : Deed) : ByteArray := if 240 ≤ d.kind then ⟨#[]⟩ else if 2 < (keyText d.key).size ∧ d.kind < 200 then first1 (keyText d.key) else keyText d.key
theorem nameOf_ok (d : Deed) : (nameOf d = ⟨#[]⟩ ∨ keyOk (nameOf d) = true) ∧ (nameOf d).size ≤ 12 := by
  have h := keyText_ok d.key
  have h1 := first1_ok h.1
  unfold nameOf
  split
  · exact ⟨Or.inl rfl, by decide⟩
  · split
    · exact ⟨Or.inr h1.1, by omega⟩
    · exact ⟨Or.inr h.1, h.2⟩

set_option maxHeartbeats 1000000 in
set_option maxRecDepth 100000 in
theorem law14_Name (d : Deed) (w : World) (hd : DeedOk w d) :
    Calls Try.prog 17 #[.agg #[.int .u8 d.kind, .int .u32 d.wait, .int .u8 d.big, d.keyv, .int .u8 d.rule, .int .u16 d.n, .int .u8 d.to]] w fun x w' => x = .returned (.string (nameOf d)) ∧ Ext w w' := by
  have hk0 := hd.k0
  have hk1 := hd.k1
  have HK := Lib.hid hd.key
  have hkt := keyText_ok d.key
  have hksz : 1 ≤ (keyText d.key).size := by have := hkt.1; unfold keyOk at this; simp at this; omega
  have hks := hkt.2
  have hN : Hid (nameOf d = if 240 ≤ d.kind then ⟨#[]⟩ else if 2 < (keyText d.key).size ∧ d.kind < 200 then (keyText d.key).extract 0 1 else keyText d.key) := Lib.hid rfl
  generalize nameOf d = N at *
  generalize hkx : keyText d.key = kx at *
  have HKX := Lib.hid hkx
  have HW := Lib.hid (fun W (hx : Ext w W) => law09_Key d.keyv d.key W (HK.out.ext hx))
  clear hd hkt hkx
  generalize d.kind = dk at *
  generalize d.wait = dw at *
  generalize d.big = db at *
  generalize d.keyv = dkv at *
  generalize d.key = dkl at *
  generalize d.rule = dr at *
  generalize d.n = dn at *
  generalize d.to = dt at *
  have hx0 := (Ext.refl w).alloc (.cells #[.int .u8 dk, .int .u32 dw, .int .u8 db, dkv, .int .u8 dr, .int .u16 dn, .int .u8 dt] 40)
  have bq := Blk.new w #[.int .u8 dk, .int .u32 dw, .int .u8 db, dkv, .int .u8 dr, .int .u16 dn, .int .u8 dt] 40
  by_cases h1 : 240 ≤ dk
  · go_enter Try.func17, Try.ntmps17
    go_wp2
    go_ret
    exact ⟨ret_str (by rw [hN.out, if_pos h1]), hx0⟩
  · go_enter Try.func17, Try.ntmps17
    go_wp2_with fail
    refine (HW.out _ hx0).mono ?_
    rw [HKX.out]
    rintro x w1 ⟨rfl, hx1⟩
    have c0 : w1.cell? ⟨w.heap.size, 0, none⟩ = some (.int .u8 dk) := (bq.ext hx1).cell 0
    by_cases h2 : 2 < kx.size
    · by_cases h3 : dk < 200
      · go_wp2
        go_ret
        exact ⟨ret_str (by rw [hN.out, if_neg (by omega), if_pos (by omega)]), hx0.trans hx1⟩
      · go_wp2
        go_ret
        exact ⟨ret_str (by rw [hN.out, if_neg (by omega), if_neg (by omega)]), hx0.trans hx1⟩
    · go_wp2
      go_ret
      exact ⟨ret_str (by rw [hN.out, if_neg (by omega), if_neg (by omega)]), hx0.trans hx1⟩

theorem toList_beq (a b : ByteArray) : (a.toList == b.toList) = decide (a = b) := by
  rw [Bool.eq_iff_iff, beq_iff_eq, decide_eq_true_iff]
  constructor
  · intro h
    rw [ByteArray.toList_eq, ByteArray.toList_eq] at h
    exact ByteArray.ext (Array.toList_inj.1 h)
  · rintro rfl; rfl
/-- a slot's cells, where a walk looks for them -/
theorem slot_cells {base : Nat} {w w' : World} {a : Option Addr} {n c : Nat} {l : List Slot} (h : SlotSlice base w (.slice a n c) l) (e : Ext w w') (k : Nat) (hk : k < l.length) : ∃ b, a = some ⟨b, 0, none⟩ ∧ base ≤ b ∧ b < w.heap.size ∧ w'.cell? ⟨b, k * 8, none⟩ = some (.string l[k].key) ∧
    w'.cell? ⟨b, k * 8 + 2, none⟩ = some (.int .u64 l[k].e) ∧ w'.cell? ⟨b, k * 8 + 3, none⟩ = some (.int .u64 l[k].b) := by
  obtain ⟨a', c', hv, hf⟩ := h.form
  cases hv
  obtain ⟨b, h1, h2, h3, -⟩ := hf (fun q => by rw [q] at hk; simp at hk)
  have c0 : w.cell? ⟨b, k * 8, none⟩ = some (.string l[k].key) := h3 k hk 0 (by omega)
  exact ⟨b, h1, h2, cell_lt c0, e.keep c0, e.keep (h3 k hk 2 (by omega)), e.keep (h3 k hk 3 (by omega))⟩
theorem SlotSlice.size {base : Nat} {w : World} {v : Value} {l : List Slot} (h : SlotSlice base w v l) : ∃ a c, v = .slice a l.length c := by
  obtain ⟨a, c, hv, -⟩ := h.form
  exact ⟨a, c, hv⟩

set_option maxHeartbeats 1000000 in
set_option maxRecDepth 100000 in
theorem law14_holds (base : Nat) (v : Value) (l : List Slot) (k : ByteArray) (w : World) (hv : SlotSlice base w v l) (hl : l.length ≤ 1000000) :
    Calls Try.prog 20 #[v, .string k] w fun x w' => x = .returned (.bool (holdsK l k)) ∧ w' = w := by
  obtain ⟨a, c, rfl⟩ := hv.size
  have HV := Lib.hid hv
  clear hv
  generalize hR : holdsK l k = R
  have HR := Lib.hid hR
  clear hR
  go_enter Try.func20, Try.ntmps20
  go_wp2
  go_loop [5] (fun i => ∃ j : Nat, j ≤ l.length ∧ i = .int .i64 j ∧ holdsK (l.take j) k = false) (fun i => l.length - (intOf i).toNat)
  case atStart => exact ⟨0, by omega, rfl, by simp [holdsK]⟩
  case round =>
    obtain ⟨j, hj, rfl, hno⟩ := hrel
    by_cases hlt : j < l.length
    · obtain ⟨b, rfl, -, hbl, c0, -, -⟩ := slot_cells HV.out (Ext.refl w) j hlt
      have hstep : holdsK (l.take (j + 1)) k = (holdsK (l.take j) k || decide (l[j].key = k)) := by
        unfold holdsK
        rw [List.take_succ_eq_append_getElem hlt, List.any_append]
        simp
      have hin : decide (l[j].key = k) = true → holdsK l k = true := fun q => by
        unfold holdsK
        rw [List.any_eq_true]
        exact ⟨l[j], List.getElem_mem _, q⟩
      have heq : (l[j].key.toList == k.toList) = decide (l[j].key = k) := toList_beq l[j].key k
      generalize l[j].key = kj at *
      have HST := Lib.hid hstep
      have HIN := Lib.hid hin
      have HNO := Lib.hid hno
      clear hstep hin hno
      by_cases hq : kj = k
      · rw [decide_eq_true hq] at heq
        have hRt : R = true := by rw [← HR.out, HIN.out (decide_eq_true hq)]
        subst hRt
        go_wp2
        go_ret
        exact ⟨rfl, rfl⟩
      · rw [decide_eq_false hq] at heq
        have hnx : holdsK (l.take (j + 1)) k = false := by rw [HST.out, HNO.out, decide_eq_false hq]; rfl
        have HNX := Lib.hid hnx
        clear hnx
        go_wp2
        exact ⟨⟨j + 1, by omega, by simp, HNX.out⟩, by show l.length - (intOf (.int .i64 ((j : Int) + 1))).toNat < l.length - (intOf (.int .i64 (j : Int))).toNat; show l.length - ((j : Int) + 1).toNat < l.length - (j : Int).toNat; omega⟩
    · have hfin : R = false := by rw [← HR.out, ← hno, List.take_of_length_le (by omega)]
      subst hfin
      go_wp2
      go_ret
      exact ⟨rfl, rfl⟩

set_option maxHeartbeats 1000000 in
set_option maxRecDepth 100000 in
theorem table_Active (t mb c : Nat) (most clock : Int) (l : SMap) (w : World) (ht : TabAt w t mb most clock l c) (hok : TabOk l c) (hn0 : 0 ≤ clock) (hn1 : clock < 18446744073709551616) (hlen : l.length ≤ 1000000) :
    Calls Try.prog 19 #[.pointer (some ⟨t, 0, none⟩)] w fun e W' => e = .returned (.int .i64 ((slotsOf clock l).length : Int)) ∧ Ext w W' := by
  have HS := Lib.hid (table_Slots t mb c most clock l w ht hok hn0 hn1 hlen)
  clear ht hok
  go_enter Try.func19, Try.ntmps19
  go_wp2_with fail
  refine HS.out.mono ?_
  rintro x w1 ⟨v, rfl, hv, hx⟩
  obtain ⟨a, c', rfl⟩ := hv.size
  have hN : Hid ((slotsOf clock l).length = (slotsOf clock l).length) := Lib.hid rfl
  generalize hNN : (slotsOf clock l).length = N at *
  have hNH := Lib.hid hNN
  clear hv hNN hN
  go_wp2
  go_ret
  exact ⟨by rw [hNH.out]; rfl, hx⟩
end Go.Proofs.Ytnlmbmbalmkiiaa
