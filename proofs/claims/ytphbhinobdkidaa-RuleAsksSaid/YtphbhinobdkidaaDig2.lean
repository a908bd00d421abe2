/- Walks: digit.Print. -/
import Derived.Test.YtphbhinobdkidaaProg
import Derived.Test.YtphbhinobdkidaaDigPlain
namespace Go.Proofs.Ytphbhinobdkidaa
open Go.RowKit
set_option linter.unusedVariables false
set_option linter.unusedSimpArgs false

/-- the array of twenty bytes, its end filled -/
def digCells (a : Nat) (D : List UInt8) : Array Value := (List.replicate a (Value.int .u8 0) ++ D.map fun b => Value.int .u8 (b.toNat : Int)).toArray
theorem digCells_set (a : Nat) (D : List UInt8) (b : UInt8) (n : Int) (hn : n = (b.toNat : Int)) (h : 1 ≤ a) : (digCells a D).setIfInBounds (a - 1) (.int .u8 n) = digCells (a - 1) (b :: D) := by
  subst hn
  obtain ⟨j, rfl⟩ : ∃ j, a = j + 1 := ⟨a - 1, by omega⟩
  unfold digCells
  rw [Nat.add_sub_cancel]
  simp only [List.setIfInBounds_toArray]
  congr 1
  rw [List.replicate_succ']
  simp [List.set_append]
theorem digCells_at (a : Nat) (D : List UInt8) (h : 1 ≤ a) : (digCells a D)[a - 1]? = some (.int .u8 0) := by
  obtain ⟨j, rfl⟩ : ∃ j, a = j + 1 := ⟨a - 1, by omega⟩
  unfold digCells
  simp [List.getElem?_append]
theorem digCells_get (a : Nat) (D : List UInt8) (j : Nat) (h : j < D.length) : (digCells a D)[a + j]? = some (.int .u8 (D[j].toNat : Int)) := by
  unfold digCells
  simp [List.getElem?_append, h]

/-- at the label: a places are free; n is still to be written -/
def PrintJ (n0 : Nat) (B : Nat) (w : World) (a' : Act) (w' : World) : Prop :=
  ∃ (a n : Nat) (D : List UInt8) (i m : Int), i = a ∧ m = n ∧ m < 18446744073709551616 ∧ 1 ≤ a ∧ a + D.length = 20 ∧ n < 10 ^ a ∧ pdig n0 = pdig n ++ D ∧ Blk w' B (digCells a D) 87 ∧ Ext w w' ∧
    ∃ u1 u5 u6 u7 u8 u9 u10 u11 u12 u13 u14 u15 u16 u17 u18 u19 : Value, a' = { tmps := #[.int .u64 m, u1, .string ⟨#[]⟩, .pointer (some ⟨B, 0, none⟩), .int .i64 i, u5, u6, u7, u8, u9, u10, u11, u12, u13, u14, u15, u16, u17, u18, u19], defers := [] }

theorem dig_slice (B a : Nat) (ha : 1 ≤ a) (ha2 : a ≤ 20) (w : World) :
    (Instr.sliceAt 87 (.pointer (some ⟨B, 0, none⟩)) (some (.int .i64 ((a : Int) - 1))) none none).run Try.prog w = .ok (.slice (some ⟨B, a - 1, none⟩) (20 - (a - 1)) (20 - (a - 1))) w := by
  have hl : Try.prog.arrayLen 87 = 20 := by kernel_rfl
  have hz : (sizeOf (Try.prog.elem 87)).run Try.prog w = .ok 1 w := by kernel_rfl
  have e : ((a : Int) - 1).toNat = a - 1 := by omega
  rw [run_sliceAt_array_l w 87 ⟨B, 0, none⟩ (by kernel_rfl) .i64 ((a : Int) - 1) (by omega) (by rw [hl]; omega), hz, hl, e]
  simp only [Result.andThen, slicedAt]
  rw [if_neg (by omega)]
  have e : (⟨B, 0, none⟩ : Addr).add ((a - 1) * 1) = ⟨B, a - 1, none⟩ := by simp [Addr.add]; omega
  rw [e]
theorem dig_string (B a n : Nat) (D : List UInt8) (hn : D.length = n) (w : World) (hb : Blk w B (digCells a D) 87) :
    (convert 42 9 (.slice (some ⟨B, a, none⟩) n n)).run Try.prog w = .ok (.string ⟨D.toArray⟩) w := by
  subst hn
  refine run_convert_bytes_back w 42 9 5 ⟨B, a, none⟩ _ D Try.underlying42 Try.underlying5 Try.underlying9 ?_
  intro j hj
  have e : (⟨B, a, none⟩ : Addr).add j = ⟨B, a + j, none⟩ := by simp [Addr.add]
  rw [e, hb.cell, digCells_get a D j hj]

set_option maxHeartbeats 1000000 in
set_option maxRecDepth 100000 in
theorem digit_Print (n0 : Int) (w : World) (h0 : 0 ≤ n0) (h1 : n0 < 18446744073709551616) :
    Calls Try.prog 39 #[.int .u64 n0] w fun x w' => x = .returned (.string (digStr n0)) ∧ Ext w w' := by
  obtain ⟨N, rfl⟩ := Int.eq_ofNat_of_zero_le h0
  have HN := Lib.hid h1
  clear h1 h0
  go_enter Try.func39, Try.ntmps39
  go_wp2
  refine wp_scope_jumps2 0 (PrintJ N w.heap.size w) (fun a' _ => (intOf (a'.tmps.getD 4 undef)).toNat) rfl ?_ ?_
  · rintro a' w' ⟨a, n, D, i, m, rfl, hm, hm1, ha, hlen, hlt, hp, hb, hx, u1, u5, u6, u7, u8, u9, u10, u11, u12, u13, u14, u15, u16, u17, u18, u19, rfl⟩
    have hc : w'.cell? ⟨w.heap.size, a - 1, none⟩ = some (.int .u8 0) := (hb.cell _).trans (digCells_at a D ha)
    have hf := hb.free (a - 1)
    have ha2 : a ≤ 20 := by omega
    have hm0 : 0 ≤ m := by omega
    have hdig : 48 + m % 10 = ((UInt8.ofNat (48 + n % 10)).toNat : Int) := by
      simp
      omega
    have hstep' := pdig_step n D
    generalize UInt8.ofNat (48 + n % 10) = dg at *
    have hb' := hb.set (a - 1) (.int .u8 (48 + m % 10))
    rw [digCells_set a D _ _ hdig ha] at hb'
    have hn20 : n < 100000000000000000000 := by
      have := Nat.pow_le_pow_right (show 0 < 10 by omega) ha2
      omega
    have hstep := hstep' hn20
    rw [← hp] at hstep
    have hn10 : n / 10 < 10 ^ (a - 1) := by
      rw [Nat.div_lt_iff_lt_mul (by omega), ← Nat.pow_succ]
      have : (a - 1).succ = a := by omega
      rw [this]; exact hlt
    have hs := dig_slice w.heap.size a ha ha2
    have hlen' : (dg :: D).length = 20 - (a - 1) := by simp; omega
    have hcv := dig_string w.heap.size (a - 1) (20 - (a - 1)) _ hlen' _ hb'
    have hx' : Ext w (w'.setCell ⟨w.heap.size, a - 1, none⟩ (.int .u8 (48 + m % 10))) := hx.setCell (Nat.le_refl _) _
    have HP := Lib.hid hstep
    have HM := Lib.hid hm
    have HL := Lib.hid hlen'
    have H10 := Lib.hid hn10
    have HB := Lib.hid hb'
    have ha1 : (1 : Int) ≤ a := by omega
    clear hstep' hm hp hlen hlt hdig hn20 hstep hlen' hn10 hb' hb
    by_cases hz : 0 < m / 10
    · clear hcv hs
      go_wp2
      go_step3
      have ha0 : 2 ≤ a := by
        have h10 := H10.out
        have hmm := HM.out
        rcases (by omega : a = 1 ∨ 2 ≤ a) with e | e
        · subst e; simp at h10; omega
        · exact e
      refine ⟨rfl, ⟨a - 1, n / 10, _, (a : Int) - 1, m / 10, by omega, by have := HM.out; omega, by omega, by omega, by rw [HL.out]; omega, H10.out, ?_, HB.out, hx', _, _, _, _, _, _, _, _, _, _, _, _, _, _, _, _, rfl⟩, ?_⟩
      · rw [HP.out]
        unfold pcat
        rw [if_neg (by have := HM.out; omega)]
      · simp [intOf]; omega
    · go_wp2
      simp only [Exit.jump]
      go_ret
      refine ⟨ret_str ?_, hx'⟩
      unfold digStr
      rw [Int.toNat_natCast, HP.out]
      unfold pcat
      rw [if_pos (by have := HM.out; omega)]
  · intro hp
    go_wp2
    go_step3
    go_step
    go_step
    refine hp _ _ ⟨20, N, [], 20, N, rfl, rfl, HN.out, by omega, rfl, ?_, by simp, ?_, (by repeat (first | with_reducible exact Ext.refl _ | with_reducible assumption | with_reducible refine Ext.alloc ?_ _ | with_reducible refine Ext.drew ?_ | with_reducible refine Ext.trans ?_ (by with_reducible assumption))), _, _, _, _, _, _, _, _, _, _, _, _, _, _, _, _, rfl⟩
    · have := HN.out; omega
    · exact Blk.new _ _ _
end Go.Proofs.Ytphbhinobdkidaa
