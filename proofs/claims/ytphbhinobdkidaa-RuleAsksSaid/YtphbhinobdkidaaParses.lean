/- Walks: tollerlaw11.parses. -/
import Derived.Test.YtphbhinobdkidaaOwn2
import Derived.Test.YtphbhinobdkidaaRef11Q
namespace Go.Proofs.Ytphbhinobdkidaa
open Go.RowKit
set_option linter.unusedVariables false
set_option linter.unusedSimpArgs false

theorem numErr_range (s : ByteArray) (q : Int) (h0 : 0 ≤ q) (h1 : q < 30) : 0 ≤ numErr s q ∧ numErr s q < 30 := by
  unfold numErr digErr
  repeat' split
  all_goals omega
theorem burstErr_range (e : Int) (s : ByteArray) : 0 ≤ burstErr e s ∧ burstErr e s < 30 := by
  have := numErr_range s 25 (by omega) (by omega)
  unfold burstErr
  split <;> omega
theorem kindErr_range (k : Int) : 0 ≤ kindErr k ∧ kindErr k < 30 := by unfold kindErr; split <;> omega
theorem prefErr_range (s : ByteArray) : 0 ≤ prefErr s ∧ prefErr s < 30 := by unfold prefErr; split <;> omega
theorem parse3_range (a b c : ByteArray) : 0 ≤ (parse3 a b c).err ∧ (parse3 a b c).err < 30 := by
  unfold parse3
  split
  · exact numErr_range a 24 (by omega) (by omega)
  split
  · exact burstErr_range _ _
  split
  · exact kindErr_range _
  · exact ⟨Int.le_refl 0, show (0 : Int) < 30 by decide⟩
theorem parse4_range (a b c d : ByteArray) : 0 ≤ (parse4 a b c d).err ∧ (parse4 a b c d).err < 30 := by
  unfold parse4
  split
  · exact prefErr_range _
  split
  · exact numErr_range b 24 (by omega) (by omega)
  split
  · exact burstErr_range _ _
  split
  · exact kindErr_range _
  · exact ⟨Int.le_refl 0, show (0 : Int) < 30 by decide⟩
theorem pbad_range : 0 ≤ (pbad 22 0).err ∧ (pbad 22 0).err < 30 := ⟨show (0 : Int) ≤ 22 by decide, show (22 : Int) < 30 by decide⟩
theorem err_range (l : List ByteArray) : 0 ≤ (ruleParse l).err ∧ (ruleParse l).err < 30 := by
  match l with
  | [] => exact pbad_range
  | s :: r =>
    rw [ruleParse_cons]
    split
    · by_cases hr : r.length = 3
      · match r, hr with
        | [a, b, c], _ => exact parse3_range a b c
      · rw [parseD_len r hr]; exact pbad_range
    split
    · by_cases hr : r.length = 4
      · match r, hr with
        | [a, b, c, d], _ => exact parse4_range a b c d
      · rw [parseR_len r hr]; exact pbad_range
    · exact pbad_range

set_option maxHeartbeats 4000000 in
set_option maxRecDepth 100000 in
theorem law11_parses (v : Value) (l : List ByteArray) (w : World) (h : StrSlice w v l) :
    Calls Try.prog 21 #[v] w fun x w' => x = .returned (.bool true) ∧ Ext w w' := by
  have hb := err_range l
  generalize hR : ruleParse l = r at *
  obtain ⟨hb0, hb1⟩ := hb
  have hw : wrap64 r.err = r.err := by unfold wrap64; omega
  have HR := Lib.hid hR
  have HS := Lib.hid h
  clear hR h
  go_enter Try.func21, Try.ntmps21
  go_wp2_with fail
  refine (rule_Parse v l _ HS.out).mono ?_
  rw [HR.out]
  rintro x w1 ⟨rfl, hx1⟩
  simp only [PRes.v, parseRet]
  go_wp2_with fail
  refine (ref11_Parse v l _ (HS.out.ext (hx1.alloc _))).mono ?_
  rw [HR.out]
  rintro x w2 ⟨rfl, hx2⟩
  have B := (Blk.new w1 #[.string r.p, .int .u64 r.e, .int .u64 r.b, .int .u8 r.k] 25).ext hx2
  have s0 : w2.cell? ⟨w1.heap.size, 0, none⟩ = some (.string r.p) := B.cell 0
  have s1 : w2.cell? ⟨w1.heap.size, 1, none⟩ = some (.int .u64 r.e) := B.cell 1
  have s2 : w2.cell? ⟨w1.heap.size, 2, none⟩ = some (.int .u64 r.b) := B.cell 2
  have s3 : w2.cell? ⟨w1.heap.size, 3, none⟩ = some (.int .u8 r.k) := B.cell 3
  have hlt := B.lt
  simp only [PRes.r, refRet]
  go_wp2
  go_ret
  exact ⟨rfl, (by repeat (first | with_reducible exact Ext.refl _ | with_reducible assumption | with_reducible refine Ext.alloc ?_ _ | with_reducible refine Ext.drew ?_ | with_reducible refine Ext.trans ?_ (by with_reducible assumption)))⟩
end Go.Proofs.Ytphbhinobdkidaa
