/- Walks: tollerref09.Common, Less. -/
import Derived.Test.YtnlmbmbalmkiiaaGreatKey
import Derived.Test.YtnlmbmbalmkiiaaGreatDigPlain
import Derived.Test.YtnlmbmbalmkiiaaGreatSMap
import Derived.BigQuiet
import Derived.Deep.DeepCutAuto
import Derived.Deep.CutRange
namespace Go.Proofs.YtnlmbmbalmkiiaaGreat
open Go.RowKit
set_option linter.unusedVariables false
set_option linter.unusedSimpArgs false

/-- how much two begin alike -/
def comm : List UInt8 → List UInt8 → Nat
  | x :: xs, y :: ys => if x = y then comm xs ys + 1 else 0
  | _, _ => 0
theorem comm_le : ∀ (a b : List UInt8), comm a b ≤ a.length ∧ comm a b ≤ b.length
  | [], _ => by simp [comm]
  | _ :: _, [] => by simp [comm]
  | x :: xs, y :: ys => by
    have := comm_le xs ys
    simp only [comm, List.length_cons]
    split <;> omega
theorem comm_step : ∀ (a b : List UInt8) (j : Nat) (ha : j < a.length) (hb : j < b.length), j ≤ comm a b → a[j] = b[j] → j + 1 ≤ comm a b
  | x :: xs, y :: ys, 0, ha, hb, h, e => by
    simp at e
    simp [comm, e]
  | x :: xs, y :: ys, j + 1, ha, hb, h, e => by
    by_cases hxy : x = y
    · simp only [comm, hxy, if_true] at h ⊢
      have := comm_step xs ys j (by simpa using ha) (by simpa using hb) (by omega) (by simpa using e)
      omega
    · simp [comm, hxy] at h
theorem comm_stop : ∀ (a b : List UInt8) (j : Nat) (ha : j < a.length) (hb : j < b.length), j ≤ comm a b → a[j] ≠ b[j] → comm a b = j
  | x :: xs, y :: ys, 0, ha, hb, h, e => by
    simp at e
    simp [comm, e]
  | x :: xs, y :: ys, j + 1, ha, hb, h, e => by
    by_cases hxy : x = y
    · simp only [comm, hxy, if_true] at h ⊢
      have := comm_stop xs ys j (by simpa using ha) (by simpa using hb) (by omega) (by simpa using e)
      omega
    · simp [comm, hxy] at h
theorem comm_end (a b : List UInt8) (h : comm a b = a.length ∨ comm a b = b.length) : a < b ↔ a.length < b.length := by
  induction a generalizing b with
  | nil =>
    cases b with
    | nil => simp [List.lt_irrefl]
    | cons y ys => simp
  | cons x xs ih =>
    cases b with
    | nil => simp
    | cons y ys =>
      by_cases hxy : x = y
      · subst hxy
        simp only [comm, if_true, List.length_cons] at h
        rw [List.cons_lt_cons_iff]
        have := ih ys (by omega)
        simp [this]
      · simp [comm, hxy] at h
theorem comm_at (a b : List UInt8) (ha : comm a b < a.length) (hb : comm a b < b.length) : a < b ↔ a[comm a b] < b[comm a b] := by
  induction a generalizing b with
  | nil => simp at ha
  | cons x xs ih =>
    cases b with
    | nil => simp at hb
    | cons y ys =>
      by_cases hxy : x = y
      · subst hxy
        simp only [comm, if_true, List.length_cons, Nat.add_lt_add_iff_right] at ha hb
        rw [List.cons_lt_cons_iff]
        have := ih ys ha hb
        simp [comm, this, UInt8.lt_irrefl]
      · rw [List.cons_lt_cons_iff]
        simp [comm, hxy]

set_option maxHeartbeats 1000000 in
set_option maxRecDepth 100000 in
theorem ref09_Common (s t : ByteArray) (w : World) (hs : s.size ≤ maxLen) (ht : t.size ≤ maxLen) :
    Calls Tryz.prog 100 #[.string s, .string t] w fun e w' => e = .returned (.int .i64 (comm s.data.toList t.data.toList)) ∧ Ext w w' := by
  have hc := comm_le s.data.toList t.data.toList
  rw [data_len, data_len] at hc
  unfold maxLen at hs ht
  go_enter Tryz.func100, Tryz.ntmps100
  go_wp2
  go_loopw [5] (fun i wr => ∃ k : Nat, k ≤ comm s.data.toList t.data.toList ∧ i = .int .i64 k ∧ Ext w wr) (fun i _ => s.size - (intOf i).toNat)
  case atStart => exact ⟨0, by omega, rfl, Ext.refl _⟩
  case round =>
    obtain ⟨k, hk, rfl, hx⟩ := hrel
    have HK := Lib.hid hk
    have HX := Lib.hid hx
    by_cases h1 : k < s.size
    · by_cases h2 : k < t.size
      · have k1 : k < s.data.toList.length := by rw [data_len]; exact h1
        have k2 : k < t.data.toList.length := by rw [data_len]; exact h2
        have H1 := Lib.hid (data_get s k h1)
        have H2 := Lib.hid (data_get t k h2)
        cases h3 : decide (s[k] = t[k]) with
        | true =>
          have h3' := of_decide_eq_true h3
          have hst := comm_step _ _ k k1 k2 hk (by rw [H1.out, H2.out]; exact h3')
          have HST := Lib.hid hst
          have h4 : ((s[k].toNat : Int) == (t[k].toNat : Int)) = true := by rw [h3']; simp
          have d1 : decide ((k : Int) < s.size) = true := by simp; omega
          have d2 : decide ((k : Int) < t.size) = true := by simp; omega
          clear hc hk hst
          go_upto_region 2 with fail
          go_quiet (fail)
          go_wp2
          go_roundw
          case rel => exact ⟨k + 1, HST.out, by go_num, HX.out.trans (Ext.drewNs _ _)⟩
          case measure => simp [intOf]; omega
        | false =>
          have h3' := of_decide_eq_false h3
          have hst := comm_stop _ _ k k1 k2 hk (by rw [H1.out, H2.out]; exact h3')
          have HST := Lib.hid hst
          have h4 : ((s[k].toNat : Int) == (t[k].toNat : Int)) = false := by
            rw [beq_eq_false_iff_ne]
            intro e
            exact h3' (UInt8.toNat_inj.1 (by omega))
          clear hc hk hst
          go_upto_region 2 with fail
          go_quiet (fail)
          go_wp2
          go_ret
          exact ⟨ret_int (by rw [HST.out]), HX.out.trans (Ext.drewNs _ _)⟩
      · have hst : comm s.data.toList t.data.toList = k := by omega
        have HST := Lib.hid hst
        have d2 : decide ((k : Int) < t.size) = false := by simp; omega
        clear hc hk hst
        go_upto_region 2 with fail
        go_quiet (fail)
        go_wp2
        go_ret
        exact ⟨ret_int (by rw [HST.out]), HX.out.trans (Ext.drewNs _ _)⟩
    · have hst : comm s.data.toList t.data.toList = k := by omega
      have HST := Lib.hid hst
      have d1 : decide ((k : Int) < s.size) = false := by simp; omega
      clear hc hk hst
      go_upto_region 2 with fail
      go_quiet (fail)
      go_wp2
      go_ret
      exact ⟨ret_int (by rw [HST.out]), HX.out.trans (Ext.drewNs _ _)⟩

theorem toListB (a b : ByteArray) : (a.toList == b.toList) = decide (a = b) := by
  rw [Bool.eq_iff_iff, beq_iff_eq, decide_eq_true_iff]
  constructor
  · intro h
    rw [ByteArray.toList_eq, ByteArray.toList_eq] at h
    exact ByteArray.ext (Array.toList_inj.1 h)
  · rintro rfl; rfl
def keyLt (s t : ByteArray) : Bool := decide (s.toList < t.toList)
set_option maxHeartbeats 1000000 in
set_option maxRecDepth 100000 in
theorem ref09_Less (s t : ByteArray) (w : World) (hs : s.size ≤ maxLen) (ht : t.size ≤ maxLen) :
    Calls Tryz.prog 64 #[.string s, .string t] w fun e w' => e = .returned (.bool (keyLt s t)) ∧ Ext w w' := by
  have hc := comm_le s.data.toList t.data.toList
  have hC := fun W : World => ref09_Common s t W hs ht
  have hend := comm_end s.data.toList t.data.toList
  have hat := comm_at s.data.toList t.data.toList
  generalize hcm : comm s.data.toList t.data.toList = m at *
  rw [data_len, data_len] at hc
  have HC := Lib.hid hC
  clear hC hcm
  rw [data_len, data_len] at hend
  unfold maxLen at hs ht
  by_cases h1 : m = s.size
  · have H := Lib.hid (show keyLt s t = decide (s.size < t.size) by unfold keyLt; rw [ByteArray.toList_eq, ByteArray.toList_eq]; exact decide_eq_decide.2 (hend (Or.inl h1)))
    subst h1
    clear hend hat
    have d1 : ((s.size : Int) == (s.size : Int)) = true := by simp
    go_enter Tryz.func64, Tryz.ntmps64
    go_wp2_with fail
    refine (HC.out _).mono ?_
    rintro x w1 ⟨rfl, hx⟩
    go_wp2
    all_goals
      go_ret
      exact ⟨ret_bool H.out.symm, hx⟩
  · have d1 : ((m : Int) == (s.size : Int)) = false := by simp; omega
    by_cases h2 : m = t.size
    · have H := Lib.hid (show keyLt s t = decide (s.size < t.size) by unfold keyLt; rw [ByteArray.toList_eq, ByteArray.toList_eq]; exact decide_eq_decide.2 (hend (Or.inr h2)))
      subst h2
      clear hend hat
      have d2 : ((t.size : Int) == (t.size : Int)) = true := by simp
      go_enter Tryz.func64, Tryz.ntmps64
      go_wp2_with fail
      refine (HC.out _).mono ?_
      rintro x w1 ⟨rfl, hx⟩
      go_wp2
      all_goals
        go_ret
        exact ⟨ret_bool H.out.symm, hx⟩
    · have d2 : ((m : Int) == (t.size : Int)) = false := by simp; omega
      have k1 : m < s.size := by omega
      have k2 : m < t.size := by omega
      have hat' := hat (by rw [data_len]; exact k1) (by rw [data_len]; exact k2)
      rw [data_get s m k1, data_get t m k2] at hat'
      have H := Lib.hid (show keyLt s t = decide (s[m].toNat < t[m].toNat) by
        unfold keyLt
        rw [ByteArray.toList_eq, ByteArray.toList_eq]
        exact decide_eq_decide.2 (hat'.trans UInt8.lt_iff_toNat_lt))
      clear hend hat hat'
      go_enter Tryz.func64, Tryz.ntmps64
      go_wp2_with fail
      refine (HC.out _).mono ?_
      rintro x w1 ⟨rfl, hx⟩
      go_upto_region 4 with fail
      go_quiet (fail)
      go_wp2
      all_goals
        go_ret
        exact ⟨ret_bool H.out.symm, hx.trans (Ext.drewNs _ _)⟩
end Go.Proofs.YtnlmbmbalmkiiaaGreat
