/- Walks: package key; the reference 09. -/
import Derived.Test.YtnlmbmbalmkiiaaGreatProg
import Derived.Test.YtnlmbmbalmkiiaaGreatDigPlain
namespace Go.Proofs.YtnlmbmbalmkiiaaGreat
open Go.RowKit
set_option linter.unusedVariables false
set_option linter.unusedSimpArgs false

/-- a byte that no key has -/
def badB (n : Int) : Bool := decide (n < 33) || decide (126 < n)

theorem key_bad (n : Int) (w : World) :
    Calls Tryz.prog 68 #[.int .u8 n] w fun e w' => e = .returned (.bool (badB n)) ∧ w = w' := by
  by_cases h : n < 33
  · have H := Lib.hid (show badB n = true by simp [badB, h])
    go_enter Tryz.func68, Tryz.ntmps68
    go_wp2
    go_ret
    exact ⟨ret_bool H.out.symm, rfl⟩
  · have H := Lib.hid (show badB n = decide (126 < n) by simp [badB, h])
    go_enter Tryz.func68, Tryz.ntmps68
    go_wp2
    go_ret
    exact ⟨ret_bool H.out.symm, rfl⟩

/-- no bad byte -/
def noBad (l : List UInt8) : Bool := l.all fun b => !badB b.toNat
theorem noBad_take {l : List UInt8} {k : Nat} (h : k < l.length) (hk : noBad (l.take k) = true) (hb : badB (l[k].toNat : Int) = false) : noBad (l.take (k + 1)) = true := by
  unfold noBad at *
  rw [List.take_succ_eq_append_getElem h, List.all_append, hk]
  simp [hb]
theorem noBad_bad {l : List UInt8} {k : Nat} (h : k < l.length) (hb : badB (l[k].toNat : Int) = true) : noBad l = false := by
  unfold noBad
  rw [List.all_eq_false]
  exact ⟨l[k], List.getElem_mem h, by simp [hb]⟩
def IdxPost (l : List UInt8) (e : Ending) : Prop := ∃ r : Int, e = .returned (.int .i64 r) ∧ decide (0 ≤ r) = !noBad l

theorem key_index (b o c : Nat) (l : List UInt8) (w : World) (hlen : l.length ≤ maxLen) (hc : ∀ j (h : j < l.length), w.cell? ⟨b, o + j, none⟩ = some (.int .u8 (l[j].toNat : Int))) :
    Calls Tryz.prog 102 #[.slice (some ⟨b, o, none⟩) l.length c, .func (.func 68) #[] #[]] w fun e w' => IdxPost l e ∧ w = w' := by
  unfold maxLen at hlen
  have HC := Lib.hid hc
  clear hc
  go_enter Tryz.func102, Tryz.ntmps102
  go_wp2
  go_loop [5, 8] (fun x i => ∃ k : Nat, k ≤ l.length ∧ i = .int .i64 k ∧ noBad (l.take k) = true) (fun _ i => l.length - (intOf i).toNat)
  case atStart => exact ⟨0, by omega, rfl, rfl⟩
  case round =>
    obtain ⟨k, hk, rfl, R⟩ := hrel
    have HR := Lib.hid R
    clear R
    by_cases hlt : k < l.length
    · have hcell := HC.out k hlt
      cases hb : badB (l[k].toNat : Int)
      · have HB := Lib.hid hb
        clear hb
        go_wp2_with (go_at_call 68; refine (key_bad _ _).mono ?_; rw [HB.out]; rintro e w' ⟨rfl, rfl⟩)
        go_round
        case rel => exact ⟨k + 1, by omega, by go_num, noBad_take hlt HR.out HB.out⟩
        case measure => simp [intOf]; omega
      · have HB := Lib.hid hb
        clear hb
        go_wp2_with (go_at_call 68; refine (key_bad _ _).mono ?_; rw [HB.out]; rintro e w' ⟨rfl, rfl⟩)
        go_ret
        exact ⟨⟨_, rfl, by rw [noBad_bad hlt HB.out]; simp⟩, rfl⟩
    · go_wp2
      go_ret
      exact ⟨⟨_, rfl, by
        have e := HR.out
        rw [List.take_of_length_le (by omega)] at e
        rw [e]; rfl⟩, rfl⟩

theorem key_contains (b o c n : Nat) (l : List UInt8) (w : World) (hn : l.length = n) (hlen : n ≤ maxLen) (hc : ∀ j (h : j < l.length), w.cell? ⟨b, o + j, none⟩ = some (.int .u8 (l[j].toNat : Int))) :
    Calls Tryz.prog 69 #[.slice (some ⟨b, o, none⟩) n c, .func (.func 68) #[] #[]] w fun e w' => e = .returned (.bool !noBad l) ∧ w = w' := by
  subst hn
  have HC := Lib.hid hc
  clear hc
  go_enter Tryz.func69, Tryz.ntmps69
  go_wp2_with fail
  refine (key_index b o c l w hlen HC.out).mono ?_
  rintro e w' ⟨⟨r, rfl, hr⟩, rfl⟩
  have HRr := Lib.hid hr
  clear hr
  go_wp2
  go_ret
  exact ⟨ret_bool HRr.out, rfl⟩

/-- may it be a key? -/
def keyOk (s : ByteArray) : Bool := decide (0 < s.size) && decide (s.size ≤ 128) && noBad s.data.toList

set_option maxHeartbeats 400000 in
set_option maxRecDepth 100000 in
theorem key_Right (s : ByteArray) (w : World) (hm : s.size ≤ maxLen) :
    Calls Tryz.prog 27 #[.string s] w fun e w' => e = .returned (.bool (keyOk s)) ∧ Ext w w' := by
  by_cases h1 : s.size = 0
  · have H := Lib.hid (show keyOk s = false by simp [keyOk, h1])
    have h1' : decide (0 < s.size) = false := by simp [h1]
    go_enter Tryz.func27, Tryz.ntmps27
    go_wp2_with fail
    go_ret
    exact ⟨ret_bool H.out.symm, (by repeat (first | with_reducible exact Ext.refl _ | with_reducible assumption | with_reducible refine Ext.alloc ?_ _ | with_reducible refine Ext.drew ?_ | (with_reducible refine Ext.setCell ?_ (by first | exact Nat.le_refl _ | (dsimp only; omega) | (simp; done) | (simp; omega)) _) | with_reducible refine Ext.trans ?_ (by with_reducible assumption)))⟩
  by_cases h2 : s.size ≤ 128
  · have H := Lib.hid (show keyOk s = noBad s.data.toList by simp [keyOk, h2]; omega)
    have h1' : decide (0 < s.size) = true := by simp; omega
    have h2' : decide (s.size ≤ 128) = true := by simp; omega
    obtain ⟨c, w1, hrun, hext, hsz, hcap, hcells⟩ := conv_bytes (P := Tryz.prog) w 9 34 5 s Tryz.underlying9 Tryz.underlying34 Tryz.underlying5
    have HC := Lib.hid hcells
    clear hcells hsz
    have hlen : s.data.toList.length = s.size := Array.length_toList
    have HL := Lib.hid hlen
    clear hlen
    go_enter Tryz.func27, Tryz.ntmps27
    go_wp2_with fail
    refine (key_contains _ _ _ _ _ _ HL.out hm HC.out).mono ?_
    rintro e w' ⟨rfl, rfl⟩
    go_wp2
    go_ret
    exact ⟨ret_bool (by rw [H.out]), (by repeat (first | with_reducible exact Ext.refl _ | with_reducible assumption | with_reducible refine Ext.alloc ?_ _ | with_reducible refine Ext.drew ?_ | (with_reducible refine Ext.setCell ?_ (by first | exact Nat.le_refl _ | (dsimp only; omega) | (simp; done) | (simp; omega)) _) | with_reducible refine Ext.trans ?_ (by with_reducible assumption)))⟩
  · have H := Lib.hid (show keyOk s = false by simp [keyOk, h2])
    have h1' : decide (0 < s.size) = true := by simp; omega
    have h2' : decide (s.size ≤ 128) = false := by simp; omega
    go_enter Tryz.func27, Tryz.ntmps27
    go_wp2_with fail
    go_ret
    exact ⟨ret_bool H.out.symm, (by repeat (first | with_reducible exact Ext.refl _ | with_reducible assumption | with_reducible refine Ext.alloc ?_ _ | with_reducible refine Ext.drew ?_ | (with_reducible refine Ext.setCell ?_ (by first | exact Nat.le_refl _ | (dsimp only; omega) | (simp; done) | (simp; omega)) _) | with_reducible refine Ext.trans ?_ (by with_reducible assumption)))⟩

theorem badB_yes {n : Int} (h : n < 33 ∨ 126 < n) : badB n = true := by simp [badB, h]
theorem badB_no {n : Int} (h : ¬ (n < 33 ∨ 126 < n)) : badB n = false := by simp [badB]; omega
set_option maxHeartbeats 400000 in
set_option maxRecDepth 100000 in
theorem ref09_Right (s : ByteArray) (w : World) (hm : s.size ≤ maxLen) :
    Calls Tryz.prog 61 #[.string s] w fun e w' => e = .returned (.bool (keyOk s)) ∧ w = w' := by
  by_cases h1 : s.size = 0
  · have H := Lib.hid (show keyOk s = false by simp [keyOk, h1])
    have h1' : (s.size : Int) < 1 := by omega
    go_enter Tryz.func61, Tryz.ntmps61
    go_wp2
    go_ret
    exact ⟨ret_bool H.out.symm, rfl⟩
  by_cases h2 : s.size ≤ 128
  · have H := Lib.hid (show keyOk s = noBad s.data.toList by simp [keyOk, h2]; omega)
    have h1' : ¬ (s.size : Int) < 1 := by omega
    have h2' : ¬ (128 : Int) < s.size := by omega
    go_enter Tryz.func61, Tryz.ntmps61
    go_wp2
    go_loop [3] (fun i => ∃ k : Nat, k ≤ s.size ∧ i = .int .i64 k ∧ noBad (s.data.toList.take k) = true) (fun i => s.size - (intOf i).toNat)
    case atStart => exact ⟨0, by omega, rfl, rfl⟩
    case round =>
      obtain ⟨k, hk, rfl, R⟩ := hrel
      have HR := Lib.hid R
      clear R
      by_cases hlt : k < s.size
      · have hlt' : k < s.data.toList.length := by rw [data_len]; exact hlt
        have HE := Lib.hid (data_get s k hlt)
        go_wp2
        all_goals first
          | (go_ret
             exact ⟨ret_bool (by rw [H.out, noBad_bad hlt' (by rw [HE.out]; exact badB_yes (by omega))]), rfl⟩)
          | (go_round
             case rel => exact ⟨k + 1, by omega, by go_num, noBad_take hlt' HR.out (by rw [HE.out]; exact badB_no (by omega))⟩
             case measure => simp [intOf]; omega)
      · go_wp2
        go_ret
        exact ⟨ret_bool (by
          have e := HR.out
          rw [List.take_of_length_le (by rw [data_len]; omega)] at e
          rw [H.out, e]), rfl⟩
  · have H := Lib.hid (show keyOk s = false by simp [keyOk, h2])
    have h1' : ¬ (s.size : Int) < 1 := by omega
    have h2' : (128 : Int) < s.size := by omega
    go_enter Tryz.func61, Tryz.ntmps61
    go_wp2
    go_ret
    exact ⟨ret_bool H.out.symm, rfl⟩
end Go.Proofs.YtnlmbmbalmkiiaaGreat
