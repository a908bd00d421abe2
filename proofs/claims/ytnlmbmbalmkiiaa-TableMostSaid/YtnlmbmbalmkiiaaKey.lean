/- Walks: package key; the reference 09. -/
import Derived.Test.YtnlmbmbalmkiiaaProg
import Derived.Test.YtnlmbmbalmkiiaaDigPlain
namespace Go.Proofs.Ytnlmbmbalmkiiaa
open Go.RowKit
set_option linter.unusedVariables false
set_option linter.unusedSimpArgs false

/-- a byte that no key has -/
def badB (n : Int) : Bool := decide (n < 33) || decide (126 < n)

theorem key_bad (n : Int) (w : World) :
    Calls Try.prog 47 #[.int .u8 n] w fun e w' => e = .returned (.bool (badB n)) ∧ w = w' := by
  by_cases h : n < 33
  · have H := Lib.hid (show badB n = true by simp [badB, h])
    go_enter Try.func47, Try.ntmps47
    go_wp2
    go_ret
    exact ⟨ret_bool H.out.symm, rfl⟩
  · have H := Lib.hid (show badB n = decide (126 < n) by simp [badB, h])
    go_enter Try.func47, Try.ntmps47
    go_wp2
    go_ret
    exact ⟨ret_bool H.out.symm, rfl⟩

/-- no bad byte -/
def noBad (l : List UInt8) : Bool := l.all fun b => !badB b.toNat
theorem noBad_take {l : List UInt8} {k : Nat} (h : k < l.length) (hk : noBad (l.take k) = true) (hb : badB (l[k].toNat : Int) = false) : noBad (l.take (k + 1)) = true := by
  unfold noBad at *
  rw [List.take_succ_eq_append_getElem h, List.all_append, hk]
  simp [hb]
theorem noBad_bad {l : List UInt8} {k : Nat} (h : k < l.length) (hb : badB (l[k].toNat : Int) = true) : noBad l = false := by
  unfold noBad
  rw [List.all_eq_false]
  exact ⟨l[k], List.getElem_mem h, by simp [hb]⟩
def IdxPost (l : List UInt8) (e : Ending) : Prop := ∃ r : Int, e = .returned (.int .i64 r) ∧ decide (0 ≤ r) = !noBad l

theorem key_index (b o c : Nat) (l : List UInt8) (w : World) (hlen : l.length ≤ maxLen) (hc : ∀ j (h : j < l.length), w.cell? ⟨b, o + j, none⟩ = some (.int .u8 (l[j].toNat : Int))) :
    Calls Try.prog 66 #[.slice (some ⟨b, o, none⟩) l.length c, .func (.func 47) #[] #[]] w fun e w' => IdxPost l e ∧ w = w' := by
  unfold maxLen at hlen
  have HC := Lib.hid hc
  clear hc
  go_enter Try.func66, Try.ntmps66
  go_wp2
  go_loop [5, 8] (fun x i => ∃ k : Nat, k ≤ l.length ∧ i = .int .i64 k ∧ noBad (l.take k) = true) (fun _ i => l.length - (intOf i).toNat)
  case atStart => exact ⟨0, by omega, rfl, rfl⟩
  case round =>
    obtain ⟨k, hk, rfl, R⟩ := hrel
    have HR := Lib.hid R
    clear R
    by_cases hlt : k < l.length
    · have hcell := HC.out k hlt
      cases hb : badB (l[k].toNat : Int)
      · have HB := Lib.hid hb
        clear hb
        go_wp2_with (go_at_call 47; refine (key_bad _ _).mono ?_; rw [HB.out]; rintro e w' ⟨rfl, rfl⟩)
        go_round
        case rel => exact ⟨k + 1, by omega, by go_num, noBad_take hlt HR.out HB.out⟩
        case measure => simp [intOf]; omega
      · have HB := Lib.hid hb
        clear hb
        go_wp2_with (go_at_call 47; refine (key_bad _ _).mono ?_; rw [HB.out]; rintro e w' ⟨rfl, rfl⟩)
        go_ret
        exact ⟨⟨_, rfl, by rw [noBad_bad hlt HB.out]; simp⟩, rfl⟩
    · go_wp2
      go_ret
      exact ⟨⟨_, rfl, by
        have e := HR.out
        rw [List.take_of_length_le (by omega)] at e
        rw [e]; rfl⟩, rfl⟩

theorem key_contains (b o c n : Nat) (l : List UInt8) (w : World) (hn : l.length = n) (hlen : n ≤ maxLen) (hc : ∀ j (h : j < l.length), w.cell? ⟨b, o + j, none⟩ = some (.int .u8 (l[j].toNat : Int))) :
    Calls Try.prog 48 #[.slice (some ⟨b, o, none⟩) n c, .func (.func 47) #[] #[]] w fun e w' => e = .returned (.bool !noBad l) ∧ w = w' := by
  subst hn
  have HC := Lib.hid hc
  clear hc
  go_enter Try.func48, Try.ntmps48
  go_wp2_with fail
  refine (key_index b o c l w hlen HC.out).mono ?_
  rintro e w' ⟨⟨r, rfl, hr⟩, rfl⟩
  have HRr := Lib.hid hr
  clear hr
  go_wp2
  go_ret
  exact ⟨ret_bool HRr.out, rfl⟩

/-- may it be a key? -/
def keyOk (s : ByteArray) : Bool := decide (0 < s.size) && decide (s.size ≤ 128) && noBad s.data.toList

set_option maxHeartbeats 400000 in
set_option maxRecDepth 100000 in
theorem key_Right (s : ByteArray) (w : World) (hm : s.size ≤ maxLen) :
    Calls Try.prog 26 #[.string s] w fun e w' => e = .returned (.bool (keyOk s)) ∧ Ext w w' := by
  by_cases h1 : s.size = 0
  · have H := Lib.hid (show keyOk s = false by simp [keyOk, h1])
    have h1' : decide (0 < s.size) = false := by simp [h1]
    go_enter Try.func26, Try.ntmps26
    go_wp2_with fail
    go_ret
    exact ⟨ret_bool H.out.symm, (by repeat (first | with_reducible exact Ext.refl _ | with_reducible assumption | with_reducible refine Ext.alloc ?_ _ | with_reducible refine Ext.drew ?_ | with_reducible refine Ext.trans ?_ (by with_reducible assumption)))⟩
  by_cases h2 : s.size ≤ 128
  · have H := Lib.hid (show keyOk s = noBad s.data.toList by simp [keyOk, h2]; omega)
    have h1' : decide (0 < s.size) = true := by simp; omega
    have h2' : decide (s.size ≤ 128) = true := by simp; omega
    obtain ⟨c, w1, hrun, hext, hsz, hcap, hcells⟩ := conv_bytes (P := Try.prog) w 9 23 5 s Try.underlying9 Try.underlying23 Try.underlying5
    have HC := Lib.hid hcells
    clear hcells hsz
    have hlen : s.data.toList.length = s.size := Array.length_toList
    have HL := Lib.hid hlen
    clear hlen
    go_enter Try.func26, Try.ntmps26
    go_wp2_with fail
    refine (key_contains _ _ _ _ _ _ HL.out hm HC.out).mono ?_
    rintro e w' ⟨rfl, rfl⟩
    go_wp2
    go_ret
    exact ⟨ret_bool (by rw [H.out]), (by repeat (first | with_reducible exact Ext.refl _ | with_reducible assumption | with_reducible refine Ext.alloc ?_ _ | with_reducible refine Ext.drew ?_ | with_reducible refine Ext.trans ?_ (by with_reducible assumption)))⟩
  · have H := Lib.hid (show keyOk s = false by simp [keyOk, h2])
    have h1' : decide (0 < s.size) = true := by simp; omega
    have h2' : decide (s.size ≤ 128) = false := by simp; omega
    go_enter Try.func26, Try.ntmps26
    go_wp2_with fail
    go_ret
    exact ⟨ret_bool H.out.symm, (by repeat (first | with_reducible exact Ext.refl _ | with_reducible assumption | with_reducible refine Ext.alloc ?_ _ | with_reducible refine Ext.drew ?_ | with_reducible refine Ext.trans ?_ (by with_reducible assumption)))⟩

end Go.Proofs.Ytnlmbmbalmkiiaa
