/- Walks: package key; the reference 09. Walks: kernel.all, kernel.Right. Walks: package rule. Walks: rule.Right, rule.Cap. Walks: rule.Cap, rule.Kind, rule.Name; slices.Index over strings. Walks: package digit, the reference 03. Walks: the reference 03. Walks: digit.Print. -/
import Derived.Test.YtknlojlcahgnoaaGreatProg
import Derived.Test.YtknlojlcahgnoaaGreatCf2
import Derived.Test.YtknlojlcahgnoaaGreatCf0

namespace Go.Proofs.YtknlojlcahgnoaaGreat
open Go.RowKit
set_option linter.unusedVariables false
set_option linter.unusedSimpArgs false

/-- a byte that no key has -/
def badB (n : Int) : Bool := decide (n < 33) || decide (126 < n)

theorem key_bad (n : Int) (w : World) :
    Calls Tryz.prog 129 #[.int .u8 n] w fun e w' => e = .returned (.bool (badB n)) ∧ w = w' := by
  by_cases h : n < 33
  · have H := Lib.hid (show badB n = true by simp [badB, h])
    go_enter Tryz.func129, Tryz.ntmps129
    go_wp2
    go_ret
    exact ⟨ret_bool H.out.symm, rfl⟩
  · have H := Lib.hid (show badB n = decide (126 < n) by simp [badB, h])
    go_enter Tryz.func129, Tryz.ntmps129
    go_wp2
    go_ret
    exact ⟨ret_bool H.out.symm, rfl⟩

/-- no bad byte -/
def noBad (l : List UInt8) : Bool := l.all fun b => !badB b.toNat
theorem noBad_take {l : List UInt8} {k : Nat} (h : k < l.length) (hk : noBad (l.take k) = true) (hb : badB (l[k].toNat : Int) = false) : noBad (l.take (k + 1)) = true := by
  unfold noBad at *
  rw [List.take_succ_eq_append_getElem h, List.all_append, hk]
  simp [hb]
theorem noBad_bad {l : List UInt8} {k : Nat} (h : k < l.length) (hb : badB (l[k].toNat : Int) = true) : noBad l = false := by
  unfold noBad
  rw [List.all_eq_false]
  exact ⟨l[k], List.getElem_mem h, by simp [hb]⟩
def IdxPost (l : List UInt8) (e : Ending) : Prop := ∃ r : Int, e = .returned (.int .i64 r) ∧ decide (0 ≤ r) = !noBad l

theorem key_index (b o c : Nat) (l : List UInt8) (w : World) (hlen : l.length ≤ maxLen) (hc : ∀ j (h : j < l.length), w.cell? ⟨b, o + j, none⟩ = some (.int .u8 (l[j].toNat : Int))) :
    Calls Tryz.prog 182 #[.slice (some ⟨b, o, none⟩) l.length c, .func (.func 129) #[] #[]] w fun e w' => IdxPost l e ∧ w = w' := by
  unfold maxLen at hlen
  have HC := Lib.hid hc
  clear hc
  go_enter Tryz.func182, Tryz.ntmps182
  go_wp2
  go_loop [5, 8] (fun x i => ∃ k : Nat, k ≤ l.length ∧ i = .int .i64 k ∧ noBad (l.take k) = true) (fun _ i => l.length - (intOf i).toNat)
  case atStart => exact ⟨0, by omega, rfl, rfl⟩
  case round =>
    obtain ⟨k, hk, rfl, R⟩ := hrel
    have HR := Lib.hid R
    clear R
    by_cases hlt : k < l.length
    · have hcell := HC.out k hlt
      cases hb : badB (l[k].toNat : Int)
      · have HB := Lib.hid hb
        clear hb
        go_wp2_with (go_at_call 129; refine (key_bad _ _).mono ?_; rw [HB.out]; rintro e w' ⟨rfl, rfl⟩)
        go_round
        case rel => exact ⟨k + 1, by omega, by go_num, noBad_take hlt HR.out HB.out⟩
        case measure => simp [intOf]; omega
      · have HB := Lib.hid hb
        clear hb
        go_wp2_with (go_at_call 129; refine (key_bad _ _).mono ?_; rw [HB.out]; rintro e w' ⟨rfl, rfl⟩)
        go_ret
        exact ⟨⟨_, rfl, by rw [noBad_bad hlt HB.out]; simp⟩, rfl⟩
    · go_wp2
      go_ret
      exact ⟨⟨_, rfl, by
        have e := HR.out
        rw [List.take_of_length_le (by omega)] at e
        rw [e]; rfl⟩, rfl⟩

theorem key_contains (b o c n : Nat) (l : List UInt8) (w : World) (hn : l.length = n) (hlen : n ≤ maxLen) (hc : ∀ j (h : j < l.length), w.cell? ⟨b, o + j, none⟩ = some (.int .u8 (l[j].toNat : Int))) :
    Calls Tryz.prog 130 #[.slice (some ⟨b, o, none⟩) n c, .func (.func 129) #[] #[]] w fun e w' => e = .returned (.bool !noBad l) ∧ w = w' := by
  subst hn
  have HC := Lib.hid hc
  clear hc
  go_enter Tryz.func130, Tryz.ntmps130
  go_wp2_with fail
  refine (key_index b o c l w hlen HC.out).mono ?_
  rintro e w' ⟨⟨r, rfl, hr⟩, rfl⟩
  have HRr := Lib.hid hr
  clear hr
  go_wp2
  go_ret
  exact ⟨ret_bool HRr.out, rfl⟩

/-- may it be a key? -/
def keyOk (s : ByteArray) : Bool := decide (0 < s.size) && decide (s.size ≤ 128) && noBad s.data.toList

set_option maxHeartbeats 400000 in
set_option maxRecDepth 100000 in
theorem key_Right (s : ByteArray) (w : World) (hm : s.size ≤ maxLen) :
    Calls Tryz.prog 74 #[.string s] w fun e w' => e = .returned (.bool (keyOk s)) ∧ Ext w w' := by
  by_cases h1 : s.size = 0
  · have H := Lib.hid (show keyOk s = false by simp [keyOk, h1])
    have h1' : decide (0 < s.size) = false := by simp [h1]
    go_enter Tryz.func74, Tryz.ntmps74
    go_wp2_with fail
    go_ret
    exact ⟨ret_bool H.out.symm, (by repeat (first | with_reducible exact Ext.refl _ | with_reducible assumption | with_reducible refine Ext.alloc ?_ _ | with_reducible refine Ext.drew ?_ | (with_reducible refine Ext.setCell ?_ (by first | exact Nat.le_refl _ | (dsimp only; omega) | (simp; done) | (simp; omega)) _) | with_reducible refine Ext.trans ?_ (by with_reducible assumption)))⟩
  by_cases h2 : s.size ≤ 128
  · have H := Lib.hid (show keyOk s = noBad s.data.toList by simp [keyOk, h2]; omega)
    have h1' : decide (0 < s.size) = true := by simp; omega
    have h2' : decide (s.size ≤ 128) = true := by simp; omega
    obtain ⟨c, w1, hrun, hext, hsz, hcap, hcells⟩ := conv_bytes (P := Tryz.prog) w 9 22 5 s Tryz.underlying9 Tryz.underlying22 Tryz.underlying5
    have HC := Lib.hid hcells
    clear hcells hsz
    have hlen : s.data.toList.length = s.size := Array.length_toList
    have HL := Lib.hid hlen
    clear hlen
    go_enter Tryz.func74, Tryz.ntmps74
    go_wp2_with fail
    refine (key_contains _ _ _ _ _ _ HL.out hm HC.out).mono ?_
    rintro e w' ⟨rfl, rfl⟩
    go_wp2
    go_ret
    exact ⟨ret_bool (by rw [H.out]), (by repeat (first | with_reducible exact Ext.refl _ | with_reducible assumption | with_reducible refine Ext.alloc ?_ _ | with_reducible refine Ext.drew ?_ | (with_reducible refine Ext.setCell ?_ (by first | exact Nat.le_refl _ | (dsimp only; omega) | (simp; done) | (simp; omega)) _) | with_reducible refine Ext.trans ?_ (by with_reducible assumption)))⟩
  · have H := Lib.hid (show keyOk s = false by simp [keyOk, h2])
    have h1' : decide (0 < s.size) = true := by simp; omega
    have h2' : decide (s.size ≤ 128) = false := by simp; omega
    go_enter Tryz.func74, Tryz.ntmps74
    go_wp2_with fail
    go_ret
    exact ⟨ret_bool H.out.symm, (by repeat (first | with_reducible exact Ext.refl _ | with_reducible assumption | with_reducible refine Ext.alloc ?_ _ | with_reducible refine Ext.drew ?_ | (with_reducible refine Ext.setCell ?_ (by first | exact Nat.le_refl _ | (dsimp only; omega) | (simp; done) | (simp; omega)) _) | with_reducible refine Ext.trans ?_ (by with_reducible assumption)))⟩

theorem badB_yes {n : Int} (h : n < 33 ∨ 126 < n) : badB n = true := by simp [badB, h]
theorem badB_no {n : Int} (h : ¬ (n < 33 ∨ 126 < n)) : badB n = false := by simp [badB]; omega
set_option maxHeartbeats 400000 in
set_option maxRecDepth 100000 in
theorem ref09_Right (s : ByteArray) (w : World) (hm : s.size ≤ maxLen) :
    Calls Tryz.prog 116 #[.string s] w fun e w' => e = .returned (.bool (keyOk s)) ∧ w = w' := by
  by_cases h1 : s.size = 0
  · have H := Lib.hid (show keyOk s = false by simp [keyOk, h1])
    have h1' : (s.size : Int) < 1 := by omega
    go_enter Tryz.func116, Tryz.ntmps116
    go_wp2
    go_ret
    exact ⟨ret_bool H.out.symm, rfl⟩
  by_cases h2 : s.size ≤ 128
  · have H := Lib.hid (show keyOk s = noBad s.data.toList by simp [keyOk, h2]; omega)
    have h1' : ¬ (s.size : Int) < 1 := by omega
    have h2' : ¬ (128 : Int) < s.size := by omega
    go_enter Tryz.func116, Tryz.ntmps116
    go_wp2
    go_loop [3] (fun i => ∃ k : Nat, k ≤ s.size ∧ i = .int .i64 k ∧ noBad (s.data.toList.take k) = true) (fun i => s.size - (intOf i).toNat)
    case atStart => exact ⟨0, by omega, rfl, rfl⟩
    case round =>
      obtain ⟨k, hk, rfl, R⟩ := hrel
      have HR := Lib.hid R
      clear R
      by_cases hlt : k < s.size
      · have hlt' : k < s.data.toList.length := by rw [data_len]; exact hlt
        have HE := Lib.hid (data_get s k hlt)
        go_wp2
        all_goals first
          | (go_ret
             exact ⟨ret_bool (by rw [H.out, noBad_bad hlt' (by rw [HE.out]; exact badB_yes (by omega))]), rfl⟩)
          | (go_round
             case rel => exact ⟨k + 1, by omega, by go_num, noBad_take hlt' HR.out (by rw [HE.out]; exact badB_no (by omega))⟩
             case measure => simp [intOf]; omega)
      · go_wp2
        go_ret
        exact ⟨ret_bool (by
          have e := HR.out
          rw [List.take_of_length_le (by rw [data_len]; omega)] at e
          rw [H.out, e]), rfl⟩
  · have H := Lib.hid (show keyOk s = false by simp [keyOk, h2])
    have h1' : ¬ (s.size : Int) < 1 := by omega
    have h2' : (128 : Int) < s.size := by omega
    go_enter Tryz.func116, Tryz.ntmps116
    go_wp2
    go_ret
    exact ⟨ret_bool H.out.symm, rfl⟩
end Go.Proofs.YtknlojlcahgnoaaGreat

namespace Go.Proofs.YtknlojlcahgnoaaGreat
open Go.RowKit
set_option linter.unusedVariables false
set_option linter.unusedSimpArgs false

def kern (a b c : Nat) : Value := .agg #[.func (.func a) #[] #[], .func (.func b) #[] #[], .func (.func c) #[] #[]]
def kernels : Array MapEntry := #[⟨.int .u8 1, kern 172 173 174, 0⟩, ⟨.int .u8 2, kern 175 176 177, 1⟩, ⟨.int .u8 3, kern 178 179 180, 2⟩]
def KernMap (w w' : World) (e : Ending) : Prop := e = .returned (.map (some w.heap.size)) ∧ w' = w.alloc (.map kernels 3)

set_option maxRecDepth 100000 in
theorem kernel_all (w : World) : Calls Tryz.prog 126 #[] w fun e w' => KernMap w w' e := by
  have hmm := @run_makeMap Tryz.prog
  have u1 := run_update_new (P := Tryz.prog) Tryz.underlying220 Tryz.underlying5 (key := .int .u8 1) rfl (es := #[]) (c := 0) rfl w
  have u2 := run_update_new (P := Tryz.prog) Tryz.underlying220 Tryz.underlying5 (key := .int .u8 2) rfl (es := #[⟨.int .u8 1, kern 172 173 174, 0⟩]) (c := 1) rfl w
  have u3 := run_update_new (P := Tryz.prog) Tryz.underlying220 Tryz.underlying5 (key := .int .u8 3) rfl (es := #[⟨.int .u8 1, kern 172 173 174, 0⟩, ⟨.int .u8 2, kern 175 176 177, 1⟩]) (c := 2) rfl w
  simp only [kern, List.push_toArray, List.cons_append, List.nil_append, Nat.reduceAdd] at u1 u2 u3
  go_enter Tryz.func126, Tryz.ntmps126
  go_wp2
  go_ret
  exact ⟨rfl, rfl⟩

def rightKind (k : Int) : Bool := decide (1 ≤ k) && decide (k ≤ 3)
theorem kern_hit (k : Int) (h : 1 ≤ k) (h' : k ≤ 3) : ∃ i a b c, Instr.findNow (.int .u8) (.int .u8 k) kernels.toList 0 = some (some (i, kern a b c)) := by
  rcases (by omega : k = 1 ∨ k = 2 ∨ k = 3) with rfl | rfl | rfl
  · exact ⟨_, _, _, _, rfl⟩
  · exact ⟨_, _, _, _, rfl⟩
  · exact ⟨_, _, _, _, rfl⟩
theorem kern_miss (k : Int) (h : ¬ (1 ≤ k ∧ k ≤ 3)) : Instr.findNow (.int .u8) (.int .u8 k) kernels.toList 0 = some none := by
  have h1 : (k == 1) = false := by simp; omega
  have h2 : (k == 2) = false := by simp; omega
  have h3 : (k == 3) = false := by simp; omega
  simp [kernels, Instr.findNow, Instr.sameNow, h1, h2, h3]

theorem kern_zero (w : World) : (zeroValue 218).run Tryz.prog w = .ok (.agg #[.nilFunc, .nilFunc, .nilFunc]) w := by kernel_rfl

set_option maxHeartbeats 400000 in
set_option maxRecDepth 100000 in
theorem kernel_Right (k : Int) (w : World) :
    Calls Tryz.prog 140 #[.int .u8 k] w fun e w' => e = .returned (.bool (rightKind k)) ∧ Ext w w' := by
  have hat := map_new_at w (.map kernels 3)
  by_cases h : 1 ≤ k ∧ k ≤ 3
  · obtain ⟨i, a, b, c, hf⟩ := kern_hit k h.1 h.2
    have L := (run_lookup_yes (P := Tryz.prog) Tryz.underlying220 Tryz.underlying5 (key := .int .u8 k) rfl hat hf).1
    have H := Lib.hid (show rightKind k = true by simp [rightKind, h])
    clear hf hat
    simp only [kern] at L
    go_enter Tryz.func140, Tryz.ntmps140
    go_wp2_with (go_at_call 126; refine (kernel_all _).mono ?_; rintro e w' ⟨rfl, rfl⟩)
    go_ret
    exact ⟨ret_bool H.out.symm, (by repeat (first | with_reducible exact Ext.refl _ | with_reducible assumption | with_reducible refine Ext.alloc ?_ _ | with_reducible refine Ext.drew ?_ | (with_reducible refine Ext.setCell ?_ (by first | exact Nat.le_refl _ | (dsimp only; omega) | (simp; done) | (simp; omega)) _) | with_reducible refine Ext.setCell ?_ (by simp; try omega) _ | with_reducible refine Ext.trans ?_ (by with_reducible assumption)))⟩
  · have L := (run_lookup_no (P := Tryz.prog) Tryz.underlying220 Tryz.underlying5 (key := .int .u8 k) rfl hat (kern_zero _) (kern_miss k h)).1
    have H := Lib.hid (show rightKind k = false by simp [rightKind]; omega)
    clear hat
    go_enter Tryz.func140, Tryz.ntmps140
    go_wp2_with (go_at_call 126; refine (kernel_all _).mono ?_; rintro e w' ⟨rfl, rfl⟩)
    go_ret
    exact ⟨ret_bool H.out.symm, (by repeat (first | with_reducible exact Ext.refl _ | with_reducible assumption | with_reducible refine Ext.alloc ?_ _ | with_reducible refine Ext.drew ?_ | (with_reducible refine Ext.setCell ?_ (by first | exact Nat.le_refl _ | (dsimp only; omega) | (simp; done) | (simp; omega)) _) | with_reducible refine Ext.setCell ?_ (by simp; try omega) _ | with_reducible refine Ext.trans ?_ (by with_reducible assumption)))⟩
end Go.Proofs.YtknlojlcahgnoaaGreat

namespace Go.Proofs.YtknlojlcahgnoaaGreat
open Go.RowKit
set_option linter.unusedVariables false
set_option linter.unusedSimpArgs false

/-- may it stand ahead of keys? -/
def prefOk (p : ByteArray) : Bool := decide (p.size = 0) || keyOk p
def capOk (e b : Int) : Bool := decide (satMul e b ≤ 4611686018427387904)

theorem toList_nil_iff (s : ByteArray) : (s.toList = []) ↔ s.size = 0 := by
  rw [ByteArray.toList_eq, ← List.length_eq_zero_iff, data_len]
theorem isEmpty_iff (s : ByteArray) : s.toList.isEmpty = decide (s.size = 0) := by
  rw [Bool.eq_iff_iff, List.isEmpty_iff, toList_nil_iff]; simp

set_option maxHeartbeats 400000 in
theorem rule_ask1 (p : ByteArray) (e b k : Int) (w : World) (hm : p.size ≤ maxLen) :
    Calls Tryz.prog 183 #[.agg #[.string p, .int .u64 e, .int .u64 b, .int .u8 k]] w fun e w' => e = .returned (.bool (prefOk p)) ∧ Ext w w' := by
  by_cases h : p.size = 0
  · have H := Lib.hid (show prefOk p = true by simp [prefOk, h])
    have h1 : p.toList.isEmpty = true := by rw [isEmpty_iff]; simpa using h
    have h2 : p.toList = [] := (toList_nil_iff p).2 h
    clear h
    go_enter Tryz.func183, Tryz.ntmps183
    go_wp2
    go_ret
    exact ⟨ret_bool H.out.symm, (by repeat (first | with_reducible exact Ext.refl _ | with_reducible assumption | with_reducible refine Ext.alloc ?_ _ | with_reducible refine Ext.drew ?_ | (with_reducible refine Ext.setCell ?_ (by first | exact Nat.le_refl _ | (dsimp only; omega) | (simp; done) | (simp; omega)) _) | with_reducible refine Ext.trans ?_ (by with_reducible assumption)))⟩
  · have H := Lib.hid (show prefOk p = keyOk p by simp [prefOk, h])
    have h1 : p.toList.isEmpty = false := by rw [isEmpty_iff]; simpa using h
    have h2 : ¬ p.toList = [] := fun e => h ((toList_nil_iff p).1 e)
    clear h
    go_enter Tryz.func183, Tryz.ntmps183
    go_wp2_with (go_at_call 74; refine (key_Right _ _ hm).mono ?_; rintro e w' ⟨rfl, hb⟩)
    go_ret
    exact ⟨ret_bool H.out.symm, (by repeat (first | with_reducible exact Ext.refl _ | with_reducible assumption | with_reducible refine Ext.alloc ?_ _ | with_reducible refine Ext.drew ?_ | (with_reducible refine Ext.setCell ?_ (by first | exact Nat.le_refl _ | (dsimp only; omega) | (simp; done) | (simp; omega)) _) | with_reducible refine Ext.trans ?_ (by with_reducible assumption)))⟩

theorem rule_ask2 (p : ByteArray) (e b k : Int) (w : World) :
    Calls Tryz.prog 184 #[.agg #[.string p, .int .u64 e, .int .u64 b, .int .u8 k]] w fun x w' => x = .returned (.bool (decide (0 < e))) ∧ Ext w w' := by
  go_enter Tryz.func184, Tryz.ntmps184
  go_wp2
  go_ret
  exact ⟨rfl, (by repeat (first | with_reducible exact Ext.refl _ | with_reducible assumption | with_reducible refine Ext.alloc ?_ _ | with_reducible refine Ext.drew ?_ | (with_reducible refine Ext.setCell ?_ (by first | exact Nat.le_refl _ | (dsimp only; omega) | (simp; done) | (simp; omega)) _) | with_reducible refine Ext.trans ?_ (by with_reducible assumption)))⟩

theorem rule_ask3 (p : ByteArray) (e b k : Int) (w : World) :
    Calls Tryz.prog 185 #[.agg #[.string p, .int .u64 e, .int .u64 b, .int .u8 k]] w fun x w' => x = .returned (.bool (decide (0 < b))) ∧ Ext w w' := by
  go_enter Tryz.func185, Tryz.ntmps185
  go_wp2
  go_ret
  exact ⟨rfl, (by repeat (first | with_reducible exact Ext.refl _ | with_reducible assumption | with_reducible refine Ext.alloc ?_ _ | with_reducible refine Ext.drew ?_ | (with_reducible refine Ext.setCell ?_ (by first | exact Nat.le_refl _ | (dsimp only; omega) | (simp; done) | (simp; omega)) _) | with_reducible refine Ext.trans ?_ (by with_reducible assumption)))⟩

theorem rule_ask4 (p : ByteArray) (e b k : Int) (w : World) (he0 : 0 ≤ e) (he1 : e < 18446744073709551616) (hb0 : 0 ≤ b) (hb1 : b < 18446744073709551616) :
    Calls Tryz.prog 186 #[.agg #[.string p, .int .u64 e, .int .u64 b, .int .u8 k]] w fun x w' => x = .returned (.bool (capOk e b)) ∧ Ext w w' := by
  have H := Lib.hid (show capOk e b = decide (satMul e b ≤ 4611686018427387904) from rfl)
  generalize hM : satMul e b = M at H
  have HM := Lib.hid hM
  clear hM
  go_enter Tryz.func186, Tryz.ntmps186
  go_wp2_with (go_at_call 105; refine (num_Mul _ _ _ he0 he1 hb0 hb1).mono ?_; rw [HM.out]; rintro x w' ⟨rfl, hb⟩)
  go_ret
  exact ⟨ret_bool H.out.symm, (by repeat (first | with_reducible exact Ext.refl _ | with_reducible assumption | with_reducible refine Ext.alloc ?_ _ | with_reducible refine Ext.drew ?_ | (with_reducible refine Ext.setCell ?_ (by first | exact Nat.le_refl _ | (dsimp only; omega) | (simp; done) | (simp; omega)) _) | with_reducible refine Ext.trans ?_ (by with_reducible assumption)))⟩

theorem rule_ask5 (p : ByteArray) (e b k : Int) (w : World) :
    Calls Tryz.prog 187 #[.agg #[.string p, .int .u64 e, .int .u64 b, .int .u8 k]] w fun x w' => x = .returned (.bool (rightKind k)) ∧ Ext w w' := by
  go_enter Tryz.func187, Tryz.ntmps187
  go_wp2_with (go_at_call 140; refine (kernel_Right _ _).mono ?_; rintro x w' ⟨rfl, hb⟩)
  go_ret
  exact ⟨rfl, (by repeat (first | with_reducible exact Ext.refl _ | with_reducible assumption | with_reducible refine Ext.alloc ?_ _ | with_reducible refine Ext.drew ?_ | (with_reducible refine Ext.setCell ?_ (by first | exact Nat.le_refl _ | (dsimp only; omega) | (simp; done) | (simp; omega)) _) | with_reducible refine Ext.trans ?_ (by with_reducible assumption)))⟩

def askCells : Array Value := #[.func (.func 183) #[] #[], .int .u16 23, .func (.func 184) #[] #[], .int .u16 24, .func (.func 185) #[] #[], .int .u16 25, .func (.func 186) #[] #[], .int .u16 26, .func (.func 187) #[] #[], .int .u16 27]
theorem rule_asks (w : World) :
    Calls Tryz.prog 132 #[] w fun x w' => x = .returned (.slice (some ⟨w.heap.size, 0, none⟩) 5 5) ∧ Ext w w' ∧ Blk w' w.heap.size askCells 230 := by
  go_enter Tryz.func132, Tryz.ntmps132
  go_wp2
  go_ret
  exact ⟨rfl, (by repeat (first | with_reducible exact Ext.refl _ | with_reducible assumption | with_reducible refine Ext.alloc ?_ _ | with_reducible refine Ext.drew ?_ | (with_reducible refine Ext.setCell ?_ (by first | exact Nat.le_refl _ | (dsimp only; omega) | (simp; done) | (simp; omega)) _) | with_reducible refine Ext.trans ?_ (by with_reducible assumption))), Blk.new _ _ _⟩

end Go.Proofs.YtknlojlcahgnoaaGreat

namespace Go.Proofs.YtknlojlcahgnoaaGreat
open Go.RowKit
set_option linter.unusedVariables false
set_option linter.unusedSimpArgs false

def ruleErr (p : ByteArray) (e b k : Int) : Int :=
  if prefOk p = false then 23 else if ¬ 0 < e then 24 else if ¬ 0 < b then 25 else if capOk e b = false then 26 else if rightKind k = false then 27 else 0

def ruleBox (p : ByteArray) (e b k : Int) : Array Value := #[.string p, .int .u64 e, .int .u64 b, .int .u8 k]

set_option maxHeartbeats 1000000 in
set_option maxRecDepth 100000 in
theorem rule_Right1 (p : ByteArray) (e b k : Int) (w : World) (hm : p.size ≤ maxLen) (he0 : 0 ≤ e) (he1 : e < 18446744073709551616) (hb0 : 0 ≤ b) (hb1 : b < 18446744073709551616)
    (H1 : Hid (prefOk p = false)) :
    Calls Tryz.prog 81 #[.agg #[.string p, .int .u64 e, .int .u64 b, .int .u8 k]] w fun x w' => x = .returned (.int .u16 23) ∧ Ext w w' := by
  go_enter Tryz.func81, Tryz.ntmps81
  go_wp2_with (go_at_call 132; refine (rule_asks _).mono ?_; rintro x w0 ⟨rfl, hx0, a0⟩)
  have b0 := (Blk.new w (ruleBox p e b k) 37).ext hx0
  simp only [World.size_alloc] at a0
  refine wp_loop_rounds 6 ?_
  rw [rounds_succ]
  have ac := a0.cell
  have bc := b0.cell
  have al := a0.lt
  have bl := b0.lt
  simp only [askCells, ruleBox] at ac bc
  go_wp2_with fail
  refine (rule_ask1 _ _ _ _ _ hm).mono ?_
  rw [H1.out]
  rintro x w1 ⟨rfl, hx1⟩
  clear ac bc al bl
  have a1 := (a0.alloc _).ext hx1
  have b1 := (b0.alloc _).ext hx1
  have n1 := (Blk.new' w0 #[.func (.func 183) #[] #[], .int .u16 23] 230 rfl).ext hx1
  have nc := n1.cell
  go_wp2
  go_ret
  exact ⟨rfl, (by repeat (first | with_reducible exact Ext.refl _ | with_reducible assumption | with_reducible refine Ext.alloc ?_ _ | with_reducible refine Ext.drew ?_ | (with_reducible refine Ext.setCell ?_ (by first | exact Nat.le_refl _ | (dsimp only; omega) | (simp; done) | (simp; omega)) _) | with_reducible refine Ext.trans ?_ (by with_reducible assumption)))⟩

set_option maxHeartbeats 1000000 in
set_option maxRecDepth 100000 in
theorem rule_Right2 (p : ByteArray) (e b k : Int) (w : World) (hm : p.size ≤ maxLen) (he0 : 0 ≤ e) (he1 : e < 18446744073709551616) (hb0 : 0 ≤ b) (hb1 : b < 18446744073709551616)
    (H1 : Hid (prefOk p = true)) (H2 : Hid (decide (0 < e) = false)) :
    Calls Tryz.prog 81 #[.agg #[.string p, .int .u64 e, .int .u64 b, .int .u8 k]] w fun x w' => x = .returned (.int .u16 24) ∧ Ext w w' := by
  go_enter Tryz.func81, Tryz.ntmps81
  go_wp2_with (go_at_call 132; refine (rule_asks _).mono ?_; rintro x w0 ⟨rfl, hx0, a0⟩)
  have b0 := (Blk.new w (ruleBox p e b k) 37).ext hx0
  simp only [World.size_alloc] at a0
  refine wp_loop_rounds 6 ?_
  rw [rounds_succ]
  have ac := a0.cell
  have bc := b0.cell
  have al := a0.lt
  have bl := b0.lt
  simp only [askCells, ruleBox] at ac bc
  go_wp2_with fail
  refine (rule_ask1 _ _ _ _ _ hm).mono ?_
  rw [H1.out]
  rintro x w1 ⟨rfl, hx1⟩
  clear ac bc al bl
  have a1 := (a0.alloc _).ext hx1
  have b1 := (b0.alloc _).ext hx1
  go_wp2
  rw [rounds_succ]
  have ac := a1.cell
  have bc := b1.cell
  have al := a1.lt
  have bl := b1.lt
  simp only [askCells, ruleBox] at ac bc
  go_wp2_with fail
  refine (rule_ask2 _ _ _ _ _).mono ?_
  rw [H2.out]
  rintro x w2 ⟨rfl, hx2⟩
  clear ac bc al bl
  have a2 := (a1.alloc _).ext hx2
  have b2 := (b1.alloc _).ext hx2
  have n2 := (Blk.new' w1 #[.func (.func 184) #[] #[], .int .u16 24] 230 rfl).ext hx2
  have nc := n2.cell
  go_wp2
  go_ret
  exact ⟨rfl, (by repeat (first | with_reducible exact Ext.refl _ | with_reducible assumption | with_reducible refine Ext.alloc ?_ _ | with_reducible refine Ext.drew ?_ | (with_reducible refine Ext.setCell ?_ (by first | exact Nat.le_refl _ | (dsimp only; omega) | (simp; done) | (simp; omega)) _) | with_reducible refine Ext.trans ?_ (by with_reducible assumption)))⟩

set_option maxHeartbeats 1000000 in
set_option maxRecDepth 100000 in
theorem rule_Right3 (p : ByteArray) (e b k : Int) (w : World) (hm : p.size ≤ maxLen) (he0 : 0 ≤ e) (he1 : e < 18446744073709551616) (hb0 : 0 ≤ b) (hb1 : b < 18446744073709551616)
    (H1 : Hid (prefOk p = true)) (H2 : Hid (decide (0 < e) = true)) (H3 : Hid (decide (0 < b) = false)) :
    Calls Tryz.prog 81 #[.agg #[.string p, .int .u64 e, .int .u64 b, .int .u8 k]] w fun x w' => x = .returned (.int .u16 25) ∧ Ext w w' := by
  go_enter Tryz.func81, Tryz.ntmps81
  go_wp2_with (go_at_call 132; refine (rule_asks _).mono ?_; rintro x w0 ⟨rfl, hx0, a0⟩)
  have b0 := (Blk.new w (ruleBox p e b k) 37).ext hx0
  simp only [World.size_alloc] at a0
  refine wp_loop_rounds 6 ?_
  rw [rounds_succ]
  have ac := a0.cell
  have bc := b0.cell
  have al := a0.lt
  have bl := b0.lt
  simp only [askCells, ruleBox] at ac bc
  go_wp2_with fail
  refine (rule_ask1 _ _ _ _ _ hm).mono ?_
  rw [H1.out]
  rintro x w1 ⟨rfl, hx1⟩
  clear ac bc al bl
  have a1 := (a0.alloc _).ext hx1
  have b1 := (b0.alloc _).ext hx1
  go_wp2
  rw [rounds_succ]
  have ac := a1.cell
  have bc := b1.cell
  have al := a1.lt
  have bl := b1.lt
  simp only [askCells, ruleBox] at ac bc
  go_wp2_with fail
  refine (rule_ask2 _ _ _ _ _).mono ?_
  rw [H2.out]
  rintro x w2 ⟨rfl, hx2⟩
  clear ac bc al bl
  have a2 := (a1.alloc _).ext hx2
  have b2 := (b1.alloc _).ext hx2
  go_wp2
  rw [rounds_succ]
  have ac := a2.cell
  have bc := b2.cell
  have al := a2.lt
  have bl := b2.lt
  simp only [askCells, ruleBox] at ac bc
  go_wp2_with fail
  refine (rule_ask3 _ _ _ _ _).mono ?_
  rw [H3.out]
  rintro x w3 ⟨rfl, hx3⟩
  clear ac bc al bl
  have a3 := (a2.alloc _).ext hx3
  have b3 := (b2.alloc _).ext hx3
  have n3 := (Blk.new' w2 #[.func (.func 185) #[] #[], .int .u16 25] 230 rfl).ext hx3
  have nc := n3.cell
  go_wp2
  go_ret
  exact ⟨rfl, (by repeat (first | with_reducible exact Ext.refl _ | with_reducible assumption | with_reducible refine Ext.alloc ?_ _ | with_reducible refine Ext.drew ?_ | (with_reducible refine Ext.setCell ?_ (by first | exact Nat.le_refl _ | (dsimp only; omega) | (simp; done) | (simp; omega)) _) | with_reducible refine Ext.trans ?_ (by with_reducible assumption)))⟩

set_option maxHeartbeats 1000000 in
set_option maxRecDepth 100000 in
theorem rule_Right4 (p : ByteArray) (e b k : Int) (w : World) (hm : p.size ≤ maxLen) (he0 : 0 ≤ e) (he1 : e < 18446744073709551616) (hb0 : 0 ≤ b) (hb1 : b < 18446744073709551616)
    (H1 : Hid (prefOk p = true)) (H2 : Hid (decide (0 < e) = true)) (H3 : Hid (decide (0 < b) = true)) (H4 : Hid (capOk e b = false)) :
    Calls Tryz.prog 81 #[.agg #[.string p, .int .u64 e, .int .u64 b, .int .u8 k]] w fun x w' => x = .returned (.int .u16 26) ∧ Ext w w' := by
  go_enter Tryz.func81, Tryz.ntmps81
  go_wp2_with (go_at_call 132; refine (rule_asks _).mono ?_; rintro x w0 ⟨rfl, hx0, a0⟩)
  have b0 := (Blk.new w (ruleBox p e b k) 37).ext hx0
  simp only [World.size_alloc] at a0
  refine wp_loop_rounds 6 ?_
  rw [rounds_succ]
  have ac := a0.cell
  have bc := b0.cell
  have al := a0.lt
  have bl := b0.lt
  simp only [askCells, ruleBox] at ac bc
  go_wp2_with fail
  refine (rule_ask1 _ _ _ _ _ hm).mono ?_
  rw [H1.out]
  rintro x w1 ⟨rfl, hx1⟩
  clear ac bc al bl
  have a1 := (a0.alloc _).ext hx1
  have b1 := (b0.alloc _).ext hx1
  go_wp2
  rw [rounds_succ]
  have ac := a1.cell
  have bc := b1.cell
  have al := a1.lt
  have bl := b1.lt
  simp only [askCells, ruleBox] at ac bc
  go_wp2_with fail
  refine (rule_ask2 _ _ _ _ _).mono ?_
  rw [H2.out]
  rintro x w2 ⟨rfl, hx2⟩
  clear ac bc al bl
  have a2 := (a1.alloc _).ext hx2
  have b2 := (b1.alloc _).ext hx2
  go_wp2
  rw [rounds_succ]
  have ac := a2.cell
  have bc := b2.cell
  have al := a2.lt
  have bl := b2.lt
  simp only [askCells, ruleBox] at ac bc
  go_wp2_with fail
  refine (rule_ask3 _ _ _ _ _).mono ?_
  rw [H3.out]
  rintro x w3 ⟨rfl, hx3⟩
  clear ac bc al bl
  have a3 := (a2.alloc _).ext hx3
  have b3 := (b2.alloc _).ext hx3
  go_wp2
  rw [rounds_succ]
  have ac := a3.cell
  have bc := b3.cell
  have al := a3.lt
  have bl := b3.lt
  simp only [askCells, ruleBox] at ac bc
  go_wp2_with fail
  refine (rule_ask4 _ _ _ _ _ he0 he1 hb0 hb1).mono ?_
  rw [H4.out]
  rintro x w4 ⟨rfl, hx4⟩
  clear ac bc al bl
  have a4 := (a3.alloc _).ext hx4
  have b4 := (b3.alloc _).ext hx4
  have n4 := (Blk.new' w3 #[.func (.func 186) #[] #[], .int .u16 26] 230 rfl).ext hx4
  have nc := n4.cell
  go_wp2
  go_ret
  exact ⟨rfl, (by repeat (first | with_reducible exact Ext.refl _ | with_reducible assumption | with_reducible refine Ext.alloc ?_ _ | with_reducible refine Ext.drew ?_ | (with_reducible refine Ext.setCell ?_ (by first | exact Nat.le_refl _ | (dsimp only; omega) | (simp; done) | (simp; omega)) _) | with_reducible refine Ext.trans ?_ (by with_reducible assumption)))⟩

set_option maxHeartbeats 1000000 in
set_option maxRecDepth 100000 in
theorem rule_Right5 (p : ByteArray) (e b k : Int) (w : World) (hm : p.size ≤ maxLen) (he0 : 0 ≤ e) (he1 : e < 18446744073709551616) (hb0 : 0 ≤ b) (hb1 : b < 18446744073709551616)
    (H1 : Hid (prefOk p = true)) (H2 : Hid (decide (0 < e) = true)) (H3 : Hid (decide (0 < b) = true)) (H4 : Hid (capOk e b = true)) (H5 : Hid (rightKind k = false)) :
    Calls Tryz.prog 81 #[.agg #[.string p, .int .u64 e, .int .u64 b, .int .u8 k]] w fun x w' => x = .returned (.int .u16 27) ∧ Ext w w' := by
  go_enter Tryz.func81, Tryz.ntmps81
  go_wp2_with (go_at_call 132; refine (rule_asks _).mono ?_; rintro x w0 ⟨rfl, hx0, a0⟩)
  have b0 := (Blk.new w (ruleBox p e b k) 37).ext hx0
  simp only [World.size_alloc] at a0
  refine wp_loop_rounds 6 ?_
  rw [rounds_succ]
  have ac := a0.cell
  have bc := b0.cell
  have al := a0.lt
  have bl := b0.lt
  simp only [askCells, ruleBox] at ac bc
  go_wp2_with fail
  refine (rule_ask1 _ _ _ _ _ hm).mono ?_
  rw [H1.out]
  rintro x w1 ⟨rfl, hx1⟩
  clear ac bc al bl
  have a1 := (a0.alloc _).ext hx1
  have b1 := (b0.alloc _).ext hx1
  go_wp2
  rw [rounds_succ]
  have ac := a1.cell
  have bc := b1.cell
  have al := a1.lt
  have bl := b1.lt
  simp only [askCells, ruleBox] at ac bc
  go_wp2_with fail
  refine (rule_ask2 _ _ _ _ _).mono ?_
  rw [H2.out]
  rintro x w2 ⟨rfl, hx2⟩
  clear ac bc al bl
  have a2 := (a1.alloc _).ext hx2
  have b2 := (b1.alloc _).ext hx2
  go_wp2
  rw [rounds_succ]
  have ac := a2.cell
  have bc := b2.cell
  have al := a2.lt
  have bl := b2.lt
  simp only [askCells, ruleBox] at ac bc
  go_wp2_with fail
  refine (rule_ask3 _ _ _ _ _).mono ?_
  rw [H3.out]
  rintro x w3 ⟨rfl, hx3⟩
  clear ac bc al bl
  have a3 := (a2.alloc _).ext hx3
  have b3 := (b2.alloc _).ext hx3
  go_wp2
  rw [rounds_succ]
  have ac := a3.cell
  have bc := b3.cell
  have al := a3.lt
  have bl := b3.lt
  simp only [askCells, ruleBox] at ac bc
  go_wp2_with fail
  refine (rule_ask4 _ _ _ _ _ he0 he1 hb0 hb1).mono ?_
  rw [H4.out]
  rintro x w4 ⟨rfl, hx4⟩
  clear ac bc al bl
  have a4 := (a3.alloc _).ext hx4
  have b4 := (b3.alloc _).ext hx4
  go_wp2
  rw [rounds_succ]
  have ac := a4.cell
  have bc := b4.cell
  have al := a4.lt
  have bl := b4.lt
  simp only [askCells, ruleBox] at ac bc
  go_wp2_with fail
  refine (rule_ask5 _ _ _ _ _).mono ?_
  rw [H5.out]
  rintro x w5 ⟨rfl, hx5⟩
  clear ac bc al bl
  have a5 := (a4.alloc _).ext hx5
  have b5 := (b4.alloc _).ext hx5
  have n5 := (Blk.new' w4 #[.func (.func 187) #[] #[], .int .u16 27] 230 rfl).ext hx5
  have nc := n5.cell
  go_wp2
  go_ret
  exact ⟨rfl, (by repeat (first | with_reducible exact Ext.refl _ | with_reducible assumption | with_reducible refine Ext.alloc ?_ _ | with_reducible refine Ext.drew ?_ | (with_reducible refine Ext.setCell ?_ (by first | exact Nat.le_refl _ | (dsimp only; omega) | (simp; done) | (simp; omega)) _) | with_reducible refine Ext.trans ?_ (by with_reducible assumption)))⟩

set_option maxHeartbeats 1000000 in
set_option maxRecDepth 100000 in
theorem rule_Right6 (p : ByteArray) (e b k : Int) (w : World) (hm : p.size ≤ maxLen) (he0 : 0 ≤ e) (he1 : e < 18446744073709551616) (hb0 : 0 ≤ b) (hb1 : b < 18446744073709551616)
    (H1 : Hid (prefOk p = true)) (H2 : Hid (decide (0 < e) = true)) (H3 : Hid (decide (0 < b) = true)) (H4 : Hid (capOk e b = true)) (H5 : Hid (rightKind k = true)) :
    Calls Tryz.prog 81 #[.agg #[.string p, .int .u64 e, .int .u64 b, .int .u8 k]] w fun x w' => x = .returned (.int .u16 0) ∧ Ext w w' := by
  go_enter Tryz.func81, Tryz.ntmps81
  go_wp2_with (go_at_call 132; refine (rule_asks _).mono ?_; rintro x w0 ⟨rfl, hx0, a0⟩)
  have b0 := (Blk.new w (ruleBox p e b k) 37).ext hx0
  simp only [World.size_alloc] at a0
  refine wp_loop_rounds 6 ?_
  rw [rounds_succ]
  have ac := a0.cell
  have bc := b0.cell
  have al := a0.lt
  have bl := b0.lt
  simp only [askCells, ruleBox] at ac bc
  go_wp2_with fail
  refine (rule_ask1 _ _ _ _ _ hm).mono ?_
  rw [H1.out]
  rintro x w1 ⟨rfl, hx1⟩
  clear ac bc al bl
  have a1 := (a0.alloc _).ext hx1
  have b1 := (b0.alloc _).ext hx1
  go_wp2
  rw [rounds_succ]
  have ac := a1.cell
  have bc := b1.cell
  have al := a1.lt
  have bl := b1.lt
  simp only [askCells, ruleBox] at ac bc
  go_wp2_with fail
  refine (rule_ask2 _ _ _ _ _).mono ?_
  rw [H2.out]
  rintro x w2 ⟨rfl, hx2⟩
  clear ac bc al bl
  have a2 := (a1.alloc _).ext hx2
  have b2 := (b1.alloc _).ext hx2
  go_wp2
  rw [rounds_succ]
  have ac := a2.cell
  have bc := b2.cell
  have al := a2.lt
  have bl := b2.lt
  simp only [askCells, ruleBox] at ac bc
  go_wp2_with fail
  refine (rule_ask3 _ _ _ _ _).mono ?_
  rw [H3.out]
  rintro x w3 ⟨rfl, hx3⟩
  clear ac bc al bl
  have a3 := (a2.alloc _).ext hx3
  have b3 := (b2.alloc _).ext hx3
  go_wp2
  rw [rounds_succ]
  have ac := a3.cell
  have bc := b3.cell
  have al := a3.lt
  have bl := b3.lt
  simp only [askCells, ruleBox] at ac bc
  go_wp2_with fail
  refine (rule_ask4 _ _ _ _ _ he0 he1 hb0 hb1).mono ?_
  rw [H4.out]
  rintro x w4 ⟨rfl, hx4⟩
  clear ac bc al bl
  have a4 := (a3.alloc _).ext hx4
  have b4 := (b3.alloc _).ext hx4
  go_wp2
  rw [rounds_succ]
  have ac := a4.cell
  have bc := b4.cell
  have al := a4.lt
  have bl := b4.lt
  simp only [askCells, ruleBox] at ac bc
  go_wp2_with fail
  refine (rule_ask5 _ _ _ _ _).mono ?_
  rw [H5.out]
  rintro x w5 ⟨rfl, hx5⟩
  clear ac bc al bl
  have a5 := (a4.alloc _).ext hx5
  have b5 := (b4.alloc _).ext hx5
  go_wp2
  rw [rounds_succ]
  go_wp2
  go_ret
  exact ⟨rfl, (by repeat (first | with_reducible exact Ext.refl _ | with_reducible assumption | with_reducible refine Ext.alloc ?_ _ | with_reducible refine Ext.drew ?_ | (with_reducible refine Ext.setCell ?_ (by first | exact Nat.le_refl _ | (dsimp only; omega) | (simp; done) | (simp; omega)) _) | with_reducible refine Ext.trans ?_ (by with_reducible assumption)))⟩

theorem rule_Right (p : ByteArray) (e b k : Int) (w : World) (hm : p.size ≤ maxLen) (he0 : 0 ≤ e) (he1 : e < 18446744073709551616) (hb0 : 0 ≤ b) (hb1 : b < 18446744073709551616) :
    Calls Tryz.prog 81 #[.agg #[.string p, .int .u64 e, .int .u64 b, .int .u8 k]] w fun x w' => x = .returned (.int .u16 (ruleErr p e b k)) ∧ Ext w w' := by
  unfold ruleErr
  by_cases h1 : prefOk p = false
  · rw [if_pos h1]; exact rule_Right1 p e b k w hm he0 he1 hb0 hb1 (Lib.hid h1)
  rw [if_neg h1]
  have H1 := Lib.hid (by simpa using h1 : prefOk p = true)
  by_cases h2 : 0 < e
  · rw [if_neg (by simpa using h2)]
    have H2 := Lib.hid (decide_eq_true h2)
    by_cases h3 : 0 < b
    · rw [if_neg (by simpa using h3)]
      have H3 := Lib.hid (decide_eq_true h3)
      by_cases h4 : capOk e b = false
      · rw [if_pos h4]; exact rule_Right4 p e b k w hm he0 he1 hb0 hb1 H1 H2 H3 (Lib.hid h4)
      rw [if_neg h4]
      have H4 := Lib.hid (by simpa using h4 : capOk e b = true)
      by_cases h5 : rightKind k = false
      · rw [if_pos h5]; exact rule_Right5 p e b k w hm he0 he1 hb0 hb1 H1 H2 H3 H4 (Lib.hid h5)
      · rw [if_neg h5]; exact rule_Right6 p e b k w hm he0 he1 hb0 hb1 H1 H2 H3 H4 (Lib.hid (by simpa using h5))
    · rw [if_pos h3]; exact rule_Right3 p e b k w hm he0 he1 hb0 hb1 H1 H2 (Lib.hid (decide_eq_false h3))
  · rw [if_pos h2]; exact rule_Right2 p e b k w hm he0 he1 hb0 hb1 H1 (Lib.hid (decide_eq_false h2))
end Go.Proofs.YtknlojlcahgnoaaGreat

namespace Go.Proofs.YtknlojlcahgnoaaGreat
open Go.RowKit
set_option linter.unusedVariables false
set_option linter.unusedSimpArgs false

def ruleCap (p : ByteArray) (e b k : Int) : Int := if ruleErr p e b k = 0 then e * b else 0

theorem capOk_lt {e b : Int} (h : capOk e b = true) : e * b ≤ 4611686018427387904 := by
  unfold capOk satMul at h
  split at h <;> simp at h
  omega
theorem ruleErr_zero {p : ByteArray} {e b k : Int} (h : ruleErr p e b k = 0) : prefOk p = true ∧ 0 < e ∧ 0 < b ∧ capOk e b = true ∧ rightKind k = true := by
  unfold ruleErr at h
  by_cases h1 : prefOk p = false
  · rw [if_pos h1] at h; omega
  rw [if_neg h1] at h
  by_cases h2 : ¬ 0 < e
  · rw [if_pos h2] at h; omega
  rw [if_neg h2] at h
  by_cases h3 : ¬ 0 < b
  · rw [if_pos h3] at h; omega
  rw [if_neg h3] at h
  by_cases h4 : capOk e b = false
  · rw [if_pos h4] at h; omega
  rw [if_neg h4] at h
  by_cases h5 : rightKind k = false
  · rw [if_pos h5] at h; omega
  simp at h1 h4 h5
  exact ⟨h1, by omega, by omega, h4, h5⟩

/-- the first place of a text in a list, or -1 -/
def sIdx (l : List ByteArray) (s : ByteArray) : Int := match l with
  | [] => -1
  | x :: r => if (s.toList == x.toList) = true then 0 else if sIdx r s < 0 then -1 else sIdx r s + 1
def SIdx (l : List ByteArray) (s : ByteArray) (k : Nat) : Prop := sIdx l s = if sIdx (l.drop k) s < 0 then -1 else sIdx (l.drop k) s + k
theorem sIdx_ge (l : List ByteArray) (s : ByteArray) : -1 ≤ sIdx l s := by
  induction l with
  | nil => simp [sIdx]
  | cons x r ih => unfold sIdx; split <;> (try split) <;> omega
theorem SIdx_zero (l : List ByteArray) (s : ByteArray) : SIdx l s 0 := by
  unfold SIdx; have := sIdx_ge l s; rw [List.drop_zero]; split <;> omega
theorem SIdx_succ {l : List ByteArray} {s : ByteArray} {k : Nat} (h : k < l.length) (R : SIdx l s k) (hne : (s.toList == l[k].toList) = false) : SIdx l s (k + 1) := by
  unfold SIdx at *
  rw [List.drop_eq_getElem_cons h] at R
  have e : sIdx (l[k] :: l.drop (k + 1)) s = if sIdx (l.drop (k + 1)) s < 0 then -1 else sIdx (l.drop (k + 1)) s + 1 := by
    conv => lhs; unfold sIdx
    simp [hne]
  rw [e] at R
  rw [R]
  have := sIdx_ge (l.drop (k + 1)) s
  split <;> rename_i q <;> (try split) <;> (try split) <;> omega
theorem SIdx_hit {l : List ByteArray} {s : ByteArray} {k : Nat} (h : k < l.length) (R : SIdx l s k) (hne : (s.toList == l[k].toList) = true) : sIdx l s = k := by
  unfold SIdx at R
  rw [List.drop_eq_getElem_cons h] at R
  have e : sIdx (l[k] :: l.drop (k + 1)) s = 0 := by
    conv => lhs; unfold sIdx
    simp [hne]
  rw [e] at R
  rw [R]; simp
theorem SIdx_end {l : List ByteArray} {s : ByteArray} {k : Nat} (h : l.length ≤ k) (R : SIdx l s k) : sIdx l s = -1 := by
  unfold SIdx at R
  rw [List.drop_of_length_le h] at R
  rw [R]; simp [sIdx]

theorem str_index (b o c n : Nat) (l : List ByteArray) (s : ByteArray) (w : World) (hn : l.length = n) (hlen : n ≤ maxLen) (hc : ∀ j (h : j < l.length), w.cell? ⟨b, o + j, none⟩ = some (.string l[j])) :
    Calls Tryz.prog 214 #[.slice (some ⟨b, o, none⟩) n c, .string s] w fun e w' => e = .returned (.int .i64 (sIdx l s)) ∧ w = w' := by
  subst hn
  unfold maxLen at hlen
  have HC := Lib.hid hc
  clear hc
  go_enter Tryz.func214, Tryz.ntmps214
  go_wp2
  go_loop [5, 8] (fun x i => ∃ k : Nat, k ≤ l.length ∧ i = .int .i64 k ∧ SIdx l s k) (fun _ i => l.length - (intOf i).toNat)
  case atStart => exact ⟨0, by omega, rfl, SIdx_zero _ _⟩
  case round =>
    obtain ⟨k, hk, rfl, R⟩ := hrel
    by_cases hlt : k < l.length
    · have hcell := HC.out k hlt
      cases hb : s.toList == l[k].toList
      · have HB := Lib.hid hb
        generalize hxk : l[k] = xk at *
        have HX := Lib.hid hxk
        clear hxk
        go_wp2
        go_round
        case rel => exact ⟨k + 1, by omega, by go_num, SIdx_succ hlt R (by rw [HX.out]; exact HB.out)⟩
        case measure => simp [intOf]; omega
      · have HB := Lib.hid hb
        generalize hxk : l[k] = xk at *
        have HX := Lib.hid hxk
        clear hxk
        go_wp2
        go_ret
        exact ⟨ret_int (SIdx_hit hlt R (by rw [HX.out]; exact HB.out)).symm, rfl⟩
    · go_wp2
      go_ret
      exact ⟨ret_int (SIdx_end (by omega) R).symm, rfl⟩

def nmG : ByteArray := ⟨#[103, 99, 114, 97]⟩
def nmB : ByteArray := ⟨#[98, 117, 99, 107, 101, 116]⟩
def nmL : ByteArray := ⟨#[108, 101, 97, 107, 121]⟩
def nmCells : Array Value := #[.string ⟨#[]⟩, .string nmG, .string nmB, .string nmL]

theorem rule_names (w : World) :
    Calls Tryz.prog 141 #[] w fun x w' => x = .returned (.agg nmCells) ∧ Ext w w' := by
  go_enter Tryz.func141, Tryz.ntmps141
  go_wp2
  exact bodyPost_ret (v := .agg nmCells) (by simp [results, Tryz.results141, go_sem, nmCells, nmG, nmB, nmL]) rfl ⟨rfl, (by repeat (first | with_reducible exact Ext.refl _ | with_reducible assumption | with_reducible refine Ext.alloc ?_ _ | with_reducible refine Ext.drew ?_ | (with_reducible refine Ext.setCell ?_ (by first | exact Nat.le_refl _ | (dsimp only; omega) | (simp; done) | (simp; omega)) _) | with_reducible refine Ext.trans ?_ (by with_reducible assumption)))⟩

def kindOf (s : ByteArray) : Int := sIdx [nmG, nmB, nmL] s + 1

theorem rule_Kind (s : ByteArray) (w : World) :
    Calls Tryz.prog 196 #[.string s] w fun x w' => x = .returned (.tuple #[.int .u8 (kindOf s), .bool (decide (0 < kindOf s))]) ∧ Ext w w' := by
  have H := Lib.hid (show kindOf s = sIdx [nmG, nmB, nmL] s + 1 from rfl)
  have g1 := sIdx_ge [nmG, nmB, nmL] s
  have g2 : sIdx [nmG, nmB, nmL] s < 3 := by simp only [sIdx]; repeat' split <;> omega
  generalize hi : sIdx [nmG, nmB, nmL] s = i at *
  have HI := Lib.hid hi
  clear hi
  go_enter Tryz.func196, Tryz.ntmps196
  go_wp2_with (go_at_call 141; refine (rule_names _).mono ?_; rintro x w0 ⟨rfl, hx⟩; simp only [nmCells])
  refine (str_index _ _ _ _ [nmG, nmB, nmL] _ _ rfl (by decide) ?_).mono ?_
  · intro j h
    rcases (by simp at h; omega : j = 0 ∨ j = 1 ∨ j = 2) with rfl | rfl | rfl <;> simp
  rw [HI.out]
  rintro x w' ⟨rfl, rfl⟩
  go_wp2
  go_ret2
  exact ⟨ret_2 (val_int (by rw [H.out])) (val_bool (by rw [H.out])), (by repeat (first | with_reducible exact Ext.refl _ | with_reducible assumption | with_reducible refine Ext.alloc ?_ _ | with_reducible refine Ext.drew ?_ | (with_reducible refine Ext.setCell ?_ (by first | exact Nat.le_refl _ | (dsimp only; omega) | (simp; done) | (simp; omega)) _) | with_reducible refine Ext.setCell ?_ (by simp; try omega) _ | with_reducible refine Ext.trans ?_ (by with_reducible assumption)))⟩

def nameOf (k : Int) : ByteArray := if k = 1 then nmG else if k = 2 then nmB else if k = 3 then nmL else ⟨#[]⟩

set_option maxRecDepth 100000 in
theorem rule_Name (k : Int) (w : World) :
    Calls Tryz.prog 90 #[.int .u8 k] w fun x w' => x = .returned (.string (nameOf k)) ∧ Ext w w' := by
  cases hr : rightKind k
  · have HR := Lib.hid hr
    have H := Lib.hid (show nameOf k = ⟨#[]⟩ by
      unfold rightKind at hr
      simp at hr
      unfold nameOf
      rw [if_neg (by omega), if_neg (by omega), if_neg (by omega)])
    clear hr
    go_enter Tryz.func90, Tryz.ntmps90
    go_wp2_with (go_at_call 140; refine (kernel_Right _ _).mono ?_; rw [HR.out]; rintro x w' ⟨rfl, hb⟩)
    go_ret
    exact ⟨ret_str H.out.symm, (by repeat (first | with_reducible exact Ext.refl _ | with_reducible assumption | with_reducible refine Ext.alloc ?_ _ | with_reducible refine Ext.drew ?_ | (with_reducible refine Ext.setCell ?_ (by first | exact Nat.le_refl _ | (dsimp only; omega) | (simp; done) | (simp; omega)) _) | with_reducible refine Ext.trans ?_ (by with_reducible assumption)))⟩
  · have HR := Lib.hid hr
    have hk : k = 1 ∨ k = 2 ∨ k = 3 := by
      unfold rightKind at hr
      simp at hr
      omega
    clear hr
    have i1 : ∀ w, (Instr.index 234 (.agg #[.string ⟨#[]⟩, .string nmG, .string nmB, .string nmL]) (.int .u8 1)).run Tryz.prog w = .ok (.string nmG) w := fun _ => by kernel_rfl
    have i2 : ∀ w, (Instr.index 234 (.agg #[.string ⟨#[]⟩, .string nmG, .string nmB, .string nmL]) (.int .u8 2)).run Tryz.prog w = .ok (.string nmB) w := fun _ => by kernel_rfl
    have i3 : ∀ w, (Instr.index 234 (.agg #[.string ⟨#[]⟩, .string nmG, .string nmB, .string nmL]) (.int .u8 3)).run Tryz.prog w = .ok (.string nmL) w := fun _ => by kernel_rfl
    rcases hk with rfl | rfl | rfl
    all_goals
      go_enter Tryz.func90, Tryz.ntmps90
      go_wp2_with (first
        | (go_at_call 140; refine (kernel_Right _ _).mono ?_; rw [HR.out]; rintro x w' ⟨rfl, hb⟩)
        | (go_at_call 141; refine (rule_names _).mono ?_; rintro x w0 ⟨rfl, hx⟩; simp only [nmCells]))
      go_ret
      exact ⟨rfl, (by repeat (first | with_reducible exact Ext.refl _ | with_reducible assumption | with_reducible refine Ext.alloc ?_ _ | with_reducible refine Ext.drew ?_ | (with_reducible refine Ext.setCell ?_ (by first | exact Nat.le_refl _ | (dsimp only; omega) | (simp; done) | (simp; omega)) _) | with_reducible refine Ext.trans ?_ (by with_reducible assumption)))⟩
end Go.Proofs.YtknlojlcahgnoaaGreat

namespace Go.Proofs.YtknlojlcahgnoaaGreat
open Go.RowKit
set_option linter.unusedVariables false
set_option linter.unusedSimpArgs false

theorem dtoList_nil_iff (s : ByteArray) : (s.toList = []) ↔ s.size = 0 := by
  rw [ByteArray.toList_eq, ← List.length_eq_zero_iff, data_len]
theorem disEmpty_iff (s : ByteArray) : s.toList.isEmpty = decide (s.size = 0) := by
  rw [Bool.eq_iff_iff, List.isEmpty_iff, dtoList_nil_iff]; simp

def DigJ (s : ByteArray) (w : World) (a' : Act) (w' : World) : Prop := w' = w ∧ ∃ (k : Nat) (n : Int) (big : Bool) (i : Int), i = k ∧ k < s.size ∧ DigRel s k n big ∧ ∃ u7 u8 u9 u10 u11 u12 u13 u14 u15 u16 u17 u18 u19 u20 u21 u22 u23 u24 u25 u26 u27 u28 u29 u30 u31 u32 u33 u34 u35 u36 u37 u38 u39 u40 u41 u42 u43 u44 u45 u46 : Value, a' = { tmps := #[.string s, undef, .int .u64 0, .int .u16 0, .int .u64 n, .bool big, .int .i64 i, u7, u8, u9, u10, u11, u12, u13, u14, u15, u16, u17, u18, u19, u20, u21, u22, u23, u24, u25, u26, u27, u28, u29, u30, u31, u32, u33, u34, u35, u36, u37, u38, u39, u40, u41, u42, u43, u44, u45, u46], defers := [] }
theorem not_dig {n : Int} (h0 : 0 ≤ n) (h1 : n < 256) (hd : ¬ (48 ≤ n ∧ n ≤ 57)) : 10 ≤ IntKind.u64.wrap (n - 48) := by rw [wrap_u64]; omega

set_option maxHeartbeats 1000000 in
set_option maxRecDepth 100000 in
theorem digit_Parse (s : ByteArray) (w : World) (hm : s.size ≤ maxLen) :
    Calls Tryz.prog 99 #[.string s] w fun x w' => x = .returned (.tuple #[.int .u64 (digNum s), .int .u16 (digErr s)]) ∧ w = w' := by
  unfold maxLen at hm
  by_cases h0 : s.size = 0
  · have hl : digLead s = true := by simp [digLead, h0]
    have H1 := Lib.hid (digErr_lead hl)
    have H2 := Lib.hid (digNum_err (s := s) (by rw [H1.out]; omega))
    have h1 : s.toList.isEmpty = true := by rw [disEmpty_iff]; simpa using h0
    have h2 : s.toList = [] := (dtoList_nil_iff s).2 h0
    clear hl h0
    go_enter Tryz.func99, Tryz.ntmps99
    go_wp2
    go_step3
    go_wp2
    rw [Exit.noGoto_ret]
    go_ret2
    exact ⟨ret_2 (val_int H2.out.symm) (val_int H1.out.symm), rfl⟩
  have h1 : s.toList.isEmpty = false := by rw [disEmpty_iff]; simpa using h0
  have h2 : ¬ s.toList = [] := fun e => h0 ((dtoList_nil_iff s).1 e)
  have h3 : 0 < s.size := by omega
  by_cases hl : digLead s = true
  · have H1 := Lib.hid (digErr_lead hl)
    have H2 := Lib.hid (digNum_err (s := s) (by rw [H1.out]; omega))
    obtain ⟨h5, h4'⟩ := digLead_yes h3 hl
    have h4 : ((s[0].toNat : Int) == 48) = true := by rw [beq_iff_eq]; omega
    clear hl h0
    go_enter Tryz.func99, Tryz.ntmps99
    go_wp2
    go_step3
    go_wp2
    rw [Exit.noGoto_ret]
    go_ret2
    exact ⟨ret_2 (val_int H2.out.symm) (val_int H1.out.symm), rfl⟩
  · have HL := Lib.hid (by simpa using hl : digLead s = false)
    have hsp : s.size ≤ 1 ∨ ((s[0].toNat : Int) == 48) = false := by
      rcases digLead_no h3 hl with h | h
      · exact .inl h
      · right; rw [beq_eq_false_iff_ne]; omega
    have HS := Lib.hid hsp
    clear hl hsp h0
    go_enter Tryz.func99, Tryz.ntmps99
    go_wp2
    refine wp_scope_jumps2 0 (DigJ s w) (fun a' _ => s.size - (intOf (a'.tmps.getD 6 undef)).toNat) rfl ?_ ?_
    · rintro a' w' ⟨rfl, k, n, big, i, rfl, hk, R, u7, u8, u9, u10, u11, u12, u13, u14, u15, u16, u17, u18, u19, u20, u21, u22, u23, u24, u25, u26, u27, u28, u29, u30, u31, u32, u33, u34, u35, u36, u37, u38, u39, u40, u41, u42, u43, u44, u45, u46, rfl⟩
      by_cases hd : 48 ≤ (s[k].toNat : Int) ∧ (s[k].toNat : Int) ≤ 57
      · have R' := digRel_step hk R (d := (s[k].toNat : Int) - 48) rfl (by omega) (by omega)
        have HR := Lib.hid R'
        obtain ⟨-, -, -, n0, n1, -⟩ := R
        clear R'
        obtain ⟨d0, d1⟩ := hd
        cases big
        all_goals
          go_wp2
          all_goals first
            | (go_step3
               refine ⟨rfl, ⟨rfl, k + 1, _, _, (k : Int) + 1, by omega, by omega, HR.out, _, _, _, _, _, _, _, _, _, _, _, _, _, _, _, _, _, _, _, _, _, _, _, _, _, _, _, _, _, _, _, _, _, _, _, _, _, _, _, _, rfl⟩, ?_⟩
               simp [intOf]; omega)
            | (simp only [Exit.jump]
               go_ret2
               obtain ⟨e1, e2⟩ := digRel_end (by omega) HR.out HL.out
               first
                 | (have hc : (18446744073709551615 - ((s[k].toNat : Int) - 48)) / 10 < n := by assumption
                    rw [decide_eq_true hc] at e1 e2
                    exact ⟨ret_2 (val_int e2.symm) (val_int e1.symm), rfl⟩)
                 | (have hc : n ≤ (18446744073709551615 - ((s[k].toNat : Int) - 48)) / 10 := by assumption
                    rw [decide_eq_false (Int.not_lt.2 hc)] at e1 e2
                    exact ⟨ret_2 (val_int e2.symm) (val_int e1.symm), rfl⟩)
                 | exact ⟨ret_2 (val_int e2.symm) (val_int e1.symm), rfl⟩)
      · have hbd : 0 ≤ (s[k].toNat : Int) ∧ (s[k].toNat : Int) < 256 := ⟨by omega, by have := s[k].toNat_lt; omega⟩
        have hnd := not_dig hbd.1 hbd.2 hd
        have HE := Lib.hid (digErr_bad hk (by rw [Bool.eq_false_iff]; intro q; exact hd ((isDig_iff _).1 q)))
        have H2 := Lib.hid (digNum_err (s := s) (by rw [HE.out]; omega))
        clear R
        obtain ⟨hb0, hb1⟩ := hbd
        rcases (by omega : (s[k].toNat : Int) < 48 ∨ 57 < (s[k].toNat : Int)) with hlo | hlo
        all_goals
          clear hd
          go_wp2
          simp only [Exit.jump]
          go_ret2
          exact ⟨ret_2 (val_int H2.out.symm) (val_int HE.out.symm), rfl⟩
    · intro hp
      rcases HS.out with hs | hs
      all_goals
        go_wp2
        all_goals
          go_step3
          go_step
          go_step
          exact hp _ _ ⟨rfl, 0, 0, false, 0, rfl, h3, digRel_start s, _, _, _, _, _, _, _, _, _, _, _, _, _, _, _, _, _, _, _, _, _, _, _, _, _, _, _, _, _, _, _, _, _, _, _, _, _, _, _, _, rfl⟩
end Go.Proofs.YtknlojlcahgnoaaGreat

namespace Go.Proofs.YtknlojlcahgnoaaGreat
open Go.RowKit
set_option linter.unusedVariables false
set_option linter.unusedSimpArgs false

def tenDigits : ByteArray := ⟨#[48, 49, 50, 51, 52, 53, 54, 55, 56, 57]⟩
theorem ten_cut (k : Nat) (h : k < 10) : tenDigits.extract k (k + 1) = ⟨#[UInt8.ofNat (48 + k)]⟩ := by
  rcases (by omega : k = 0 ∨ k = 1 ∨ k = 2 ∨ k = 3 ∨ k = 4 ∨ k = 5 ∨ k = 6 ∨ k = 7 ∨ k = 8 ∨ k = 9) with rfl | rfl | rfl | rfl | rfl | rfl | rfl | rfl | rfl | rfl <;> rfl
theorem ten_slice (m : Int) (n : Nat) (hm : m = n) (w : World) :
    (Instr.slice 9 (.string tenDigits) (some (.int .u64 (m % 10))) (some (.int .u64 (m % 10 + 1))) none).run Tryz.prog w = .ok (.string ⟨#[UInt8.ofNat (48 + n % 10)]⟩) w := by
  have h10 : tenDigits.size = 10 := rfl
  rw [run_slice_string (P := Tryz.prog) (w := w) 9 tenDigits .u64 .u64 (m % 10) (m % 10 + 1) Tryz.underlying9 (by omega) (by omega) (by rw [h10]; omega)]
  have e1 : (m % 10).toNat = n % 10 := by omega
  have e2 : (m % 10 + 1).toNat = n % 10 + 1 := by omega
  rw [e1, e2, ten_cut _ (by omega)]
theorem add_digit (d : UInt8) (D : List UInt8) (h : D.length ≤ 20) (w : World) : (Op.stringOp .add ⟨#[d]⟩ ⟨D.toArray⟩).run Tryz.prog w = .ok (.string ⟨(d :: D).toArray⟩) w := by
  have hs : (ByteArray.mk D.toArray).size = D.length := by show D.toArray.size = _; simp
  have h1 : (ByteArray.mk #[d]).size = 1 := rfl
  rw [run_string_add_sum (P := Tryz.prog) (w := w) _ _ (by rw [hs, h1]; omega)]
  have e : (ByteArray.mk #[d]) = ByteArray.mk [d].toArray := rfl
  rw [e, ByteArray.mk_append_mk]
  rfl

def Ref03J (N : Nat) (n : Int) (s : Value) : Prop := ∃ (a k : Nat) (D : List UInt8), n = k ∧ s = .string ⟨D.toArray⟩ ∧ a + D.length = 20 ∧ k < 10 ^ a ∧ pdig N = pcat k D
theorem ref03J_step {N k a : Nat} {D : List UInt8} (h1 : a + D.length = 20) (h2 : k < 10 ^ a) (h3 : pdig N = pcat k D) (hk : 0 < k) :
    ∃ a', a' + (UInt8.ofNat (48 + k % 10) :: D).length = 20 ∧ k / 10 < 10 ^ a' ∧ pdig N = pcat (k / 10) (UInt8.ofNat (48 + k % 10) :: D) := by
  have ha : 1 ≤ a := by
    rcases (by omega : a = 0 ∨ 1 ≤ a) with e | e
    · subst e; simp at h2; omega
    · exact e
  have hn20 : k < 100000000000000000000 := by
    have := Nat.pow_le_pow_right (show 0 < 10 by omega) (show a ≤ 20 by omega)
    omega
  refine ⟨a - 1, by simp only [List.length_cons]; omega, ?_, ?_⟩
  · rw [Nat.div_lt_iff_lt_mul (by omega), ← Nat.pow_succ]
    have : (a - 1).succ = a := by omega
    rw [this]; exact h2
  · rw [h3, ← pdig_step k D hn20]
    unfold pcat
    rw [if_neg (by omega)]

set_option maxHeartbeats 1000000 in
set_option maxRecDepth 100000 in
theorem ref03_Print (n0 : Int) (w : World) (h0 : 0 ≤ n0) (h1 : n0 < 18446744073709551616) :
    Calls Tryz.prog 83 #[.int .u64 n0] w fun x w' => x = .returned (.string (digStr n0)) ∧ w = w' := by
  obtain ⟨N, hN⟩ := Int.eq_ofNat_of_zero_le h0
  have hsl := ten_slice n0 N hN
  have hstart := pdig_step N [] (by omega)
  have HN := Lib.hid hN
  have H0 := Lib.hid hstart
  clear hN hstart
  simp only [tenDigits] at hsl
  generalize hdg : UInt8.ofNat (48 + N % 10) = dg at *
  have HD := Lib.hid hdg
  clear hdg
  go_enter Tryz.func83, Tryz.ntmps83
  go_wp2
  go_loop [0, 3] (fun n s => ∃ m, n = .int .u64 m ∧ 0 ≤ m ∧ m < 18446744073709551616 ∧ Ref03J N m s) (fun n _ => (intOf n).toNat)
  case atStart =>
    refine ⟨n0 / 10, rfl, by omega, by omega, 19, N / 10, [dg], ?_, rfl, rfl, ?_, ?_⟩
    · have := HN.out; omega
    · have := HN.out; omega
    · have e := H0.out
      rw [List.append_nil] at e
      exact e
  case round =>
    obtain ⟨m, rfl, hm0, hm1, a, k, D, hm, rfl, ha, hk, hp⟩ := hrel
    by_cases hz : 0 < m
    · have hsl2 := ten_slice m k hm
      obtain ⟨a', r1, r2, r3⟩ := ref03J_step ha hk hp (by omega)
      have hadd := add_digit (UInt8.ofNat (48 + k % 10)) D (by omega)
      have hm' : m / 10 = (k / 10 : Nat) := by omega
      have HM := Lib.hid hm
      have HM' := Lib.hid hm'
      simp only [tenDigits] at hsl2
      generalize UInt8.ofNat (48 + k % 10) = d2 at *
      generalize hs1 : (ByteArray.mk #[d2]) = s1 at *
      generalize hs2 : (ByteArray.mk D.toArray) = s2 at *
      generalize hs3 : (ByteArray.mk (d2 :: D).toArray) = s3 at *
      have HS3 := Lib.hid hs3
      have R2 := Lib.hid r2
      have R3 := Lib.hid r3
      have R1 := Lib.hid r1
      clear hs1 hs2 hs3 hm hm' ha hk hp r2 r3 r1 hsl
      go_wp2
      go_round
      case rel => exact ⟨m / 10, rfl, by omega, by omega, a', k / 10, d2 :: D, HM'.out, by rw [HS3.out], R1.out, R2.out, R3.out⟩
      case measure => simp [intOf]; omega
    · clear hsl
      have HM := Lib.hid hm
      clear hm ha hk
      have HP := Lib.hid hp
      clear hp
      go_wp2
      go_ret
      refine ⟨ret_str ?_, rfl⟩
      unfold digStr
      have hk0 : k = 0 := by have := HM.out; omega
      have e := HP.out
      unfold pcat at e
      rw [if_pos hk0] at e
      have e0 : n0.toNat = N := by have := HN.out; omega
      rw [e0, e]

theorem dval_snoc_le {l : List UInt8} {b : UInt8} (h : isDig b = true) : dval (l ++ [b]) = 10 * dval l + ((b.toNat : Int) - 48) ∧ 48 ≤ (b.toNat : Int) ∧ (b.toNat : Int) ≤ 57 := ⟨dval_snoc l b, (isDig_iff b).1 h⟩
/-- the value of a list's front is at most that of the list -/
theorem dval_take_le {l : List UInt8} (h : l.all isDig = true) (k : Nat) : dval (l.take k) ≤ dval l := by
  have key : ∀ (r l : List UInt8), l.all isDig = true → r.all isDig = true → dval l ≤ dval (l ++ r) := by
    intro r
    induction r with
    | nil => intro l _ _; simp
    | cons b r ih =>
      intro l hl hr
      simp only [List.all_cons, Bool.and_eq_true] at hr
      have e : l ++ b :: r = (l ++ [b]) ++ r := by simp
      rw [e]
      have h1 : (l ++ [b]).all isDig = true := by rw [List.all_append, hl]; simp [hr.1]
      have h2 := ih (l ++ [b]) h1 hr.2
      have h3 := dval_snoc_le (l := l) hr.1
      have h4 := dval_nonneg hl
      omega
  have e := List.take_append_drop k l
  have h1 : (l.take k).all isDig = true := by
    rw [List.all_eq_true] at h ⊢
    exact fun x hx => h x (List.mem_of_mem_take hx)
  have h2 : (l.drop k).all isDig = true := by
    rw [List.all_eq_true] at h ⊢
    exact fun x hx => h x (List.mem_of_mem_drop hx)
  have := key _ _ h1 h2
  rw [e] at this
  exact this

theorem digErr_big {s : ByteArray} (hl : digLead s = false) (hall : s.data.toList.all isDig = true) (h : 18446744073709551616 ≤ dval s.data.toList) : digErr s = 11 := by
  unfold digErr; rw [hl, hall, if_neg (by simp), if_neg (by simp), if_pos h]
theorem digErr_fine {s : ByteArray} (hl : digLead s = false) (hall : s.data.toList.all isDig = true) (h : dval s.data.toList < 18446744073709551616) : digErr s = 0 := by
  unfold digErr; rw [hl, hall, if_neg (by simp), if_neg (by simp), if_neg (by omega)]
def AllDig (s : ByteArray) (k : Nat) : Prop := (s.data.toList.take k).all isDig = true
def ValIs (s : ByteArray) (k : Nat) (n : Int) : Prop := n = dval (s.data.toList.take k) ∧ 0 ≤ n ∧ n < 18446744073709551616
theorem all_get {s : ByteArray} (h : s.data.toList.all isDig = true) (k : Nat) (hk : k < s.size) : 48 ≤ (s[k].toNat : Int) ∧ (s[k].toNat : Int) ≤ 57 := by
  rw [List.all_eq_true] at h
  refine (isDig_iff _).1 (h _ ?_)
  rw [← data_get s k hk]
  exact List.getElem_mem _

set_option maxHeartbeats 1000000 in
set_option maxRecDepth 100000 in
theorem ref03_Parse (s : ByteArray) (w : World) (hm : s.size ≤ maxLen) :
    Calls Tryz.prog 188 #[.string s] w fun x w' => x = .returned (.tuple #[.int .u64 (digNum s), .int .i64 (digErr s)]) ∧ w = w' := by
  unfold maxLen at hm
  by_cases h0 : s.size = 0
  · have hl : digLead s = true := by simp [digLead, h0]
    have H1 := Lib.hid (digErr_lead hl)
    have H2 := Lib.hid (digNum_err (s := s) (by rw [H1.out]; omega))
    have h1 : ((s.size : Int) == 0) = true := by rw [beq_iff_eq]; omega
    clear hl h0
    go_enter Tryz.func188, Tryz.ntmps188
    go_wp2
    go_ret2
    exact ⟨ret_2 (val_int H2.out.symm) (val_int H1.out.symm), rfl⟩
  have h1 : ((s.size : Int) == 0) = false := by rw [beq_eq_false_iff_ne]; omega
  have h3 : 0 < s.size := by omega
  by_cases hl : digLead s = true
  · have H1 := Lib.hid (digErr_lead hl)
    have H2 := Lib.hid (digNum_err (s := s) (by rw [H1.out]; omega))
    obtain ⟨h5, h4'⟩ := digLead_yes h3 hl
    have h4 : ((s[0].toNat : Int) == 48) = true := by rw [beq_iff_eq]; omega
    clear hl h0
    go_enter Tryz.func188, Tryz.ntmps188
    go_wp2
    go_ret2
    exact ⟨ret_2 (val_int H2.out.symm) (val_int H1.out.symm), rfl⟩
  have HL := Lib.hid (by simpa using hl : digLead s = false)
  have hsp : ¬ (1 : Int) < s.size ∨ ((1 : Int) < s.size ∧ ((s[0].toNat : Int) == 48) = false) := by
    by_cases h : 1 < s.size
    · right
      refine ⟨by omega, ?_⟩
      rcases digLead_no h3 hl with h' | h'
      · omega
      · rw [beq_eq_false_iff_ne]; omega
    · left; omega
  clear hl h0
  rcases hsp with hs | ⟨hs1, hs2⟩
  all_goals
    go_enter Tryz.func188, Tryz.ntmps188
    go_wp2
    go_loop [4] (fun i => ∃ k : Nat, k ≤ s.size ∧ i = .int .i64 k ∧ AllDig s k) (fun i => s.size - (intOf i).toNat)
    case atStart => exact ⟨0, by omega, rfl, rfl⟩
    case round =>
      obtain ⟨k, hk, rfl, R⟩ := hrel
      by_cases hlt : k < s.size
      · have HB : isDig s[k] = false → Hid (digErr s = 10) := fun h => Lib.hid (digErr_bad hlt h)
        have HBh := Lib.hid HB
        have HR : isDig s[k] = true → AllDig s (k + 1) := fun h => by
          unfold AllDig at R ⊢
          rw [take_snoc' s k hlt, List.all_append, R]
          simp [h]
        have HRh := Lib.hid HR
        clear HB HR R
        go_wp2
        all_goals first
          | (go_ret2
             have hb : isDig s[k] = false := by rw [Bool.eq_false_iff]; intro q; have := (isDig_iff _).1 q; omega
             have he := (HBh.out hb).out
             exact ⟨ret_2 (val_int (digNum_err (by rw [he]; omega)).symm) (val_int he.symm), rfl⟩)
          | (go_round
             case rel => exact ⟨k + 1, by omega, by go_num, HRh.out ((isDig_iff _).2 (by omega))⟩
             case measure => simp [intOf]; omega)
      · have hall : s.data.toList.all isDig = true := by
          unfold AllDig at R
          rw [List.take_of_length_le (by rw [data_len]; omega)] at R
          exact R
        have HA := Lib.hid hall
        clear R hall
        go_wp2
        go_loop [5, 6] (fun n i => ∃ (k : Nat) (m : Int), k ≤ s.size ∧ i = .int .i64 k ∧ n = .int .u64 m ∧ ValIs s k m) (fun _ i => s.size - (intOf i).toNat)
        case atStart => exact ⟨0, 0, by omega, rfl, rfl, by simp [ValIs, dval]⟩
        case round =>
          obtain ⟨k, m, hk, rfl, rfl, hm1, hm2, hm3⟩ := hrel
          by_cases hlt : k < s.size
          · obtain ⟨d0, d1⟩ := all_get HA.out k hlt
            have hsn := dval_snoc (s.data.toList.take k) s[k]
            rw [← take_snoc' s k hlt, ← hm1] at hsn
            have hle := dval_take_le HA.out (k + 1)
            rw [hsn] at hle
            have HV := Lib.hid hsn
            have HE := Lib.hid hle
            clear hsn hle hm1
            by_cases hbig : (18446744073709551615 - ((s[k].toNat : Int) - 48)) / 10 < m
            · have he := digErr_big HL.out HA.out (by have := HE.out; omega)
              have H1 := Lib.hid he
              have H2 := Lib.hid (digNum_err (s := s) (by rw [he]; omega))
              clear he
              go_wp2
              go_ret2
              exact ⟨ret_2 (val_int H2.out.symm) (val_int H1.out.symm), rfl⟩
            · have hn2 : 10 * m + ((s[k].toNat : Int) - 48) < 18446744073709551616 := by omega
              go_wp2
              go_round
              case rel => exact ⟨k + 1, 10 * m + ((s[k].toNat : Int) - 48), by omega, by go_num, rfl, HV.out.symm, by omega, hn2⟩
              case measure => simp [intOf]; omega
          · rw [List.take_of_length_le (by rw [data_len]; omega)] at hm1
            have he := digErr_fine HL.out HA.out (by omega)
            have H1 := Lib.hid he
            have H2 := Lib.hid (show digNum s = m by rw [hm1]; exact if_pos he)
            clear he hm1
            go_wp2
            go_ret2
            exact ⟨ret_2 (val_int H2.out.symm) (val_int H1.out.symm), rfl⟩
end Go.Proofs.YtknlojlcahgnoaaGreat

namespace Go.Proofs.YtknlojlcahgnoaaGreat
open Go.RowKit
set_option linter.unusedVariables false
set_option linter.unusedSimpArgs false

/-- the array of twenty bytes, its end filled -/
def digCells (a : Nat) (D : List UInt8) : Array Value := (List.replicate a (Value.int .u8 0) ++ D.map fun b => Value.int .u8 (b.toNat : Int)).toArray
theorem digCells_set (a : Nat) (D : List UInt8) (b : UInt8) (n : Int) (hn : n = (b.toNat : Int)) (h : 1 ≤ a) : (digCells a D).setIfInBounds (a - 1) (.int .u8 n) = digCells (a - 1) (b :: D) := by
  subst hn
  obtain ⟨j, rfl⟩ : ∃ j, a = j + 1 := ⟨a - 1, by omega⟩
  unfold digCells
  rw [Nat.add_sub_cancel]
  simp only [List.setIfInBounds_toArray]
  congr 1
  rw [List.replicate_succ']
  simp [List.set_append]
theorem digCells_at (a : Nat) (D : List UInt8) (h : 1 ≤ a) : (digCells a D)[a - 1]? = some (.int .u8 0) := by
  obtain ⟨j, rfl⟩ : ∃ j, a = j + 1 := ⟨a - 1, by omega⟩
  unfold digCells
  simp [List.getElem?_append]
theorem digCells_get (a : Nat) (D : List UInt8) (j : Nat) (h : j < D.length) : (digCells a D)[a + j]? = some (.int .u8 (D[j].toNat : Int)) := by
  unfold digCells
  simp [List.getElem?_append, h]

/-- at the label: a places are free; n is still to be written -/
def PrintJ (n0 : Nat) (B : Nat) (w : World) (a' : Act) (w' : World) : Prop :=
  ∃ (a n : Nat) (D : List UInt8) (i m : Int), i = a ∧ m = n ∧ m < 18446744073709551616 ∧ 1 ≤ a ∧ a + D.length = 20 ∧ n < 10 ^ a ∧ pdig n0 = pdig n ++ D ∧ Blk w' B (digCells a D) 165 ∧ Ext w w' ∧
    ∃ u1 u5 u6 u7 u8 u9 u10 u11 u12 u13 u14 u15 u16 u17 u18 u19 : Value, a' = { tmps := #[.int .u64 m, u1, .string ⟨#[]⟩, .pointer (some ⟨B, 0, none⟩), .int .i64 i, u5, u6, u7, u8, u9, u10, u11, u12, u13, u14, u15, u16, u17, u18, u19], defers := [] }

theorem dig_slice (B a : Nat) (ha : 1 ≤ a) (ha2 : a ≤ 20) (w : World) :
    (Instr.sliceAt 165 (.pointer (some ⟨B, 0, none⟩)) (some (.int .i64 ((a : Int) - 1))) none none).run Tryz.prog w = .ok (.slice (some ⟨B, a - 1, none⟩) (20 - (a - 1)) (20 - (a - 1))) w := by
  have hl : Tryz.prog.arrayLen 165 = 20 := by kernel_rfl
  have hz : (sizeOf (Tryz.prog.elem 165)).run Tryz.prog w = .ok 1 w := by kernel_rfl
  have e : ((a : Int) - 1).toNat = a - 1 := by omega
  rw [run_sliceAt_array_l w 165 ⟨B, 0, none⟩ (by kernel_rfl) .i64 ((a : Int) - 1) (by omega) (by rw [hl]; omega), hz, hl, e]
  simp only [Result.andThen, slicedAt]
  rw [if_neg (by omega)]
  have e : (⟨B, 0, none⟩ : Addr).add ((a - 1) * 1) = ⟨B, a - 1, none⟩ := by simp [Addr.add]; omega
  rw [e]
theorem dig_string (B a n : Nat) (D : List UInt8) (hn : D.length = n) (w : World) (hb : Blk w B (digCells a D) 165) :
    (convert 22 9 (.slice (some ⟨B, a, none⟩) n n)).run Tryz.prog w = .ok (.string ⟨D.toArray⟩) w := by
  subst hn
  refine run_convert_bytes_back w 22 9 5 ⟨B, a, none⟩ _ D Tryz.underlying22 Tryz.underlying5 Tryz.underlying9 ?_
  intro j hj
  have e : (⟨B, a, none⟩ : Addr).add j = ⟨B, a + j, none⟩ := by simp [Addr.add]
  rw [e, hb.cell, digCells_get a D j hj]

set_option maxHeartbeats 1000000 in
set_option maxRecDepth 100000 in
theorem digit_Print (n0 : Int) (w : World) (h0 : 0 ≤ n0) (h1 : n0 < 18446744073709551616) :
    Calls Tryz.prog 41 #[.int .u64 n0] w fun x w' => x = .returned (.string (digStr n0)) ∧ Ext w w' := by
  obtain ⟨N, rfl⟩ := Int.eq_ofNat_of_zero_le h0
  have HN := Lib.hid h1
  clear h1 h0
  go_enter Tryz.func41, Tryz.ntmps41
  go_wp2
  refine wp_scope_jumps2 0 (PrintJ N w.heap.size w) (fun a' _ => (intOf (a'.tmps.getD 4 undef)).toNat) rfl ?_ ?_
  · rintro a' w' ⟨a, n, D, i, m, rfl, hm, hm1, ha, hlen, hlt, hp, hb, hx, u1, u5, u6, u7, u8, u9, u10, u11, u12, u13, u14, u15, u16, u17, u18, u19, rfl⟩
    have hc : w'.cell? ⟨w.heap.size, a - 1, none⟩ = some (.int .u8 0) := (hb.cell _).trans (digCells_at a D ha)
    have hf := hb.free (a - 1)
    have ha2 : a ≤ 20 := by omega
    have hm0 : 0 ≤ m := by omega
    have hdig : 48 + m % 10 = ((UInt8.ofNat (48 + n % 10)).toNat : Int) := by
      simp
      omega
    have hstep' := pdig_step n D
    generalize UInt8.ofNat (48 + n % 10) = dg at *
    have hb' := hb.set (a - 1) (.int .u8 (48 + m % 10))
    rw [digCells_set a D _ _ hdig ha] at hb'
    have hn20 : n < 100000000000000000000 := by
      have := Nat.pow_le_pow_right (show 0 < 10 by omega) ha2
      omega
    have hstep := hstep' hn20
    rw [← hp] at hstep
    have hn10 : n / 10 < 10 ^ (a - 1) := by
      rw [Nat.div_lt_iff_lt_mul (by omega), ← Nat.pow_succ]
      have : (a - 1).succ = a := by omega
      rw [this]; exact hlt
    have hs := dig_slice w.heap.size a ha ha2
    have hlen' : (dg :: D).length = 20 - (a - 1) := by simp; omega
    have hcv := dig_string w.heap.size (a - 1) (20 - (a - 1)) _ hlen' _ hb'
    have hx' : Ext w (w'.setCell ⟨w.heap.size, a - 1, none⟩ (.int .u8 (48 + m % 10))) := hx.setCell (Nat.le_refl _) _
    have HP := Lib.hid hstep
    have HM := Lib.hid hm
    have HL := Lib.hid hlen'
    have H10 := Lib.hid hn10
    have HB := Lib.hid hb'
    have ha1 : (1 : Int) ≤ a := by omega
    clear hstep' hm hp hlen hlt hdig hn20 hstep hlen' hn10 hb' hb
    by_cases hz : 0 < m / 10
    · clear hcv hs
      go_wp2
      go_step3
      have ha0 : 2 ≤ a := by
        have h10 := H10.out
        have hmm := HM.out
        rcases (by omega : a = 1 ∨ 2 ≤ a) with e | e
        · subst e; simp at h10; omega
        · exact e
      refine ⟨rfl, ⟨a - 1, n / 10, _, (a : Int) - 1, m / 10, by omega, by have := HM.out; omega, by omega, by omega, by rw [HL.out]; omega, H10.out, ?_, HB.out, hx', _, _, _, _, _, _, _, _, _, _, _, _, _, _, _, _, rfl⟩, ?_⟩
      · rw [HP.out]
        unfold pcat
        rw [if_neg (by have := HM.out; omega)]
      · simp [intOf]; omega
    · go_wp2
      simp only [Exit.jump]
      go_ret
      refine ⟨ret_str ?_, hx'⟩
      unfold digStr
      rw [Int.toNat_natCast, HP.out]
      unfold pcat
      rw [if_pos (by have := HM.out; omega)]
  · intro hp
    go_wp2
    go_step3
    go_step
    go_step
    refine hp _ _ ⟨20, N, [], 20, N, rfl, rfl, HN.out, by omega, rfl, ?_, by simp, ?_, (by repeat (first | with_reducible exact Ext.refl _ | with_reducible assumption | with_reducible refine Ext.alloc ?_ _ | with_reducible refine Ext.drew ?_ | (with_reducible refine Ext.setCell ?_ (by first | exact Nat.le_refl _ | (dsimp only; omega) | (simp; done) | (simp; omega)) _) | with_reducible refine Ext.trans ?_ (by with_reducible assumption))), _, _, _, _, _, _, _, _, _, _, _, _, _, _, _, _, rfl⟩
    · have := HN.out; omega
    · exact Blk.new _ _ _
end Go.Proofs.YtknlojlcahgnoaaGreat
