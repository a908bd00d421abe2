/- Walks: num.Add, Sub, Fits, Div, Ceil; wide.Add, Less. Walks: kernel.all, kernel.Right. Walks: package key; the reference 09. Walks: package rule. -/
import Derived.Test.YtknlojlcahgnoaaGreatProg
import Derived.Test.YtknlojlcahgnoaaGreatEb1
import Derived.Test.YtknlojlcahgnoaaGreatEb5

namespace Go.Proofs.YtknlojlcahgnoaaGreat
open Go.RowKit
set_option linter.unusedVariables false
set_option linter.unusedSimpArgs false

theorem num_Sub (a b : Int) (w : World) (ha0 : 0 ≤ a) (ha1 : a < 18446744073709551616) (hb0 : 0 ≤ b) (hb1 : b < 18446744073709551616) :
    Calls Tryz.prog 75 #[.int .u64 a, .int .u64 b] w fun e w' => e = .returned (.int .u64 (satSub a b)) ∧ w = w' := by
  go_enter Tryz.func75, Tryz.ntmps75
  go_wp2
  all_goals
    go_ret
    exact ⟨ret_int (by unfold satSub; split <;> omega), rfl⟩

theorem wide_Less0 (c l : Int) (w : World) (hc0 : 0 ≤ c) (hc1 : c < 18446744073709551616) (hl0 : 0 ≤ l) (hl1 : l < 18446744073709551616) :
    Calls Tryz.prog 200 #[.int .u64 0, .int .u64 c, .int .u64 0, .int .u64 l] w fun e w' => e = .returned (.bool (decide (c < l))) ∧ w = w' := by
  go_enter Tryz.func200, Tryz.ntmps200
  go_wp2
  all_goals
    go_ret
    exact ⟨ret_bool (by simp; try omega), rfl⟩
theorem wide_Less1 (c l : Int) (w : World) (hc0 : 0 ≤ c) (hc1 : c < 18446744073709551616) (hl0 : 0 ≤ l) (hl1 : l < 18446744073709551616) :
    Calls Tryz.prog 200 #[.int .u64 0, .int .u64 c, .int .u64 1, .int .u64 l] w fun e w' => e = .returned (.bool true) ∧ w = w' := by
  go_enter Tryz.func200, Tryz.ntmps200
  go_wp2
  all_goals
    go_ret
    exact ⟨ret_bool (by simp; try omega), rfl⟩
theorem wide_Add0 (a b : Int) (w : World) (ha0 : 0 ≤ a) (ha1 : a < 18446744073709551616) (hb0 : 0 ≤ b) (hb1 : b < 18446744073709551616) (h : a + b < 18446744073709551616) :
    Calls Tryz.prog 199 #[.int .u64 0, .int .u64 a, .int .u64 0, .int .u64 b] w fun e w' => e = .returned (.tuple #[.int .u64 0, .int .u64 (a + b), .bool false]) ∧ w = w' := by
  have h1 : a ≤ a + b := by omega
  have h2 : ¬ a + b < a := by omega
  go_enter Tryz.func199, Tryz.ntmps199
  go_wp2
  go_ret3
  exact ⟨rfl, rfl⟩
theorem wide_Add1 (a b : Int) (w : World) (ha0 : 0 ≤ a) (ha1 : a < 18446744073709551616) (hb0 : 0 ≤ b) (hb1 : b < 18446744073709551616) (h : ¬ a + b < 18446744073709551616) :
    Calls Tryz.prog 199 #[.int .u64 0, .int .u64 a, .int .u64 0, .int .u64 b] w fun e w' => e = .returned (.tuple #[.int .u64 1, .int .u64 (a + b - 18446744073709551616), .bool false]) ∧ w = w' := by
  have H1 := Lib.hid (show IntKind.u64.wrap (a + b) = a + b - 18446744073709551616 by rw [wrap_u64]; omega)
  have h2 : IntKind.u64.wrap (a + b) < a := by rw [wrap_u64]; omega
  clear h
  go_enter Tryz.func199, Tryz.ntmps199
  go_wp2
  go_ret3
  exact ⟨ret_3 rfl (val_int H1.out) rfl, rfl⟩
theorem num_Fits (a b c : Int) (w : World) (ha0 : 0 ≤ a) (ha1 : a < 18446744073709551616) (hb0 : 0 ≤ b) (hb1 : b < 18446744073709551616) (hc0 : 0 ≤ c) (hc1 : c < 18446744073709551616) :
    Calls Tryz.prog 155 #[.int .u64 a, .int .u64 b, .int .u64 c] w fun e w' => e = .returned (.bool (fitsB a b c)) ∧ w = w' := by
  by_cases h : a + b < 18446744073709551616
  · go_enter Tryz.func155, Tryz.ntmps155
    go_wp2_with (first
      | (go_at_call 199; refine (wide_Add0 _ _ _ ha0 ha1 hb0 hb1 h).mono ?_; rintro e w' ⟨rfl, rfl⟩)
      | (go_at_call 200; refine (wide_Less0 _ _ _ hc0 hc1 (by omega) h).mono ?_; rintro e w' ⟨rfl, rfl⟩))
    go_ret
    exact ⟨ret_bool (by unfold fitsB; by_cases h3 : a + b ≤ c
                        · simp [h3]
                        · simp [h3]; omega), rfl⟩
  · have H := Lib.hid (show fitsB a b c = false by simp [fitsB]; omega)
    have h1 : 0 ≤ a + b - 18446744073709551616 := by omega
    have h2 : a + b - 18446744073709551616 < 18446744073709551616 := by omega
    go_enter Tryz.func155, Tryz.ntmps155
    go_wp2_with (first
      | (go_at_call 199; refine (wide_Add1 _ _ _ ha0 ha1 hb0 hb1 h).mono ?_; rintro e w' ⟨rfl, rfl⟩)
      | (go_at_call 200; refine (wide_Less1 _ _ _ hc0 hc1 h1 h2).mono ?_; rintro e w' ⟨rfl, rfl⟩))
    go_ret
    exact ⟨ret_bool H.out.symm, rfl⟩

set_option maxHeartbeats 400000 in
theorem num_Add (B : Nat) (a b : Int) (w : World) (ha0 : 0 ≤ a) (ha1 : a < 18446744073709551616) (hb0 : 0 ≤ b) (hb1 : b < 18446744073709551616)
    (c0 : w.cell? ⟨B, 0, none⟩ = some (.int .u64 a)) (c1 : w.cell? ⟨B, 1, none⟩ = some (.int .u64 b)) :
    Calls Tryz.prog 131 #[.slice (some ⟨B, 0, none⟩) 2 2] w fun e w' => e = .returned (.int .u64 (satAdd a b)) ∧ w = w' := by
  by_cases h : a + b < 18446744073709551616
  · have H := Lib.hid (satAdd_lt h)
    have h1 : ¬ a < a := by omega
    have h2 : ¬ a + b < b := by omega
    go_enter Tryz.func131, Tryz.ntmps131
    go_wp2
    refine wp_loop_rounds 3 ?_
    rw [rounds_succ]
    go_wp2
    rw [rounds_succ]
    go_wp2
    rw [rounds_succ]
    go_wp2
    go_ret
    exact ⟨ret_int (by rw [H.out]), rfl⟩
  · have H := Lib.hid (satAdd_ge h)
    have h1 : ¬ a < a := by omega
    have h2 : IntKind.u64.wrap (a + b) < b := by rw [wrap_u64]; omega
    clear h
    go_enter Tryz.func131, Tryz.ntmps131
    go_wp2
    refine wp_loop_rounds 3 ?_
    rw [rounds_succ]
    go_wp2
    rw [rounds_succ]
    go_wp2
    go_ret
    exact ⟨ret_int (by rw [H.out]), rfl⟩

theorem num_Div1 (a b : Int) (w : World) (ha0 : 0 ≤ a) (ha1 : a < 18446744073709551616) (hb0 : 0 < b) (hb1 : b < 18446744073709551616) :
    Calls Tryz.prog 201 #[.int .u64 a, .int .u64 b] w fun e w' => e = .returned (.int .u64 (a / b)) ∧ w = w' := by
  have h1 : ¬ b = 0 := by omega
  have hq0 := Int.ediv_nonneg ha0 (Int.le_of_lt hb0)
  have hq1 := Int.ediv_le_self b ha0
  have hq2 : a / b < 18446744073709551616 := by omega
  go_enter Tryz.func201, Tryz.ntmps201
  go_wp2
  go_ret
  exact ⟨rfl, rfl⟩
theorem num_Ceil1 (a b : Int) (w : World) (ha0 : 0 ≤ a) (ha1 : a < 18446744073709551616) (hb0 : 0 < b) (hb1 : b < 18446744073709551616) :
    Calls Tryz.prog 156 #[.int .u64 a, .int .u64 b] w fun e w' => e = .returned (.int .u64 (ceilS a b)) ∧ w = w' := by
  have h1 : ¬ b = 0 := by omega
  have hc := ceilS_u a b ha0 ha1 (Int.le_of_lt hb0)
  have hq0 := Int.ediv_nonneg ha0 (Int.le_of_lt hb0)
  have hq1 := Int.ediv_le_self b ha0
  have hq2 : a / b < 18446744073709551616 := by omega
  have hm0 := Int.emod_nonneg a h1
  by_cases h : a % b = 0
  · have H := Lib.hid (show ceilS a b = a / b by simp [ceilS, h, h1])
    have h2 : (a % b == 0) = true := by simp [h]
    clear h hc
    go_enter Tryz.func156, Tryz.ntmps156
    go_wp2
    go_ret
    exact ⟨ret_int H.out.symm, rfl⟩
  · have e : ceilS a b = a / b + 1 := by simp [ceilS, h, h1]
    have hq3 : a / b + 1 < 18446744073709551616 := by omega
    have H := Lib.hid e
    have h2 : (a % b == 0) = false := by simp [h]
    clear h hc e
    go_enter Tryz.func156, Tryz.ntmps156
    go_wp2
    go_ret
    exact ⟨ret_int H.out.symm, rfl⟩
theorem num_over0 (a : Int) (f : Value) (m : Int) (w : World) :
    Calls Tryz.prog 157 #[.int .u64 a, .int .u64 0, f, .int .u64 m] w fun e w' => e = .returned (.int .u64 m) ∧ w = w' := by
  go_enter Tryz.func157, Tryz.ntmps157
  go_wp2
  go_ret
  exact ⟨rfl, rfl⟩
theorem num_over_Div (a b : Int) (m : Int) (w : World) (ha0 : 0 ≤ a) (ha1 : a < 18446744073709551616) (hb0 : 0 < b) (hb1 : b < 18446744073709551616) :
    Calls Tryz.prog 157 #[.int .u64 a, .int .u64 b, .func (.func 201) #[] #[], .int .u64 m] w fun e w' => e = .returned (.int .u64 (a / b)) ∧ w = w' := by
  have h1 : (b == 0) = false := by simp; omega
  go_enter Tryz.func157, Tryz.ntmps157
  go_wp2_with (go_at_call 201; refine (num_Div1 a b _ ha0 ha1 hb0 hb1).mono ?_; rintro e w' ⟨rfl, rfl⟩)
  go_ret
  exact ⟨rfl, rfl⟩
theorem num_over_Ceil (a b : Int) (m : Int) (w : World) (ha0 : 0 ≤ a) (ha1 : a < 18446744073709551616) (hb0 : 0 < b) (hb1 : b < 18446744073709551616) :
    Calls Tryz.prog 157 #[.int .u64 a, .int .u64 b, .func (.func 156) #[] #[], .int .u64 m] w fun e w' => e = .returned (.int .u64 (ceilS a b)) ∧ w = w' := by
  have h1 : (b == 0) = false := by simp; omega
  go_enter Tryz.func157, Tryz.ntmps157
  go_wp2_with (go_at_call 156; refine (num_Ceil1 a b _ ha0 ha1 hb0 hb1).mono ?_; rintro e w' ⟨rfl, rfl⟩)
  go_ret
  exact ⟨rfl, rfl⟩
theorem num_Div (a b : Int) (w : World) (ha0 : 0 ≤ a) (ha1 : a < 18446744073709551616) (hb0 : 0 ≤ b) (hb1 : b < 18446744073709551616) :
    Calls Tryz.prog 158 #[.int .u64 a, .int .u64 b] w fun e w' => e = .returned (.int .u64 (divS a b)) ∧ w = w' := by
  by_cases h : b = 0
  · subst h
    have H := Lib.hid (show divS a 0 = 18446744073709551615 from if_pos rfl)
    go_enter Tryz.func158, Tryz.ntmps158
    go_wp2_with fail
    refine (num_over0 a (.func (.func 201) #[] #[]) _ _).mono ?_
    rintro e w' ⟨rfl, rfl⟩
    go_wp2
    go_ret
    exact ⟨ret_int H.out.symm, rfl⟩
  · have hb : 0 < b := by omega
    go_enter Tryz.func158, Tryz.ntmps158
    go_wp2_with fail
    refine (num_over_Div a b _ _ ha0 ha1 hb hb1).mono ?_
    rintro e w' ⟨rfl, rfl⟩
    go_wp2
    go_ret
    exact ⟨ret_int (by rw [show divS a b = a / b from if_neg h]), rfl⟩
theorem num_Ceil (a b : Int) (w : World) (ha0 : 0 ≤ a) (ha1 : a < 18446744073709551616) (hb0 : 0 ≤ b) (hb1 : b < 18446744073709551616) :
    Calls Tryz.prog 107 #[.int .u64 a, .int .u64 b] w fun e w' => e = .returned (.int .u64 (ceilS a b)) ∧ w = w' := by
  by_cases h : b = 0
  · subst h
    have H := Lib.hid (show ceilS a 0 = 18446744073709551615 from if_pos rfl)
    go_enter Tryz.func107, Tryz.ntmps107
    go_wp2_with fail
    refine (num_over0 a (.func (.func 156) #[] #[]) _ _).mono ?_
    rintro e w' ⟨rfl, rfl⟩
    go_wp2
    go_ret
    exact ⟨ret_int H.out.symm, rfl⟩
  · have hb : 0 < b := by omega
    go_enter Tryz.func107, Tryz.ntmps107
    go_wp2_with fail
    refine (num_over_Ceil a b _ _ ha0 ha1 hb hb1).mono ?_
    rintro e w' ⟨rfl, rfl⟩
    go_wp2
    go_ret
    exact ⟨rfl, rfl⟩
end Go.Proofs.YtknlojlcahgnoaaGreat

namespace Go.Proofs.YtknlojlcahgnoaaGreat
open Go.RowKit
set_option linter.unusedVariables false
set_option linter.unusedSimpArgs false

def kern (a b c : Nat) : Value := .agg #[.func (.func a) #[] #[], .func (.func b) #[] #[], .func (.func c) #[] #[]]
def kernels : Array MapEntry := #[⟨.int .u8 1, kern 172 173 174, 0⟩, ⟨.int .u8 2, kern 175 176 177, 1⟩, ⟨.int .u8 3, kern 178 179 180, 2⟩]
def KernMap (w w' : World) (e : Ending) : Prop := e = .returned (.map (some w.heap.size)) ∧ w' = w.alloc (.map kernels 3)

set_option maxRecDepth 100000 in
theorem kernel_all (w : World) : Calls Tryz.prog 126 #[] w fun e w' => KernMap w w' e := by
  have hmm := @run_makeMap Tryz.prog
  have u1 := run_update_new (P := Tryz.prog) Tryz.underlying220 Tryz.underlying5 (key := .int .u8 1) rfl (es := #[]) (c := 0) rfl w
  have u2 := run_update_new (P := Tryz.prog) Tryz.underlying220 Tryz.underlying5 (key := .int .u8 2) rfl (es := #[⟨.int .u8 1, kern 172 173 174, 0⟩]) (c := 1) rfl w
  have u3 := run_update_new (P := Tryz.prog) Tryz.underlying220 Tryz.underlying5 (key := .int .u8 3) rfl (es := #[⟨.int .u8 1, kern 172 173 174, 0⟩, ⟨.int .u8 2, kern 175 176 177, 1⟩]) (c := 2) rfl w
  simp only [kern, List.push_toArray, List.cons_append, List.nil_append, Nat.reduceAdd] at u1 u2 u3
  go_enter Tryz.func126, Tryz.ntmps126
  go_wp2
  go_ret
  exact ⟨rfl, rfl⟩

def rightKind (k : Int) : Bool := decide (1 ≤ k) && decide (k ≤ 3)
theorem kern_hit (k : Int) (h : 1 ≤ k) (h' : k ≤ 3) : ∃ i a b c, Instr.findNow (.int .u8) (.int .u8 k) kernels.toList 0 = some (some (i, kern a b c)) := by
  rcases (by omega : k = 1 ∨ k = 2 ∨ k = 3) with rfl | rfl | rfl
  · exact ⟨_, _, _, _, rfl⟩
  · exact ⟨_, _, _, _, rfl⟩
  · exact ⟨_, _, _, _, rfl⟩
theorem kern_miss (k : Int) (h : ¬ (1 ≤ k ∧ k ≤ 3)) : Instr.findNow (.int .u8) (.int .u8 k) kernels.toList 0 = some none := by
  have h1 : (k == 1) = false := by simp; omega
  have h2 : (k == 2) = false := by simp; omega
  have h3 : (k == 3) = false := by simp; omega
  simp [kernels, Instr.findNow, Instr.sameNow, h1, h2, h3]

theorem kern_zero (w : World) : (zeroValue 218).run Tryz.prog w = .ok (.agg #[.nilFunc, .nilFunc, .nilFunc]) w := by kernel_rfl

set_option maxHeartbeats 400000 in
set_option maxRecDepth 100000 in
theorem kernel_Right (k : Int) (w : World) :
    Calls Tryz.prog 140 #[.int .u8 k] w fun e w' => e = .returned (.bool (rightKind k)) ∧ Ext w w' := by
  have hat := map_new_at w (.map kernels 3)
  by_cases h : 1 ≤ k ∧ k ≤ 3
  · obtain ⟨i, a, b, c, hf⟩ := kern_hit k h.1 h.2
    have L := (run_lookup_yes (P := Tryz.prog) Tryz.underlying220 Tryz.underlying5 (key := .int .u8 k) rfl hat hf).1
    have H := Lib.hid (show rightKind k = true by simp [rightKind, h])
    clear hf hat
    simp only [kern] at L
    go_enter Tryz.func140, Tryz.ntmps140
    go_wp2_with (go_at_call 126; refine (kernel_all _).mono ?_; rintro e w' ⟨rfl, rfl⟩)
    go_ret
    exact ⟨ret_bool H.out.symm, (by repeat (first | with_reducible exact Ext.refl _ | with_reducible assumption | with_reducible refine Ext.alloc ?_ _ | with_reducible refine Ext.drew ?_ | (with_reducible refine Ext.setCell ?_ (by first | exact Nat.le_refl _ | (dsimp only; omega) | (simp; done) | (simp; omega)) _) | with_reducible refine Ext.setCell ?_ (by simp; try omega) _ | with_reducible refine Ext.trans ?_ (by with_reducible assumption)))⟩
  · have L := (run_lookup_no (P := Tryz.prog) Tryz.underlying220 Tryz.underlying5 (key := .int .u8 k) rfl hat (kern_zero _) (kern_miss k h)).1
    have H := Lib.hid (show rightKind k = false by simp [rightKind]; omega)
    clear hat
    go_enter Tryz.func140, Tryz.ntmps140
    go_wp2_with (go_at_call 126; refine (kernel_all _).mono ?_; rintro e w' ⟨rfl, rfl⟩)
    go_ret
    exact ⟨ret_bool H.out.symm, (by repeat (first | with_reducible exact Ext.refl _ | with_reducible assumption | with_reducible refine Ext.alloc ?_ _ | with_reducible refine Ext.drew ?_ | (with_reducible refine Ext.setCell ?_ (by first | exact Nat.le_refl _ | (dsimp only; omega) | (simp; done) | (simp; omega)) _) | with_reducible refine Ext.setCell ?_ (by simp; try omega) _ | with_reducible refine Ext.trans ?_ (by with_reducible assumption)))⟩
end Go.Proofs.YtknlojlcahgnoaaGreat

namespace Go.Proofs.YtknlojlcahgnoaaGreat
open Go.RowKit
set_option linter.unusedVariables false
set_option linter.unusedSimpArgs false

/-- a byte that no key has -/
def badB (n : Int) : Bool := decide (n < 33) || decide (126 < n)

theorem key_bad (n : Int) (w : World) :
    Calls Tryz.prog 129 #[.int .u8 n] w fun e w' => e = .returned (.bool (badB n)) ∧ w = w' := by
  by_cases h : n < 33
  · have H := Lib.hid (show badB n = true by simp [badB, h])
    go_enter Tryz.func129, Tryz.ntmps129
    go_wp2
    go_ret
    exact ⟨ret_bool H.out.symm, rfl⟩
  · have H := Lib.hid (show badB n = decide (126 < n) by simp [badB, h])
    go_enter Tryz.func129, Tryz.ntmps129
    go_wp2
    go_ret
    exact ⟨ret_bool H.out.symm, rfl⟩

/-- no bad byte -/
def noBad (l : List UInt8) : Bool := l.all fun b => !badB b.toNat
theorem noBad_take {l : List UInt8} {k : Nat} (h : k < l.length) (hk : noBad (l.take k) = true) (hb : badB (l[k].toNat : Int) = false) : noBad (l.take (k + 1)) = true := by
  unfold noBad at *
  rw [List.take_succ_eq_append_getElem h, List.all_append, hk]
  simp [hb]
theorem noBad_bad {l : List UInt8} {k : Nat} (h : k < l.length) (hb : badB (l[k].toNat : Int) = true) : noBad l = false := by
  unfold noBad
  rw [List.all_eq_false]
  exact ⟨l[k], List.getElem_mem h, by simp [hb]⟩
def IdxPost (l : List UInt8) (e : Ending) : Prop := ∃ r : Int, e = .returned (.int .i64 r) ∧ decide (0 ≤ r) = !noBad l

theorem key_index (b o c : Nat) (l : List UInt8) (w : World) (hlen : l.length ≤ maxLen) (hc : ∀ j (h : j < l.length), w.cell? ⟨b, o + j, none⟩ = some (.int .u8 (l[j].toNat : Int))) :
    Calls Tryz.prog 182 #[.slice (some ⟨b, o, none⟩) l.length c, .func (.func 129) #[] #[]] w fun e w' => IdxPost l e ∧ w = w' := by
  unfold maxLen at hlen
  have HC := Lib.hid hc
  clear hc
  go_enter Tryz.func182, Tryz.ntmps182
  go_wp2
  go_loop [5, 8] (fun x i => ∃ k : Nat, k ≤ l.length ∧ i = .int .i64 k ∧ noBad (l.take k) = true) (fun _ i => l.length - (intOf i).toNat)
  case atStart => exact ⟨0, by omega, rfl, rfl⟩
  case round =>
    obtain ⟨k, hk, rfl, R⟩ := hrel
    have HR := Lib.hid R
    clear R
    by_cases hlt : k < l.length
    · have hcell := HC.out k hlt
      cases hb : badB (l[k].toNat : Int)
      · have HB := Lib.hid hb
        clear hb
        go_wp2_with (go_at_call 129; refine (key_bad _ _).mono ?_; rw [HB.out]; rintro e w' ⟨rfl, rfl⟩)
        go_round
        case rel => exact ⟨k + 1, by omega, by go_num, noBad_take hlt HR.out HB.out⟩
        case measure => simp [intOf]; omega
      · have HB := Lib.hid hb
        clear hb
        go_wp2_with (go_at_call 129; refine (key_bad _ _).mono ?_; rw [HB.out]; rintro e w' ⟨rfl, rfl⟩)
        go_ret
        exact ⟨⟨_, rfl, by rw [noBad_bad hlt HB.out]; simp⟩, rfl⟩
    · go_wp2
      go_ret
      exact ⟨⟨_, rfl, by
        have e := HR.out
        rw [List.take_of_length_le (by omega)] at e
        rw [e]; rfl⟩, rfl⟩

theorem key_contains (b o c n : Nat) (l : List UInt8) (w : World) (hn : l.length = n) (hlen : n ≤ maxLen) (hc : ∀ j (h : j < l.length), w.cell? ⟨b, o + j, none⟩ = some (.int .u8 (l[j].toNat : Int))) :
    Calls Tryz.prog 130 #[.slice (some ⟨b, o, none⟩) n c, .func (.func 129) #[] #[]] w fun e w' => e = .returned (.bool !noBad l) ∧ w = w' := by
  subst hn
  have HC := Lib.hid hc
  clear hc
  go_enter Tryz.func130, Tryz.ntmps130
  go_wp2_with fail
  refine (key_index b o c l w hlen HC.out).mono ?_
  rintro e w' ⟨⟨r, rfl, hr⟩, rfl⟩
  have HRr := Lib.hid hr
  clear hr
  go_wp2
  go_ret
  exact ⟨ret_bool HRr.out, rfl⟩

/-- may it be a key? -/
def keyOk (s : ByteArray) : Bool := decide (0 < s.size) && decide (s.size ≤ 128) && noBad s.data.toList

set_option maxHeartbeats 400000 in
set_option maxRecDepth 100000 in
theorem key_Right (s : ByteArray) (w : World) (hm : s.size ≤ maxLen) :
    Calls Tryz.prog 74 #[.string s] w fun e w' => e = .returned (.bool (keyOk s)) ∧ Ext w w' := by
  by_cases h1 : s.size = 0
  · have H := Lib.hid (show keyOk s = false by simp [keyOk, h1])
    have h1' : decide (0 < s.size) = false := by simp [h1]
    go_enter Tryz.func74, Tryz.ntmps74
    go_wp2_with fail
    go_ret
    exact ⟨ret_bool H.out.symm, (by repeat (first | with_reducible exact Ext.refl _ | with_reducible assumption | with_reducible refine Ext.alloc ?_ _ | with_reducible refine Ext.drew ?_ | (with_reducible refine Ext.setCell ?_ (by first | exact Nat.le_refl _ | (dsimp only; omega) | (simp; done) | (simp; omega)) _) | with_reducible refine Ext.trans ?_ (by with_reducible assumption)))⟩
  by_cases h2 : s.size ≤ 128
  · have H := Lib.hid (show keyOk s = noBad s.data.toList by simp [keyOk, h2]; omega)
    have h1' : decide (0 < s.size) = true := by simp; omega
    have h2' : decide (s.size ≤ 128) = true := by simp; omega
    obtain ⟨c, w1, hrun, hext, hsz, hcap, hcells⟩ := conv_bytes (P := Tryz.prog) w 9 22 5 s Tryz.underlying9 Tryz.underlying22 Tryz.underlying5
    have HC := Lib.hid hcells
    clear hcells hsz
    have hlen : s.data.toList.length = s.size := Array.length_toList
    have HL := Lib.hid hlen
    clear hlen
    go_enter Tryz.func74, Tryz.ntmps74
    go_wp2_with fail
    refine (key_contains _ _ _ _ _ _ HL.out hm HC.out).mono ?_
    rintro e w' ⟨rfl, rfl⟩
    go_wp2
    go_ret
    exact ⟨ret_bool (by rw [H.out]), (by repeat (first | with_reducible exact Ext.refl _ | with_reducible assumption | with_reducible refine Ext.alloc ?_ _ | with_reducible refine Ext.drew ?_ | (with_reducible refine Ext.setCell ?_ (by first | exact Nat.le_refl _ | (dsimp only; omega) | (simp; done) | (simp; omega)) _) | with_reducible refine Ext.trans ?_ (by with_reducible assumption)))⟩
  · have H := Lib.hid (show keyOk s = false by simp [keyOk, h2])
    have h1' : decide (0 < s.size) = true := by simp; omega
    have h2' : decide (s.size ≤ 128) = false := by simp; omega
    go_enter Tryz.func74, Tryz.ntmps74
    go_wp2_with fail
    go_ret
    exact ⟨ret_bool H.out.symm, (by repeat (first | with_reducible exact Ext.refl _ | with_reducible assumption | with_reducible refine Ext.alloc ?_ _ | with_reducible refine Ext.drew ?_ | (with_reducible refine Ext.setCell ?_ (by first | exact Nat.le_refl _ | (dsimp only; omega) | (simp; done) | (simp; omega)) _) | with_reducible refine Ext.trans ?_ (by with_reducible assumption)))⟩

end Go.Proofs.YtknlojlcahgnoaaGreat

namespace Go.Proofs.YtknlojlcahgnoaaGreat
open Go.RowKit
set_option linter.unusedVariables false
set_option linter.unusedSimpArgs false

/-- may it stand ahead of keys? -/
def prefOk (p : ByteArray) : Bool := decide (p.size = 0) || keyOk p
def capOk (e b : Int) : Bool := decide (satMul e b ≤ 4611686018427387904)

theorem toList_nil_iff (s : ByteArray) : (s.toList = []) ↔ s.size = 0 := by
  rw [ByteArray.toList_eq, ← List.length_eq_zero_iff, data_len]
theorem isEmpty_iff (s : ByteArray) : s.toList.isEmpty = decide (s.size = 0) := by
  rw [Bool.eq_iff_iff, List.isEmpty_iff, toList_nil_iff]; simp

set_option maxHeartbeats 400000 in
theorem rule_ask1 (p : ByteArray) (e b k : Int) (w : World) (hm : p.size ≤ maxLen) :
    Calls Tryz.prog 183 #[.agg #[.string p, .int .u64 e, .int .u64 b, .int .u8 k]] w fun e w' => e = .returned (.bool (prefOk p)) ∧ Ext w w' := by
  by_cases h : p.size = 0
  · have H := Lib.hid (show prefOk p = true by simp [prefOk, h])
    have h1 : p.toList.isEmpty = true := by rw [isEmpty_iff]; simpa using h
    have h2 : p.toList = [] := (toList_nil_iff p).2 h
    clear h
    go_enter Tryz.func183, Tryz.ntmps183
    go_wp2
    go_ret
    exact ⟨ret_bool H.out.symm, (by repeat (first | with_reducible exact Ext.refl _ | with_reducible assumption | with_reducible refine Ext.alloc ?_ _ | with_reducible refine Ext.drew ?_ | (with_reducible refine Ext.setCell ?_ (by first | exact Nat.le_refl _ | (dsimp only; omega) | (simp; done) | (simp; omega)) _) | with_reducible refine Ext.trans ?_ (by with_reducible assumption)))⟩
  · have H := Lib.hid (show prefOk p = keyOk p by simp [prefOk, h])
    have h1 : p.toList.isEmpty = false := by rw [isEmpty_iff]; simpa using h
    have h2 : ¬ p.toList = [] := fun e => h ((toList_nil_iff p).1 e)
    clear h
    go_enter Tryz.func183, Tryz.ntmps183
    go_wp2_with (go_at_call 74; refine (key_Right _ _ hm).mono ?_; rintro e w' ⟨rfl, hb⟩)
    go_ret
    exact ⟨ret_bool H.out.symm, (by repeat (first | with_reducible exact Ext.refl _ | with_reducible assumption | with_reducible refine Ext.alloc ?_ _ | with_reducible refine Ext.drew ?_ | (with_reducible refine Ext.setCell ?_ (by first | exact Nat.le_refl _ | (dsimp only; omega) | (simp; done) | (simp; omega)) _) | with_reducible refine Ext.trans ?_ (by with_reducible assumption)))⟩

theorem rule_ask2 (p : ByteArray) (e b k : Int) (w : World) :
    Calls Tryz.prog 184 #[.agg #[.string p, .int .u64 e, .int .u64 b, .int .u8 k]] w fun x w' => x = .returned (.bool (decide (0 < e))) ∧ Ext w w' := by
  go_enter Tryz.func184, Tryz.ntmps184
  go_wp2
  go_ret
  exact ⟨rfl, (by repeat (first | with_reducible exact Ext.refl _ | with_reducible assumption | with_reducible refine Ext.alloc ?_ _ | with_reducible refine Ext.drew ?_ | (with_reducible refine Ext.setCell ?_ (by first | exact Nat.le_refl _ | (dsimp only; omega) | (simp; done) | (simp; omega)) _) | with_reducible refine Ext.trans ?_ (by with_reducible assumption)))⟩

theorem rule_ask3 (p : ByteArray) (e b k : Int) (w : World) :
    Calls Tryz.prog 185 #[.agg #[.string p, .int .u64 e, .int .u64 b, .int .u8 k]] w fun x w' => x = .returned (.bool (decide (0 < b))) ∧ Ext w w' := by
  go_enter Tryz.func185, Tryz.ntmps185
  go_wp2
  go_ret
  exact ⟨rfl, (by repeat (first | with_reducible exact Ext.refl _ | with_reducible assumption | with_reducible refine Ext.alloc ?_ _ | with_reducible refine Ext.drew ?_ | (with_reducible refine Ext.setCell ?_ (by first | exact Nat.le_refl _ | (dsimp only; omega) | (simp; done) | (simp; omega)) _) | with_reducible refine Ext.trans ?_ (by with_reducible assumption)))⟩

theorem rule_ask4 (p : ByteArray) (e b k : Int) (w : World) (he0 : 0 ≤ e) (he1 : e < 18446744073709551616) (hb0 : 0 ≤ b) (hb1 : b < 18446744073709551616) :
    Calls Tryz.prog 186 #[.agg #[.string p, .int .u64 e, .int .u64 b, .int .u8 k]] w fun x w' => x = .returned (.bool (capOk e b)) ∧ Ext w w' := by
  have H := Lib.hid (show capOk e b = decide (satMul e b ≤ 4611686018427387904) from rfl)
  generalize hM : satMul e b = M at H
  have HM := Lib.hid hM
  clear hM
  go_enter Tryz.func186, Tryz.ntmps186
  go_wp2_with (go_at_call 105; refine (num_Mul _ _ _ he0 he1 hb0 hb1).mono ?_; rw [HM.out]; rintro x w' ⟨rfl, hb⟩)
  go_ret
  exact ⟨ret_bool H.out.symm, (by repeat (first | with_reducible exact Ext.refl _ | with_reducible assumption | with_reducible refine Ext.alloc ?_ _ | with_reducible refine Ext.drew ?_ | (with_reducible refine Ext.setCell ?_ (by first | exact Nat.le_refl _ | (dsimp only; omega) | (simp; done) | (simp; omega)) _) | with_reducible refine Ext.trans ?_ (by with_reducible assumption)))⟩

theorem rule_ask5 (p : ByteArray) (e b k : Int) (w : World) :
    Calls Tryz.prog 187 #[.agg #[.string p, .int .u64 e, .int .u64 b, .int .u8 k]] w fun x w' => x = .returned (.bool (rightKind k)) ∧ Ext w w' := by
  go_enter Tryz.func187, Tryz.ntmps187
  go_wp2_with (go_at_call 140; refine (kernel_Right _ _).mono ?_; rintro x w' ⟨rfl, hb⟩)
  go_ret
  exact ⟨rfl, (by repeat (first | with_reducible exact Ext.refl _ | with_reducible assumption | with_reducible refine Ext.alloc ?_ _ | with_reducible refine Ext.drew ?_ | (with_reducible refine Ext.setCell ?_ (by first | exact Nat.le_refl _ | (dsimp only; omega) | (simp; done) | (simp; omega)) _) | with_reducible refine Ext.trans ?_ (by with_reducible assumption)))⟩

def askCells : Array Value := #[.func (.func 183) #[] #[], .int .u16 23, .func (.func 184) #[] #[], .int .u16 24, .func (.func 185) #[] #[], .int .u16 25, .func (.func 186) #[] #[], .int .u16 26, .func (.func 187) #[] #[], .int .u16 27]
theorem rule_asks (w : World) :
    Calls Tryz.prog 132 #[] w fun x w' => x = .returned (.slice (some ⟨w.heap.size, 0, none⟩) 5 5) ∧ Ext w w' ∧ Blk w' w.heap.size askCells 230 := by
  go_enter Tryz.func132, Tryz.ntmps132
  go_wp2
  go_ret
  exact ⟨rfl, (by repeat (first | with_reducible exact Ext.refl _ | with_reducible assumption | with_reducible refine Ext.alloc ?_ _ | with_reducible refine Ext.drew ?_ | (with_reducible refine Ext.setCell ?_ (by first | exact Nat.le_refl _ | (dsimp only; omega) | (simp; done) | (simp; omega)) _) | with_reducible refine Ext.trans ?_ (by with_reducible assumption))), Blk.new _ _ _⟩

end Go.Proofs.YtknlojlcahgnoaaGreat
