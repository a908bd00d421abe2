/- Walks: the parts of a rule that words are read into. -/
import Derived.Deep.RegionHeld3
import Derived.Test.YtknlojlcahgnoaaGreatCf3

namespace Go.Proofs.YtknlojlcahgnoaaGreat
open Go.RowKit
set_option linter.unusedVariables false
set_option linter.unusedSimpArgs false

theorem parse_every (B : Nat) (w : World) : Calls Tryz.prog 145 #[.pointer (some ⟨B, 0, none⟩)] w fun x w' => x = .returned (.pointer (some ⟨B, 1, none⟩)) ∧ w = w' := by
  go_enter Tryz.func145, Tryz.ntmps145
  go_wp2
  go_ret
  exact ⟨rfl, rfl⟩
theorem burst_burst (B : Nat) (w : World) : Calls Tryz.prog 195 #[.pointer (some ⟨B, 0, none⟩)] w fun x w' => x = .returned (.pointer (some ⟨B, 2, none⟩)) ∧ w = w' := by
  go_enter Tryz.func195, Tryz.ntmps195
  go_wp2
  go_ret
  exact ⟨rfl, rfl⟩

def numErr (s : ByteArray) (none : Int) : Int := if digErr s = 0 ∧ digNum s = 0 then none else digErr s
theorem numErr_cases (s : ByteArray) (q : Int) : (((digErr s == 0) = false) ∧ numErr s q = digErr s) ∨ ((digErr s == 0) = true ∧ (digNum s == 0) = true ∧ numErr s q = q) ∨ ((digErr s == 0) = true ∧ (digNum s == 0) = false ∧ numErr s q = digErr s) := by
  unfold numErr
  by_cases h : digErr s = 0
  · by_cases h' : digNum s = 0
    · right; left; simp [h, h']
    · right; right; simp [h, h']
  · left; simp [h]

def prefErr (s : ByteArray) : Int := if keyOk s = true then 0 else 23
def kindErr (k : Int) : Int := if 0 < k then 0 else 27

theorem rule_number_every (q : Int) (w : World) :
    Calls Tryz.prog 144 #[.func (.func 145) #[] #[], .int .u16 q] w fun x w' => x = .returned (.func (.func 194) #[] #[.pointer (some ⟨w.heap.size, 0, none⟩), .pointer (some ⟨w.heap.size + 1, 0, none⟩)]) ∧
      Ext w w' ∧ Blk w' w.heap.size #[.func (.func 145) #[] #[]] 242 ∧ Blk w' (w.heap.size + 1) #[.int .u16 q] 40 := by
  go_enter Tryz.func144, Tryz.ntmps144
  go_wp2
  go_ret
  exact ⟨rfl, (by repeat (first | with_reducible exact Ext.refl _ | with_reducible assumption | with_reducible refine Ext.alloc ?_ _ | with_reducible refine Ext.drew ?_ | (with_reducible refine Ext.setCell ?_ (by first | exact Nat.le_refl _ | (dsimp only; omega) | (simp; done) | (simp; omega)) _) | with_reducible refine Ext.trans ?_ (by with_reducible assumption))), (Blk.new _ _ _).alloc _, Blk.new' _ _ _ (by simp)⟩
theorem rule_number_burst (q : Int) (w : World) :
    Calls Tryz.prog 144 #[.func (.func 195) #[] #[], .int .u16 q] w fun x w' => x = .returned (.func (.func 194) #[] #[.pointer (some ⟨w.heap.size, 0, none⟩), .pointer (some ⟨w.heap.size + 1, 0, none⟩)]) ∧
      Ext w w' ∧ Blk w' w.heap.size #[.func (.func 195) #[] #[]] 242 ∧ Blk w' (w.heap.size + 1) #[.int .u16 q] 40 := by
  go_enter Tryz.func144, Tryz.ntmps144
  go_wp2
  go_ret
  exact ⟨rfl, (by repeat (first | with_reducible exact Ext.refl _ | with_reducible assumption | with_reducible refine Ext.alloc ?_ _ | with_reducible refine Ext.drew ?_ | (with_reducible refine Ext.setCell ?_ (by first | exact Nat.le_refl _ | (dsimp only; omega) | (simp; done) | (simp; omega)) _) | with_reducible refine Ext.trans ?_ (by with_reducible assumption))), (Blk.new _ _ _).alloc _, Blk.new' _ _ _ (by simp)⟩

set_option maxHeartbeats 400000 in
theorem number_every (B f n : Nat) (s p : ByteArray) (e b k q : Int) (w : World) (hm : s.size ≤ maxLen) (hB : Blk w B (ruleBox p e b k) 37)
    (hf : Blk w f #[.func (.func 145) #[] #[]] 242) (hn : Blk w n #[.int .u16 q] 40) :
    Calls Tryz.prog 194 #[.pointer (some ⟨B, 0, none⟩), .string s, .pointer (some ⟨f, 0, none⟩), .pointer (some ⟨n, 0, none⟩)] w fun x w' =>
      x = .returned (.int .u16 (numErr s q)) ∧ Blk w' B (ruleBox p (digNum s) b k) 37 ∧ ExtB B w w' := by
  have hnB : n ≠ B := hn.ne hB (by simp [ruleBox])
  have cf := hf.cell 0
  have cn := hn.cell 0
  have cB := hB.cell
  have fB := hB.free
  have hs := hB.set 1 (.int .u64 (digNum s))
  have HC := Lib.hid (numErr_cases s q)
  simp only [ruleBox] at cB
  generalize hE : digErr s = E at *
  generalize hM : digNum s = M at *
  have HE := Lib.hid hE
  have HM := Lib.hid hM
  have HS := Lib.hid hs
  clear hB hf hn hs hE hM
  rcases HC.out with ⟨h1, h2⟩ | ⟨h1, h3, h2⟩ | ⟨h1, h3, h2⟩
  all_goals
    have H2 := Lib.hid h2
    clear h2
    go_enter Tryz.func194, Tryz.ntmps194
    go_wp2_with (first
      | (go_at_call 99; refine (digit_Parse s _ hm).mono ?_; rw [HE.out, HM.out]; rintro x w' ⟨rfl, rfl⟩)
      | (go_at_call 145; refine (parse_every _ _).mono ?_; rintro x w' ⟨rfl, rfl⟩))
    go_ret
    exact ⟨ret_int H2.out.symm, HS.out, (by repeat (first | with_reducible exact ExtB.refl _ _ | with_reducible assumption | with_reducible refine ExtB.alloc ?_ _ | with_reducible refine ExtB.drew ?_ | with_reducible refine ExtB.setCell ?_ _ _ | with_reducible refine ExtB.trans ?_ (by with_reducible assumption) | with_reducible refine ExtB.trans ?_ (Ext.toB (by with_reducible assumption) _)))⟩

set_option maxHeartbeats 400000 in
theorem number_burst (B f n : Nat) (s p : ByteArray) (e b k q : Int) (w : World) (hm : s.size ≤ maxLen) (hB : Blk w B (ruleBox p e b k) 37)
    (hf : Blk w f #[.func (.func 195) #[] #[]] 242) (hn : Blk w n #[.int .u16 q] 40) :
    Calls Tryz.prog 194 #[.pointer (some ⟨B, 0, none⟩), .string s, .pointer (some ⟨f, 0, none⟩), .pointer (some ⟨n, 0, none⟩)] w fun x w' =>
      x = .returned (.int .u16 (numErr s q)) ∧ Blk w' B (ruleBox p e (digNum s) k) 37 ∧ ExtB B w w' := by
  have hnB : n ≠ B := hn.ne hB (by simp [ruleBox])
  have cf := hf.cell 0
  have cn := hn.cell 0
  have cB := hB.cell
  have fB := hB.free
  have hs := hB.set 2 (.int .u64 (digNum s))
  have HC := Lib.hid (numErr_cases s q)
  simp only [ruleBox] at cB
  generalize hE : digErr s = E at *
  generalize hM : digNum s = M at *
  have HE := Lib.hid hE
  have HM := Lib.hid hM
  have HS := Lib.hid hs
  clear hB hf hn hs hE hM
  rcases HC.out with ⟨h1, h2⟩ | ⟨h1, h3, h2⟩ | ⟨h1, h3, h2⟩
  all_goals
    have H2 := Lib.hid h2
    clear h2
    go_enter Tryz.func194, Tryz.ntmps194
    go_wp2_with (first
      | (go_at_call 99; refine (digit_Parse s _ hm).mono ?_; rw [HE.out, HM.out]; rintro x w' ⟨rfl, rfl⟩)
      | (go_at_call 195; refine (burst_burst _ _).mono ?_; rintro x w' ⟨rfl, rfl⟩))
    go_ret
    exact ⟨ret_int H2.out.symm, HS.out, (by repeat (first | with_reducible exact ExtB.refl _ _ | with_reducible assumption | with_reducible refine ExtB.alloc ?_ _ | with_reducible refine ExtB.drew ?_ | with_reducible refine ExtB.setCell ?_ _ _ | with_reducible refine ExtB.trans ?_ (by with_reducible assumption) | with_reducible refine ExtB.trans ?_ (Ext.toB (by with_reducible assumption) _)))⟩

set_option maxHeartbeats 400000 in
theorem rule_prefix (B : Nat) (s p : ByteArray) (e b k : Int) (w : World) (hm : s.size ≤ maxLen) (hB : Blk w B (ruleBox p e b k) 37) :
    Calls Tryz.prog 148 #[.pointer (some ⟨B, 0, none⟩), .string s] w fun x w' =>
      x = .returned (.int .u16 (prefErr s)) ∧ Blk w' B (ruleBox s e b k) 37 ∧ ExtB B w w' := by
  have cB := hB.cell
  have fB := hB.free
  have hs := hB.set 0 (.string s)
  have HS := Lib.hid hs
  simp only [ruleBox] at cB
  clear hB hs
  cases hk : keyOk s
  all_goals
    have HK := Lib.hid hk
    clear hk
    go_enter Tryz.func148, Tryz.ntmps148
    go_wp2_with (go_at_call 74; refine (key_Right _ _ hm).mono ?_; rw [HK.out]; rintro x w' ⟨rfl, hb⟩)
    go_ret
    exact ⟨ret_int (by simp [prefErr, HK.out]), Blk.ext HS.out (by assumption), (by repeat (first | with_reducible exact ExtB.refl _ _ | with_reducible assumption | with_reducible refine ExtB.alloc ?_ _ | with_reducible refine ExtB.drew ?_ | with_reducible refine ExtB.setCell ?_ _ _ | with_reducible refine ExtB.trans ?_ (by with_reducible assumption) | with_reducible refine ExtB.trans ?_ (Ext.toB (by with_reducible assumption) _)))⟩

set_option maxHeartbeats 400000 in
theorem rule_named (B : Nat) (s p : ByteArray) (e b k : Int) (w : World) (hm : s.size ≤ maxLen) (hB : Blk w B (ruleBox p e b k) 37) :
    Calls Tryz.prog 147 #[.pointer (some ⟨B, 0, none⟩), .string s] w fun x w' =>
      x = .returned (.int .u16 (kindErr (kindOf s))) ∧ Blk w' B (ruleBox p e b (kindOf s)) 37 ∧ ExtB B w w' := by
  have HB := Lib.hid hB
  clear hB
  generalize hk : kindOf s = K
  have HK := Lib.hid hk
  clear hk
  cases hz : decide (0 < K)
  all_goals
    have hd := Lib.hid hz
    go_enter Tryz.func147, Tryz.ntmps147
    go_wp2_with fail
    refine (rule_Kind _ _).mono ?_
    rw [HK.out]
    rintro x w1 ⟨rfl, hx⟩
    have h1 := HB.out.ext hx
    have cB := h1.cell
    have fB := h1.free
    have HS := Lib.hid (h1.set 3 (.int .u8 K))
    simp only [ruleBox] at cB
    clear h1
    go_wp2
    go_ret
    exact ⟨ret_int (by have := hd.out; simp [kindErr]; simp at this; omega), HS.out, (by repeat (first | with_reducible exact ExtB.refl _ _ | with_reducible assumption | with_reducible refine ExtB.alloc ?_ _ | with_reducible refine ExtB.drew ?_ | with_reducible refine ExtB.setCell ?_ _ _ | with_reducible refine ExtB.trans ?_ (by with_reducible assumption) | with_reducible refine ExtB.trans ?_ (Ext.toB (by with_reducible assumption) _)))⟩
end Go.Proofs.YtknlojlcahgnoaaGreat
