/- Walks: kernel.all, kernel.Right. Walks: package rule. Plain sums that stop at their ends, and the three kernels, as functions on integers: no program in sight. Rows read and written whole: results that lie in memory; stores of whole structs. No program in sight. Walks: num.Add, Sub, Fits, Div, Ceil; wide.Add, Less. -/
import Derived.Test.YtnlmbmbalmkiiaaProg
import Derived.Laws.Rows
import Derived.Laws.Tables
import Derived.Test.YtnlmbmbalmkiiaaG0

/- Walks: kernel.all, kernel.Right. -/
namespace Go.Proofs.Ytnlmbmbalmkiiaa
open Go.RowKit
set_option linter.unusedVariables false
set_option linter.unusedSimpArgs false

def kern (a b c : Nat) : Value := .agg #[.func (.func a) #[] #[], .func (.func b) #[] #[], .func (.func c) #[] #[]]
def kernels : Array MapEntry := #[⟨.int .u8 1, kern 72 73 74, 0⟩, ⟨.int .u8 2, kern 75 76 77, 1⟩, ⟨.int .u8 3, kern 78 79 80, 2⟩]
def KernMap (w w' : World) (e : Ending) : Prop := e = .returned (.map (some w.heap.size)) ∧ w' = w.alloc (.map kernels 3)

set_option maxRecDepth 100000 in
theorem kernel_all (w : World) : Calls Try.prog 53 #[] w fun e w' => KernMap w w' e := by
  have hmm := @run_makeMap Try.prog
  have u1 := run_update_new (P := Try.prog) Try.underlying109 Try.underlying5 (key := .int .u8 1) rfl (es := #[]) (c := 0) rfl w
  have u2 := run_update_new (P := Try.prog) Try.underlying109 Try.underlying5 (key := .int .u8 2) rfl (es := #[⟨.int .u8 1, kern 72 73 74, 0⟩]) (c := 1) rfl w
  have u3 := run_update_new (P := Try.prog) Try.underlying109 Try.underlying5 (key := .int .u8 3) rfl (es := #[⟨.int .u8 1, kern 72 73 74, 0⟩, ⟨.int .u8 2, kern 75 76 77, 1⟩]) (c := 2) rfl w
  simp only [kern, List.push_toArray, List.cons_append, List.nil_append, Nat.reduceAdd] at u1 u2 u3
  go_enter Try.func53, Try.ntmps53
  go_wp2
  go_ret
  exact ⟨rfl, rfl⟩

def rightKind (k : Int) : Bool := decide (1 ≤ k) && decide (k ≤ 3)
theorem kern_hit (k : Int) (h : 1 ≤ k) (h' : k ≤ 3) : ∃ i a b c, Instr.findNow (.int .u8) (.int .u8 k) kernels.toList 0 = some (some (i, kern a b c)) := by
  rcases (by omega : k = 1 ∨ k = 2 ∨ k = 3) with rfl | rfl | rfl
  · exact ⟨_, _, _, _, rfl⟩
  · exact ⟨_, _, _, _, rfl⟩
  · exact ⟨_, _, _, _, rfl⟩
theorem kern_miss (k : Int) (h : ¬ (1 ≤ k ∧ k ≤ 3)) : Instr.findNow (.int .u8) (.int .u8 k) kernels.toList 0 = some none := by
  have h1 : (k == 1) = false := by simp; omega
  have h2 : (k == 2) = false := by simp; omega
  have h3 : (k == 3) = false := by simp; omega
  simp [kernels, Instr.findNow, Instr.sameNow, h1, h2, h3]

theorem kern_zero (w : World) : (zeroValue 107).run Try.prog w = .ok (.agg #[.nilFunc, .nilFunc, .nilFunc]) w := by kernel_rfl

set_option maxHeartbeats 400000 in
set_option maxRecDepth 100000 in
theorem kernel_Right (k : Int) (w : World) :
    Calls Try.prog 42 #[.int .u8 k] w fun e w' => e = .returned (.bool (rightKind k)) ∧ Ext w w' := by
  have hat := map_new_at w (.map kernels 3)
  by_cases h : 1 ≤ k ∧ k ≤ 3
  · obtain ⟨i, a, b, c, hf⟩ := kern_hit k h.1 h.2
    have L := (run_lookup_yes (P := Try.prog) Try.underlying109 Try.underlying5 (key := .int .u8 k) rfl hat hf).1
    have H := Lib.hid (show rightKind k = true by simp [rightKind, h])
    clear hf hat
    simp only [kern] at L
    go_enter Try.func42, Try.ntmps42
    go_wp2_with (go_at_call 53; refine (kernel_all _).mono ?_; rintro e w' ⟨rfl, rfl⟩)
    go_ret
    exact ⟨ret_bool H.out.symm, (by repeat (first | with_reducible exact Ext.refl _ | with_reducible assumption | with_reducible refine Ext.alloc ?_ _ | with_reducible refine Ext.drew ?_ | (with_reducible refine Ext.setCell ?_ (by first | exact Nat.le_refl _ | (dsimp only; omega) | (simp; done) | (simp; omega)) _) | with_reducible refine Ext.setCell ?_ (by simp; try omega) _ | with_reducible refine Ext.trans ?_ (by with_reducible assumption)))⟩
  · have L := (run_lookup_no (P := Try.prog) Try.underlying109 Try.underlying5 (key := .int .u8 k) rfl hat (kern_zero _) (kern_miss k h)).1
    have H := Lib.hid (show rightKind k = false by simp [rightKind]; omega)
    clear hat
    go_enter Try.func42, Try.ntmps42
    go_wp2_with (go_at_call 53; refine (kernel_all _).mono ?_; rintro e w' ⟨rfl, rfl⟩)
    go_ret
    exact ⟨ret_bool H.out.symm, (by repeat (first | with_reducible exact Ext.refl _ | with_reducible assumption | with_reducible refine Ext.alloc ?_ _ | with_reducible refine Ext.drew ?_ | (with_reducible refine Ext.setCell ?_ (by first | exact Nat.le_refl _ | (dsimp only; omega) | (simp; done) | (simp; omega)) _) | with_reducible refine Ext.setCell ?_ (by simp; try omega) _ | with_reducible refine Ext.trans ?_ (by with_reducible assumption)))⟩
end Go.Proofs.Ytnlmbmbalmkiiaa

/- Walks: package rule. -/
namespace Go.Proofs.Ytnlmbmbalmkiiaa
open Go.RowKit
set_option linter.unusedVariables false
set_option linter.unusedSimpArgs false

/-- may it stand ahead of keys? -/
def prefOk (p : ByteArray) : Bool := decide (p.size = 0) || keyOk p
def capOk (e b : Int) : Bool := decide (satMul e b ≤ 4611686018427387904)

theorem toList_nil_iff (s : ByteArray) : (s.toList = []) ↔ s.size = 0 := by
  rw [ByteArray.toList_eq, ← List.length_eq_zero_iff, data_len]
theorem isEmpty_iff (s : ByteArray) : s.toList.isEmpty = decide (s.size = 0) := by
  rw [Bool.eq_iff_iff, List.isEmpty_iff, toList_nil_iff]; simp

set_option maxHeartbeats 400000 in
theorem rule_ask1 (p : ByteArray) (e b k : Int) (w : World) (hm : p.size ≤ maxLen) :
    Calls Try.prog 67 #[.agg #[.string p, .int .u64 e, .int .u64 b, .int .u8 k]] w fun e w' => e = .returned (.bool (prefOk p)) ∧ Ext w w' := by
  by_cases h : p.size = 0
  · have H := Lib.hid (show prefOk p = true by simp [prefOk, h])
    have h1 : p.toList.isEmpty = true := by rw [isEmpty_iff]; simpa using h
    have h2 : p.toList = [] := (toList_nil_iff p).2 h
    clear h
    go_enter Try.func67, Try.ntmps67
    go_wp2
    go_ret
    exact ⟨ret_bool H.out.symm, (by repeat (first | with_reducible exact Ext.refl _ | with_reducible assumption | with_reducible refine Ext.alloc ?_ _ | with_reducible refine Ext.drew ?_ | (with_reducible refine Ext.setCell ?_ (by first | exact Nat.le_refl _ | (dsimp only; omega) | (simp; done) | (simp; omega)) _) | with_reducible refine Ext.trans ?_ (by with_reducible assumption)))⟩
  · have H := Lib.hid (show prefOk p = keyOk p by simp [prefOk, h])
    have h1 : p.toList.isEmpty = false := by rw [isEmpty_iff]; simpa using h
    have h2 : ¬ p.toList = [] := fun e => h ((toList_nil_iff p).1 e)
    clear h
    go_enter Try.func67, Try.ntmps67
    go_wp2_with (go_at_call 26; refine (key_Right _ _ hm).mono ?_; rintro e w' ⟨rfl, hb⟩)
    go_ret
    exact ⟨ret_bool H.out.symm, (by repeat (first | with_reducible exact Ext.refl _ | with_reducible assumption | with_reducible refine Ext.alloc ?_ _ | with_reducible refine Ext.drew ?_ | (with_reducible refine Ext.setCell ?_ (by first | exact Nat.le_refl _ | (dsimp only; omega) | (simp; done) | (simp; omega)) _) | with_reducible refine Ext.trans ?_ (by with_reducible assumption)))⟩

theorem rule_ask2 (p : ByteArray) (e b k : Int) (w : World) :
    Calls Try.prog 68 #[.agg #[.string p, .int .u64 e, .int .u64 b, .int .u8 k]] w fun x w' => x = .returned (.bool (decide (0 < e))) ∧ Ext w w' := by
  go_enter Try.func68, Try.ntmps68
  go_wp2
  go_ret
  exact ⟨rfl, (by repeat (first | with_reducible exact Ext.refl _ | with_reducible assumption | with_reducible refine Ext.alloc ?_ _ | with_reducible refine Ext.drew ?_ | (with_reducible refine Ext.setCell ?_ (by first | exact Nat.le_refl _ | (dsimp only; omega) | (simp; done) | (simp; omega)) _) | with_reducible refine Ext.trans ?_ (by with_reducible assumption)))⟩

theorem rule_ask3 (p : ByteArray) (e b k : Int) (w : World) :
    Calls Try.prog 69 #[.agg #[.string p, .int .u64 e, .int .u64 b, .int .u8 k]] w fun x w' => x = .returned (.bool (decide (0 < b))) ∧ Ext w w' := by
  go_enter Try.func69, Try.ntmps69
  go_wp2
  go_ret
  exact ⟨rfl, (by repeat (first | with_reducible exact Ext.refl _ | with_reducible assumption | with_reducible refine Ext.alloc ?_ _ | with_reducible refine Ext.drew ?_ | (with_reducible refine Ext.setCell ?_ (by first | exact Nat.le_refl _ | (dsimp only; omega) | (simp; done) | (simp; omega)) _) | with_reducible refine Ext.trans ?_ (by with_reducible assumption)))⟩

theorem rule_ask4 (p : ByteArray) (e b k : Int) (w : World) (he0 : 0 ≤ e) (he1 : e < 18446744073709551616) (hb0 : 0 ≤ b) (hb1 : b < 18446744073709551616) :
    Calls Try.prog 70 #[.agg #[.string p, .int .u64 e, .int .u64 b, .int .u8 k]] w fun x w' => x = .returned (.bool (capOk e b)) ∧ Ext w w' := by
  have H := Lib.hid (show capOk e b = decide (satMul e b ≤ 4611686018427387904) from rfl)
  generalize hM : satMul e b = M at H
  have HM := Lib.hid hM
  clear hM
  go_enter Try.func70, Try.ntmps70
  go_wp2_with (go_at_call 32; refine (num_Mul _ _ _ he0 he1 hb0 hb1).mono ?_; rw [HM.out]; rintro x w' ⟨rfl, hb⟩)
  go_ret
  exact ⟨ret_bool H.out.symm, (by repeat (first | with_reducible exact Ext.refl _ | with_reducible assumption | with_reducible refine Ext.alloc ?_ _ | with_reducible refine Ext.drew ?_ | (with_reducible refine Ext.setCell ?_ (by first | exact Nat.le_refl _ | (dsimp only; omega) | (simp; done) | (simp; omega)) _) | with_reducible refine Ext.trans ?_ (by with_reducible assumption)))⟩

theorem rule_ask5 (p : ByteArray) (e b k : Int) (w : World) :
    Calls Try.prog 71 #[.agg #[.string p, .int .u64 e, .int .u64 b, .int .u8 k]] w fun x w' => x = .returned (.bool (rightKind k)) ∧ Ext w w' := by
  go_enter Try.func71, Try.ntmps71
  go_wp2_with (go_at_call 42; refine (kernel_Right _ _).mono ?_; rintro x w' ⟨rfl, hb⟩)
  go_ret
  exact ⟨rfl, (by repeat (first | with_reducible exact Ext.refl _ | with_reducible assumption | with_reducible refine Ext.alloc ?_ _ | with_reducible refine Ext.drew ?_ | (with_reducible refine Ext.setCell ?_ (by first | exact Nat.le_refl _ | (dsimp only; omega) | (simp; done) | (simp; omega)) _) | with_reducible refine Ext.trans ?_ (by with_reducible assumption)))⟩

def askCells : Array Value := #[.func (.func 67) #[] #[], .int .u16 23, .func (.func 68) #[] #[], .int .u16 24, .func (.func 69) #[] #[], .int .u16 25, .func (.func 70) #[] #[], .int .u16 26, .func (.func 71) #[] #[], .int .u16 27]
theorem rule_asks (w : World) :
    Calls Try.prog 49 #[] w fun x w' => x = .returned (.slice (some ⟨w.heap.size, 0, none⟩) 5 5) ∧ Ext w w' ∧ Blk w' w.heap.size askCells 101 := by
  go_enter Try.func49, Try.ntmps49
  go_wp2
  go_ret
  exact ⟨rfl, (by repeat (first | with_reducible exact Ext.refl _ | with_reducible assumption | with_reducible refine Ext.alloc ?_ _ | with_reducible refine Ext.drew ?_ | (with_reducible refine Ext.setCell ?_ (by first | exact Nat.le_refl _ | (dsimp only; omega) | (simp; done) | (simp; omega)) _) | with_reducible refine Ext.trans ?_ (by with_reducible assumption))), Blk.new _ _ _⟩

end Go.Proofs.Ytnlmbmbalmkiiaa

/- Plain sums that stop at their ends, and the three kernels, as functions on integers: no program in sight. -/
namespace Go.Proofs.Ytnlmbmbalmkiiaa

def satAdd (a b : Int) : Int := if a + b < 18446744073709551616 then a + b else 18446744073709551615
def satSub (a b : Int) : Int := if b ≤ a then a - b else 0
def fitsB (a b c : Int) : Bool := decide (a + b ≤ c)
def divS (a b : Int) : Int := if b = 0 then 18446744073709551615 else a / b
def ceilS (a b : Int) : Int := if b = 0 then 18446744073709551615 else if a % b = 0 then a / b else a / b + 1

theorem satAdd_lt {a b : Int} (h : a + b < 18446744073709551616) : satAdd a b = a + b := if_pos h
theorem satAdd_ge {a b : Int} (h : ¬ a + b < 18446744073709551616) : satAdd a b = 18446744073709551615 := if_neg h
theorem satAdd_u (a b : Int) (ha : 0 ≤ a) (hb : 0 ≤ b) : 0 ≤ satAdd a b ∧ satAdd a b < 18446744073709551616 := by unfold satAdd; split <;> omega
theorem satSub_le {a b : Int} (h : b ≤ a) : satSub a b = a - b := if_pos h
theorem satSub_gt {a b : Int} (h : ¬ b ≤ a) : satSub a b = 0 := if_neg h
theorem satSub_u (a b : Int) (ha : 0 ≤ a) (ha1 : a < 18446744073709551616) (hb : 0 ≤ b) : 0 ≤ satSub a b ∧ satSub a b ≤ a := by unfold satSub; split <;> omega
theorem divS_u (a b : Int) (ha : 0 ≤ a) (ha1 : a < 18446744073709551616) (hb : 0 ≤ b) : 0 ≤ divS a b ∧ divS a b < 18446744073709551616 := by
  unfold divS
  split
  · omega
  · have h1 := Int.ediv_nonneg ha hb
    have h2 := Int.ediv_le_self b ha
    omega
theorem ceilS_u (a b : Int) (ha : 0 ≤ a) (ha1 : a < 18446744073709551616) (hb : 0 ≤ b) : 0 ≤ ceilS a b ∧ ceilS a b < 18446744073709551616 := by
  unfold ceilS
  split
  · omega
  · have h1 := Int.ediv_nonneg ha hb
    have h2 := Int.ediv_le_self b ha
    split
    · omega
    · rename_i h3 h4
      have h5 : a / b < a ∨ a = 0 ∨ b = 1 := by
        by_cases h6 : a = 0
        · exact Or.inr (Or.inl h6)
        by_cases h7 : b = 1
        · exact Or.inr (Or.inr h7)
        left
        exact Int.ediv_lt_self_of_pos_of_ne_one (by omega) (by omega)
      rcases h5 with h | h | h
      · omega
      · subst h; simp at h4
      · subst h; simp at h4

/-- how full a state is -/
def kFill (k a b now cap : Int) : Int :=
  if k = 1 then satSub a now else if k = 2 then cap - min (satAdd a (satSub now b)) cap else if k = 3 then satSub a (satSub now b) else 0
/-- a state that is so full: its two numbers -/
def kOfA (k now cap fill : Int) : Int := if k = 1 then satAdd now fill else if k = 2 then satSub cap fill else if k = 3 then fill else 0
def kOfB (k now : Int) : Int := if k = 1 then 0 else if k = 2 then now else if k = 3 then now else 0
/-- may it come in -/
def kOk (k a b now cap x : Int) : Bool :=
  if k = 1 then fitsB (max a now - now) x cap else if k = 2 then decide (x ≤ min (satAdd a (satSub now b)) cap) else if k = 3 then fitsB (satSub a (satSub now b)) x cap else false
/-- what is kept then -/
def kNextA (k a b now cap x : Int) : Int :=
  if kOk k a b now cap x then (if k = 1 then satAdd (max a now) x else if k = 2 then min (satAdd a (satSub now b)) cap - x else if k = 3 then satSub a (satSub now b) + x else a) else a
def kNextB (k a b now cap x : Int) : Int :=
  if kOk k a b now cap x then (if k = 1 then 0 else if k = 2 then now else if k = 3 then now else b) else b
/-- how much later -/
def kRetry (f cap x : Int) : Bool := decide (x ≤ cap) && decide (cap < f + x)
def kWait (f cap x : Int) : Int := if kRetry f cap x then f - (cap - x) else 0

theorem kFill_u (k a b now cap : Int) (ha0 : 0 ≤ a) (ha1 : a < 18446744073709551616) (hb0 : 0 ≤ b) (hn0 : 0 ≤ now) (hn1 : now < 18446744073709551616) (hc0 : 0 ≤ cap) (hc1 : cap < 18446744073709551616) :
    0 ≤ kFill k a b now cap ∧ kFill k a b now cap < 18446744073709551616 := by
  have h1 := satSub_u a now ha0 ha1 hn0
  have h2 := satSub_u now b hn0 hn1 hb0
  have h3 := satAdd_u a (satSub now b) ha0 h2.1
  have h4 := satSub_u a (satSub now b) ha0 ha1 h2.1
  unfold kFill
  repeat' split
  all_goals omega
end Go.Proofs.Ytnlmbmbalmkiiaa

/- Rows read and written whole: results that lie in memory; stores of whole structs. No program in sight. -/
namespace Go.Proofs.Ytnlmbmbalmkiiaa
open Go.RowKit
set_option linter.unusedVariables false
set_option linter.unusedSimpArgs false

section
variable {P : Program}

def aggKind : TypeDesc → Bool
  | .struct _ | .array _ _ => true
  | _ => false

theorem run_loadVar_blk {w : World} {g : Nat} {t ty : TypeId} {C : Array Value} {d : TypeDesc} (hB : Blk w g C t) (hu : P.underlying ty = some d) (hd : aggKind d = true) (hi : (P.info? ty).map (·.size) = some C.size) :
    (loadVar ty ⟨g, 0, none⟩).run P w = .ok (.agg C) w := run_loadVar_row w g t ty C (0, 0) d hB hu (by cases d <;> first | rfl | exact hd) hi

theorem ret_cell {fn : Func} {R : Ending → World → Prop} {tmps : Array Value} {w : World} {p : Tmp} {ty t : TypeId} {g : Nat} {C : Array Value} {d : TypeDesc} (h : fn.results = #[.cell p ty])
    (hp : tmps.getD p undef = .pointer (some ⟨g, 0, none⟩)) (hB : Blk w g C t) (hu : P.underlying ty = some d) (hd : aggKind d = true) (hi : (P.info? ty).map (·.size) = some C.size)
    (hR : R (.returned (.agg C)) w) : bodyPost P fn R .ret { tmps := tmps, defers := [] } w :=
  bodyPost_ret (results_cell_row h _ w g t C (0, 0) d hp hB hu (by cases d <;> first | rfl | exact hd) hi) rfl hR

theorem ret_cell_tmp {fn : Func} {R : Ending → World → Prop} {tmps : Array Value} {w : World} {p q : Tmp} {ty t : TypeId} {g : Nat} {C : Array Value} {d : TypeDesc} {v : Value} (h : fn.results = #[.cell p ty, .tmp q])
    (hp : tmps.getD p undef = .pointer (some ⟨g, 0, none⟩)) (hq : tmps.getD q undef = v) (hB : Blk w g C t) (hu : P.underlying ty = some d) (hd : aggKind d = true) (hi : (P.info? ty).map (·.size) = some C.size)
    (hR : R (.returned (.tuple #[.agg C, v])) w) : bodyPost P fn R .ret { tmps := tmps, defers := [] } w := by
  refine bodyPost_ret (v := .tuple #[.agg C, v]) ?_ rfl hR
  have hp' : tmps[p]?.getD undef = .pointer (some ⟨g, 0, none⟩) := by simpa using hp
  have hq' : tmps[q]?.getD undef = v := by simpa using hq
  simp [results, h, hp', hq', asAddr, run_loadVar_blk hB hu hd hi]

theorem Ext.set {x y : World} (h : Ext x y) {b : Nat} (hb : x.heap.size ≤ b) (o : Nat) (v : Value) : Ext x (y.setCell ⟨b, o, none⟩ v) := h.setCell hb v
theorem setRow_size (w : World) (g : Nat) (C : Array Value) : (w.setRow g C).heap.size = w.heap.size := by simp [World.setRow]
theorem setRow_other (w : World) (g k : Nat) (C : Array Value) (h : k ≠ g) : (w.setRow g C).heap[k]? = w.heap[k]? := by
  simp [World.setRow, Array.getElem?_modify, Ne.symm h]
theorem Ext.setRow {x y : World} (h : Ext x y) {b : Nat} (hb : x.heap.size ≤ b) (C : Array Value) : Ext x (y.setRow b C) :=
  by
  have hos := Below.os h
  have ht := Below.tape h
  have ho := Below.output h
  exact ⟨hos, ht, ho, by rw [setRow_size]; exact h.sz, fun k hk => (setRow_other _ _ _ _ (by omega)).trans (Below.block h k hk)⟩
theorem ExtB.setRow {b : Nat} {x y : World} (h : ExtB b x y) (C : Array Value) : ExtB b x (y.setRow b C) :=
  ⟨h.os, h.tape, h.output, by rw [setRow_size]; exact h.size, fun k hk hb => (setRow_other _ _ _ _ hb).trans (h.block k hk hb)⟩
theorem Blk.setRow {w : World} {b : Nat} {C : Array Value} {t : TypeId} (h : Blk w b C t) (D : Array Value) : Blk (w.setRow b D) b D t := setRow_heap w b C D t (0, 0) h
theorem Blk.otherRow {w : World} {b g : Nat} {C : Array Value} {t : TypeId} (h : Blk w b C t) (ne : b ≠ g) (D : Array Value) : Blk (w.setRow g D) b C t := (setRow_other _ _ _ _ ne).trans h
end
end Go.Proofs.Ytnlmbmbalmkiiaa

/- Walks: num.Add, Sub, Fits, Div, Ceil; wide.Add, Less. -/
namespace Go.Proofs.Ytnlmbmbalmkiiaa
open Go.RowKit
set_option linter.unusedVariables false
set_option linter.unusedSimpArgs false

theorem num_Sub (a b : Int) (w : World) (ha0 : 0 ≤ a) (ha1 : a < 18446744073709551616) (hb0 : 0 ≤ b) (hb1 : b < 18446744073709551616) :
    Calls Try.prog 59 #[.int .u64 a, .int .u64 b] w fun e w' => e = .returned (.int .u64 (satSub a b)) ∧ w = w' := by
  go_enter Try.func59, Try.ntmps59
  go_wp2
  all_goals
    go_ret
    exact ⟨ret_int (by unfold satSub; split <;> omega), rfl⟩

theorem wide_Less0 (c l : Int) (w : World) (hc0 : 0 ≤ c) (hc1 : c < 18446744073709551616) (hl0 : 0 ≤ l) (hl1 : l < 18446744073709551616) :
    Calls Try.prog 83 #[.int .u64 0, .int .u64 c, .int .u64 0, .int .u64 l] w fun e w' => e = .returned (.bool (decide (c < l))) ∧ w = w' := by
  go_enter Try.func83, Try.ntmps83
  go_wp2
  all_goals
    go_ret
    exact ⟨ret_bool (by simp; try omega), rfl⟩
theorem wide_Less1 (c l : Int) (w : World) (hc0 : 0 ≤ c) (hc1 : c < 18446744073709551616) (hl0 : 0 ≤ l) (hl1 : l < 18446744073709551616) :
    Calls Try.prog 83 #[.int .u64 0, .int .u64 c, .int .u64 1, .int .u64 l] w fun e w' => e = .returned (.bool true) ∧ w = w' := by
  go_enter Try.func83, Try.ntmps83
  go_wp2
  all_goals
    go_ret
    exact ⟨ret_bool (by simp; try omega), rfl⟩
theorem wide_Add0 (a b : Int) (w : World) (ha0 : 0 ≤ a) (ha1 : a < 18446744073709551616) (hb0 : 0 ≤ b) (hb1 : b < 18446744073709551616) (h : a + b < 18446744073709551616) :
    Calls Try.prog 82 #[.int .u64 0, .int .u64 a, .int .u64 0, .int .u64 b] w fun e w' => e = .returned (.tuple #[.int .u64 0, .int .u64 (a + b), .bool false]) ∧ w = w' := by
  have h1 : a ≤ a + b := by omega
  have h2 : ¬ a + b < a := by omega
  go_enter Try.func82, Try.ntmps82
  go_wp2
  go_ret3
  exact ⟨rfl, rfl⟩
theorem wide_Add1 (a b : Int) (w : World) (ha0 : 0 ≤ a) (ha1 : a < 18446744073709551616) (hb0 : 0 ≤ b) (hb1 : b < 18446744073709551616) (h : ¬ a + b < 18446744073709551616) :
    Calls Try.prog 82 #[.int .u64 0, .int .u64 a, .int .u64 0, .int .u64 b] w fun e w' => e = .returned (.tuple #[.int .u64 1, .int .u64 (a + b - 18446744073709551616), .bool false]) ∧ w = w' := by
  have H1 := Lib.hid (show IntKind.u64.wrap (a + b) = a + b - 18446744073709551616 by rw [wrap_u64]; omega)
  have h2 : IntKind.u64.wrap (a + b) < a := by rw [wrap_u64]; omega
  clear h
  go_enter Try.func82, Try.ntmps82
  go_wp2
  go_ret3
  exact ⟨ret_3 rfl (val_int H1.out) rfl, rfl⟩
theorem num_Fits (a b c : Int) (w : World) (ha0 : 0 ≤ a) (ha1 : a < 18446744073709551616) (hb0 : 0 ≤ b) (hb1 : b < 18446744073709551616) (hc0 : 0 ≤ c) (hc1 : c < 18446744073709551616) :
    Calls Try.prog 55 #[.int .u64 a, .int .u64 b, .int .u64 c] w fun e w' => e = .returned (.bool (fitsB a b c)) ∧ w = w' := by
  by_cases h : a + b < 18446744073709551616
  · go_enter Try.func55, Try.ntmps55
    go_wp2_with (first
      | (go_at_call 82; refine (wide_Add0 _ _ _ ha0 ha1 hb0 hb1 h).mono ?_; rintro e w' ⟨rfl, rfl⟩)
      | (go_at_call 83; refine (wide_Less0 _ _ _ hc0 hc1 (by omega) h).mono ?_; rintro e w' ⟨rfl, rfl⟩))
    go_ret
    exact ⟨ret_bool (by unfold fitsB; by_cases h3 : a + b ≤ c
                        · simp [h3]
                        · simp [h3]; omega), rfl⟩
  · have H := Lib.hid (show fitsB a b c = false by simp [fitsB]; omega)
    have h1 : 0 ≤ a + b - 18446744073709551616 := by omega
    have h2 : a + b - 18446744073709551616 < 18446744073709551616 := by omega
    go_enter Try.func55, Try.ntmps55
    go_wp2_with (first
      | (go_at_call 82; refine (wide_Add1 _ _ _ ha0 ha1 hb0 hb1 h).mono ?_; rintro e w' ⟨rfl, rfl⟩)
      | (go_at_call 83; refine (wide_Less1 _ _ _ hc0 hc1 h1 h2).mono ?_; rintro e w' ⟨rfl, rfl⟩))
    go_ret
    exact ⟨ret_bool H.out.symm, rfl⟩

set_option maxHeartbeats 400000 in
theorem num_Add (B : Nat) (a b : Int) (w : World) (ha0 : 0 ≤ a) (ha1 : a < 18446744073709551616) (hb0 : 0 ≤ b) (hb1 : b < 18446744073709551616)
    (c0 : w.cell? ⟨B, 0, none⟩ = some (.int .u64 a)) (c1 : w.cell? ⟨B, 1, none⟩ = some (.int .u64 b)) :
    Calls Try.prog 65 #[.slice (some ⟨B, 0, none⟩) 2 2] w fun e w' => e = .returned (.int .u64 (satAdd a b)) ∧ w = w' := by
  by_cases h : a + b < 18446744073709551616
  · have H := Lib.hid (satAdd_lt h)
    have h1 : ¬ a < a := by omega
    have h2 : ¬ a + b < b := by omega
    go_enter Try.func65, Try.ntmps65
    go_wp2
    refine wp_loop_rounds 3 ?_
    rw [rounds_succ]
    go_wp2
    rw [rounds_succ]
    go_wp2
    rw [rounds_succ]
    go_wp2
    go_ret
    exact ⟨ret_int (by rw [H.out]), rfl⟩
  · have H := Lib.hid (satAdd_ge h)
    have h1 : ¬ a < a := by omega
    have h2 : IntKind.u64.wrap (a + b) < b := by rw [wrap_u64]; omega
    clear h
    go_enter Try.func65, Try.ntmps65
    go_wp2
    refine wp_loop_rounds 3 ?_
    rw [rounds_succ]
    go_wp2
    rw [rounds_succ]
    go_wp2
    go_ret
    exact ⟨ret_int (by rw [H.out]), rfl⟩

theorem num_Div1 (a b : Int) (w : World) (ha0 : 0 ≤ a) (ha1 : a < 18446744073709551616) (hb0 : 0 < b) (hb1 : b < 18446744073709551616) :
    Calls Try.prog 84 #[.int .u64 a, .int .u64 b] w fun e w' => e = .returned (.int .u64 (a / b)) ∧ w = w' := by
  have h1 : ¬ b = 0 := by omega
  have hq0 := Int.ediv_nonneg ha0 (Int.le_of_lt hb0)
  have hq1 := Int.ediv_le_self b ha0
  have hq2 : a / b < 18446744073709551616 := by omega
  go_enter Try.func84, Try.ntmps84
  go_wp2
  go_ret
  exact ⟨rfl, rfl⟩
theorem num_Ceil1 (a b : Int) (w : World) (ha0 : 0 ≤ a) (ha1 : a < 18446744073709551616) (hb0 : 0 < b) (hb1 : b < 18446744073709551616) :
    Calls Try.prog 56 #[.int .u64 a, .int .u64 b] w fun e w' => e = .returned (.int .u64 (ceilS a b)) ∧ w = w' := by
  have h1 : ¬ b = 0 := by omega
  have hc := ceilS_u a b ha0 ha1 (Int.le_of_lt hb0)
  have hq0 := Int.ediv_nonneg ha0 (Int.le_of_lt hb0)
  have hq1 := Int.ediv_le_self b ha0
  have hq2 : a / b < 18446744073709551616 := by omega
  have hm0 := Int.emod_nonneg a h1
  by_cases h : a % b = 0
  · have H := Lib.hid (show ceilS a b = a / b by simp [ceilS, h, h1])
    have h2 : (a % b == 0) = true := by simp [h]
    clear h hc
    go_enter Try.func56, Try.ntmps56
    go_wp2
    go_ret
    exact ⟨ret_int H.out.symm, rfl⟩
  · have e : ceilS a b = a / b + 1 := by simp [ceilS, h, h1]
    have hq3 : a / b + 1 < 18446744073709551616 := by omega
    have H := Lib.hid e
    have h2 : (a % b == 0) = false := by simp [h]
    clear h hc e
    go_enter Try.func56, Try.ntmps56
    go_wp2
    go_ret
    exact ⟨ret_int H.out.symm, rfl⟩
theorem num_over0 (a : Int) (f : Value) (m : Int) (w : World) :
    Calls Try.prog 57 #[.int .u64 a, .int .u64 0, f, .int .u64 m] w fun e w' => e = .returned (.int .u64 m) ∧ w = w' := by
  go_enter Try.func57, Try.ntmps57
  go_wp2
  go_ret
  exact ⟨rfl, rfl⟩
theorem num_over_Div (a b : Int) (m : Int) (w : World) (ha0 : 0 ≤ a) (ha1 : a < 18446744073709551616) (hb0 : 0 < b) (hb1 : b < 18446744073709551616) :
    Calls Try.prog 57 #[.int .u64 a, .int .u64 b, .func (.func 84) #[] #[], .int .u64 m] w fun e w' => e = .returned (.int .u64 (a / b)) ∧ w = w' := by
  have h1 : (b == 0) = false := by simp; omega
  go_enter Try.func57, Try.ntmps57
  go_wp2_with (go_at_call 84; refine (num_Div1 a b _ ha0 ha1 hb0 hb1).mono ?_; rintro e w' ⟨rfl, rfl⟩)
  go_ret
  exact ⟨rfl, rfl⟩
theorem num_over_Ceil (a b : Int) (m : Int) (w : World) (ha0 : 0 ≤ a) (ha1 : a < 18446744073709551616) (hb0 : 0 < b) (hb1 : b < 18446744073709551616) :
    Calls Try.prog 57 #[.int .u64 a, .int .u64 b, .func (.func 56) #[] #[], .int .u64 m] w fun e w' => e = .returned (.int .u64 (ceilS a b)) ∧ w = w' := by
  have h1 : (b == 0) = false := by simp; omega
  go_enter Try.func57, Try.ntmps57
  go_wp2_with (go_at_call 56; refine (num_Ceil1 a b _ ha0 ha1 hb0 hb1).mono ?_; rintro e w' ⟨rfl, rfl⟩)
  go_ret
  exact ⟨rfl, rfl⟩
theorem num_Div (a b : Int) (w : World) (ha0 : 0 ≤ a) (ha1 : a < 18446744073709551616) (hb0 : 0 ≤ b) (hb1 : b < 18446744073709551616) :
    Calls Try.prog 58 #[.int .u64 a, .int .u64 b] w fun e w' => e = .returned (.int .u64 (divS a b)) ∧ w = w' := by
  by_cases h : b = 0
  · subst h
    have H := Lib.hid (show divS a 0 = 18446744073709551615 from if_pos rfl)
    go_enter Try.func58, Try.ntmps58
    go_wp2_with fail
    refine (num_over0 a (.func (.func 84) #[] #[]) _ _).mono ?_
    rintro e w' ⟨rfl, rfl⟩
    go_wp2
    go_ret
    exact ⟨ret_int H.out.symm, rfl⟩
  · have hb : 0 < b := by omega
    go_enter Try.func58, Try.ntmps58
    go_wp2_with fail
    refine (num_over_Div a b _ _ ha0 ha1 hb hb1).mono ?_
    rintro e w' ⟨rfl, rfl⟩
    go_wp2
    go_ret
    exact ⟨ret_int (by rw [show divS a b = a / b from if_neg h]), rfl⟩
theorem num_Ceil (a b : Int) (w : World) (ha0 : 0 ≤ a) (ha1 : a < 18446744073709551616) (hb0 : 0 ≤ b) (hb1 : b < 18446744073709551616) :
    Calls Try.prog 34 #[.int .u64 a, .int .u64 b] w fun e w' => e = .returned (.int .u64 (ceilS a b)) ∧ w = w' := by
  by_cases h : b = 0
  · subst h
    have H := Lib.hid (show ceilS a 0 = 18446744073709551615 from if_pos rfl)
    go_enter Try.func34, Try.ntmps34
    go_wp2_with fail
    refine (num_over0 a (.func (.func 56) #[] #[]) _ _).mono ?_
    rintro e w' ⟨rfl, rfl⟩
    go_wp2
    go_ret
    exact ⟨ret_int H.out.symm, rfl⟩
  · have hb : 0 < b := by omega
    go_enter Try.func34, Try.ntmps34
    go_wp2_with fail
    refine (num_over_Ceil a b _ _ ha0 ha1 hb hb1).mono ?_
    rintro e w' ⟨rfl, rfl⟩
    go_wp2
    go_ret
    exact ⟨rfl, rfl⟩
end Go.Proofs.Ytnlmbmbalmkiiaa
