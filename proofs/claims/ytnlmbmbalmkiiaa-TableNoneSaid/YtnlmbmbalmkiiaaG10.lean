/- Walks: tollerlaw14.Rule. Keys of choices are right keys; so is their first byte; the rules of choices are right. Plain laws: what one key does changes nothing of another one; tables that are alike in a key tell the same of it. Walks: tollerref14.Answers at answers that are alike. A region that draws its order, whose operations read, and whose callees make memory but leave what was there: one walk, in the class of all worlds that have grown. A region that draws its order, whose operations read and whose callees make memory, but for the last ones, that come one behind another: one walk. -/
import Derived.BigQuiet
import Derived.StillTail
import Derived.Test.YtnlmbmbalmkiiaaG6
import Derived.Test.YtnlmbmbalmkiiaaG9
import Derived.Test.YtnlmbmbalmkiiaaG0
import Derived.Test.YtnlmbmbalmkiiaaG8

/- Walks: tollerlaw14.Rule. -/
namespace Go.Proofs.Ytnlmbmbalmkiiaa
open Go.RowKit
set_option linter.unusedVariables false
set_option linter.unusedSimpArgs false

def rP (k : Int) : ByteArray := if k % 6 = 2 then ⟨#[97]⟩ else ⟨#[]⟩
def rE (k : Int) : Int := if k % 6 = 0 then 10 else if k % 6 = 1 then 1000 else if k % 6 = 2 then 10 else if k % 6 = 3 then 3000000000 else if k % 6 = 4 then 2147483648 else 1
def rB (k : Int) : Int := if 250 ≤ k then 0 else if k % 6 = 0 then 3 else if k % 6 = 1 then 2 else if k % 6 = 2 then 3 else if k % 6 = 3 then 4 else if k % 6 = 4 then 2147483648 else 1
def rK (k : Int) : Int := 1 + k / 6 % 3
def ruleV (k : Int) : Value := .agg #[.string (rP k), .int .u64 (rE k), .int .u64 (rB k), .int .u8 (rK k)]

set_option maxHeartbeats 1000000 in
set_option maxRecDepth 100000 in
theorem law14_Rule0 (k : Int) (w : World) (hk0 : 0 ≤ k) (hk1 : k < 256) (hi : k % 6 = 0) (b : Int) (hb : (250 ≤ k ∧ b = 0) ∨ (k < 250 ∧ b = 3)) :
    Calls Try.prog 11 #[.int .u8 k] w fun x w' => x = .returned (.agg #[.string ⟨#[]⟩, .int .u64 10, .int .u64 b, .int .u8 (1 + k / 6 % 3)]) ∧ Ext w w' := by
  rcases hb with ⟨hb, rfl⟩ | ⟨hb, rfl⟩
  all_goals
    go_enter Try.func11, Try.ntmps11
    go_wp2
    refine ret_cell Try.results11 rfl (((Blk.new w _ 30).alloc _).alloc _) Try.underlying30 rfl (by kernel_rfl) ⟨rfl, ?_⟩
    exact (((Ext.refl w).alloc _).alloc _).alloc _

set_option maxHeartbeats 1000000 in
set_option maxRecDepth 100000 in
theorem law14_Rule1 (k : Int) (w : World) (hk0 : 0 ≤ k) (hk1 : k < 256) (hi : k % 6 = 1) (b : Int) (hb : (250 ≤ k ∧ b = 0) ∨ (k < 250 ∧ b = 2)) :
    Calls Try.prog 11 #[.int .u8 k] w fun x w' => x = .returned (.agg #[.string ⟨#[]⟩, .int .u64 1000, .int .u64 b, .int .u8 (1 + k / 6 % 3)]) ∧ Ext w w' := by
  rcases hb with ⟨hb, rfl⟩ | ⟨hb, rfl⟩
  all_goals
    go_enter Try.func11, Try.ntmps11
    go_wp2
    refine ret_cell Try.results11 rfl (((Blk.new w _ 30).alloc _).alloc _) Try.underlying30 rfl (by kernel_rfl) ⟨rfl, ?_⟩
    exact (((Ext.refl w).alloc _).alloc _).alloc _

set_option maxHeartbeats 1000000 in
set_option maxRecDepth 100000 in
theorem law14_Rule2 (k : Int) (w : World) (hk0 : 0 ≤ k) (hk1 : k < 256) (hi : k % 6 = 2) (b : Int) (hb : (250 ≤ k ∧ b = 0) ∨ (k < 250 ∧ b = 3)) :
    Calls Try.prog 11 #[.int .u8 k] w fun x w' => x = .returned (.agg #[.string ⟨#[97]⟩, .int .u64 10, .int .u64 b, .int .u8 (1 + k / 6 % 3)]) ∧ Ext w w' := by
  rcases hb with ⟨hb, rfl⟩ | ⟨hb, rfl⟩
  all_goals
    go_enter Try.func11, Try.ntmps11
    go_wp2
    refine ret_cell Try.results11 rfl (((Blk.new w _ 30).alloc _).alloc _) Try.underlying30 rfl (by kernel_rfl) ⟨rfl, ?_⟩
    exact (((Ext.refl w).alloc _).alloc _).alloc _

set_option maxHeartbeats 1000000 in
set_option maxRecDepth 100000 in
theorem law14_Rule3 (k : Int) (w : World) (hk0 : 0 ≤ k) (hk1 : k < 256) (hi : k % 6 = 3) (b : Int) (hb : (250 ≤ k ∧ b = 0) ∨ (k < 250 ∧ b = 4)) :
    Calls Try.prog 11 #[.int .u8 k] w fun x w' => x = .returned (.agg #[.string ⟨#[]⟩, .int .u64 3000000000, .int .u64 b, .int .u8 (1 + k / 6 % 3)]) ∧ Ext w w' := by
  rcases hb with ⟨hb, rfl⟩ | ⟨hb, rfl⟩
  all_goals
    go_enter Try.func11, Try.ntmps11
    go_wp2
    refine ret_cell Try.results11 rfl (((Blk.new w _ 30).alloc _).alloc _) Try.underlying30 rfl (by kernel_rfl) ⟨rfl, ?_⟩
    exact (((Ext.refl w).alloc _).alloc _).alloc _

set_option maxHeartbeats 1000000 in
set_option maxRecDepth 100000 in
theorem law14_Rule4 (k : Int) (w : World) (hk0 : 0 ≤ k) (hk1 : k < 256) (hi : k % 6 = 4) (b : Int) (hb : (250 ≤ k ∧ b = 0) ∨ (k < 250 ∧ b = 2147483648)) :
    Calls Try.prog 11 #[.int .u8 k] w fun x w' => x = .returned (.agg #[.string ⟨#[]⟩, .int .u64 2147483648, .int .u64 b, .int .u8 (1 + k / 6 % 3)]) ∧ Ext w w' := by
  rcases hb with ⟨hb, rfl⟩ | ⟨hb, rfl⟩
  all_goals
    go_enter Try.func11, Try.ntmps11
    go_wp2
    refine ret_cell Try.results11 rfl (((Blk.new w _ 30).alloc _).alloc _) Try.underlying30 rfl (by kernel_rfl) ⟨rfl, ?_⟩
    exact (((Ext.refl w).alloc _).alloc _).alloc _

set_option maxHeartbeats 1000000 in
set_option maxRecDepth 100000 in
theorem law14_Rule5 (k : Int) (w : World) (hk0 : 0 ≤ k) (hk1 : k < 256) (hi : k % 6 = 5) (b : Int) (hb : (250 ≤ k ∧ b = 0) ∨ (k < 250 ∧ b = 1)) :
    Calls Try.prog 11 #[.int .u8 k] w fun x w' => x = .returned (.agg #[.string ⟨#[]⟩, .int .u64 1, .int .u64 b, .int .u8 (1 + k / 6 % 3)]) ∧ Ext w w' := by
  rcases hb with ⟨hb, rfl⟩ | ⟨hb, rfl⟩
  all_goals
    go_enter Try.func11, Try.ntmps11
    go_wp2
    refine ret_cell Try.results11 rfl (((Blk.new w _ 30).alloc _).alloc _) Try.underlying30 rfl (by kernel_rfl) ⟨rfl, ?_⟩
    exact (((Ext.refl w).alloc _).alloc _).alloc _

theorem law14_Rule (k : Int) (w : World) (hk0 : 0 ≤ k) (hk1 : k < 256) :
    Calls Try.prog 11 #[.int .u8 k] w fun x w' => x = .returned (ruleV k) ∧ Ext w w' := by
  rcases (by omega : k % 6 = 0 ∨ k % 6 = 1 ∨ k % 6 = 2 ∨ k % 6 = 3 ∨ k % 6 = 4 ∨ k % 6 = 5) with h | h | h | h | h | h
  · have hv : ruleV k = .agg #[.string ⟨#[]⟩, .int .u64 10, .int .u64 (rB k), .int .u8 (1 + k / 6 % 3)] := by unfold ruleV rP rE rK; rw [h]; rfl
    rw [hv]
    refine law14_Rule0 k w hk0 hk1 h _ ?_
    unfold rB
    by_cases q : 250 ≤ k
    · exact Or.inl ⟨q, if_pos q⟩
    · refine Or.inr ⟨by omega, ?_⟩; rw [if_neg q, h]; rfl
  · have hv : ruleV k = .agg #[.string ⟨#[]⟩, .int .u64 1000, .int .u64 (rB k), .int .u8 (1 + k / 6 % 3)] := by unfold ruleV rP rE rK; rw [h]; rfl
    rw [hv]
    refine law14_Rule1 k w hk0 hk1 h _ ?_
    unfold rB
    by_cases q : 250 ≤ k
    · exact Or.inl ⟨q, if_pos q⟩
    · refine Or.inr ⟨by omega, ?_⟩; rw [if_neg q, h]; rfl
  · have hv : ruleV k = .agg #[.string ⟨#[97]⟩, .int .u64 10, .int .u64 (rB k), .int .u8 (1 + k / 6 % 3)] := by unfold ruleV rP rE rK; rw [h]; rfl
    rw [hv]
    refine law14_Rule2 k w hk0 hk1 h _ ?_
    unfold rB
    by_cases q : 250 ≤ k
    · exact Or.inl ⟨q, if_pos q⟩
    · refine Or.inr ⟨by omega, ?_⟩; rw [if_neg q, h]; rfl
  · have hv : ruleV k = .agg #[.string ⟨#[]⟩, .int .u64 3000000000, .int .u64 (rB k), .int .u8 (1 + k / 6 % 3)] := by unfold ruleV rP rE rK; rw [h]; rfl
    rw [hv]
    refine law14_Rule3 k w hk0 hk1 h _ ?_
    unfold rB
    by_cases q : 250 ≤ k
    · exact Or.inl ⟨q, if_pos q⟩
    · refine Or.inr ⟨by omega, ?_⟩; rw [if_neg q, h]; rfl
  · have hv : ruleV k = .agg #[.string ⟨#[]⟩, .int .u64 2147483648, .int .u64 (rB k), .int .u8 (1 + k / 6 % 3)] := by unfold ruleV rP rE rK; rw [h]; rfl
    rw [hv]
    refine law14_Rule4 k w hk0 hk1 h _ ?_
    unfold rB
    by_cases q : 250 ≤ k
    · exact Or.inl ⟨q, if_pos q⟩
    · refine Or.inr ⟨by omega, ?_⟩; rw [if_neg q, h]; rfl
  · have hv : ruleV k = .agg #[.string ⟨#[]⟩, .int .u64 1, .int .u64 (rB k), .int .u8 (1 + k / 6 % 3)] := by unfold ruleV rP rE rK; rw [h]; rfl
    rw [hv]
    refine law14_Rule5 k w hk0 hk1 h _ ?_
    unfold rB
    by_cases q : 250 ≤ k
    · exact Or.inl ⟨q, if_pos q⟩
    · refine Or.inr ⟨by omega, ?_⟩; rw [if_neg q, h]; rfl
end Go.Proofs.Ytnlmbmbalmkiiaa

/- Keys of choices are right keys; so is their first byte; the rules of choices are right. -/
namespace Go.Proofs.Ytnlmbmbalmkiiaa
open Go.RowKit
set_option linter.unusedVariables false
set_option linter.unusedSimpArgs false

theorem pieceOf_ok (n : Nat) : noBad (pieceOf n).data.toList = true := by
  unfold pieceOf
  repeat' split
  all_goals decide
theorem noBad_append (a b : List UInt8) : noBad (a ++ b) = (noBad a && noBad b) := by simp [noBad]
theorem keyCat_ok : ∀ (m : Nat) (l : List UInt8), l.length = m → noBad (keyCat l).data.toList = true := by
  intro m
  induction m with
  | zero => intro l h; obtain rfl := List.eq_nil_of_length_eq_zero h; decide
  | succ m ih =>
    intro l h
    have hne : l ≠ [] := by intro e; subst e; simp at h
    rw [← List.dropLast_concat_getLast hne, keyCat_snoc, ByteArray.data_append, Array.toList_append, noBad_append, ih l.dropLast (by rw [List.length_dropLast]; omega), pieceOf_ok]
    rfl
theorem keyText_ok (l : List UInt8) : keyOk (keyText l) = true ∧ (keyText l).size ≤ 12 := by
  unfold keyText
  split
  · decide
  · rename_i h
    have h2 := keyCat_size (l.take 6)
    rw [List.length_take] at h2
    have h3 := keyCat_ok _ (l.take 6) rfl
    refine ⟨?_, by omega⟩
    unfold keyOk
    rw [h3]
    simp
    omega
/-- the first byte of a text -/
def first1 (s : ByteArray) : ByteArray := s.extract 0 1
theorem first1_ok {s : ByteArray} (h : keyOk s = true) : keyOk (first1 s) = true ∧ (first1 s).size = 1 := by
  unfold keyOk at h
  simp only [Bool.and_eq_true, decide_eq_true_eq] at h
  obtain ⟨⟨h1, h2⟩, h3⟩ := h
  have hsz : (first1 s).size = 1 := by unfold first1; rw [ByteArray.size_extract]; omega
  refine ⟨?_, hsz⟩
  unfold keyOk
  rw [hsz]
  have hd : (first1 s).data.toList = s.data.toList.take 1 := by
    unfold first1
    rw [ByteArray.data_extract]
    simp [Array.toList_extract]
  rw [hd]
  have : noBad (s.data.toList.take 1) = true := by
    unfold noBad at h3 ⊢
    rw [List.all_eq_true] at h3 ⊢
    intro x hx
    exact h3 x (List.mem_of_mem_take hx)
  rw [this]
  rfl

theorem rule_ok {j : Int} (h0 : 0 ≤ j) (h1 : j < 250) : ruleErr (rP j) (rE j) (rB j) (rK j) = 0 ∧ rE j < 18446744073709551616 ∧ rB j < 18446744073709551616 ∧ 0 < rE j ∧ 0 < rB j ∧ rE j * rB j ≤ 4611686018427387904 ∧ (rP j).size ≤ maxLen ∧ rE j ≤ 3000000000 := by
  have hk : rK j = 1 ∨ rK j = 2 ∨ rK j = 3 := by unfold rK; omega
  unfold rP rE rB
  rw [if_neg (by omega : ¬ 250 ≤ j)]
  rcases (by omega : j % 6 = 0 ∨ j % 6 = 1 ∨ j % 6 = 2 ∨ j % 6 = 3 ∨ j % 6 = 4 ∨ j % 6 = 5) with h | h | h | h | h | h <;> rw [h] <;> rcases hk with q | q | q <;> rw [q] <;> decide
theorem rule_bounds {j : Int} (h0 : 0 ≤ j) (h1 : j < 256) : 0 ≤ rE j ∧ rE j < 18446744073709551616 ∧ 0 ≤ rB j ∧ rB j < 18446744073709551616 ∧ 0 ≤ rK j ∧ rK j < 256 ∧ (rP j).size ≤ maxLen := by
  have hk : rK j = 1 ∨ rK j = 2 ∨ rK j = 3 := by unfold rK; omega
  refine ⟨?_, ?_, ?_, ?_, by omega, by omega, ?_⟩
  · unfold rE; repeat' split
    all_goals omega
  · unfold rE; repeat' split
    all_goals omega
  · unfold rB; repeat' split
    all_goals omega
  · unfold rB; repeat' split
    all_goals omega
  · unfold rP; split <;> decide
end Go.Proofs.Ytnlmbmbalmkiiaa

/- Plain laws: what one key does changes nothing of another one; tables that are alike in a key tell the same of it. -/
namespace Go.Proofs.Ytnlmbmbalmkiiaa
set_option linter.unusedVariables false
set_option linter.unusedSimpArgs false

theorem look_del_ne (l : SMap) {k q : ByteArray} (h : k ≠ q) : (l.del k).look q = l.look q := by
  induction l with
  | nil => rfl
  | cons x l ih =>
    show SMap.look (List.filter _ (x :: l)) q = _
    rw [List.filter_cons]
    by_cases hx : x.1.key = k
    · rw [if_neg (by simpa using hx), look_cons, if_neg (by rw [hx]; exact h)]; exact ih
    · rw [if_pos (by simpa using hx), look_cons, look_cons]
      split
      · rfl
      · exact ih
theorem look_rep_ne (l : SMap) {s : Slot} {q : ByteArray} (h : s.key ≠ q) : (l.rep s).look q = l.look q := by
  induction l with
  | nil => rfl
  | cons x l ih =>
    show SMap.look ((if x.1.key = s.key then (s, x.2) else x) :: SMap.rep l s) q = _
    by_cases hx : x.1.key = s.key
    · rw [if_pos hx, look_cons, if_neg h, look_cons, if_neg (by rw [hx]; exact h)]; exact ih
    · rw [if_neg hx, look_cons, look_cons]
      split
      · rfl
      · exact ih
theorem look_append_ne (l : SMap) {s : Slot} {c : Nat} {q : ByteArray} (h : s.key ≠ q) : SMap.look (l ++ [(s, c)]) q = l.look q := by
  induction l with
  | nil => rw [List.nil_append, look_cons, if_neg h]
  | cons x l ih =>
    rw [List.cons_append, look_cons, look_cons]
    split
    · rfl
    · exact ih
theorem look_put_ne (l : SMap) {s : Slot} (c : Nat) {q : ByteArray} (h : s.key ≠ q) : (l.put s c).look q = l.look q := by
  unfold SMap.put
  split
  · exact look_rep_ne l h
  · exact look_append_ne l h
theorem put_len (l : SMap) (s : Slot) (c : Nat) : (l.put s c).length ≤ l.length + 1 := by
  unfold SMap.put
  split
  · unfold SMap.rep; rw [List.length_map]; omega
  · rw [List.length_append]; simp
theorem slotLeft_ne (l : SMap) {k q : ByteArray} (e b clock : Int) (h : k ≠ q) : (slotLeft l k e b clock).look q = l.look q := by
  unfold slotLeft
  split
  · rfl
  · exact look_del_ne l h

/-- there is room -/
theorem ch_room {most clock : Int} {l : SMap} {k : ByteArray} {e b : Int} (h : (l.length : Int) < most) : chRoom most clock l k e b = slotLeft l k e b clock ∧ ¬ chFull most clock l k e b = true := by
  have hsl := slotLeft_len l k e b clock
  have := room_small (clock := clock) (most := most) (is := (slotHit l k e b clock).isSome) (l := slotLeft l k e b clock) (by omega)
  refine ⟨this.1, ?_⟩
  unfold chFull
  rw [this.2]
  decide
theorem cgL_len {most clock : Int} {l : SMap} (c : Nat) (k p : ByteArray) (e b rk n : Int) (h : (l.length : Int) < most) : (cgL most clock l c k p e b rk n).length ≤ l.length + 1 := by
  obtain ⟨h1, h2⟩ := ch_room (clock := clock) (k := k) (e := e) (b := b) h
  have hsl := slotLeft_len l k e b clock
  unfold cgL
  split
  · omega
  · split
    · omega
    · unfold chargeL
      rw [if_neg h2, h1]
      unfold chL
      split
      · have := put_len (slotLeft l k e b clock) (chgS clock (slotHit l k e b clock) k p e b rk n) c
        omega
      · omega
/-- another key -/
theorem cgL_ne {most clock : Int} {l : SMap} (c : Nat) (k p : ByteArray) (e b rk n : Int) {q : ByteArray} (hq : k ≠ q) (h : (l.length : Int) < most) : (cgL most clock l c k p e b rk n).look q = l.look q := by
  obtain ⟨h1, h2⟩ := ch_room (clock := clock) (k := k) (e := e) (b := b) h
  unfold cgL
  split
  · rfl
  · split
    · rfl
    · unfold chargeL
      rw [if_neg h2, h1]
      unfold chL
      split
      · rw [look_put_ne _ _ (show (chgS clock (slotHit l k e b clock) k p e b rk n).key ≠ q from hq)]
        exact slotLeft_ne l e b clock hq
      · exact slotLeft_ne l e b clock hq
/-- the same key of two tables -/
theorem cg_same {most clock : Int} {l l' : SMap} (c c' : Nat) (k p : ByteArray) (e b rk n : Int) (hq : l.look k = l'.look k) (h : (l.length : Int) < most) (h' : (l'.length : Int) < most) :
    cgV most clock l' k p e b rk n = cgV most clock l k p e b rk n ∧ (cgL most clock l c k p e b rk n).look k = (cgL most clock l' c' k p e b rk n).look k := by
  obtain ⟨h1, h2⟩ := ch_room (clock := clock) (k := k) (e := e) (b := b) h
  obtain ⟨h3, h4⟩ := ch_room (clock := clock) (k := k) (e := e) (b := b) h'
  have hh : slotHit l k e b clock = slotHit l' k e b clock := by unfold slotHit; rw [hq]
  unfold cgV cgL
  constructor
  · split
    · rfl
    · split
      · rfl
      · unfold chargeV; rw [if_neg h2, if_neg h4, hh]
  · split
    · exact hq
    · split
      · exact hq
      · unfold chargeL
        rw [if_neg h2, if_neg h4, h1, h3, hh]
        unfold chL
        split
        · have hk : (chgS clock (slotHit l' k e b clock) k p e b rk n).key = k := rfl
          have a1 := look_put (slotLeft l k e b clock) (chgS clock (slotHit l' k e b clock) k p e b rk n) c
          have a2 := look_put (slotLeft l' k e b clock) (chgS clock (slotHit l' k e b clock) k p e b rk n) c'
          rw [hk] at a1 a2
          rw [a1, a2]
        · unfold slotLeft
          rw [hh]
          split
          · exact hq
          · rw [look_del, look_del]
/-- an answer's shape -/
theorem cgV_form (most clock : Int) (l : SMap) (k p : ByteArray) (e b rk n : Int) : ∃ (code err limit left reset aft nan : Int) (ret : Bool), cgV most clock l k p e b rk n = ansV code err limit left reset aft nan ret := by
  unfold cgV
  split
  · exact ⟨_, _, _, _, _, _, _, _, rfl⟩
  · split
    · exact ⟨_, _, _, _, _, _, _, _, rfl⟩
    · unfold chargeV
      split
      · exact ⟨_, _, _, _, _, _, _, _, rfl⟩
      · exact ⟨_, _, _, _, _, _, _, _, rfl⟩
theorem xkey_ne (s : ByteArray) : (⟨#[120]⟩ : ByteArray) ++ s ≠ ⟨#[121]⟩ := by
  intro h
  have := congrArg (fun x : ByteArray => x.data.toList) h
  simp [ByteArray.data_append] at this
end Go.Proofs.Ytnlmbmbalmkiiaa

/- Walks: tollerref14.Answers at answers that are alike. -/
namespace Go.Proofs.Ytnlmbmbalmkiiaa
open Go.RowKit
set_option linter.unusedVariables false
set_option linter.unusedSimpArgs false

set_option maxHeartbeats 1000000 in
set_option maxRecDepth 100000 in
theorem ref14_Answers_yes (code err limit left reset aft nan : Int) (ret : Bool) (w : World) :
    Calls Try.prog 16 #[.agg #[.int .u8 code, .int .u16 err, .int .u64 limit, .int .u64 left, .int .u64 reset, .int .u64 aft, .int .u64 nan, .bool ret, .int .i64 0, .slice none 0 0], .agg #[.int .u8 code, .int .u16 err, .int .u64 limit, .int .u64 left, .int .u64 reset, .int .u64 aft, .int .u64 nan, .bool ret, .int .i64 0, .slice none 0 0]] w fun x w' => x = .returned (.bool true) ∧ Ext w w' := by
  have hcv : ∀ W : World, (convert 23 9 (.slice none 0 0)).run Try.prog W = .ok (.string ⟨#[]⟩) W := fun W => by kernel_rfl
  go_enter Try.func16, Try.ntmps16
  go_wp2
  go_ret
  exact ⟨rfl, ((Ext.refl w).alloc _).alloc _⟩
end Go.Proofs.Ytnlmbmbalmkiiaa

/- A region that draws its order, whose operations read, and whose callees make memory but leave what was there: one walk, in the class of all worlds that have grown. -/
namespace Go.Proofs.Ytnlmbmbalmkiiaa
open Go.RowKit
set_option linter.unusedVariables false

/-- a world that has grown -/
structure Grown (w : World) where
  at' : World
  ext : Ext w at'
instance grown_some (w : World) : Nonempty (Grown w) := ⟨⟨w, Ext.refl w⟩⟩
def grown (w : World) (s : Grown w) : World := s.at'
theorem grown_ext (w : World) (s : Grown w) : Ext w (grown w s) := s.ext
theorem grown_cell {w : World} {a : Addr} {v : Value} (h : w.cell? a = some v) (s : Grown w) : (grown w s).cell? a = some v := (grown_ext w s).keep h
theorem wp_region_grow {P : Program} {id : Nat} {Q : Exit → Act → World → Prop} {a : Act} {w : World} {l : List Oper} (hm : P.follows .mixedOrders = true) (hB : Region.lexB .any l.toArray = true)
    (h : wpQuiet P l.toArray (fun w' => ∃ s : Grown w, w' = grown w s) (fun a' => ∀ w', (∃ s : Grown w, w' = grown w s) → Q .normal a' w') l a) : (Code.region id l.toArray true).wp P Q a w :=
  wp_region_quiet (C := fun w' => ∃ s : Grown w, w' = grown w s) hm hB ⟨⟨w.drew, (Ext.refl w).drew⟩, rfl⟩ (by simpa using h)
/-- a callee that makes memory -/
theorem grow_call {P : Program} {f : FuncId} {args : Array Value} {w : World} {s : Grown w} {v : Value}
    (h : Calls P f args (grown w s) fun e w' => e = .returned v ∧ Ext (grown w s) w') : Calls P f args (grown w s) fun e w'' => e = .returned v ∧ ∃ s' : Grown w, w'' = grown w s' :=
  h.mono fun _ W ⟨he, hm⟩ => ⟨he, ⟨W, (grown_ext w s).trans hm⟩, rfl⟩
/-- .. that reads -/
theorem grow_same {P : Program} {f : FuncId} {args : Array Value} {w : World} {s : Grown w} {v : Value}
    (h : Calls P f args (grown w s) fun e w' => e = .returned v ∧ w' = grown w s) : Calls P f args (grown w s) fun e w'' => e = .returned v ∧ ∃ s' : Grown w, w'' = grown w s' :=
  h.mono fun _ W ⟨he, hm⟩ => ⟨he, s, hm⟩
end Go.Proofs.Ytnlmbmbalmkiiaa

/- A region that draws its order, whose operations read and whose callees make memory, but for the last ones, that come one behind another: one walk. -/
namespace Go.Proofs.Ytnlmbmbalmkiiaa
open Go.RowKit
set_option linter.unusedVariables false

section
variable {P : Program} {ops : Array Oper} {md : Region.Mode} {C : World → Prop}

/-- whatever order is picked, up to where the last operations begin, in a class of worlds -/
def anyHead (P : Program) (md : Region.Mode) (ops : Array Oper) (C : World → Prop) (n : Nat) (L : Array Bool → Act → Prop) : Nat → Array Bool → Act → Prop
  | 0, listed, a => L listed a
  | f + 1, listed, a => Region.ready md ops listed ≠ [] ∧ ∀ i ∈ Region.ready md ops listed, i < n ∧ qOp P ops C i (anyHead P md ops C n L f (listed.setIfInBounds i true)) a

theorem any_of_head {n g : Nat} {L : Array Bool → Act → Prop} {Q' : Exit → Act → World → Prop} (hL : ∀ listed a w, C w → L listed a → wpAny P md ops Q' g listed a w) :
    ∀ (f : Nat) (listed : Array Bool) (a : Act) (w : World), C w → anyHead P md ops C n L f listed a → wpAny P md ops Q' (f + g) listed a w
  | 0, listed, a, w, hw, h => by rw [Nat.zero_add]; exact hL _ _ _ hw h
  | f + 1, listed, a, w, hw, h => by
    rw [show f + 1 + g = (f + g) + 1 by omega]
    exact ⟨fun h0 => absurd h0 h.1, fun i hi => wpOp_of_qOp hw (fun a' w' hw' h' => any_of_head hL f _ a' w' hw' h') (h.2 i hi).2⟩

theorem head_first {n i : Nat} {oi : Oper} {v : Value} {L : Array Bool → Act → Prop} (hi : ops[i]? = some oi) (hsel : ∀ (j : Nat) (o : Oper) cs b, ops[j]? = some o → o.op ≠ .select cs b)
    (hs : Region.sinkB md ops n = true) (hc : Region.chainB md ops n = true) (hn : n < ops.size) (hin : i < n) (hdone : ∀ listed a, L listed a → ∀ j ∈ Region.ready md ops listed, n ≤ j) :
    ∀ (f : Nat) (listed : Array Bool) (a : Act), HeadInv md ops n listed →
      (∀ j oj, ops[j]? = some oj → j ≠ i → listed.getD j true = false → (∀ e ∈ oj.after, Region.binds md e = true → e.on ≠ i) → oi.apart ops oj = true) →
      i ∈ Region.ready md ops listed → YieldsIn P ops C oi v a → anyHead P md ops C n L f (listed.setIfInBounds i true) (a.put oi.dst v) → anyHead P md ops C n L (f + 1) listed a := by
  intro f
  induction f with
  | zero =>
    intro listed a inv _ hr hy H
    have hun := (mem_ready.1 hr).1
    refine ⟨fun h => (by rw [h] at hr; cases hr), fun j hj => ?_⟩
    have hjn : j < n := Decidable.byContradiction fun h => tail_waits hs hc hn inv _ i rfl hin hun j (Nat.le_of_not_lt h) hj
    refine ⟨hjn, ?_⟩
    by_cases hji : j = i
    · subst hji; exact hy.qOp hi H
    · exact absurd (hdone _ _ H j (ready_mono hj hji)) (by omega)
  | succ f ih =>
    intro listed a inv hfree hr hy H
    have hun := (mem_ready.1 hr).1
    refine ⟨fun h => (by rw [h] at hr; cases hr), fun j hj => ?_⟩
    have hjn : j < n := Decidable.byContradiction fun h => tail_waits hs hc hn inv _ i rfl hin hun j (Nat.le_of_not_lt h) hj
    refine ⟨hjn, ?_⟩
    by_cases hji : j = i
    · subst hji; exact hy.qOp hi H
    · obtain ⟨hjun, oj, hoj, hall⟩ := mem_ready.1 hj
      have hnot : ∀ e ∈ oj.after, Region.binds md e = true → e.on ≠ i := fun e he hb heq => by
        have h1 := hall e he hb
        rw [heq, getD_both hun] at h1
        cases h1
      have h2 := qOp_put hoj (hfree j oj hoj hji hjun hnot) (fun cs b => hsel i oi cs b hi) (fun cs b => hsel j oj cs b hoj) hy (H.2 j (ready_mono hj hji)).2
      refine qOp_mono (fun a' h3 => ih (listed.setIfInBounds j true) a' (inv.set hj hjn) (fun k ok hk hki hku hno => hfree k ok hk hki ?_ hno) (ready_mono hr (Ne.symm hji)) h3.1 ?_) h2
      · by_cases hjk : j = k
        · subst hjk; exact hjun
        · rw [getD_set_ne true hjk] at hku; exact hku
      · rw [Array.setIfInBounds_comm _ _ hji]
        exact h3.2

theorem head_lex {n g : Nat} {Lq : Act → Prop} (hsel : Region.noSelect ops = true) (hs : Region.sinkB md ops n = true) (hc : Region.chainB md ops n = true) (hn : n < ops.size) :
    ∀ (l : List Oper) (k : Nat) (listed : Array Bool) (a : Act), (∀ j, j < l.length → l[j]? = ops[k + j]?) → k + l.length = n → HeadInv md ops n listed →
    Region.lexHead md ops g l.length k listed = true → wpQuiet P ops C Lq l a → anyHead P md ops C n (fun listed' a' => Region.seqB md ops g n listed' = true ∧ Lq a') l.length listed a
  | [], k, listed, a, _, hk, _, hB, h => by
    have : k = n := by simpa using hk
    subst this
    exact ⟨by simpa [Region.lexHead] using hB, h⟩
  | o :: l, k, listed, a, hl, hk, inv, hB, h => by
    have h0 : ops[k]? = some o := by simpa using (hl 0 (by simp)).symm
    simp only [List.length_cons, Region.lexHead, Bool.and_eq_true] at hB
    obtain ⟨⟨hr, hf⟩, hB'⟩ := hB
    have hkn : k < n := by simp only [List.length_cons] at hk; omega
    have hr' : k ∈ Region.ready md ops listed := by simpa using hr
    have hst : qOp P ops C k (wpQuiet P ops C Lq l) a := by unfold qOp; simp only [h0]; exact h
    obtain ⟨v, hy, hK⟩ := yieldsIn_of_qOp h0 hst
    exact head_first h0 (Region.noSelect_spec hsel) hs hc hn hkn (fun listed' a' hL => seqB_ready hL.1) l.length listed a inv (Region.free_spec h0 hf) hr' hy
      (head_lex hsel hs hc hn l (k + 1) _ _ (fun j hj => by have := hl (j + 1) (by simp; omega); simpa [Nat.add_assoc, Nat.add_comm 1 j] using this) (by simp only [List.length_cons] at hk; omega) (inv.set hr' hkn) hB' hK)
end

theorem wp_region_grow_tail {P : Program} {id : Nat} {Q : Exit → Act → World → Prop} {a : Act} {w : World} {l : List Oper} (n : Nat) (hm : P.follows .mixedOrders = true) (hB : Region.lexTailB .any l.toArray n = true)
    (h : wpQuiet P l.toArray (fun w' => ∃ s : Grown w, w' = grown w s) (fun a' => ∀ w', (∃ s : Grown w, w' = grown w s) → wpList P l.toArray Q (l.drop n) a' w') (l.take n) a) : (Code.region id l.toArray true).wp P Q a w := by
  simp only [Region.lexTailB, Bool.and_eq_true, decide_eq_true_eq] at hB
  obtain ⟨⟨⟨⟨hsel, hn⟩, hs⟩, hc⟩, hlex⟩ := hB
  have hn' : n < l.length := by simpa using hn
  have htl : (l.take n).length = n := by simp; omega
  have hdl : (l.drop n).length = l.toArray.size - n := by simp
  have inv0 : HeadInv .any l.toArray n (Array.replicate l.toArray.size false) :=
    ⟨by simp, fun j oj _ hl => (by rw [getD_replicate_false] at hl; cases hl), fun t _ ht => getD_in (by simpa using ht) (getD_replicate_false _ _)⟩
  have H := head_lex (md := .any) (g := l.toArray.size - n) hsel hs hc hn (l.take n) 0 _ a (fun j hj => by
    have hj' : j < n := by rw [htl] at hj; exact hj
    simp [hj']) (by simpa using htl) inv0 (by rw [htl]; exact hlex) h
  refine wp_region_any hm ?_
  have := any_of_head (C := fun w' => ∃ s : Grown w, w' = grown w s) (Q' := Q) (g := l.toArray.size - n) (fun listed a' w' hw' hL => by
    have := wpAny_of_seq (md := .any) (Q' := Q) (l.drop n) n listed a' w' (fun j => by simp [List.getElem?_drop]) (by rw [hdl]; exact hL.1) (hL.2 w' hw')
    rwa [hdl] at this) _ _ _ { w with drawn := w.drawn + 1 } ⟨⟨w.drew, (Ext.refl w).drew⟩, rfl⟩ H
  rw [htl, show n + (l.toArray.size - n) = l.toArray.size by omega] at this
  exact this
end Go.Proofs.Ytnlmbmbalmkiiaa
