/- Walks: tollerlaw14.Rule. -/
import Derived.Test.YtknlojlcahgnoaaGreatG26

/- Walks: tollerlaw14.Rule. -/
namespace Go.Proofs.YtknlojlcahgnoaaGreat
open Go.RowKit
set_option linter.unusedVariables false
set_option linter.unusedSimpArgs false

def rP (k : Int) : ByteArray := if k % 6 = 2 then ⟨#[97]⟩ else ⟨#[]⟩
def rE (k : Int) : Int := if k % 6 = 0 then 10 else if k % 6 = 1 then 1000 else if k % 6 = 2 then 10 else if k % 6 = 3 then 3000000000 else if k % 6 = 4 then 2147483648 else 1
def rB (k : Int) : Int := if 250 ≤ k then 0 else if k % 6 = 0 then 3 else if k % 6 = 1 then 2 else if k % 6 = 2 then 3 else if k % 6 = 3 then 4 else if k % 6 = 4 then 2147483648 else 1
def rK (k : Int) : Int := 1 + k / 6 % 3
def ruleV (k : Int) : Value := .agg #[.string (rP k), .int .u64 (rE k), .int .u64 (rB k), .int .u8 (rK k)]

set_option maxHeartbeats 1000000 in
set_option maxRecDepth 100000 in
theorem law14_Rule0 (k : Int) (w : World) (hk0 : 0 ≤ k) (hk1 : k < 256) (hi : k % 6 = 0) (b : Int) (hb : (250 ≤ k ∧ b = 0) ∨ (k < 250 ∧ b = 3)) :
    Calls Tryz.prog 56 #[.int .u8 k] w fun x w' => x = .returned (.agg #[.string ⟨#[]⟩, .int .u64 10, .int .u64 b, .int .u8 (1 + k / 6 % 3)]) ∧ Ext w w' := by
  rcases hb with ⟨hb, rfl⟩ | ⟨hb, rfl⟩
  all_goals
    go_enter Tryz.func56, Tryz.ntmps56
    go_wp2
    refine ret_cell Tryz.results56 rfl (((Blk.new w _ 37).alloc _).alloc _) Tryz.underlying37 rfl (by kernel_rfl) ⟨rfl, ?_⟩
    exact (((Ext.refl w).alloc _).alloc _).alloc _

set_option maxHeartbeats 1000000 in
set_option maxRecDepth 100000 in
theorem law14_Rule1 (k : Int) (w : World) (hk0 : 0 ≤ k) (hk1 : k < 256) (hi : k % 6 = 1) (b : Int) (hb : (250 ≤ k ∧ b = 0) ∨ (k < 250 ∧ b = 2)) :
    Calls Tryz.prog 56 #[.int .u8 k] w fun x w' => x = .returned (.agg #[.string ⟨#[]⟩, .int .u64 1000, .int .u64 b, .int .u8 (1 + k / 6 % 3)]) ∧ Ext w w' := by
  rcases hb with ⟨hb, rfl⟩ | ⟨hb, rfl⟩
  all_goals
    go_enter Tryz.func56, Tryz.ntmps56
    go_wp2
    refine ret_cell Tryz.results56 rfl (((Blk.new w _ 37).alloc _).alloc _) Tryz.underlying37 rfl (by kernel_rfl) ⟨rfl, ?_⟩
    exact (((Ext.refl w).alloc _).alloc _).alloc _

set_option maxHeartbeats 1000000 in
set_option maxRecDepth 100000 in
theorem law14_Rule2 (k : Int) (w : World) (hk0 : 0 ≤ k) (hk1 : k < 256) (hi : k % 6 = 2) (b : Int) (hb : (250 ≤ k ∧ b = 0) ∨ (k < 250 ∧ b = 3)) :
    Calls Tryz.prog 56 #[.int .u8 k] w fun x w' => x = .returned (.agg #[.string ⟨#[97]⟩, .int .u64 10, .int .u64 b, .int .u8 (1 + k / 6 % 3)]) ∧ Ext w w' := by
  rcases hb with ⟨hb, rfl⟩ | ⟨hb, rfl⟩
  all_goals
    go_enter Tryz.func56, Tryz.ntmps56
    go_wp2
    refine ret_cell Tryz.results56 rfl (((Blk.new w _ 37).alloc _).alloc _) Tryz.underlying37 rfl (by kernel_rfl) ⟨rfl, ?_⟩
    exact (((Ext.refl w).alloc _).alloc _).alloc _

set_option maxHeartbeats 1000000 in
set_option maxRecDepth 100000 in
theorem law14_Rule3 (k : Int) (w : World) (hk0 : 0 ≤ k) (hk1 : k < 256) (hi : k % 6 = 3) (b : Int) (hb : (250 ≤ k ∧ b = 0) ∨ (k < 250 ∧ b = 4)) :
    Calls Tryz.prog 56 #[.int .u8 k] w fun x w' => x = .returned (.agg #[.string ⟨#[]⟩, .int .u64 3000000000, .int .u64 b, .int .u8 (1 + k / 6 % 3)]) ∧ Ext w w' := by
  rcases hb with ⟨hb, rfl⟩ | ⟨hb, rfl⟩
  all_goals
    go_enter Tryz.func56, Tryz.ntmps56
    go_wp2
    refine ret_cell Tryz.results56 rfl (((Blk.new w _ 37).alloc _).alloc _) Tryz.underlying37 rfl (by kernel_rfl) ⟨rfl, ?_⟩
    exact (((Ext.refl w).alloc _).alloc _).alloc _

set_option maxHeartbeats 1000000 in
set_option maxRecDepth 100000 in
theorem law14_Rule4 (k : Int) (w : World) (hk0 : 0 ≤ k) (hk1 : k < 256) (hi : k % 6 = 4) (b : Int) (hb : (250 ≤ k ∧ b = 0) ∨ (k < 250 ∧ b = 2147483648)) :
    Calls Tryz.prog 56 #[.int .u8 k] w fun x w' => x = .returned (.agg #[.string ⟨#[]⟩, .int .u64 2147483648, .int .u64 b, .int .u8 (1 + k / 6 % 3)]) ∧ Ext w w' := by
  rcases hb with ⟨hb, rfl⟩ | ⟨hb, rfl⟩
  all_goals
    go_enter Tryz.func56, Tryz.ntmps56
    go_wp2
    refine ret_cell Tryz.results56 rfl (((Blk.new w _ 37).alloc _).alloc _) Tryz.underlying37 rfl (by kernel_rfl) ⟨rfl, ?_⟩
    exact (((Ext.refl w).alloc _).alloc _).alloc _

set_option maxHeartbeats 1000000 in
set_option maxRecDepth 100000 in
theorem law14_Rule5 (k : Int) (w : World) (hk0 : 0 ≤ k) (hk1 : k < 256) (hi : k % 6 = 5) (b : Int) (hb : (250 ≤ k ∧ b = 0) ∨ (k < 250 ∧ b = 1)) :
    Calls Tryz.prog 56 #[.int .u8 k] w fun x w' => x = .returned (.agg #[.string ⟨#[]⟩, .int .u64 1, .int .u64 b, .int .u8 (1 + k / 6 % 3)]) ∧ Ext w w' := by
  rcases hb with ⟨hb, rfl⟩ | ⟨hb, rfl⟩
  all_goals
    go_enter Tryz.func56, Tryz.ntmps56
    go_wp2
    refine ret_cell Tryz.results56 rfl (((Blk.new w _ 37).alloc _).alloc _) Tryz.underlying37 rfl (by kernel_rfl) ⟨rfl, ?_⟩
    exact (((Ext.refl w).alloc _).alloc _).alloc _

theorem law14_Rule (k : Int) (w : World) (hk0 : 0 ≤ k) (hk1 : k < 256) :
    Calls Tryz.prog 56 #[.int .u8 k] w fun x w' => x = .returned (ruleV k) ∧ Ext w w' := by
  rcases (by omega : k % 6 = 0 ∨ k % 6 = 1 ∨ k % 6 = 2 ∨ k % 6 = 3 ∨ k % 6 = 4 ∨ k % 6 = 5) with h | h | h | h | h | h
  · have hv : ruleV k = .agg #[.string ⟨#[]⟩, .int .u64 10, .int .u64 (rB k), .int .u8 (1 + k / 6 % 3)] := by unfold ruleV rP rE rK; rw [h]; rfl
    rw [hv]
    refine law14_Rule0 k w hk0 hk1 h _ ?_
    unfold rB
    by_cases q : 250 ≤ k
    · exact Or.inl ⟨q, if_pos q⟩
    · refine Or.inr ⟨by omega, ?_⟩; rw [if_neg q, h]; rfl
  · have hv : ruleV k = .agg #[.string ⟨#[]⟩, .int .u64 1000, .int .u64 (rB k), .int .u8 (1 + k / 6 % 3)] := by unfold ruleV rP rE rK; rw [h]; rfl
    rw [hv]
    refine law14_Rule1 k w hk0 hk1 h _ ?_
    unfold rB
    by_cases q : 250 ≤ k
    · exact Or.inl ⟨q, if_pos q⟩
    · refine Or.inr ⟨by omega, ?_⟩; rw [if_neg q, h]; rfl
  · have hv : ruleV k = .agg #[.string ⟨#[97]⟩, .int .u64 10, .int .u64 (rB k), .int .u8 (1 + k / 6 % 3)] := by unfold ruleV rP rE rK; rw [h]; rfl
    rw [hv]
    refine law14_Rule2 k w hk0 hk1 h _ ?_
    unfold rB
    by_cases q : 250 ≤ k
    · exact Or.inl ⟨q, if_pos q⟩
    · refine Or.inr ⟨by omega, ?_⟩; rw [if_neg q, h]; rfl
  · have hv : ruleV k = .agg #[.string ⟨#[]⟩, .int .u64 3000000000, .int .u64 (rB k), .int .u8 (1 + k / 6 % 3)] := by unfold ruleV rP rE rK; rw [h]; rfl
    rw [hv]
    refine law14_Rule3 k w hk0 hk1 h _ ?_
    unfold rB
    by_cases q : 250 ≤ k
    · exact Or.inl ⟨q, if_pos q⟩
    · refine Or.inr ⟨by omega, ?_⟩; rw [if_neg q, h]; rfl
  · have hv : ruleV k = .agg #[.string ⟨#[]⟩, .int .u64 2147483648, .int .u64 (rB k), .int .u8 (1 + k / 6 % 3)] := by unfold ruleV rP rE rK; rw [h]; rfl
    rw [hv]
    refine law14_Rule4 k w hk0 hk1 h _ ?_
    unfold rB
    by_cases q : 250 ≤ k
    · exact Or.inl ⟨q, if_pos q⟩
    · refine Or.inr ⟨by omega, ?_⟩; rw [if_neg q, h]; rfl
  · have hv : ruleV k = .agg #[.string ⟨#[]⟩, .int .u64 1, .int .u64 (rB k), .int .u8 (1 + k / 6 % 3)] := by unfold ruleV rP rE rK; rw [h]; rfl
    rw [hv]
    refine law14_Rule5 k w hk0 hk1 h _ ?_
    unfold rB
    by_cases q : 250 ≤ k
    · exact Or.inl ⟨q, if_pos q⟩
    · refine Or.inr ⟨by omega, ?_⟩; rw [if_neg q, h]; rfl
end Go.Proofs.YtknlojlcahgnoaaGreat
