/- Walks: package key: both. -/
import Derived.RangeFuncBox
import Derived.RangeFuncNested
import Derived.RangeFuncBound
import Derived.RangeFuncCalls
import Derived.RangeFuncLeaves
import Derived.Shelf.Abstract
import Derived.Shelf.RegionOpen
import Derived.WalkKit
import Derived.OwnWalkIn
import Derived.TacticsInMore
import Derived.LoopNIn
import Derived.LoopIn
import Derived.Maps.OwnIn
import Derived.Deep.QuietTactic
import Derived.BigQuiet
import Derived.Test.YtknlojlcahgnoaaGreatCf7
import Derived.Test.YtknlojlcahgnoaaGreatCf10

namespace Go.Proofs.YtknlojlcahgnoaaGreat
open Go.RowKit
attribute [local go_sem] Oper.semAt_some
set_option linter.unusedVariables false
set_option linter.unusedSimpArgs false

theorem kext_from {w X Y : World} {row : Option Nat} (h : Ext w X) (hg : X.grownBy Y row) (hr : ∀ r, row = some r → w.heap.size ≤ r) : Ext w Y := Below.grown h hg (Ext.sz h) hr
theorem kblk_from {b : Nat} {C : Array Value} {ty : TypeId} {X Y : World} {row : Option Nat} (h : Blk X b C ty) (hg : X.grownBy Y row) (hr : ∀ r, row = some r → b < r) : Blk Y b C ty :=
  (hg.block b h.lt (fun e => by have := hr b e.symm; omega)).trans h
theorem kext_grown {x y : World} (h : Ext x y) : x.grownBy y none := ⟨Below.os h, Below.tape h, Below.output h, Ext.sz h, fun i hi _ => Below.block h i hi⟩

theorem kyield_bool {F : Fence} {m : Nat} {P : Program} {L : Nat} {args : Array Value} {W : World} {A B : World → Prop}
    (h : YieldAt F m P L args W fun e W' => (e = .returned (.bool true) ∧ A W') ∨ (e = .returned (.bool false) ∧ B W')) :
    YieldAt F m P L args W fun e W' => ∃ bo : Bool, e = .returned (.bool bo) ∧ Hid ((bo = true ∧ A W') ∨ (bo = false ∧ B W')) := by
  obtain ⟨fn, tmps, assign, body, hy, hR⟩ := h
  refine ⟨fn, tmps, assign, body, hy, hR.mono ?_⟩
  rintro e W' (⟨rfl, hA⟩ | ⟨rfl, hB⟩)
  · exact ⟨true, rfl, Lib.hid (Or.inl ⟨rfl, hA⟩)⟩
  · exact ⟨false, rfl, Lib.hid (Or.inr ⟨rfl, hB⟩)⟩

/-- bytes of two, place by place -/
def zipB (a b : ByteArray) : List (UInt8 × UInt8) := a.data.toList.zip b.data.toList
def encB (x : UInt8 × UInt8) : Array Value := #[.int .u8 (x.1.toNat : Int), .int .u8 (x.2.toNat : Int)]
theorem zipB_len (a b : ByteArray) : (zipB a b).length = min a.size b.size := by
  unfold zipB
  rw [List.length_zip, data_len, data_len]
theorem zipB_get (a b : ByteArray) (k : Nat) (h1 : k < a.size) (h2 : k < b.size) : (zipB a b)[k]? = some (a[k], b[k]) := by
  unfold zipB
  rw [List.getElem?_zip_eq_some]
  exact ⟨by rw [List.getElem?_eq_getElem (by rw [data_len]; exact h1), data_get a k h1], by rw [List.getElem?_eq_getElem (by rw [data_len]; exact h2), data_get b k h2]⟩
theorem zipB_take (a b : ByteArray) (k : Nat) (h1 : k < a.size) (h2 : k < b.size) : (zipB a b).take (k + 1) = (zipB a b).take k ++ [(a[k], b[k])] := by
  rw [List.take_add_one, zipB_get a b k h1 h2]
  rfl

set_option maxHeartbeats 1000000 in
set_option maxRecDepth 100000 in
theorem both_1 (n L b1 b2 n₀ : Nat) (a b : ByteArray) (ha : a.size ≤ maxLen) (hb : b.size ≤ maxLen) (J Jx : List (UInt8 × UInt8) → World → Prop)
    (hY : ∀ pre x W, J pre W → pre.length < (zipB a b).length → YieldAt Fence.wide (n - 1) Tryz.prog L (encB x) W fun e W' =>
      (e = .returned (.bool true) ∧ J (pre ++ [x]) W' ∧ Below n₀ W W') ∨ (e = .returned (.bool false) ∧ Jx (pre ++ [x]) W'))
    (W : World) (hJ : AbidesFrom W.heap.size J) (hc1 : W.cell? ⟨b1, 0, none⟩ = some (.string a)) (hc2 : W.cell? ⟨b2, 0, none⟩ = some (.string b))
    (l1 : b1 < n₀) (l2 : b2 < n₀) (l4 : n₀ ≤ W.heap.size) (h0 : J [] W) :
    CallsIn Fence.wide n Tryz.prog 212 #[.func (.yield L) #[] #[], .pointer (some ⟨b1, 0, none⟩), .pointer (some ⟨b2, 0, none⟩)] W fun e W' => (∃ v, e = .returned v) ∧
      (J (zipB a b) W' ∨ (∃ pre : List (UInt8 × UInt8), (∃ rest, pre ++ rest = zipB a b) ∧ Jx pre W')) := by
  unfold maxLen at ha hb
  have hzl := zipB_len a b
  refine callsIn_of_wp Tryz.func212 rfl trivial ?_ rfl
  simp only [Tryz.ntmps212, List.size_toArray, List.length_cons, List.length_nil, Nat.reduceAdd, Nat.reduceSub, Array.replicate_succ, Array.replicate_zero, List.push_toArray, List.append_toArray, List.nil_append, List.cons_append]
  gi_wp2
  all_goals
    gi_loopw [10] (fun i wr => ∃ k : Nat, k ≤ (zipB a b).length ∧ i = .int .i64 k ∧ J ((zipB a b).take k) wr ∧ Below n₀ W wr) (fun i _ => (zipB a b).length - (intOf i).toNat)
    case atStart => exact ⟨0, by omega, rfl, h0, Below.refl _ _⟩
    case round =>
      obtain ⟨k, hk, rfl, hJk, hbel⟩ := hrel
      have HJ := Lib.hid hJk
      have HB := Lib.hid hbel
      by_cases hlt : k < a.size ∧ k < b.size
      · obtain ⟨hl1, hl2⟩ := hlt
        have c1 : wr.cell? ⟨b1, 0, none⟩ = some (.string a) := (hbel.cell (p := ⟨b1, 0, none⟩) l1).trans hc1
        have c2 : wr.cell? ⟨b2, 0, none⟩ = some (.string b) := (hbel.cell (p := ⟨b2, 0, none⟩) l2).trans hc2
        have HT := Lib.hid (zipB_take a b k hl1 hl2)
        have hkz : k < (zipB a b).length := by omega
        have HY := Lib.hid (fun (w3 : World) (hx : Ext wr w3) => kyield_bool (hY ((zipB a b).take k) (a[k], b[k]) w3 (hJ _ wr w3 none hJk (kext_grown hx) (fun r e => by cases e)) (by rw [List.length_take]; omega)))
        obtain ⟨fn, tmps, assign, body, hy, hR⟩ := HY.out (wr.drew) ((Ext.refl _).drew)
        simp only [encB] at hy
        gi_wp2_with fail
        gi_region_with (first
          | (refine ⟨fun h => absurd h (by decide), ?_⟩; refine hR.mono ?_; rintro x w4 ⟨bo, rfl, hbo⟩))
        all_goals
          rcases hbo.out with ⟨rfl, hJ4, hk4⟩ | ⟨rfl, hJx4⟩
          · have hbel4 : Below n₀ W w4 := HB.out.drew.trans hk4
            rw [← HT.out] at hJ4
            gi_wp2
            go_roundw
            case rel => exact ⟨k + 1, by omega, by go_num, hJ4, hbel4⟩
            case measure => simp [intOf]; omega
          · gi_wp2
            refine bodyPost_ret (results_none rfl _ _ _) rfl ?_
            exact ⟨⟨_, rfl⟩, .inr ⟨_, ⟨(zipB a b).drop (k + 1), by rw [← HT.out, List.take_append_drop]⟩, hJx4⟩⟩
      · have hkk : k = (zipB a b).length := by omega
        gi_wp2
        go_end0
        exact ⟨⟨_, rfl⟩, .inl (by have := HJ.out; rw [hkk, List.take_length] at this; exact this)⟩
end Go.Proofs.YtknlojlcahgnoaaGreat
