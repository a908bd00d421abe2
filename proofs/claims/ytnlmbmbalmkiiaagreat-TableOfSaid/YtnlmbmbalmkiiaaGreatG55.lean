/- Walks: package key: both. Walks: package key: Less, Sorted. A table of some slots, plainly. Walks: table.wrong. Walks: table.Of. Walks: tollerref14.Of. Walks: tollerlaw14.Slots. -/
import Derived.RangeFuncBox
import Derived.RangeFuncNested
import Derived.RangeFuncBound
import Derived.RangeFuncCalls
import Derived.RangeFuncLeaves
import Derived.Shelf.Abstract
import Derived.Shelf.RegionOpen
import Derived.WalkKit
import Derived.OwnWalkIn
import Derived.TacticsInMore
import Derived.LoopNIn
import Derived.LoopIn
import Derived.Maps.OwnIn
import Derived.Deep.QuietTactic
import Derived.BigQuiet
import Derived.Deep.RegionHeld3
import Derived.Deep.DrawnRows
import Derived.Laws.AppendOwnNone
import Derived.Test.YtnlmbmbalmkiiaaGreatRef9
import Derived.Test.YtnlmbmbalmkiiaaGreatSlices
import Derived.Test.YtnlmbmbalmkiiaaGreatGrow
import Derived.Test.YtnlmbmbalmkiiaaGreatG48
import Derived.Test.YtnlmbmbalmkiiaaGreatTabN
import Derived.Test.YtnlmbmbalmkiiaaGreatKernE
import Derived.Test.YtnlmbmbalmkiiaaGreatRule3
import Derived.Test.YtnlmbmbalmkiiaaGreatG46
import Derived.Test.YtnlmbmbalmkiiaaGreatG50
import Derived.Test.YtnlmbmbalmkiiaaGreatRule14
import Derived.Test.YtnlmbmbalmkiiaaGreatDeeds
import Derived.Test.YtnlmbmbalmkiiaaGreatRefL

/- Walks: package key: both. -/
namespace Go.Proofs.YtnlmbmbalmkiiaaGreat
open Go.RowKit
attribute [local go_sem] Oper.semAt_some
set_option linter.unusedVariables false
set_option linter.unusedSimpArgs false

theorem kext_from {w X Y : World} {row : Option Nat} (h : Ext w X) (hg : X.grownBy Y row) (hr : ∀ r, row = some r → w.heap.size ≤ r) : Ext w Y := Below.grown h hg (Ext.sz h) hr
theorem kblk_from {b : Nat} {C : Array Value} {ty : TypeId} {X Y : World} {row : Option Nat} (h : Blk X b C ty) (hg : X.grownBy Y row) (hr : ∀ r, row = some r → b < r) : Blk Y b C ty :=
  (hg.block b h.lt (fun e => by have := hr b e.symm; omega)).trans h
theorem kext_grown {x y : World} (h : Ext x y) : x.grownBy y none := ⟨Below.os h, Below.tape h, Below.output h, Ext.sz h, fun i hi _ => Below.block h i hi⟩

theorem kyield_bool {F : Fence} {m : Nat} {P : Program} {L : Nat} {args : Array Value} {W : World} {A B : World → Prop}
    (h : YieldAt F m P L args W fun e W' => (e = .returned (.bool true) ∧ A W') ∨ (e = .returned (.bool false) ∧ B W')) :
    YieldAt F m P L args W fun e W' => ∃ bo : Bool, e = .returned (.bool bo) ∧ Hid ((bo = true ∧ A W') ∨ (bo = false ∧ B W')) := by
  obtain ⟨fn, tmps, assign, body, hy, hR⟩ := h
  refine ⟨fn, tmps, assign, body, hy, hR.mono ?_⟩
  rintro e W' (⟨rfl, hA⟩ | ⟨rfl, hB⟩)
  · exact ⟨true, rfl, Lib.hid (Or.inl ⟨rfl, hA⟩)⟩
  · exact ⟨false, rfl, Lib.hid (Or.inr ⟨rfl, hB⟩)⟩

/-- bytes of two, place by place -/
def zipB (a b : ByteArray) : List (UInt8 × UInt8) := a.data.toList.zip b.data.toList
def encB (x : UInt8 × UInt8) : Array Value := #[.int .u8 (x.1.toNat : Int), .int .u8 (x.2.toNat : Int)]
theorem zipB_len (a b : ByteArray) : (zipB a b).length = min a.size b.size := by
  unfold zipB
  rw [List.length_zip, data_len, data_len]
theorem zipB_get (a b : ByteArray) (k : Nat) (h1 : k < a.size) (h2 : k < b.size) : (zipB a b)[k]? = some (a[k], b[k]) := by
  unfold zipB
  rw [List.getElem?_zip_eq_some]
  exact ⟨by rw [List.getElem?_eq_getElem (by rw [data_len]; exact h1), data_get a k h1], by rw [List.getElem?_eq_getElem (by rw [data_len]; exact h2), data_get b k h2]⟩
theorem zipB_take (a b : ByteArray) (k : Nat) (h1 : k < a.size) (h2 : k < b.size) : (zipB a b).take (k + 1) = (zipB a b).take k ++ [(a[k], b[k])] := by
  rw [List.take_add_one, zipB_get a b k h1 h2]
  rfl

set_option maxHeartbeats 1000000 in
set_option maxRecDepth 100000 in
theorem both_1 (n L b1 b2 n₀ : Nat) (a b : ByteArray) (ha : a.size ≤ maxLen) (hb : b.size ≤ maxLen) (J Jx : List (UInt8 × UInt8) → World → Prop)
    (hY : ∀ pre x W, J pre W → pre.length < (zipB a b).length → YieldAt Fence.wide (n - 1) Tryz.prog L (encB x) W fun e W' =>
      (e = .returned (.bool true) ∧ J (pre ++ [x]) W' ∧ Below n₀ W W') ∨ (e = .returned (.bool false) ∧ Jx (pre ++ [x]) W'))
    (W : World) (hJ : AbidesFrom W.heap.size J) (hc1 : W.cell? ⟨b1, 0, none⟩ = some (.string a)) (hc2 : W.cell? ⟨b2, 0, none⟩ = some (.string b))
    (l1 : b1 < n₀) (l2 : b2 < n₀) (l4 : n₀ ≤ W.heap.size) (h0 : J [] W) :
    CallsIn Fence.wide n Tryz.prog 150 #[.func (.yield L) #[] #[], .pointer (some ⟨b1, 0, none⟩), .pointer (some ⟨b2, 0, none⟩)] W fun e W' => (∃ v, e = .returned v) ∧
      (J (zipB a b) W' ∨ (∃ pre : List (UInt8 × UInt8), (∃ rest, pre ++ rest = zipB a b) ∧ Jx pre W')) := by
  unfold maxLen at ha hb
  have hzl := zipB_len a b
  refine callsIn_of_wp Tryz.func150 rfl trivial ?_ rfl
  simp only [Tryz.ntmps150, List.size_toArray, List.length_cons, List.length_nil, Nat.reduceAdd, Nat.reduceSub, Array.replicate_succ, Array.replicate_zero, List.push_toArray, List.append_toArray, List.nil_append, List.cons_append]
  gi_wp2
  all_goals
    gi_loopw [10] (fun i wr => ∃ k : Nat, k ≤ (zipB a b).length ∧ i = .int .i64 k ∧ J ((zipB a b).take k) wr ∧ Below n₀ W wr) (fun i _ => (zipB a b).length - (intOf i).toNat)
    case atStart => exact ⟨0, by omega, rfl, h0, Below.refl _ _⟩
    case round =>
      obtain ⟨k, hk, rfl, hJk, hbel⟩ := hrel
      have HJ := Lib.hid hJk
      have HB := Lib.hid hbel
      by_cases hlt : k < a.size ∧ k < b.size
      · obtain ⟨hl1, hl2⟩ := hlt
        have c1 : wr.cell? ⟨b1, 0, none⟩ = some (.string a) := (hbel.cell (p := ⟨b1, 0, none⟩) l1).trans hc1
        have c2 : wr.cell? ⟨b2, 0, none⟩ = some (.string b) := (hbel.cell (p := ⟨b2, 0, none⟩) l2).trans hc2
        have HT := Lib.hid (zipB_take a b k hl1 hl2)
        have hkz : k < (zipB a b).length := by omega
        have HY := Lib.hid (fun (w3 : World) (hx : Ext wr w3) => kyield_bool (hY ((zipB a b).take k) (a[k], b[k]) w3 (hJ _ wr w3 none hJk (kext_grown hx) (fun r e => by cases e)) (by rw [List.length_take]; omega)))
        obtain ⟨fn, tmps, assign, body, hy, hR⟩ := HY.out (wr.drew) ((Ext.refl _).drew)
        simp only [encB] at hy
        gi_wp2_with fail
        gi_region_with (first
          | (refine ⟨fun h => absurd h (by decide), ?_⟩; refine hR.mono ?_; rintro x w4 ⟨bo, rfl, hbo⟩))
        all_goals
          rcases hbo.out with ⟨rfl, hJ4, hk4⟩ | ⟨rfl, hJx4⟩
          · have hbel4 : Below n₀ W w4 := HB.out.drew.trans hk4
            rw [← HT.out] at hJ4
            gi_wp2
            go_roundw
            case rel => exact ⟨k + 1, by omega, by go_num, hJ4, hbel4⟩
            case measure => simp [intOf]; omega
          · gi_wp2
            refine bodyPost_ret (results_none rfl _ _ _) rfl ?_
            exact ⟨⟨_, rfl⟩, .inr ⟨_, ⟨(zipB a b).drop (k + 1), by rw [← HT.out, List.take_append_drop]⟩, hJx4⟩⟩
      · have hkk : k = (zipB a b).length := by omega
        gi_wp2
        go_end0
        exact ⟨⟨_, rfl⟩, .inl (by have := HJ.out; rw [hkk, List.take_length] at this; exact this)⟩
end Go.Proofs.YtnlmbmbalmkiiaaGreat

/- Walks: package key: Less, Sorted. -/
namespace Go.Proofs.YtnlmbmbalmkiiaaGreat
open Go.RowKit
attribute [local go_sem] Oper.semAt_some
set_option linter.unusedVariables false
set_option linter.unusedSimpArgs false

theorem both_stops (b1 b2 n₀ n : Nat) (a b : ByteArray) (ha : a.size ≤ maxLen) (hb : b.size ≤ maxLen) (w : World) (hc1 : w.cell? ⟨b1, 0, none⟩ = some (.string a)) (hc2 : w.cell? ⟨b2, 0, none⟩ = some (.string b)) (l1 : b1 < n₀) (l2 : b2 < n₀) (l4 : n₀ ≤ w.heap.size) :
    SeqStopsK Fence.wide n Tryz.prog 150 #[.pointer (some ⟨b1, 0, none⟩), .pointer (some ⟨b2, 0, none⟩)] encB (Below n₀) (fun xs => xs = zipB a b) (fun pre => ∃ rest, pre ++ rest = zipB a b) (zipB a b).length w :=
  fun L J Jx W hW hJ hJx hY h0 => by
    refine (both_1 n L b1 b2 n₀ a b ha hb J Jx hY W hJ (Ext.keep hW hc1) (Ext.keep hW hc2) l1 l2 (Nat.le_trans l4 (Ext.sz hW)) h0).mono ?_
    rintro e W' ⟨hv, h | ⟨pre, hp, h⟩⟩
    · exact ⟨hv, .inl ⟨_, rfl, h⟩⟩
    · exact ⟨hv, .inr ⟨pre, hp, h⟩⟩

set_option maxHeartbeats 400000 in
set_option maxRecDepth 100000 in
theorem key_both (a b : ByteArray) (w : World) : Calls Tryz.prog 135 #[.string a, .string b] w fun x w' =>
    x = .returned (.func (.func 150) #[] #[.pointer (some ⟨w.heap.size, 0, none⟩), .pointer (some ⟨w.heap.size + 1, 0, none⟩)]) ∧ w' = (w.alloc (.cells #[.string a] 9)).alloc (.cells #[.string b] 9) := by
  go_enter Tryz.func135, Tryz.ntmps135
  go_wp2
  go_ret
  exact ⟨rfl, rfl⟩

theorem comm_of_split : ∀ (pre : List (UInt8 × UInt8)) (a b : List UInt8) (x : UInt8 × UInt8) (rest : List (UInt8 × UInt8)), a.zip b = pre ++ x :: rest → (∀ p ∈ pre, p.1 = p.2) → x.1 ≠ x.2 →
    comm a b = pre.length ∧ (a < b ↔ x.1.toNat < x.2.toNat)
  | [], a, b, x, rest, h, _, hx => by
    cases a with
    | nil => simp at h
    | cons u us =>
      cases b with
      | nil => simp at h
      | cons v vs =>
        simp at h
        obtain ⟨h1, -⟩ := h
        subst h1
        simp only at hx
        rw [List.cons_lt_cons_iff]
        refine ⟨by simp [comm, hx], ?_⟩
        simp only [hx, false_and, or_false]
        exact UInt8.lt_iff_toNat_lt
  | p :: pre, a, b, x, rest, h, hp, hx => by
    cases a with
    | nil => simp at h
    | cons u us =>
      cases b with
      | nil => simp at h
      | cons v vs =>
        simp at h
        obtain ⟨h1, h2⟩ := h
        have he := hp p List.mem_cons_self
        subst h1
        simp only at he
        subst he
        have ih := comm_of_split pre us vs x rest h2 (fun q hq => hp q (List.mem_cons_of_mem _ hq)) hx
        rw [List.cons_lt_cons_iff]
        refine ⟨by simp [comm, ih.1], ?_⟩
        simp only [UInt8.lt_irrefl, false_or, true_and]
        exact ih.2
theorem comm_of_same : ∀ (a b : List UInt8), (∀ p ∈ a.zip b, p.1 = p.2) → comm a b = min a.length b.length
  | [], b, _ => by simp [comm]
  | _ :: _, [], _ => by simp [comm]
  | u :: us, v :: vs, h => by
    have he : u = v := h (u, v) (by simp)
    have ih := comm_of_same us vs (fun p hp => h p (by simp [hp]))
    simp [comm, he, ih]

theorem keyLt_iff (a b : ByteArray) : (a.toList < b.toList) ↔ (a.data.toList < b.data.toList) := by rw [ByteArray.toList_eq, ByteArray.toList_eq]
/-- no place has come where they differ -/
def LessI (w : World) (g : Nat) (pre : List (UInt8 × UInt8)) (W : World) : Prop := (∀ p ∈ pre, p.1 = p.2) ∧ Blk W g #[.bool false] 4 ∧ Ext w W
def LessX (w : World) (g : Nat) (cd : Code) (pre : List (UInt8 × UInt8)) (W : World) : Prop :=
  cd = .ret ∧ ∃ pre0 x, pre = pre0 ++ [x] ∧ (∀ p ∈ pre0, p.1 = p.2) ∧ x.1 ≠ x.2 ∧ Blk W g #[.bool (decide (x.1.toNat < x.2.toNat))] 4 ∧ Ext w W

set_option maxHeartbeats 1000000 in
set_option maxRecDepth 100000 in
theorem key_Less (a b : ByteArray) (w : World) (ha : a.size ≤ maxLen) (hb : b.size ≤ maxLen) :
    Calls Tryz.prog 99 #[.string a, .string b] w fun x w' => x = .returned (.bool (keyLt a b)) ∧ Ext w w' := by
  refine (callsIn_wide (n := 9)).1 ?_
  have HA := Lib.hid ha
  have HB := Lib.hid hb
  refine callsIn_of_wp_marks Tryz.func99 rfl trivial ?_ rfl
  simp only [Tryz.ntmps99, List.size_toArray, List.length_cons, List.length_nil, Nat.reduceAdd, Nat.reduceSub, Array.replicate_succ, Array.replicate_zero, List.push_toArray, List.append_toArray, List.nil_append, List.cons_append]
  gi_wp2_with fail
  refine ⟨trivial, (callsIn_wide.2 (key_both a b _)).mono ?_⟩
  rintro x w1 ⟨rfl, rfl⟩
  have bR : Blk (((w.alloc (.cells #[.bool false] 4)).alloc (.cells #[.string a] 9)).alloc (.cells #[.string b] 9)) w.heap.size #[.bool false] 4 := ((Blk.new w _ _).alloc _).alloc _
  have bA : Blk (((w.alloc (.cells #[.bool false] 4)).alloc (.cells #[.string a] 9)).alloc (.cells #[.string b] 9)) (w.heap.size + 1) #[.string a] 9 := (Blk.new' _ _ _ (by simp)).alloc _
  have bB : Blk (((w.alloc (.cells #[.bool false] 4)).alloc (.cells #[.string a] 9)).alloc (.cells #[.string b] 9)) (w.heap.size + 1 + 1) #[.string b] 9 := Blk.new' _ _ _ (by simp)
  have hx1 : Ext w (((w.alloc (.cells #[.bool false] 4)).alloc (.cells #[.string a] 9)).alloc (.cells #[.string b] 9)) := (((Ext.refl w).alloc _).alloc _).alloc _
  have hl := bB.lt
  gi_wp2_with fail
  generalize ((w.alloc (.cells #[.bool false] 4)).alloc (.cells #[.string a] 9)).alloc (.cells #[.string b] 9) = w1 at *
  refine wpIn_rangeFunc_ownF rfl (by omega) (gf := 150) (lb := #[.pointer (some ⟨w.heap.size + 1, 0, none⟩), .pointer (some ⟨w.heap.size + 1 + 1, 0, none⟩)]) rfl trivial (enters_of Tryz.func150 (by kernel_rfl) rfl)
    (both_stops (w.heap.size + 1) (w.heap.size + 1 + 1) w1.heap.size (9 - 1) a b HA.out HB.out w1 (bA.cell 0) (bB.cell 0) (by omega) hl (Nat.le_refl _)) belowK_t (belowK_b (Nat.le_refl _)) (Below.refl _ _) (fun _ => rfl)
    (LessI w w.heap.size) (LessX w w.heap.size)
    (fun pre X Y row h hg hr => ⟨h.1, kblk_from h.2.1 hg (fun r e => by have := (hr r e).1; omega), kext_from h.2.2 hg (fun r e => by have := (hr r e).1; omega)⟩)
    (fun cd pre X Y row h hg hr => by
      obtain ⟨h0, pre0, x, h1, h2, h3, h4, h5⟩ := h
      exact ⟨h0, pre0, x, h1, h2, h3, kblk_from h4 hg (fun r e => by have := (hr r e).1; omega), kext_from h5 hg (fun r e => by have := (hr r e).1; omega)⟩)
    ⟨fun x h => (by cases h), bR, hx1⟩
    (fun x => { tmps := #[.string a, .string b, undef, undef, .pointer (some ⟨w.heap.size, 0, none⟩), .int .u8 (x.1.toNat : Int), .int .u8 (x.2.toNat : Int), .string a, .string b, .func (.func 150) #[] #[.pointer (some ⟨w.heap.size + 1, 0, none⟩), .pointer (some ⟨w.heap.size + 1 + 1, 0, none⟩)], .int .u8 (x.1.toNat : Int), .int .u8 (x.2.toNat : Int), undef, undef, undef, undef, undef, undef, undef, undef, undef, undef, undef], defers := [] }) ?assign ?body ?done ?stop
  case assign =>
    intro L x W K hK
    simp only [encB]
    gi_wp2
    exact hK
  case body =>
    rintro L pre ⟨x, y⟩ W ⟨hne, bR, hxw⟩ hlt
    have hcR := bR.cell
    have hfR := bR.free
    cases hxy : decide (x = y) with
    | true =>
      have he := of_decide_eq_true hxy
      have h4 : ((x.toNat : Int) == (y.toNat : Int)) = true := by rw [he]; simp
      have h5 : ((x.toNat : Int) != (y.toNat : Int)) = false := by rw [he]; simp
      gi_wp2
      refine ⟨KeepsOthers.refl _, Below.refl _ _, fun p hp => ?_, bR, hxw⟩
      rcases List.mem_append.1 hp with hp | hp
      · exact hne p hp
      · obtain rfl := List.mem_singleton.1 hp
        exact he
    | false =>
      have he := of_decide_eq_false hxy
      have h4 : ((x.toNat : Int) == (y.toNat : Int)) = false := by
        rw [beq_eq_false_iff_ne]
        intro e
        exact he (UInt8.toNat_inj.1 (by omega))
      have h5 : ((x.toNat : Int) != (y.toNat : Int)) = true := by simp [bne, h4]
      gi_wp2
      refine ⟨KeepsOthers.setCell _ _ _, rfl, pre, (x, y), rfl, hne, he, ?_, hxw.setCell (Nat.le_refl _) _⟩
      have := bR.set 0 (.bool (decide (x.toNat < y.toNat)))
      simpa using this
  case done =>
    rintro D ys W hD rfl ⟨hne, bR, hxw⟩ hK
    have hcR := bR.cell
    have hfR := bR.free
    gi_wp2
    have hv := (keyLt_iff a b).trans (comm_end _ _ (Or.imp (fun q => q) (fun q => q) (by
      have := comm_of_same _ _ hne
      rw [this]
      omega)))
    rw [data_len, data_len] at hv
    have hK' := (KeepsOthers.setCell W ⟨w.heap.size, 0, none⟩ (.bool (decide (a.size < b.size)))).same D _ hK rfl
    refine ⟨by simp, .inl ⟨_, _, rfl, run_takeDeferred hK', ?_⟩⟩
    have hg := grownBy_putObj' (W.setCell ⟨w.heap.size, 0, none⟩ (.bool (decide (a.size < b.size)))) D (.deferred none)
    have bR2 := kblk_from (bR.set 0 (.bool (decide (a.size < b.size)))) hg (fun r e => by cases e; omega)
    have hx2 : Ext w (W.setCell ⟨w.heap.size, 0, none⟩ (.bool (decide (a.size < b.size)))) := hxw.setCell (Nat.le_refl _) _
    have hx3 := kext_from hx2 hg (fun r e => by cases e; omega)
    have hc5 := bR2.cell 0
    refine ⟨.bool (decide (a.size < b.size)), ?_, ret_bool (decide_eq_decide.2 hv).symm, hx3⟩
    simp [results, Tryz.results99, go_sem] at hc5 ⊢
    simp [hc5]
  case stop =>
    rintro D cd pre W hD ⟨rest, hsp⟩ ⟨rfl, pre0, x, rfl, h1, h2, bR, hxw⟩ hK
    gi_wp2
    have hv := (keyLt_iff a b).trans (comm_of_split pre0 a.data.toList b.data.toList x rest (by
      show zipB a b = _
      rw [← hsp]
      simp) h1 h2).2
    refine ⟨by simp, .inl ⟨_, _, rfl, run_takeDeferred hK, ?_⟩⟩
    have hg := grownBy_putObj' W D (.deferred none)
    have bR2 := kblk_from bR hg (fun r e => by cases e; omega)
    have hc5 := bR2.cell 0
    refine ⟨.bool (decide (x.1.toNat < x.2.toNat)), ?_, ret_bool (decide_eq_decide.2 hv).symm, kext_from hxw hg (fun r e => by cases e; omega)⟩
    simp [results, Tryz.results99, go_sem] at hc5 ⊢
    simp [hc5]

/-- the first k rise -/
def Up (l : List ByteArray) (k : Nat) : Prop := ∀ i (h : i + 1 < l.length), i + 1 < k → keyLt (l[i]'(by omega)) l[i + 1] = true
def sortedB : List ByteArray → Bool
  | a :: b :: t => keyLt a b && sortedB (b :: t)
  | _ => true
theorem sortedB_iff : ∀ l : List ByteArray, sortedB l = true ↔ Up l l.length
  | [] => ⟨fun _ i h => by simp at h, fun _ => rfl⟩
  | [a] => ⟨fun _ i h => by simp at h, fun _ => rfl⟩
  | a :: b :: t => by
    have ih := sortedB_iff (b :: t)
    simp only [sortedB, Bool.and_eq_true]
    rw [ih]
    constructor
    · rintro ⟨h1, h2⟩ i hi hk
      cases i with
      | zero => exact h1
      | succ i => exact h2 i (by simpa using hi) (by simpa using hi)
    · intro h
      exact ⟨h 0 (by simp) (by simp), fun i hi hk => h (i + 1) (by simpa using hi) (by simpa using hi)⟩
theorem Up.step {l : List ByteArray} {k : Nat} (h : Up l k) (hk : k < l.length) (h1 : 1 ≤ k) (e : keyLt (l[k - 1]'(by omega)) l[k] = true) : Up l (k + 1) := by
  intro i hi hik
  by_cases hq : i + 1 = k
  · subst hq
    exact e
  · exact h i hi (by omega)
theorem Up.stop {l : List ByteArray} {k : Nat} (hk : k < l.length) (h1 : 1 ≤ k) (e : keyLt (l[k - 1]'(by omega)) l[k] = false) : sortedB l = false := by
  cases hq : sortedB l with
  | false => rfl
  | true =>
  have h := (sortedB_iff l).1 hq
  have := h (k - 1) (by omega) (by omega)
  simp only [show k - 1 + 1 = k by omega] at this
  rw [this] at e
  cases e

set_option maxHeartbeats 1000000 in
set_option maxRecDepth 100000 in
theorem key_Sorted (v : Value) (l : List ByteArray) (w : World) (hv : StrSlice w v l) (hlen : l.length ≤ 1000000) :
    Calls Tryz.prog 60 #[v] w fun x w' => x = .returned (.bool (sortedB l)) ∧ Ext w w' := by
  obtain ⟨⟨a, c, rfl, hl⟩, -, heach⟩ := hv
  have HL := Lib.hid hl
  have HE := Lib.hid heach
  clear hl heach
  go_enter Tryz.func60, Tryz.ntmps60
  go_wp2
  go_loopw [3] (fun i wr => ∃ k : Nat, 1 ≤ k ∧ (k ≤ l.length ∨ k = 1) ∧ i = .int .i64 k ∧ Up l k ∧ Ext w wr) (fun i _ => l.length - (intOf i).toNat)
  case atStart => exact ⟨1, by omega, Or.inr rfl, rfl, fun i h1 h2 => by omega, Ext.refl _⟩
  case round =>
    obtain ⟨k, hk1, hk2, rfl, hup, hx⟩ := hrel
    have HUP := Lib.hid hup
    have HX := Lib.hid hx
    clear hup
    by_cases hlt : k < l.length
    · obtain ⟨b, o, rfl, hc⟩ := HL.out (by intro e; rw [e] at hlt; simp at hlt)
      obtain ⟨j, rfl⟩ : ∃ j : Nat, k = j + 1 := ⟨k - 1, by omega⟩
      have c0 := hx.keep (hc j (by omega))
      have c1 := hx.keep (hc (j + 1) hlt)
      have hs0 := HE.out l[j] (List.getElem_mem _)
      have hs1 := HE.out l[j + 1] (List.getElem_mem _)
      have HST := Lib.hid (fun e => Up.step HUP.out hlt hk1 e)
      have HSP := Lib.hid (fun e => Up.stop (l := l) hlt hk1 e)
      simp only [Nat.add_sub_cancel] at HST HSP
      have HLS := Lib.hid (fun W : World => key_Less l[j] l[j + 1] W hs0 hs1)
      generalize hV : keyLt l[j] l[j + 1] = V at *
      generalize l[j] = s0 at *
      generalize l[j + 1] = s1 at *
      clear hc hV hs0 hs1
      have hw : IntKind.i64.wrap ((j : Int) + 1 - 1) = j := by simp [IntKind.wrap, IntKind.signed, IntKind.bits]; omega
      have g0 : ∀ s, (grown wr s).cell? ⟨b, o + j, none⟩ = some (.string s0) := grown_cell c0
      have g1 : ∀ s, (grown wr s).cell? ⟨b, o + (j + 1), none⟩ = some (.string s1) := grown_cell c1
      have i0 : (0 : Int) ≤ (j : Int) := by omega
      have i1 : (j : Int) < (l.length : Int) := by omega
      have i2 : (0 : Int) ≤ ((j + 1 : Nat) : Int) := by omega
      have i3 : ((j + 1 : Nat) : Int) < (l.length : Int) := by omega
      clear HL c0 c1 hx
      go_upto_region 4 with fail
      refine wp_region_grow (by kernel_rfl) (by kernel_rfl) ?_
      repeat (go_big_quiet_step ((go_at_call 99; exact grow_call (HLS.out _))))
      refine wpQuiet_nil ?_
      rintro _ ⟨sg, rfl⟩
      have hxg := HX.out.trans (grown_ext wr sg)
      cases V with
      | true =>
        go_wp2
        go_roundw
        case rel => exact ⟨j + 1 + 1, by omega, by omega, by go_num, HST.out (by trivial), hxg⟩
        case measure => simp [intOf]; omega
      | false =>
        go_wp2
        go_ret
        exact ⟨ret_bool (HSP.out (by trivial)).symm, hxg⟩
    · have hs : sortedB l = true := by
        rw [sortedB_iff]
        intro i h1 h2
        exact HUP.out i h1 (by omega)
      have HS := Lib.hid hs
      clear hs
      go_wp2
      go_ret
      exact ⟨ret_bool HS.out.symm, HX.out⟩
end Go.Proofs.YtnlmbmbalmkiiaaGreat

/- A table of some slots, plainly. -/
namespace Go.Proofs.YtnlmbmbalmkiiaaGreat
open Go.RowKit
set_option linter.unusedVariables false
set_option linter.unusedSimpArgs false

theorem snocInd {α : Type} {m : List α → Prop} (h0 : m []) (h1 : ∀ xs x, m xs → m (xs ++ [x])) (l : List α) : m l := by
  have h : ∀ r : List α, m r.reverse := by
    intro r
    induction r with
    | nil => exact h0
    | cons x r ih => rw [List.reverse_cons]; exact h1 _ _ ih
  have := h l.reverse
  rwa [List.reverse_reverse] at this
/-- what is wrong with a slot -/
def slotErr (clock : Int) (s : Slot) : Int :=
  if keyOk s.key = false then 12 else if ruleErr s.p s.e s.b s.rk ≠ 0 then ruleErr s.p s.e s.b s.rk else if rightKind s.sk = false then 27 else if s.fill clock = 0 ∨ s.cap < s.fill clock then 44 else 0
def firstErr (clock : Int) : List Slot → Int
  | [] => 0
  | s :: xs => if slotErr clock s ≠ 0 then slotErr clock s else firstErr clock xs
theorem firstErr_at (clock : Int) : ∀ (xs : List Slot) (k : Nat) (h : k < xs.length), (∀ i (hi : i < k), slotErr clock (xs[i]'(by omega)) = 0) → slotErr clock xs[k] ≠ 0 → firstErr clock xs = slotErr clock xs[k]
  | [], k, h, _, _ => by simp at h
  | s :: xs, 0, h, _, he => by
    simp only [List.getElem_cons_zero] at he ⊢
    simp only [firstErr]
    rw [if_pos he]
  | s :: xs, k + 1, h, hp, he => by
    have h0 : slotErr clock s = 0 := hp 0 (by omega)
    simp only [firstErr]
    rw [if_neg (by rw [h0]; simp)]
    exact firstErr_at clock xs k (by simpa using h) (fun i hi => hp (i + 1) (by omega)) he
theorem firstErr_no (clock : Int) : ∀ (xs : List Slot), (∀ i (hi : i < xs.length), slotErr clock xs[i] = 0) → firstErr clock xs = 0
  | [], _ => rfl
  | s :: xs, hp => by
    simp only [firstErr]
    have h0 : slotErr clock s = 0 := hp 0 (by simp)
    rw [if_neg (by rw [h0]; simp)]
    exact firstErr_no clock xs fun i hi => hp (i + 1) (by simpa using hi)
theorem firstErr_of (clock : Int) : ∀ (xs : List Slot), firstErr clock xs = 0 → ∀ s ∈ xs, slotErr clock s = 0
  | [], _, s, h => by cases h
  | s :: xs, he, x, hx => by
    simp only [firstErr] at he
    by_cases h0 : slotErr clock s = 0
    · rw [if_neg (by rw [h0]; simp)] at he
      rcases List.mem_cons.1 hx with rfl | hx
      · exact h0
      · exact firstErr_of clock xs he x hx
    · rw [if_pos h0] at he
      exact absurd he h0
theorem ruleErr_b (p : ByteArray) (e b k : Int) : 0 ≤ ruleErr p e b k ∧ ruleErr p e b k ≤ 60 := by
  unfold ruleErr
  repeat' split
  all_goals omega
theorem slotErr_u (clock : Int) (s : Slot) : 0 ≤ slotErr clock s ∧ slotErr clock s ≤ 60 := by
  unfold slotErr ruleErr
  repeat' split
  all_goals omega
/-- what is wrong with a table of some -/
def ofErr (most clock : Int) (xs : List Slot) : Int :=
  if most < 1 ∨ 1000000 < most then 29 else if firstErr clock xs ≠ 0 then firstErr clock xs else if sortedB (xs.map (·.key)) = false then 42 else if most < xs.length then 50 else 0
/-- slots that are put into a map, one behind another -/
def putTo (xs : List Slot) : SMap × Nat := xs.foldl (fun p s => (p.1.put s p.2, p.1.putC s p.2)) ([], 0)
theorem putTo_nil : putTo [] = ([], 0) := rfl
theorem putTo_snoc (xs : List Slot) (s : Slot) : putTo (xs ++ [s]) = ((putTo xs).1.put s (putTo xs).2, (putTo xs).1.putC s (putTo xs).2) := by
  unfold putTo
  rw [List.foldl_append]
  rfl
theorem putTo_ok : ∀ (xs : List Slot), (∀ s ∈ xs, SlotOk s) → TabOk (putTo xs).1 (putTo xs).2 := by
  intro xs
  induction xs using snocInd with
  | h0 => intro _; exact TabOk.nil 0
  | h1 xs s ih =>
    intro h
    rw [putTo_snoc]
    exact (ih fun x hx => h x (List.mem_append_left _ hx)).put (h s (by simp))
theorem putTo_len : ∀ (xs : List Slot), (putTo xs).1.length ≤ xs.length := by
  intro xs
  induction xs using snocInd with
  | h0 => simp [putTo_nil]
  | h1 xs s ih =>
    rw [putTo_snoc]
    have h : ((putTo xs).1.put s (putTo xs).2).length ≤ (putTo xs).1.length + 1 := by
      unfold SMap.put SMap.rep
      split <;> simp
    rw [List.length_append]
    simp only [List.length_cons, List.length_nil]
    omega
theorem putTo_mem : ∀ (xs : List Slot), (xs.map (·.key)).Nodup → ∀ s, (∃ n, (s, n) ∈ (putTo xs).1) ↔ s ∈ xs := by
  intro xs
  induction xs using snocInd with
  | h0 =>
    intro _ s
    rw [putTo_nil]
    exact ⟨fun ⟨n, h⟩ => (by cases h), fun h => (by cases h)⟩
  | h1 xs s0 ih =>
    intro hn s
    rw [List.map_append, List.nodup_append] at hn
    obtain ⟨h1, -, h3⟩ := hn
    rw [putTo_snoc, put_iff, ih h1, List.mem_append, List.mem_singleton]
    constructor
    · rintro (h | ⟨-, h⟩)
      · exact Or.inr h
      · exact Or.inl h
    · rintro (h | h)
      · refine Or.inr ⟨?_, h⟩
        exact h3 _ (List.mem_map.2 ⟨s, h, rfl⟩) _ (by simp)
      · exact Or.inl h
theorem rises_of_sorted : ∀ (xs : List Slot), sortedB (xs.map (·.key)) = true → Rises xs := by
  intro xs
  induction xs with
  | nil => intro _; exact List.Pairwise.nil
  | cons x xs ih =>
    intro h
    cases xs with
    | nil => exact List.pairwise_singleton _ _
    | cons y ys =>
      simp only [List.map_cons, sortedB, Bool.and_eq_true] at h
      have h2 := ih (by simpa using h.2)
      have hxy : x.key.toList < y.key.toList := by have := h.1; unfold keyLt at this; simpa using this
      refine List.pairwise_cons.2 ⟨fun z hz => ?_, h2⟩
      rcases List.mem_cons.1 hz with rfl | hz
      · exact hxy
      · exact List.lt_trans hxy ((List.pairwise_cons.1 h2).1 z hz)
theorem rises_keys {xs : List Slot} (h : Rises xs) : (xs.map (·.key)).Nodup := by
  refine List.pairwise_map.2 (h.imp fun q e => ?_)
  rw [e] at q
  exact List.lt_irrefl _ q
theorem of_rel {most clock : Int} {xs : List Slot} (h : ofErr most clock xs = 0) (hs : ∀ s ∈ xs, SlotOk s) : Rel clock (putTo xs).1 xs ∧ 1 ≤ most ∧ most ≤ 1000000 ∧ (xs.length : Int) ≤ most ∧ (∀ s ∈ xs, slotErr clock s = 0) := by
  unfold ofErr at h
  by_cases h1 : most < 1 ∨ 1000000 < most
  · rw [if_pos h1] at h; omega
  rw [if_neg h1] at h
  by_cases h2 : firstErr clock xs = 0
  · rw [if_neg (by rw [h2]; simp)] at h
    cases h3 : sortedB (xs.map (·.key)) with
    | false => rw [h3] at h; simp at h
    | true =>
      rw [h3] at h
      simp only [Bool.true_eq_false, if_false] at h
      by_cases h4 : most < xs.length
      · rw [if_pos h4] at h; omega
      · have hr := rises_of_sorted xs h3
        exact ⟨⟨fun s _ => putTo_mem xs (rises_keys hr) s, hr, hs⟩, by omega, by omega, by omega, firstErr_of clock xs h2⟩
  · rw [if_pos h2] at h
    exact absurd h h2
end Go.Proofs.YtnlmbmbalmkiiaaGreat

/- Walks: table.wrong. -/
namespace Go.Proofs.YtnlmbmbalmkiiaaGreat
open Go.RowKit
set_option linter.unusedVariables false
set_option linter.unusedSimpArgs false

theorem slotErr_def (clock : Int) (key p : ByteArray) (e b rk sk sa sb : Int) : slotErr clock ⟨key, p, e, b, rk, sk, sa, sb⟩ =
    if keyOk key = false then 12 else if ruleErr p e b rk ≠ 0 then ruleErr p e b rk else if rightKind sk = false then 27 else if Slot.fill ⟨key, p, e, b, rk, sk, sa, sb⟩ clock = 0 ∨ ruleCap p e b rk < Slot.fill ⟨key, p, e, b, rk, sk, sa, sb⟩ clock then 44 else 0 := rfl

set_option maxHeartbeats 2000000 in
set_option maxRecDepth 100000 in
theorem table_wrong (s : Slot) (clock : Int) (w : World) (hs : SlotOk s) (hn0 : 0 ≤ clock) (hn1 : clock < 18446744073709551616) :
    Calls Tryz.prog 59 #[s.val, .int .u64 clock] w fun x w' => x = .returned (.int .u16 (slotErr clock s)) ∧ Ext w w' := by
  have hfl := fun W => table_fill s clock W hs hn0 hn1
  obtain ⟨key, p, e, b, rk, sk, sa, sb⟩ := s
  obtain ⟨h1, h2, h3, h4, h5, h6, h7, h8, h9, h10, h11, h12, h13, h14⟩ := hs
  simp only at h1 h2 h3 h4 h5 h6 h7 h8 h9 h10 h11 h12 h13 h14
  have hr := ruleErr_b p e b rk
  have hcu := ruleCap_u p e b rk h3 h5
  have hfu := kFill_u sk sa sb clock (Slot.cap ⟨key, p, e, b, rk, sk, sa, sb⟩) h11 h12 h13 hn0 hn1 hcu.1 (by have := hcu.2; show ruleCap p e b rk < _; omega)
  have hkr := fun W => key_Right key W h1
  have hrr := fun W => rule_Right p e b rk W h2 h3 h4 h5 h6
  have hkk := fun W => kernel_Right sk W
  have hrc := fun W => rule_Cap p e b rk W h2 h3 h4 h5 h6
  rw [slotErr_def]
  change 0 ≤ Slot.fill ⟨key, p, e, b, rk, sk, sa, sb⟩ clock ∧ Slot.fill ⟨key, p, e, b, rk, sk, sa, sb⟩ clock < _ at hfu
  generalize Slot.fill ⟨key, p, e, b, rk, sk, sa, sb⟩ clock = fl at *
  generalize hK : keyOk key = kb at *
  generalize hE : ruleErr p e b rk = er at *
  generalize hC : ruleCap p e b rk = cp at *
  generalize hR : rightKind sk = rt at *
  simp only [Slot.val, Slot.cells] at hfl ⊢
  have HFL := Lib.hid hfl
  have HKR := Lib.hid hkr
  have HRR := Lib.hid hrr
  have HKK := Lib.hid hkk
  have HRC := Lib.hid hrc
  obtain ⟨hfu0, hfu1⟩ := hfu
  obtain ⟨hr0, hr1⟩ := hr
  obtain ⟨hcu0, hcu1⟩ := hcu
  clear hfl hkr hrr hkk hrc hK hE hC hR
  have bq := Blk.new w #[.string key, .string p, .int .u64 e, .int .u64 b, .int .u8 rk, .int .u8 sk, .int .u64 sa, .int .u64 sb] 69
  have hx0 : Ext w (w.alloc (.cells #[.string key, .string p, .int .u64 e, .int .u64 b, .int .u8 rk, .int .u8 sk, .int .u64 sa, .int .u64 sb] 69)) := (Ext.refl w).alloc _
  go_enter Tryz.func59, Tryz.ntmps59
  go_upto_region 1 with fail
  generalize w.alloc (.cells #[.string key, .string p, .int .u64 e, .int .u64 b, .int .u8 rk, .int .u8 sk, .int .u64 sa, .int .u64 sb] 69) = w0 at *
  have hbc := bq.cell
  have HB := Lib.hid bq
  clear bq
  go_wp2_with fail
  refine (HKR.out _).mono ?_
  rintro x w1 ⟨rfl, hx1⟩
  have hc1 := (HB.out.ext hx1).cell
  cases kb with
  | false =>
    go_wp2
    go_ret
    exact ⟨rfl, hx0.trans hx1⟩
  | true =>
  go_wp2_with fail
  refine (HRR.out _).mono ?_
  rintro x w2 ⟨rfl, hx2⟩
  have hx02 := hx1.trans hx2
  have hc2 := (HB.out.ext hx02).cell
  clear hbc hc1
  by_cases her : er = 0
  · subst her
    go_wp2_with fail
    refine (HKK.out _).mono ?_
    rintro x w3 ⟨rfl, hx3⟩
    have hx03 := hx02.trans hx3
    have hc3 := (HB.out.ext hx03).cell
    clear hc2
    cases rt with
    | false =>
      go_wp2
      go_ret
      exact ⟨rfl, hx0.trans hx03⟩
    | true =>
    go_wp2_with fail
    refine (HFL.out _).mono ?_
    rintro x w4 ⟨rfl, hx4⟩
    have hx04 := hx03.trans hx4
    have hc4 := (HB.out.ext hx04).cell
    clear hc3
    by_cases hf0 : fl = 0
    · subst hf0
      go_wp2
      go_ret
      exact ⟨rfl, hx0.trans hx04⟩
    · have hq : (fl == 0) = false := by simpa using hf0
      go_wp2_with fail
      refine (HRC.out _).mono ?_
      rintro x w5 ⟨rfl, hx5⟩
      have hx05 := hx04.trans hx5
      by_cases hf1 : cp < fl
      · have HQ := Lib.hid (show (if (true = false) then (12 : Int) else if (0 : Int) ≠ 0 then 0 else if (true = false) then 27 else if fl = 0 ∨ cp < fl then 44 else 0) = 44 by simp [hf1])
        go_wp2
        go_ret
        exact ⟨rfl, hx0.trans hx05⟩
      · have HQ := Lib.hid (show (if (true = false) then (12 : Int) else if (0 : Int) ≠ 0 then 0 else if (true = false) then 27 else if fl = 0 ∨ cp < fl then 44 else 0) = 0 by simp [hf1, hf0])
        go_wp2
        go_ret
        exact ⟨rfl, hx0.trans hx05⟩
  · have hq : (er == 0) = false := by simpa using her
    have hq2 : (er != 0) = true := by simpa using her
    go_wp2
    go_ret
    exact ⟨rfl, hx0.trans hx02⟩
end Go.Proofs.YtnlmbmbalmkiiaaGreat

/- Walks: table.Of. -/
namespace Go.Proofs.YtnlmbmbalmkiiaaGreat
open Go.RowKit
set_option linter.unusedVariables false
set_option linter.unusedSimpArgs false
attribute [local go_sem ↓] Go.wp_at_zero Go.wp_at_succ

abbrev strE (s : ByteArray) : Array Value := #[.string s]
theorem strE_size (s : ByteArray) : (strE s).size = 1 := rfl
theorem str_infoO : (Tryz.prog.info? 9).map (fun i => (i.zero, i.size, i.bytes)) = some (some (.string ⟨#[]⟩), 1, 16) := by kernel_rfl
theorem RowOf.strs {base : Nat} {w : World} {v : Value} {l : List ByteArray} (h : RowOf strE 1 9 base w v l) (heach : ∀ s ∈ l, s.size ≤ maxLen) : StrSlice w v l := by
  obtain ⟨a, c, hv⟩ := h.size
  refine ⟨⟨a, c, hv, fun hne => ?_⟩, h.len, heach⟩
  obtain ⟨b, c', hv', -, -, -⟩ := h.cells strE_size 0 (List.length_pos_iff.2 hne)
  rw [hv] at hv'
  cases hv'
  refine ⟨b, 0, rfl, fun j hj => ?_⟩
  obtain ⟨b', c', hv', -, -, hq⟩ := h.cells strE_size j hj
  rw [hv] at hv'
  cases hv'
  have := hq 0 (by omega)
  simpa using this
theorem rowStr_more {base : Nat} {w : World} {v : Value} {l l' : List ByteArray} {s : ByteArray} (h : w.ownsRow base 9 1 v (l.length + 1) (flatE strE l ++ (strE s).toList)) (e : l' = l ++ [s]) : RowOf strE 1 9 base w v l' := by
  subst e
  refine RowOf.mk' h (by simp) (flatE_snoc _ _ _).symm ?_
  obtain ⟨g, cap, rfl⟩ := ownsRow_succ h
  simp

/-- what table.Of hands back -/
def OfIs (w : World) (most clock : Int) (xs : List Slot) (x : Ending) (w' : World) : Prop :=
  ∃ p, x = .returned (.tuple #[.pointer p, .int .u16 (ofErr most clock xs)]) ∧ Ext w w' ∧
    ((ofErr most clock xs = 0 ∧ ∃ t m, p = some ⟨t, 0, none⟩ ∧ w.heap.size ≤ t ∧ w.heap.size ≤ m ∧ TabAt w' t m most clock (putTo xs).1 (putTo xs).2) ∨ (ofErr most clock xs ≠ 0 ∧ p = none))
theorem OfIs.bad {w w' : World} {most clock E : Int} {xs : List Slot} (hE : ofErr most clock xs = E) (h0 : E ≠ 0) (hx : Ext w w') : OfIs w most clock xs (.returned (.tuple #[.pointer none, .int .u16 E])) w' :=
  ⟨none, by rw [hE], hx, Or.inr ⟨by rw [hE]; exact h0, rfl⟩⟩

theorem OfIs.good {w w' : World} {most clock : Int} {xs : List Slot} {t m : Nat} (hE : ofErr most clock xs = 0) (hx : Ext w w') (h1 : w.heap.size ≤ t) (h2 : w.heap.size ≤ m) (ht : TabAt w' t m most clock (putTo xs).1 (putTo xs).2) :
    OfIs w most clock xs (.returned (.tuple #[.pointer (some ⟨t, 0, none⟩), .int .u16 0])) w' :=
  ⟨some ⟨t, 0, none⟩, by rw [hE], hx, Or.inl ⟨hE, t, m, rfl, h1, h2, ht⟩⟩
/-- a block that is not the row's is as it was -/
theorem grown_at {x y z : World} {base size n k : Nat} {e : TypeId} {v : Value} {xs : List Value} (g : y.grownBy z v.ownBlock) (o : x.ownsRow base e size v n xs) (hk : k < y.heap.size) (hf : k < base ∨ x.heap.size ≤ k) : z.heap[k]? = y.heap[k]? := by
  refine g.block k hk fun h => ?_
  obtain ⟨-, ⟨rfl, -⟩ | ⟨g', cap, cur, rfl, h2, h3, -⟩⟩ := o
  · cases h
  · cases h
    have := lt_of_block h3
    dsimp only at hf
    omega
theorem ExtB.grownAt {b : Nat} {x y z : World} {base size n : Nat} {e : TypeId} {v : Value} {xs : List Value} (h : ExtB b x y) (o : y.ownsRow base e size v n xs) (hb : x.heap.size ≤ base) (g : y.grownBy z v.ownBlock) : ExtB b x z :=
  ⟨g.os.trans h.os, g.tape.trans h.tape, g.output.trans h.output, Nat.le_trans h.size g.size, fun k hk hne => (grown_at g o (Nat.lt_of_lt_of_le hk h.size) (Or.inl (Nat.lt_of_lt_of_le hk hb))).trans (h.block k hk hne)⟩

set_option maxHeartbeats 4000000 in
set_option maxRecDepth 100000 in
theorem table_Of (most clock : Int) (v : Value) (xs : List Slot) (w : World) (hv : SlotsAt w v xs) (hs : ∀ s ∈ xs, SlotOk s) (hlen : xs.length ≤ 1000000) (hn0 : 0 ≤ clock) (hn1 : clock < 18446744073709551616) (hm0 : -9223372036854775808 ≤ most) (hm1 : most ≤ 9223372036854775807) :
    Calls Tryz.prog 22 #[.int .i64 most, .int .u64 clock, v] w fun x w' => OfIs w most clock xs x w' := by
  obtain ⟨a, cp, rfl⟩ := hv.size
  have HV := Lib.hid hv
  have HS := Lib.hid hs
  clear hv hs
  obtain ⟨i0, hi, hz0, hz1, hz2⟩ := info_parts str_infoO
  have HI := Lib.hid (And.intro hi (And.intro hz0 (And.intro hz1 hz2)))
  have hml : (1000000 : Nat) + 1 ≤ maxLen := by decide
  clear hi hz0 hz1 hz2
  by_cases hr : most < 1 ∨ 1000000 < most
  · have HE := Lib.hid (show ofErr most clock xs = 29 by unfold ofErr; rw [if_pos hr])
    by_cases h1 : most < 1
    · go_enter Tryz.func22, Tryz.ntmps22
      go_wp2
      go_ret2
      exact OfIs.bad HE.out (by decide) (Ext.refl _)
    · have h2 : 1000000 < most := by omega
      go_enter Tryz.func22, Tryz.ntmps22
      go_wp2
      go_ret2
      exact OfIs.bad HE.out (by decide) (Ext.refl _)
  · have h1 : ¬ most < 1 := by omega
    have h2 : ¬ 1000000 < most := by omega
    have hmo : mostOf most = most := by unfold mostOf; omega
    have HMO := Lib.hid hmo
    have HR := Lib.hid hr
    clear hmo hr
    go_enter Tryz.func22, Tryz.ntmps22
    go_wp2_with fail
    refine (table_New most _ hm0 hm1).mono ?_
    rw [HMO.out]
    rintro x w1 ⟨rfl, ht1, hx1⟩
    have hbc := ht1.blk.cell
    have hbf := ht1.blk.free
    have hT2 : TabAt (w1.setCell ⟨w.heap.size + 1, 1, none⟩ (.int .u64 clock)) (w.heap.size + 1) w.heap.size most clock [] 0 := ⟨ht1.blk.set 1 (.int .u64 clock), ht1.map.other (by dsimp only; omega) _⟩
    have hx2 : Ext w (w1.setCell ⟨w.heap.size + 1, 1, none⟩ (.int .u64 clock)) := hx1.setCell (by dsimp only; omega) _
    have hlt1 := ht1.blk.lt
    have hsz2 : (w1.setCell ⟨w.heap.size + 1, 1, none⟩ (.int .u64 clock)).heap.size = w1.heap.size := by simp [World.setCell]
    go_wp2_with fail
    rw [← hsz2] at hlt1
    generalize w1.setCell ⟨w.heap.size + 1, 1, none⟩ (.int .u64 clock) = w2 at *
    have HT2 := Lib.hid hT2
    have HX2 := Lib.hid hx2
    clear hbc hbf ht1 hx1 hT2 hsz2 hx2 HMO
    go_loopw [9, 27] (fun o i wr => ∃ (k : Nat), k ≤ xs.length ∧ i = .int .i64 k ∧ RowOf strE 1 9 w2.heap.size wr o ((xs.take k).map (·.key)) ∧ TabAt wr (w.heap.size + 1) w.heap.size most clock (putTo (xs.take k)).1 (putTo (xs.take k)).2 ∧
      (∀ i (hi : i < xs.length), i < k → slotErr clock xs[i] = 0) ∧ ExtB w.heap.size w2 wr) (fun _ i _ => xs.length - (intOf i).toNat)
    case atStart => exact ⟨0, by omega, rfl, RowOf.empty _ _ _ _ _, HT2.out, fun i _ h => by omega, ExtB.refl _ _⟩
    case round =>
      obtain ⟨k, hk, rfl, hrow, htab, hgood, hx⟩ := hrel
      have HROW := Lib.hid hrow
      have HTAB := Lib.hid htab
      have HGOOD := Lib.hid hgood
      have HX := Lib.hid hx
      clear hrow htab hgood
      have hsz := hx.size
      by_cases hlt : k < xs.length
      · obtain ⟨b, oo, rfl, hbl, e0, e1, e2, e3, e4, e5, e6, e7⟩ := (HV.out).cells k hlt
        have hbw : b ≠ w.heap.size := by omega
        have hxw := HX2.out
        have e0 := hx.keep (hxw.keep e0) (by dsimp only; omega)
        have e1 := hx.keep (hxw.keep e1) (by dsimp only; omega)
        have e2 := hx.keep (hxw.keep e2) (by dsimp only; omega)
        have e3 := hx.keep (hxw.keep e3) (by dsimp only; omega)
        have e4 := hx.keep (hxw.keep e4) (by dsimp only; omega)
        have e5 := hx.keep (hxw.keep e5) (by dsimp only; omega)
        have e6 := hx.keep (hxw.keep e6) (by dsimp only; omega)
        have e7 := hx.keep (hxw.keep e7) (by dsimp only; omega)
        clear hxw hx
        have hso := HS.out xs[k] (List.getElem_mem _)
        have HW := Lib.hid (fun W => table_wrong xs[k] clock W hso hn0 hn1)
        have hu := slotErr_u clock xs[k]
        have HBAD := Lib.hid (fun he => firstErr_at clock xs k hlt (fun i hi => HGOOD.out i (by omega) hi) he)
        have HNEXT := Lib.hid (fun (he : slotErr clock xs[k] = 0) i (hi : i < xs.length) (hik : i < k + 1) => show slotErr clock xs[i] = 0 from by
          by_cases q : i = k
          · subst q; exact he
          · exact HGOOD.out i hi (by omega))
        have HTK := Lib.hid (List.take_succ_eq_append_getElem hlt)
        generalize hse : slotErr clock xs[k] = se at *
        obtain ⟨hu0, hu1⟩ := hu
        have HSE := Lib.hid hse
        clear hse
        generalize xs[k] = s at *
        have HSO := Lib.hid hso
        obtain ⟨s1, s2, s3, s4, s5, s6, s7, s8⟩ := s
        simp only [Slot.val, Slot.cells] at e0 e1 e2 e3 e4 e5 e6 e7 HW
        clear hso
        generalize hoo : oo + k * 8 = ob at *
        have bq := Blk.new wr #[.string s1, .string s2, .int .u64 s3, .int .u64 s4, .int .u8 s5, .int .u8 s6, .int .u64 s7, .int .u64 s8] 69
        have hxa : Ext wr (wr.alloc (.cells #[.string s1, .string s2, .int .u64 s3, .int .u64 s4, .int .u8 s5, .int .u8 s6, .int .u64 s7, .int .u64 s8] 69)) := (Ext.refl wr).alloc _
        go_wp2_with fail
        generalize wr.alloc (.cells #[.string s1, .string s2, .int .u64 s3, .int .u64 s4, .int .u8 s5, .int .u8 s6, .int .u64 s7, .int .u64 s8] 69) = wa at *
        refine (HW.out _).mono ?_
        rintro x w3 ⟨rfl, hx3⟩
        have hx03 := hxa.trans hx3
        have bq3 := bq.ext hx3
        by_cases hse0 : se = 0
        · subst hse0
          have htab3 := HTAB.out.ext hx03
          have hcb3 := bq3.cell
          have hsz3 := hx03.sz
          have hkl : ((xs.take k).map (·.key)).length = k := by rw [List.length_map, List.length_take]; omega
          have HKL := Lib.hid hkl
          clear hkl
          go_wp2_with (first
            | (at_builtin; refine wpList_append_own _ rfl (.tmp 37) (.tmp 40) 110 rfl w2.heap.size 9 i0 (.string ⟨#[]⟩) 1 16 Tryz.underlying110 HI.out.1 HI.out.2.1 HI.out.2.2.1 HI.out.2.2.2 rfl (by decide) _ _ _ rfl ((own_ext HROW.out.own hx03).alloc _) ⟨w3.heap.size, 0, none⟩ 1 1 [.string s1] rfl rfl (blk_news (C := #[.string s1]) (Blk.new _ _ _)) (by simp [Value.oneCell']) (by have := HKL.out; omega) (by have := HKL.out; omega) (by simp; omega) ?_; rintro v' w4 hown hgrow -)
            | fail)
          have hx34 := hx03.alloc (.cells #[.string s1] 9)
          have hs34 := hx34.sz
          have hxm := ((HX.out.trans (hx34.toB w.heap.size))).grownAt ((own_ext HROW.out.own hx03).alloc _) (Nat.le_refl _) hgrow
          have htab4 : TabAt w4 (w.heap.size + 1) w.heap.size most clock (putTo (xs.take k)).1 (putTo (xs.take k)).2 :=
            ⟨(grown_at hgrow HROW.out.own (by omega) (Or.inl (by omega))).trans (htab3.ext ((Ext.refl _).alloc (.cells #[.string s1] 9))).blk, (grown_at hgrow HROW.out.own (by omega) (Or.inl (by omega))).trans (htab3.ext ((Ext.refl _).alloc (.cells #[.string s1] 9))).map⟩
          have bq4 : Blk w4 wr.heap.size #[.string s1, .string s2, .int .u64 s3, .int .u64 s4, .int .u8 s5, .int .u8 s6, .int .u64 s7, .int .u64 s8] 69 :=
            (grown_at hgrow HROW.out.own (Nat.lt_of_lt_of_le bq3.lt (by simp)) (Or.inr (Nat.le_refl _))).trans (bq3.alloc (.cells #[.string s1] 9))
          have hok := putTo_ok (xs.take k) (fun s hs => HS.out s (List.mem_of_mem_take hs))
          have hrow4 : RowOf strE 1 9 w2.heap.size w4 v' ((xs.take (k + 1)).map (·.key)) := rowStr_more hown (by rw [HTK.out, List.map_append]; rfl)
          have hps := putTo_snoc (xs.take k) ⟨s1, s2, s3, s4, s5, s6, s7, s8⟩
          rw [← HTK.out] at hps
          have HPS := Lib.hid hps
          obtain ⟨w14, hput, hm14, hx14⟩ := run_sput (P := Tryz.prog) Tryz.underlying70 Tryz.underlying9 (htab4.map.ext ((Ext.refl _).drew)) hok.keys ⟨s1, s2, s3, s4, s5, s6, s7, s8⟩
          simp only [Slot.val, Slot.cells] at hput
          have hxx : ExtB w.heap.size w4 w14 := ((ExtB.refl _ w4).drew).trans hx14
          have htab14 := htab4.swap hxx hm14
          have g2 : w4.cell? ⟨w.heap.size + 1, 2, none⟩ = some (.map (some w.heap.size)) := htab4.blk.cell 2
          have r0 : w4.cell? ⟨wr.heap.size, 0, none⟩ = some (.string s1) := bq4.cell 0
          have r1 : w4.cell? ⟨wr.heap.size, 1, none⟩ = some (.string s2) := bq4.cell 1
          have r2 : w4.cell? ⟨wr.heap.size, 2, none⟩ = some (.int .u64 s3) := bq4.cell 2
          have r3 : w4.cell? ⟨wr.heap.size, 3, none⟩ = some (.int .u64 s4) := bq4.cell 3
          have r4 : w4.cell? ⟨wr.heap.size, 4, none⟩ = some (.int .u8 s5) := bq4.cell 4
          have r5 : w4.cell? ⟨wr.heap.size, 5, none⟩ = some (.int .u8 s6) := bq4.cell 5
          have r6 : w4.cell? ⟨wr.heap.size, 6, none⟩ = some (.int .u64 s7) := bq4.cell 6
          have r7 : w4.cell? ⟨wr.heap.size, 7, none⟩ = some (.int .u64 s8) := bq4.cell 7
          have HT14 := Lib.hid htab14
          have HROW14 := Lib.hid (hrow4.extB hxx (by omega))
          have HX14 := Lib.hid (hxm.trans hxx)
          clear hcb3 e0 e1 e2 e3 e4 e5 e6 e7 htab14 hm14 hown hgrow hrow4 hps htab4 bq4 htab3 bq3 bq hok hxm hx34
          go_upto_region 13 with fail
          go_region_held3 (fun w' => w'.cell? ⟨w.heap.size + 1, 2, none⟩ = some (.map (some w.heap.size)) ∧ w'.cell? ⟨wr.heap.size, 0, none⟩ = some (.string s1) ∧ w'.cell? ⟨wr.heap.size, 1, none⟩ = some (.string s2) ∧ w'.cell? ⟨wr.heap.size, 2, none⟩ = some (.int .u64 s3) ∧ w'.cell? ⟨wr.heap.size, 3, none⟩ = some (.int .u64 s4) ∧ w'.cell? ⟨wr.heap.size, 4, none⟩ = some (.int .u8 s5) ∧ w'.cell? ⟨wr.heap.size, 5, none⟩ = some (.int .u8 s6) ∧ w'.cell? ⟨wr.heap.size, 6, none⟩ = some (.int .u64 s7) ∧ w'.cell? ⟨wr.heap.size, 7, none⟩ = some (.int .u64 s8))
            (first | exact ⟨g2, r0, r1, r2, r3, r4, r5, r6, r7⟩ | exact ⟨hxx.keep g2 (by dsimp only; omega), hxx.keep r0 (by dsimp only; omega), hxx.keep r1 (by dsimp only; omega), hxx.keep r2 (by dsimp only; omega), hxx.keep r3 (by dsimp only; omega), hxx.keep r4 (by dsimp only; omega), hxx.keep r5 (by dsimp only; omega), hxx.keep r6 (by dsimp only; omega), hxx.keep r7 (by dsimp only; omega)⟩)
            (fail)
          go_wp2
          go_roundw
          case rel => exact ⟨k + 1, by omega, by go_num, HROW14.out, by rw [HPS.out]; exact HT14.out, fun i hi hik => HNEXT.out (by trivial) i hi hik, HX14.out⟩
          case measure => simp [intOf]; omega
        · have hq : (se == 0) = false := by simpa using hse0
          have hq2 : (se != 0) = true := by simpa using hse0
          have HE := Lib.hid (show ofErr most clock xs = se by
            unfold ofErr
            rw [if_neg HR.out, HBAD.out hse0, if_pos hse0])
          clear bq bq3
          go_wp2
          go_ret2
          exact OfIs.bad HE.out hse0 ((HX2.out.own HX.out (Nat.le_refl _)).trans hx03)
      · obtain rfl : k = xs.length := by omega
        have HF := Lib.hid (firstErr_no clock xs fun i hi => HGOOD.out i hi hi)
        have hst := (HROW.out.strs (fun s hs => by
          obtain ⟨x, hx, rfl⟩ := List.mem_map.1 hs
          exact (HS.out x (List.mem_of_mem_take hx)).key)).ext (Ext.refl _)
        rw [List.take_length] at hst
        have HST := Lib.hid hst
        have htab := HTAB.out
        rw [List.take_length] at htab
        have HT3 := Lib.hid htab
        clear hst htab hx
        go_wp2_with fail
        refine (key_Sorted _ _ _ HST.out (by rw [List.length_map]; omega)).mono ?_
        generalize hsb : sortedB (xs.map (·.key)) = sb
        have HSB := Lib.hid hsb
        clear hsb
        rintro x w3 ⟨rfl, hx3⟩
        cases sb with
        | false =>
          have HE := Lib.hid (show ofErr most clock xs = 42 by
            unfold ofErr
            rw [if_neg HR.out, HF.out, HSB.out]
            simp)
          go_wp2
          go_ret2
          exact OfIs.bad HE.out (by decide) ((HX2.out.own HX.out (Nat.le_refl _)).trans hx3)
        | true =>
          by_cases hfull : most < xs.length
          · have HE := Lib.hid (show ofErr most clock xs = 50 by
              unfold ofErr
              rw [if_neg HR.out, HF.out, HSB.out]
              simp [hfull])
            go_wp2
            go_ret2
            exact OfIs.bad HE.out (by decide) ((HX2.out.own HX.out (Nat.le_refl _)).trans hx3)
          · have HE := Lib.hid (show ofErr most clock xs = 0 by
              unfold ofErr
              rw [if_neg HR.out, HF.out, HSB.out]
              simp [hfull])
            go_wp2
            go_ret2
            exact OfIs.good HE.out ((HX2.out.own HX.out (Nat.le_refl _)).trans hx3) (by omega) (by omega) (HT3.out.ext hx3)
end Go.Proofs.YtnlmbmbalmkiiaaGreat

/- Walks: tollerref14.Of. -/
namespace Go.Proofs.YtnlmbmbalmkiiaaGreat
open Go.RowKit
set_option linter.unusedVariables false
set_option linter.unusedSimpArgs false
attribute [local go_sem ↓] Go.wp_at_zero Go.wp_at_succ

/-- a slice of slots, as news -/
theorem SlotsAt.news {w : World} {ad : Addr} {n c : Nat} {l : List Slot} (h : SlotsAt w (.slice (some ad) n c) l) : ∀ j u, (flatE Slot.cells l)[j]? = some u → w.cell? (ad.add j) = some u := by
  intro j u hu
  obtain ⟨a', c', hv, hf⟩ := h
  have hj : j < l.length * 8 := by
    rcases Nat.lt_or_ge j (flatE Slot.cells l).length with q | q
    · rwa [flatE_len slot_size] at q
    · rw [List.getElem?_eq_none q] at hu; cases hu
  obtain ⟨b, o, ha, hc⟩ := hf (fun e => by rw [e] at hj; simp at hj)
  have hjd : j / 8 < l.length := by omega
  have hjm : j % 8 < 8 := by omega
  have e1 : j = j / 8 * 8 + j % 8 := by omega
  rw [e1, flatE_get slot_size _ (j / 8) (j % 8) hjd hjm] at hu
  have h1 := hc (j / 8) hjd (j % 8) hjm
  rw [← e1, hu] at h1
  have hcx : a' = some ad := by cases hv; rfl
  rw [hcx] at ha
  cases ha
  have e2 : ((⟨b, o, none⟩ : Addr).add j) = ⟨b, o + j, none⟩ := by
    unfold Addr.add
    split
    · rename_i q
      have q' : j = 0 := by simpa using q
      rw [q']
      rfl
    · rfl
  rw [e2]
  exact h1

/-- what tollerref14.Of hands back -/
def RofIs (w : World) (most clock : Int) (xs : List Slot) (x : Ending) (w' : World) : Prop :=
  ∃ M C v', x = .returned (.tuple #[.agg #[.int .i64 M, .int .u64 C, v'], .int .i64 (ofErr most clock xs)]) ∧ Ext w w' ∧ (∃ a n c, v' = .slice a n c) ∧
    (ofErr most clock xs = 0 → M = most ∧ C = clock ∧ SlotRow w.heap.size w' v' xs)
theorem RofIs.bad {w w' : World} {most clock E : Int} {xs : List Slot} (hE : ofErr most clock xs = E) (h0 : E ≠ 0) (hx : Ext w w') : RofIs w most clock xs (.returned (.tuple #[.agg #[.int .i64 0, .int .u64 0, .slice none 0 0], .int .i64 E])) w' :=
  ⟨0, 0, .slice none 0 0, by rw [hE], hx, ⟨_, _, _, rfl⟩, fun h => absurd (hE.symm.trans h) h0⟩

theorem RofIs.good {w w' : World} {most clock : Int} {xs : List Slot} {va : Option Addr} {n vc : Nat} (hE : ofErr most clock xs = 0) (hx : Ext w w') (hr : SlotRow w.heap.size w' (.slice va n vc) xs) :
    RofIs w most clock xs (.returned (.tuple #[.agg #[.int .i64 most, .int .u64 clock, .slice va n vc], .int .i64 0])) w' :=
  ⟨most, clock, .slice va n vc, by rw [hE], hx, ⟨_, _, _, rfl⟩, fun _ => ⟨rfl, rfl, hr⟩⟩

set_option maxHeartbeats 8000000 in
set_option maxRecDepth 100000 in
theorem ref14_Of (most clock : Int) (v : Value) (xs : List Slot) (w : World) (hv : SlotsAt w v xs) (hnil : ∀ n c, v = .slice none n c → v = .slice none 0 0) (hs : ∀ s ∈ xs, SlotOk s) (hlen : xs.length ≤ 1000000) (hn0 : 0 ≤ clock) (hn1 : clock < 18446744073709551616) (hm0 : -9223372036854775808 ≤ most) (hm1 : most ≤ 9223372036854775807) :
    Calls Tryz.prog 23 #[.int .i64 most, .int .u64 clock, v] w fun x w' => RofIs w most clock xs x w' := by
  obtain ⟨a, cp, rfl⟩ := hv.size
  have HV := Lib.hid hv
  have HS := Lib.hid hs
  have HNIL := Lib.hid hnil
  clear hv hs hnil
  have hml : (1000000 : Nat) + 1 ≤ maxLen := by decide
  have bR := Blk.new w #[.int .i64 0, .int .u64 0, .slice none 0 0] 47
  have hxr : Ext w (w.alloc (.cells #[.int .i64 0, .int .u64 0, .slice none 0 0] 47)) := (Ext.refl w).alloc _
  have hcr := bR.cell
  have hfr := bR.free
  have hlr := bR.lt
  by_cases hr : most < 1 ∨ 1000000 < most
  · have HE := Lib.hid (show ofErr most clock xs = 29 by unfold ofErr; rw [if_pos hr])
    by_cases h1 : most < 1
    · go_enter Tryz.func23, Tryz.ntmps23
      go_wp2
      refine ret_cell_tmp Tryz.results23 rfl rfl bR Tryz.underlying47 rfl (by kernel_rfl) ?_
      exact RofIs.bad HE.out (by decide) hxr
    · have h2 : 1000000 < most := by omega
      go_enter Tryz.func23, Tryz.ntmps23
      go_wp2
      refine ret_cell_tmp Tryz.results23 rfl rfl bR Tryz.underlying47 rfl (by kernel_rfl) ?_
      exact RofIs.bad HE.out (by decide) hxr
  · have h1 : ¬ most < 1 := by omega
    have h2 : ¬ 1000000 < most := by omega
    have HR := Lib.hid hr
    clear hr hcr hfr hlr
    go_enter Tryz.func23, Tryz.ntmps23
    have bT := Blk.new' (w.alloc (.cells #[.int .i64 0, .int .u64 0, .slice none 0 0] 47)) #[.int .i64 most, .int .u64 clock, .slice none 0 0] 47 (b := w.heap.size + 1) (by simp)
    have bR2 := bR.alloc (.cells #[.int .i64 most, .int .u64 clock, .slice none 0 0] 47)
    have hx2 := hxr.alloc (.cells #[.int .i64 most, .int .u64 clock, .slice none 0 0] 47)
    go_wp2_with fail
    generalize (w.alloc (.cells #[.int .i64 0, .int .u64 0, .slice none 0 0] 47)).alloc (.cells #[.int .i64 most, .int .u64 clock, .slice none 0 0] 47) = w2 at *
    have hlt2 := bT.lt
    have HR2 := Lib.hid bR2
    have HT2 := Lib.hid bT
    have HX2 := Lib.hid hx2
    clear bR bT bR2 hx2 hxr
    go_loopw [9] (fun i wr => ∃ (k : Nat), k ≤ xs.length ∧ i = .int .i64 k ∧ (∀ i (hi : i < xs.length), i < k → slotErr clock xs[i] = 0) ∧ Ext w2 wr) (fun i _ => xs.length - (intOf i).toNat)
    case atStart => exact ⟨0, by omega, rfl, fun i _ h => by omega, Ext.refl _⟩
    case round =>
      obtain ⟨k, hk, rfl, hgood, hx⟩ := hrel
      have HGOOD := Lib.hid hgood
      have HX := Lib.hid (HX2.out.trans hx)
      clear hgood
      have hsz := hx.sz
      by_cases hlt : k < xs.length
      · obtain ⟨b, oo, rfl, hbl, e0, e1, e2, e3, e4, e5, e6, e7⟩ := (HV.out.ext HX.out).cells k hlt
        have bRr := HR2.out.ext hx
        have bTr := HT2.out.ext hx
        have g0 : wr.cell? ⟨w.heap.size + 1, 0, none⟩ = some (.int .i64 most) := bTr.cell 0
        have g1 : wr.cell? ⟨w.heap.size + 1, 1, none⟩ = some (.int .u64 clock) := bTr.cell 1
        have g2 : wr.cell? ⟨w.heap.size + 1, 2, none⟩ = some (.slice none 0 0) := bTr.cell 2
        have hso := HS.out xs[k] (List.getElem_mem _)
        have HBAD := Lib.hid (fun he => firstErr_at clock xs k hlt (fun i hi => HGOOD.out i (by omega) hi) he)
        have HNEXT := Lib.hid (fun (he : slotErr clock xs[k] = 0) i (hi : i < xs.length) (hik : i < k + 1) => show slotErr clock xs[i] = 0 from by
          by_cases q : i = k
          · subst q; exact he
          · exact HGOOD.out i hi (by omega))
        have HRF := Lib.hid (fun W => ref14_fill most clock none 0 0 xs[k] W hso hn0 hn1)
        have hF := kFill_u xs[k].sk xs[k].sa xs[k].sb clock xs[k].cap hso.sa0 hso.sa1 hso.sb0 hn0 hn1 (ruleCap_u _ _ _ _ hso.e0 hso.b0).1 (by have := (ruleCap_u xs[k].p xs[k].e xs[k].b xs[k].rk hso.e0 hso.b0).2; unfold Slot.cap; omega)
        have hF' : 0 ≤ xs[k].fill clock ∧ xs[k].fill clock < 18446744073709551616 := hF
        have HSED := Lib.hid (slotErr_def clock xs[k].key xs[k].p xs[k].e xs[k].b xs[k].rk xs[k].sk xs[k].sa xs[k].sb)
        have hxk : (⟨xs[k].key, xs[k].p, xs[k].e, xs[k].b, xs[k].rk, xs[k].sk, xs[k].sa, xs[k].sb⟩ : Slot) = xs[k] := rfl
        rw [hxk] at HSED
        clear hF hxk
        generalize hse : slotErr clock xs[k] = se at *
        generalize hfl : xs[k].fill clock = fl at *
        clear hse hfl
        obtain ⟨hf0, hf1⟩ := hF'
        generalize xs[k] = s at *
        obtain ⟨s1, s2, s3, s4, s5, s6, s7, s8⟩ := s
        obtain ⟨m1, m2, u1, u2, u3, u4, u5, u6, u7, u8, u9, u10, u11, u12⟩ := hso
        simp only [Slot.val, Slot.cells] at m1 m2 u1 u2 u3 u4 u5 u6 u7 u8 u9 u10 u11 u12 e0 e1 e2 e3 e4 e5 e6 e7 HRF HSED
        have hcu := ruleCap_u s2 s3 s4 s5 u1 u3
        have hru := ruleErr_b s2 s3 s4 s5
        have HKR := Lib.hid (fun W => ref09_Right s1 W m1)
        have HRR := Lib.hid (fun W => ref11_Right s2 s3 s4 s5 W m2 u1 u2 u3 u4)
        have HKK := Lib.hid (fun W => ref07_Right s6 W)
        have HRC := Lib.hid (fun W => ref11_Cap s2 s3 s4 s5 W m2 u1 u2 u3 u4)
        generalize keyOk s1 = kb at *
        generalize ruleErr s2 s3 s4 s5 = er at *
        generalize ruleCap s2 s3 s4 s5 = cp' at *
        generalize rightKind s6 = rt at *
        obtain ⟨hcu0, hcu1⟩ := hcu
        obtain ⟨hru0, hru1⟩ := hru
        generalize hoo : oo + k * 8 = ob at *
        have hOF : ∀ E, se = E → E ≠ 0 → ofErr most clock xs = E := by
          rintro E rfl h0
          unfold ofErr
          rw [if_neg HR.out, HBAD.out h0, if_pos h0]
        have HOF := Lib.hid hOF
        clear hOF
        go_wp2_with fail
        refine (HKR.out _).mono ?_
        rintro x w3 ⟨rfl, rfl⟩
        cases kb with
        | false =>
          have HE := Lib.hid (HOF.out 12 (by rw [HSED.out]; rfl) (by decide))
          have hcr := bRr.cell
          have hfr := bRr.free
          have hlr := bRr.lt
          go_wp2
          refine ret_cell_tmp Tryz.results23 rfl rfl (Blk.set3 bRr (.int .i64 0) (.int .u64 0) (.slice none 0 0)) Tryz.underlying47 rfl (by kernel_rfl) ?_
          exact RofIs.bad HE.out (by decide) (((HX.out.setCell (Nat.le_refl _) _).setCell (Nat.le_refl _) _).setCell (Nat.le_refl _) _)
        | true =>
        go_wp2_with fail
        refine (HRR.out _).mono ?_
        rintro x w4 ⟨rfl, hx4⟩
        have e0 := hx4.keep e0
        have e1 := hx4.keep e1
        have e2 := hx4.keep e2
        have e3 := hx4.keep e3
        have e4 := hx4.keep e4
        have e5 := hx4.keep e5
        have e6 := hx4.keep e6
        have e7 := hx4.keep e7
        have bRr := bRr.ext hx4
        have bTr := bTr.ext hx4
        have hxw := HX.out.trans hx4
        by_cases her : er = 0
        · subst her
          have hq0 : ((0 : Int) == 0) = true := rfl
          clear g0 g1 g2
          have g0 : w4.cell? ⟨w.heap.size + 1, 0, none⟩ = some (.int .i64 most) := bTr.cell 0
          have g1 : w4.cell? ⟨w.heap.size + 1, 1, none⟩ = some (.int .u64 clock) := bTr.cell 1
          have g2 : w4.cell? ⟨w.heap.size + 1, 2, none⟩ = some (.slice none 0 0) := bTr.cell 2
          go_wp2_with fail
          refine (HKK.out _).mono ?_
          rintro x w5 ⟨rfl, rfl⟩
          cases rt with
          | false =>
            have HE := Lib.hid (HOF.out 27 (by rw [HSED.out]; rfl) (by decide))
            have hcr := bRr.cell
            have hfr := bRr.free
            have hlr := bRr.lt
            go_wp2
            refine ret_cell_tmp Tryz.results23 rfl rfl (Blk.set3 bRr (.int .i64 0) (.int .u64 0) (.slice none 0 0)) Tryz.underlying47 rfl (by kernel_rfl) ?_
            exact RofIs.bad HE.out (by decide) (((hxw.setCell (Nat.le_refl _) _).setCell (Nat.le_refl _) _).setCell (Nat.le_refl _) _)
          | true =>
          have p0 : ∀ s, (grown w4 s).cell? ⟨w.heap.size + 1, 0, none⟩ = some (.int .i64 most) := grown_cell g0
          have p1 : ∀ s, (grown w4 s).cell? ⟨w.heap.size + 1, 1, none⟩ = some (.int .u64 clock) := grown_cell g1
          have p2 : ∀ s, (grown w4 s).cell? ⟨w.heap.size + 1, 2, none⟩ = some (.slice none 0 0) := grown_cell g2
          have q0 : ∀ s, (grown w4 s).cell? ⟨b, ob, none⟩ = some (.string s1) := grown_cell e0
          have q1 : ∀ s, (grown w4 s).cell? ⟨b, ob + 1, none⟩ = some (.string s2) := grown_cell e1
          have q2 : ∀ s, (grown w4 s).cell? ⟨b, ob + 2, none⟩ = some (.int .u64 s3) := grown_cell e2
          have q3 : ∀ s, (grown w4 s).cell? ⟨b, ob + 3, none⟩ = some (.int .u64 s4) := grown_cell e3
          have q4 : ∀ s, (grown w4 s).cell? ⟨b, ob + 4, none⟩ = some (.int .u8 s5) := grown_cell e4
          have q5 : ∀ s, (grown w4 s).cell? ⟨b, ob + 5, none⟩ = some (.int .u8 s6) := grown_cell e5
          have q6 : ∀ s, (grown w4 s).cell? ⟨b, ob + 6, none⟩ = some (.int .u64 s7) := grown_cell e6
          have q7 : ∀ s, (grown w4 s).cell? ⟨b, ob + 7, none⟩ = some (.int .u64 s8) := grown_cell e7
          have hk0 : (0 : Int) ≤ (k : Int) := by omega
          have hk1 : (k : Int) < (xs.length : Int) := by omega
          clear g0 g1 g2 e0 e1 e2 e3 e4 e5 e6 e7
          by_cases hfz : fl = 0
          · subst hfz
            have hd0 : ((0 : Int) == 0) = true := rfl
            go_upto_region 13 with fail
            refine wp_region_grow (by kernel_rfl) (by kernel_rfl) ?_
            repeat (go_big_quiet_step (first
              | (go_at_call 50; exact grow_call (HRF.out _))))
            refine wpQuiet_nil ?_
            rintro _ ⟨sg, rfl⟩
            have hxg := grown_ext w4 sg
            have bRr := bRr.ext hxg
            have hxw := hxw.trans hxg
            generalize grown w4 sg = w6 at *
            clear p0 p1 p2 q0 q1 q2 q3 q4 q5 q6 q7
            have HE := Lib.hid (HOF.out 44 (by rw [HSED.out]; simp) (by decide))
            have hcr := bRr.cell
            have hfr := bRr.free
            have hlr := bRr.lt
            go_wp2
            refine ret_cell_tmp Tryz.results23 rfl rfl (Blk.set3 bRr (.int .i64 0) (.int .u64 0) (.slice none 0 0)) Tryz.underlying47 rfl (by kernel_rfl) ?_
            exact RofIs.bad HE.out (by decide) (((hxw.setCell (Nat.le_refl _) _).setCell (Nat.le_refl _) _).setCell (Nat.le_refl _) _)
          · have hd0 : (fl == 0) = false := by simpa using hfz
            go_upto_region 13 with fail
            refine wp_region_grow (by kernel_rfl) (by kernel_rfl) ?_
            repeat (go_big_quiet_step (first
              | (go_at_call 50; exact grow_call (HRF.out _))
              | (go_at_call 25; exact grow_call (HRC.out _))))
            refine wpQuiet_nil ?_
            rintro _ ⟨sg, rfl⟩
            have hxg := grown_ext w4 sg
            have bRr := bRr.ext hxg
            have hxw := hxw.trans hxg
            have hx6 : Ext w2 (grown w4 sg) := (hx.trans hx4).trans hxg
            generalize grown w4 sg = w6 at *
            clear p0 p1 p2 q0 q1 q2 q3 q4 q5 q6 q7
            by_cases hbig : cp' < fl
            · have HE := Lib.hid (HOF.out 44 (by rw [HSED.out]; simp [hbig]) (by decide))
              have hcr := bRr.cell
              have hfr := bRr.free
              have hlr := bRr.lt
              go_wp2
              refine ret_cell_tmp Tryz.results23 rfl rfl (Blk.set3 bRr (.int .i64 0) (.int .u64 0) (.slice none 0 0)) Tryz.underlying47 rfl (by kernel_rfl) ?_
              exact RofIs.bad HE.out (by decide) (((hxw.setCell (Nat.le_refl _) _).setCell (Nat.le_refl _) _).setCell (Nat.le_refl _) _)
            · have HZ := Lib.hid (show se = 0 by rw [HSED.out]; simp [hbig, hfz])
              go_wp2
              go_roundw
              case rel => exact ⟨k + 1, by omega, by go_num, fun i hi hik => HNEXT.out HZ.out i hi hik, hx6⟩
              case measure => simp [intOf]; omega
        · have hq : (er == 0) = false := by simpa using her
          have hq2 : (er != 0) = true := by simpa using her
          have HE := Lib.hid (HOF.out er (by rw [HSED.out]; simp [her]) her)
          go_wp2_with fail
          refine (HRR.out _).mono ?_
          rintro x w5 ⟨rfl, hx5⟩
          have bRr := bRr.ext hx5
          have hxw := hxw.trans hx5
          have hcr := bRr.cell
          have hfr := bRr.free
          have hlr := bRr.lt
          go_wp2
          refine ret_cell_tmp Tryz.results23 rfl rfl (Blk.set3 bRr (.int .i64 0) (.int .u64 0) (.slice none 0 0)) Tryz.underlying47 rfl (by kernel_rfl) ?_
          exact RofIs.bad HE.out her (((hxw.setCell (Nat.le_refl _) _).setCell (Nat.le_refl _) _).setCell (Nat.le_refl _) _)
      · obtain rfl : k = xs.length := by omega
        have HF := Lib.hid (firstErr_no clock xs fun i hi => HGOOD.out i hi hi)
        have HXR := Lib.hid hx
        clear hx
        go_wp2
        go_loopw [10] (fun i wx => ∃ (k : Nat), 1 ≤ k ∧ (k ≤ xs.length ∨ k = 1) ∧ i = .int .i64 k ∧ Up (xs.map (·.key)) k ∧ Ext w2 wx) (fun i _ => xs.length - (intOf i).toNat)
        case atStart => exact ⟨1, by omega, Or.inr rfl, rfl, fun i h1 h2 => by omega, HXR.out⟩
        case round =>
          clear HXR HX hk hlt hsz
          obtain ⟨k, hk1, hk2, rfl, hup, hx⟩ := hrel
          have HUP := Lib.hid hup
          have HX := Lib.hid (HX2.out.trans hx)
          have HXr := Lib.hid hx
          clear hup
          by_cases hlt : k < xs.length
          · obtain ⟨j, rfl⟩ : ∃ j : Nat, k = j + 1 := ⟨k - 1, by omega⟩
            obtain ⟨b, oo, rfl, hbl, e0, -⟩ := (HV.out.ext HX.out).cells j (by omega)
            obtain ⟨b', oo', hbb, -, e1, -⟩ := (HV.out.ext HX.out).cells (j + 1) hlt
            cases hbb
            have hs0 := (HS.out xs[j] (List.getElem_mem _)).key
            have hs1 := (HS.out xs[j + 1] (List.getElem_mem _)).key
            have hlm : j + 1 < (xs.map (·.key)).length := by rw [List.length_map]; exact hlt
            have HST := Lib.hid (fun e => Up.step HUP.out hlm hk1 e)
            have HSP := Lib.hid (fun e => Up.stop (l := xs.map (·.key)) hlm hk1 e)
            simp only [Nat.add_sub_cancel, List.getElem_map] at HST HSP
            have HLS := Lib.hid (fun W : World => ref09_Less xs[j].key xs[j + 1].key W hs0 hs1)
            generalize hV : keyLt xs[j].key xs[j + 1].key = V at *
            generalize xs[j].key = s0 at *
            generalize xs[j + 1].key = s1 at *
            clear hV hs0 hs1 hlm
            generalize ho0 : oo + j * 8 = o0 at *
            generalize ho1 : oo + (j + 1) * 8 = o1 at *
            have g0 : ∀ s, (grown wr s).cell? ⟨b, o0, none⟩ = some (.string s0) := grown_cell e0
            have g1 : ∀ s, (grown wr s).cell? ⟨b, o1, none⟩ = some (.string s1) := grown_cell e1
            have i0 : (0 : Int) ≤ (j : Int) := by omega
            have i1 : (j : Int) < (xs.length : Int) := by omega
            have i2 : (0 : Int) ≤ ((j + 1 : Nat) : Int) := by omega
            have i3 : ((j + 1 : Nat) : Int) < (xs.length : Int) := by omega
            have bRr := HR2.out.ext hx
            clear e0 e1 hx
            go_upto_region 18 with fail
            refine wp_region_grow (by kernel_rfl) (by kernel_rfl) ?_
            repeat (go_big_quiet_step ((go_at_call 64; exact grow_call (HLS.out _))))
            refine wpQuiet_nil ?_
            rintro _ ⟨sg, rfl⟩
            have hxg := grown_ext wr sg
            have bRr := bRr.ext hxg
            have hxw := HX.out.trans hxg
            have hx6 := HXr.out.trans hxg
            generalize grown wr sg = w6 at *
            clear g0 g1 i0 i1 i2 i3
            cases V with
            | true =>
              go_wp2
              go_roundw
              case rel => exact ⟨j + 1 + 1, by omega, by omega, by go_num, HST.out (by trivial), hx6⟩
              case measure => simp [intOf]; omega
            | false =>
              have HE := Lib.hid (show ofErr most clock xs = 42 by
                unfold ofErr
                rw [if_neg HR.out, HF.out, HSP.out (by trivial)]
                simp)
              have hcr := bRr.cell
              have hfr := bRr.free
              have hlr := bRr.lt
              go_wp2
              refine ret_cell_tmp Tryz.results23 rfl rfl (Blk.set3 bRr (.int .i64 0) (.int .u64 0) (.slice none 0 0)) Tryz.underlying47 rfl (by kernel_rfl) ?_
              exact RofIs.bad HE.out (by decide) (((hxw.setCell (Nat.le_refl _) _).setCell (Nat.le_refl _) _).setCell (Nat.le_refl _) _)
          · have hsb : sortedB (xs.map (·.key)) = true := by
              rw [sortedB_iff]
              intro i h1 h2
              exact HUP.out i h1 (by rw [List.length_map] at h1; omega)
            have HSB := Lib.hid hsb
            clear hsb
            have bRr := HR2.out.ext hx
            have bTr := HT2.out.ext hx
            by_cases hfull : most < xs.length
            · have HE := Lib.hid (show ofErr most clock xs = 50 by
                unfold ofErr
                rw [if_neg HR.out, HF.out, HSB.out]
                simp [hfull])
              have hcr := bRr.cell
              have hfr := bRr.free
              have hlr := bRr.lt
              go_wp2
              refine ret_cell_tmp Tryz.results23 rfl rfl (Blk.set3 bRr (.int .i64 0) (.int .u64 0) (.slice none 0 0)) Tryz.underlying47 rfl (by kernel_rfl) ?_
              exact RofIs.bad HE.out (by decide) (((HX.out.setCell (Nat.le_refl _) _).setCell (Nat.le_refl _) _).setCell (Nat.le_refl _) _)
            · have HE := Lib.hid (show ofErr most clock xs = 0 by
                unfold ofErr
                rw [if_neg HR.out, HF.out, HSB.out]
                simp [hfull])
              have hct := bTr.cell
              have hft := bTr.free
              have hlt2 := bTr.lt
              obtain ⟨i0, hi, hz0, hz1, hz2⟩ := info_parts slot_info
              have HI := Lib.hid (And.intro hi (And.intro hz0 (And.intro hz1 hz2)))
              clear hi hz0 hz1 hz2
              have hvr := HV.out.ext HX.out
              cases a with
              | none =>
                have hz := HNIL.out _ _ rfl
                obtain ⟨hz1, hz2⟩ : xs.length = 0 ∧ cp = 0 := by injection hz with _ e1 e2; exact ⟨e1, e2⟩
                have hxe : xs = [] := List.eq_nil_of_length_eq_zero hz1
                subst hxe
                subst hz2
                clear hz hvr
                have hcr := bRr.cell
                have hfr := bRr.free
                have hlr := bRr.lt
                have hne : w.heap.size ≠ w.heap.size + 1 := by omega
                go_wp2_with (first
                  | (at_builtin; refine wpList_append_own_none rfl (.tmp 107) (.tmp 108) 28 rfl wr.heap.size 69 i0 8 Tryz.underlying28 HI.out.1 (.slice none 0 0) 0 [] rfl (World.ownsRow_nil _ _ _ _) rfl ?_)
                  | fail)
                refine ret_cell_tmp Tryz.results23 rfl rfl (Blk.set3 (bRr.other (by dsimp only; omega) _) (.int .i64 most) (.int .u64 clock) (.slice none 0 0)) Tryz.underlying47 rfl (by kernel_rfl) ?_
                exact RofIs.good HE.out ((((HX.out.setCell (by dsimp only; omega) _).setCell (Nat.le_refl _) _).setCell (Nat.le_refl _) _).setCell (Nat.le_refl _) _) (RowOf.empty _ _ _ _ _)
              | some ad =>
                have HNW := Lib.hid hvr.news
                have HLF := Lib.hid (flatE_len slot_size xs)
                clear hvr
                go_wp2_with (first
                  | (at_builtin; refine wpList_append_own _ rfl (.tmp 107) (.tmp 108) 28 rfl wr.heap.size 69 i0 slot0.val 8 80 Tryz.underlying28 HI.out.1 HI.out.2.1 HI.out.2.2.1 HI.out.2.2.2 rfl (by decide) (.slice none 0 0) 0 [] rfl (World.ownsRow_nil _ _ _ _) ad xs.length cp (flatE Slot.cells xs) rfl HLF.out HNW.out flat_one (by omega) (by omega) (Nat.le_refl _) ?_; rintro v6 w6 hown6 hgrow6 hn6; have hrow6 : SlotRow wr.heap.size w6 v6 xs := RowOf.mk' hown6 (by simp) (by simp) (hn6.trans (by simp)); have hx6 : Ext wr w6 := Ext.grownAt (Ext.refl _) (World.ownsRow_nil _ _ 69 8) (Nat.le_refl _) hgrow6; obtain ⟨va, vc, rfl⟩ := hrow6.size; have bT6 := bTr.ext hx6; have hct := bT6.cell; have hft := bT6.free; have hlt2 := bT6.lt; have bR6 := bRr.ext hx6; have hcr := bR6.cell; have hfr := bR6.free; have hlr := bR6.lt)
                  | fail)
                refine ret_cell_tmp Tryz.results23 rfl rfl (Blk.set3 (bR6.other (by dsimp only; omega) _) (.int .i64 most) (.int .u64 clock) (.slice va xs.length vc)) Tryz.underlying47 rfl (by kernel_rfl) ?_
                have hrow7 : SlotRow w.heap.size w6 (.slice va xs.length vc) xs := hrow6.low HX.out.sz
                exact RofIs.good HE.out (((((HX.out.trans hx6).setCell (by dsimp only; omega) _).setCell (Nat.le_refl _) _).setCell (Nat.le_refl _) _).setCell (Nat.le_refl _) _) ((hrow7.setOther bT6 (by decide) _ _).set3Other (bR6.other (by dsimp only; omega) _) (by decide) _ _ _)
end Go.Proofs.YtnlmbmbalmkiiaaGreat

/- Walks: tollerlaw14.Slots. -/
namespace Go.Proofs.YtnlmbmbalmkiiaaGreat
open Go.RowKit
set_option linter.unusedVariables false
set_option linter.unusedSimpArgs false
attribute [local go_sem ↓] Go.wp_at_zero Go.wp_at_succ

theorem one_string (g k : Nat) (hk : k < 10) (w : World) (h : w.cell? ⟨g, 0, none⟩ = some (.int .u8 (97 + (k : Int)))) :
    ∃ s : ByteArray, s.size = 1 ∧ (convert 34 9 (.slice (some ⟨g, 0, none⟩) 1 1)).run Tryz.prog w = .ok (.string s) w := by
  refine ⟨⟨[UInt8.ofNat (97 + k)].toArray⟩, rfl, ?_⟩
  refine run_convert_bytes_back w 34 9 5 ⟨g, 0, none⟩ _ [UInt8.ofNat (97 + k)] Tryz.underlying34 Tryz.underlying5 Tryz.underlying9 ?_
  intro j hj
  have : j = 0 := by simpa using hj
  subst this
  have e : (⟨g, 0, none⟩ : Addr).add 0 = ⟨g, 0, none⟩ := by simp [Addr.add]
  have e2 : ((UInt8.ofNat (97 + k)).toNat : Int) = 97 + (k : Int) := by
    rw [UInt8.toNat_ofNat']
    omega
  rw [e, h]
  show some (Value.int .u8 (97 + (k : Int))) = some (Value.int .u8 ((UInt8.ofNat (97 + k)).toNat : Int))
  rw [e2]
theorem append_size (a b : ByteArray) : (a ++ b).size = a.size + b.size := by simp

theorem wp_gen {P : Program} {c : Code} {Q : Exit → Act → World → Prop} {a : Act} {W : World} (h : ∀ W', W' = W → c.wp P Q a W') : c.wp P Q a W := h W rfl

/-- what tollerlaw14.Slots hands back -/
def SlotsIs (w : World) (x : Ending) (w' : World) : Prop := ∃ v xs, x = .returned v ∧ SlotRow w.heap.size w' v xs ∧ xs.length ≤ 10 ∧ (∀ s ∈ xs, SlotOk s) ∧ Ext w w'

set_option maxHeartbeats 8000000 in
set_option maxRecDepth 100000 in
theorem law14_Slots (v : Value) (ds : List Deed) (now : Int) (w : World) (hv : DeedSlice w v ds) (hn0 : 0 ≤ now) (hn1 : now < 18446744073709551616) :
    Calls Tryz.prog 9 #[v, .int .u64 now] w fun x w' => SlotsIs w x w' := by
  obtain ⟨⟨a, c, rfl, hl⟩, hlen, heach⟩ := hv
  unfold maxLen at hlen
  have HL := Lib.hid hl
  have HE := Lib.hid heach
  clear hl heach
  obtain ⟨i0, hi, hz0, hz1, hz2⟩ := info_parts slot_info
  have HI := Lib.hid (And.intro hi (And.intro hz0 (And.intro hz1 hz2)))
  have hml : (1000000 : Nat) + 1 ≤ maxLen := by decide
  clear hi hz0 hz1 hz2
  go_enter Tryz.func9, Tryz.ntmps9
  go_wp2
  go_loopw [5, 6] (fun o i wr => ∃ (k : Nat) (xs : List Slot), k ≤ ds.length ∧ k ≤ 10 ∧ i = .int .i64 k ∧ SlotRow w.heap.size wr o xs ∧ xs.length = k ∧ (∀ s ∈ xs, SlotOk s) ∧ Ext w wr) (fun _ i _ => ds.length - (intOf i).toNat)
  case atStart => exact ⟨0, [], by omega, by omega, rfl, RowOf.empty _ _ _ _ _, rfl, fun s h => (by cases h), Ext.refl _⟩
  case round =>
    obtain ⟨k, xs, hk, hk10, rfl, hrow, hxl, hok, hx⟩ := hrel
    have HROW := Lib.hid hrow
    have HOK := Lib.hid hok
    have HX := Lib.hid hx
    clear hrow hok
    by_cases hlt : k < ds.length ∧ k < 10
    · obtain ⟨hl1, hl2⟩ := hlt
      obtain ⟨b, oo, rfl, hcc⟩ := HL.out (by intro e; rw [e] at hl1; simp at hl1)
      have hdd := HE.out ds[k] (List.getElem_mem _)
      obtain ⟨d0, d1, d2, d3, d4, d5, d6⟩ := deed_cells hcc hx k hl1
      generalize ds[k] = dd at *
      obtain ⟨hdk0, hdk1, hdw0, hdw1, hdb0, hdb1, -, hdr0, hdr1, hdn0, hdn1, hdt0, hdt1⟩ := hdd
      generalize dd.kind = dk at *
      generalize dd.wait = dw at *
      generalize dd.rule = dr at *
      generalize dd.to = dt at *
      have htr : dr.tmod 240 = dr % 240 := Int.tmod_eq_emod_of_nonneg hdr0
      obtain ⟨f1, f2, f3, f4, f5, f6, f7⟩ := rule_bounds (j := dr % 240) (by omega) (by omega)
      obtain ⟨k1, k2, k3, k4, k5, k6⟩ := rule_ok (j := dr % 240) (by omega) (by omega)
      have hrl := fun W => law14_Rule (dr % 240) W (by omega) (by omega)
      unfold ruleV at hrl
      have hcap : ruleCap (rP (dr % 240)) (rE (dr % 240)) (rB (dr % 240)) (rK (dr % 240)) = rE (dr % 240) * rB (dr % 240) := by unfold ruleCap; rw [if_pos k1]
      have hcp0 : 0 < rE (dr % 240) * rB (dr % 240) := Int.mul_pos k4 k5
      have hrc := fun W => ref11_Cap (rP (dr % 240)) (rE (dr % 240)) (rB (dr % 240)) (rK (dr % 240)) W f7 f1 f2 f3 f4
      rw [hcap] at hrc
      generalize rE (dr % 240) * rB (dr % 240) = cap at *
      generalize rP (dr % 240) = p2 at *
      generalize rE (dr % 240) = e2 at *
      generalize rB (dr % 240) = b2 at *
      generalize rK (dr % 240) = k2 at *
      have HRL := Lib.hid hrl
      have HRC := Lib.hid hrc
      clear hrl hrc hcap hcc d2 d3 d5
      generalize hob : oo + k * 7 = ob at *
      have ht240 : IntKind.u8.wrap (dr % 240) = dr % 240 := by simp [IntKind.wrap, IntKind.signed, IntKind.bits]; omega
      go_wp2_with fail
      refine (HRL.out _).mono ?_
      rintro x w3 ⟨rfl, hx3⟩
      have bB := Blk.new w3 #[.string p2, .int .u64 e2, .int .u64 b2, .int .u8 k2] 41
      have hxB : Ext wr (w3.alloc (.cells #[.string p2, .int .u64 e2, .int .u64 b2, .int .u8 k2] 41)) := hx3.alloc _
      have hB3 := hx3.sz
      have HD := Lib.hid (And.intro d0 (And.intro d1 d6))
      clear d0 d1 d4 d6
      go_upto_region 6 with fail
      generalize w3.alloc (.cells #[.string p2, .int .u64 e2, .int .u64 b2, .int .u8 k2] 41) = w4 at *
      have q0 : ∀ s, (grown w4 s).cell? ⟨w3.heap.size, 0, none⟩ = some (.string p2) := grown_cell (bB.cell 0)
      have q1 : ∀ s, (grown w4 s).cell? ⟨w3.heap.size, 1, none⟩ = some (.int .u64 e2) := grown_cell (bB.cell 1)
      have q2 : ∀ s, (grown w4 s).cell? ⟨w3.heap.size, 2, none⟩ = some (.int .u64 b2) := grown_cell (bB.cell 2)
      have q3 : ∀ s, (grown w4 s).cell? ⟨w3.heap.size, 3, none⟩ = some (.int .u8 k2) := grown_cell (bB.cell 3)
      have d1 : ∀ s, (grown w4 s).cell? ⟨b, ob + 1, none⟩ = some (.int .u32 dw) := grown_cell (hxB.keep HD.out.2.1)
      have hk0 : (0 : Int) ≤ (k : Int) := by omega
      have hk1 : (k : Int) < (ds.length : Int) := by omega
      have hwd : IntKind.u64.wrap dw = dw := by rw [wrap_u64]; omega
      have hne : (cap == 0) = false := by simp; omega
      have hfm0 : dw.tmod cap = dw % cap := Int.tmod_eq_emod_of_nonneg hdw0
      have hfm1 := Int.emod_nonneg dw (show cap ≠ 0 by omega)
      have hfm2 := Int.emod_lt_of_pos dw hcp0
      generalize dw % cap = fm at *
      have hfs : IntKind.u64.wrap (1 + fm) = 1 + fm := by rw [wrap_u64]; have := k6.1; omega
      have hfs2 : IntKind.u64.wrap fm = fm := by rw [wrap_u64]; have := k6.1; omega
      refine wp_region_grow (by kernel_rfl) (by kernel_rfl) ?_
      repeat (go_big_quiet_step ((go_at_call 25; exact grow_call (HRC.out _))))
      refine wpQuiet_nil ?_
      rintro _ ⟨sg, rfl⟩
      have hxg := hxB.trans (grown_ext w4 sg)
      have bB5 := bB.ext (grown_ext w4 sg)
      have hs5 := (grown_ext w4 sg).sz
      generalize grown w4 sg = w5 at *
      clear q0 q1 q2 q3 d1 hfm0
      have htt : dt.tmod 3 = dt % 3 := Int.tmod_eq_emod_of_nonneg hdt0
      have ht1 : IntKind.u8.wrap (dt % 3) = dt % 3 := by simp [IntKind.wrap, IntKind.signed, IntKind.bits]; omega
      have ht2 : IntKind.u8.wrap (1 + dt % 3) = 1 + dt % 3 := by simp [IntKind.wrap, IntKind.signed, IntKind.bits]; omega
      have hrk : rightKind (1 + dt % 3) = true := by unfold rightKind; simp; omega
      have hrof := fun W => ref07_Of (1 + dt % 3) now cap (1 + fm) W hn0 hn1 (by omega) (by have := k6.1; omega) (by omega) (by have := k6.1; omega)
      have hofu := kOf_u (1 + dt % 3) now cap (1 + fm) hn0 hn1 (by omega) (by have := k6.1; omega) (by omega) (by have := k6.1; omega)
      unfold ofR stV at hrof
      rw [hrk] at hrof
      simp only [if_true] at hrof
      generalize kOfA (1 + dt % 3) now cap (1 + fm) = sA at *
      generalize kOfB (1 + dt % 3) now = sB at *
      have HRO := Lib.hid hrof
      have d6 := hxg.keep HD.out.2.2
      have hBl := bB5.lt
      have q0 : w5.cell? ⟨w3.heap.size, 0, none⟩ = some (.string p2) := bB5.cell 0
      have q1 : w5.cell? ⟨w3.heap.size, 1, none⟩ = some (.int .u64 e2) := bB5.cell 1
      have q2 : w5.cell? ⟨w3.heap.size, 2, none⟩ = some (.int .u64 b2) := bB5.cell 2
      have q3 : w5.cell? ⟨w3.heap.size, 3, none⟩ = some (.int .u8 k2) := bB5.cell 3
      clear hrof
      go_upto_region 7 with fail
      go_cut [9] from 12 to 90 (fun s9 wx => ∃ g, s9 = .pointer (some ⟨g, 0, none⟩) ∧ w3.heap.size < g ∧ Blk wx g #[.int .u8 (1 + dt % 3), .int .u64 sA, .int .u64 sB] 65 ∧ Ext w5 wx)
      case first =>
        go_region_held3 (fun w' => w'.cell? ⟨w3.heap.size, 0, none⟩ = some (.string p2) ∧ w'.cell? ⟨w3.heap.size, 1, none⟩ = some (.int .u64 e2) ∧ w'.cell? ⟨w3.heap.size, 2, none⟩ = some (.int .u64 b2) ∧ w'.cell? ⟨w3.heap.size, 3, none⟩ = some (.int .u8 k2) ∧ w'.cell? ⟨b, ob + 6, none⟩ = some (.int .u8 dt) ∧ Ext w5 w')
          (((try go_split_ands); refine ⟨?_, ?_, ?_, ?_, ?_, ?_⟩ <;> first | with_reducible assumption | exact (Ext.refl _).drew | ((repeat (first | with_reducible exact Ext.refl _ | with_reducible assumption | with_reducible refine Ext.alloc ?_ _ | with_reducible refine Ext.drew ?_ | (with_reducible refine Ext.setCell ?_ (by first | exact Nat.le_refl _ | (dsimp only; omega) | (simp; done) | (simp; omega)) _) | with_reducible refine Ext.trans ?_ (by with_reducible assumption))); done) | (refine Ext.keep (w := w5) (by repeat (first | with_reducible exact Ext.refl _ | with_reducible assumption | with_reducible refine Ext.alloc ?_ _ | with_reducible refine Ext.drew ?_ | (with_reducible refine Ext.setCell ?_ (by first | exact Nat.le_refl _ | (dsimp only; omega) | (simp; done) | (simp; omega)) _) | with_reducible refine Ext.trans ?_ (by with_reducible assumption))) ?_; with_reducible assumption)))
          (first
            | (go_at_call 25; (with_reducible refine (HRC.out _).mono ?_); rintro x w6 ⟨rfl, hx6⟩; have hs6 := Ext.sz hx6; (try simp at hs6); (try have bS : Blk w6 w5.heap.size #[.int .u8 0, .int .u64 0, .int .u64 0] 65 := Blk.ext (w := (w5.drew).alloc (.cells #[.int .u8 0, .int .u64 0, .int .u64 0] 65)) (b := (w5.drew).heap.size) (Blk.new _ _ _) hx6))
            | (go_at_call 26; (with_reducible refine (HRO.out _).mono ?_); rintro x w7 ⟨rfl, hx7⟩; have hs7 := Ext.sz hx7; (try simp at hs7); (try first | (have bS : Blk w7 w6.heap.size #[.int .u8 0, .int .u64 0, .int .u64 0] 65 := Blk.ext (Blk.new' _ _ _ (by rfl)) hx7) | (have bS := bS.ext hx7)); (try (have bc := bS.cell; have bf := bS.free; have bl := bS.lt))))
        all_goals
          go_wp2
          go_meet
          have hxz : Ext w5 w7 := (by repeat (first | with_reducible exact Ext.refl _ | with_reducible assumption | with_reducible refine Ext.alloc ?_ _ | with_reducible refine Ext.drew ?_ | (with_reducible refine Ext.setCell ?_ (by first | exact Nat.le_refl _ | (dsimp only; omega) | (simp; done) | (simp; omega)) _) | with_reducible refine Ext.trans ?_ (by with_reducible assumption)))
          first
            | exact ⟨_, rfl, by omega, Blk.new _ _ _, hxz.alloc _⟩
            | exact ⟨_, rfl, by omega, Blk.set3 bS _ _ _, ((hxz.setCell (by dsimp only; omega) _).setCell (by dsimp only; omega) _).setCell (by dsimp only; omega) _⟩
      case rest =>
        obtain ⟨g, rfl, hg3, hbS, hxc⟩ := hcut
        have bBc := bB5.ext hxc
        have hxwc := hxg.trans hxc
        have d0 := hxwc.keep HD.out.1
        have hcS := hbS.cell
        have hcB := bBc.cell
        have hlB := bBc.lt
        have hlS := hbS.lt
        have hwk : IntKind.u8.wrap (k : Int) = k := by simp [IntKind.wrap, IntKind.signed, IntKind.bits]; omega
        have hwk2 : IntKind.u8.wrap (97 + (k : Int)) = 97 + k := by simp [IntKind.wrap, IntKind.signed, IntKind.bits]; omega
        clear q0 q1 q2 q3 d6 bB5 bB hs5
        obtain ⟨ch, hch, hcv⟩ := one_string wc.heap.size k (by omega) (wc.alloc (.cells #[.int .u8 (97 + (k : Int))] 5)) ((Blk.new _ _ _).cell 0)
        have hks : ((⟨#[107]⟩ : ByteArray) ++ ch).size ≤ maxLen := by rw [append_size, hch]; decide
        have hks2 : ((⟨#[107]⟩ : ByteArray) ++ ch).size = 2 := by rw [append_size, hch]; rfl
        generalize hkk : (⟨#[107]⟩ : ByteArray) ++ ch = ky at *
        have bQ := Blk.new' (wc.alloc (.cells #[.int .u8 (97 + (k : Int))] 5)) #[.string ky, .string p2, .int .u64 e2, .int .u64 b2, .int .u8 k2, .int .u8 (1 + dt % 3), .int .u64 sA, .int .u64 sB] 69 (b := wc.heap.size + 1) (by simp)
        have hxQ : Ext wr ((wc.alloc (.cells #[.int .u8 (97 + (k : Int))] 5)).alloc (.cells #[.string ky, .string p2, .int .u64 e2, .int .u64 b2, .int .u8 k2, .int .u8 (1 + dt % 3), .int .u64 sA, .int .u64 sB] 69)) := (hxwc.alloc _).alloc _
        go_upto_region 9 with fail
        generalize (wc.alloc (.cells #[.int .u8 (97 + (k : Int))] 5)).alloc (.cells #[.string ky, .string p2, .int .u64 e2, .int .u64 b2, .int .u8 k2, .int .u8 (1 + dt % 3), .int .u64 sA, .int .u64 sB] 69) = wq at *
        have d0 := hxQ.keep HD.out.1
        have hcQ := bQ.cell
        have hfQ := bQ.free
        have hlQ := bQ.lt
        have hsc := hxwc.sz
        have hsq := hxQ.sz
        have HWR := Lib.hid (show w.heap.size ≤ wr.heap.size from hx.sz)
        have HBQ := Lib.hid bQ
        have HXQ := Lib.hid hxQ
        have hk1 : ((⟨#[107]⟩ : ByteArray)).size ≤ maxLen := by decide
        have hk0 : ((⟨#[]⟩ : ByteArray)).size ≤ maxLen := by decide
        clear hcS hcB hlB hlS hcv bQ
        go_upto_region 20 with fail
        all_goals
          refine wp_gen (fun wz hwz => ?_)
          obtain ⟨s, hs, bz⟩ : ∃ s : Slot, SlotOk s ∧ Blk wz (wc.heap.size + 1) s.cells 69 := by
            rw [hwz]
            first
              | exact ⟨⟨ky, p2, e2, b2, k2, 1 + dt % 3, sA, sB⟩, by constructor <;> (dsimp only) <;> first | assumption | omega, HBQ.out⟩
              | exact ⟨⟨_, p2, e2, b2, k2, 1 + dt % 3, sA, sB⟩, by constructor <;> (dsimp only) <;> first | assumption | omega, HBQ.out.set 0 _⟩
              | exact ⟨⟨ky, p2, 0, b2, k2, 1 + dt % 3, sA, sB⟩, by constructor <;> (dsimp only) <;> first | assumption | omega, HBQ.out.set 2 _⟩
              | exact ⟨⟨ky, p2, e2, b2, k2, 7, sA, sB⟩, by constructor <;> (dsimp only) <;> first | assumption | omega, HBQ.out.set 5 _⟩
              | exact ⟨⟨ky, p2, e2, b2, k2, 1 + dt % 3, now, sB⟩, by constructor <;> (dsimp only) <;> first | assumption | omega, HBQ.out.set 6 _⟩
          have hxz : Ext wr wz := by
            rw [hwz]
            first
              | exact HXQ.out
              | exact HXQ.out.setCell (by dsimp only; omega) _
          clear hwz hcQ hfQ hlQ
          obtain ⟨s1, s2, s3, s4, s5, s6, s7, s8⟩ := s
          simp only [Slot.cells] at bz
          have hcz := bz.cell
          have hlz := bz.lt
          have HSO := Lib.hid hs
          have HXZ := Lib.hid hxz
          have hsz := hxz.sz
          clear hs hxz bz
          go_wp2_with (first
            | (at_builtin; refine wpList_append_own _ rfl (.tmp 87) (.tmp 89) 28 rfl w.heap.size 69 i0 slot0.val 8 80 Tryz.underlying28 HI.out.1 HI.out.2.1 HI.out.2.2.1 HI.out.2.2.2 rfl (by decide) _ _ _ rfl ((own_ext HROW.out.own HXZ.out).alloc _) ⟨wz.heap.size, 0, none⟩ 1 1 [.string s1, .string s2, .int .u64 s3, .int .u64 s4, .int .u8 s5, .int .u8 s6, .int .u64 s7, .int .u64 s8] rfl rfl (blk_news (C := #[.string s1, .string s2, .int .u64 s3, .int .u64 s4, .int .u8 s5, .int .u8 s6, .int .u64 s7, .int .u64 s8]) (Blk.new _ _ _)) (by simp [Value.oneCell']) (by omega) (by omega) (by have := HWR.out; simp; omega) ?_; rintro v' w8 hown hgrow -)
            | fail)
          have hx8 : Ext w w8 := Ext.grownAt ((HX.out.trans HXZ.out).alloc _) ((own_ext HROW.out.own HXZ.out).alloc _) (Nat.le_refl _) hgrow
          have hrow8 : SlotRow w.heap.size w8 v' (xs ++ [⟨s1, s2, s3, s4, s5, s6, s7, s8⟩]) := row_more hown rfl
          go_roundw
          case rel =>
            refine ⟨k + 1, _, by omega, by omega, by go_num, hrow8, by simp [hxl], fun s hs => ?_, hx8⟩
            rcases List.mem_append.1 hs with hs | hs
            · exact HOK.out s hs
            · obtain rfl := List.mem_singleton.1 hs
              exact HSO.out
          case measure => simp [intOf]; omega
    · have HWR := Lib.hid (And.intro hk10 hxl)
      go_wp2
      all_goals
        go_ret
        exact ⟨_, xs, rfl, HROW.out, by have := HWR.out.1; have := HWR.out.2; omega, HOK.out, HX.out⟩
end Go.Proofs.YtnlmbmbalmkiiaaGreat
