/- The iterator of a table's active slots: what it hands out, in whatever order, to whatever loop body. Walks: slices.AppendSeq and Collect over the active slots. -/
import Derived.RangeFuncBox
import Derived.RangeFuncNested
import Derived.RangeFuncBound
import Derived.RangeFuncCalls
import Derived.RangeFuncLeaves
import Derived.Shelf.Abstract
import Derived.Shelf.RegionOpen
import Derived.WalkKit
import Derived.OwnWalkIn
import Derived.TacticsInMore
import Derived.LoopNIn
import Derived.LoopIn
import Derived.Maps.OwnIn
import Derived.Deep.QuietTactic
import Derived.BigQuiet
import Derived.Maps.AppendAt
import Derived.Test.YtknlojlcahgnoaaGreatEb27

namespace Go.Proofs.YtknlojlcahgnoaaGreat
open Go.RowKit
attribute [local go_sem] Oper.semAt_some
set_option linter.unusedVariables false
set_option linter.unusedSimpArgs false

/-- slots that are active -/
def actives (clock : Int) (l : SMap) : List Slot := (l.filter fun x => !drained clock x.1).map (·.1)
/-- those of them that have come -/
def came (clock : Int) (l : SMap) (seen : Array Nat) : List Slot := (l.filter fun x => seen.contains x.2 && !drained clock x.1).map (·.1)

def KpT (n₀ : Nat) (W W' : World) : Prop := Below n₀ W W' ∧ KeepsWalks W W'

theorem filter_or_perm {α : Type} (A B : α → Bool) : ∀ (l : List α), (∀ x ∈ l, A x = true → B x = false) → (l.filter fun x => A x || B x).Perm (l.filter A ++ l.filter B)
  | [], _ => List.Perm.refl _
  | x :: l, h => by
    have ih := filter_or_perm A B l (fun y hy => h y (List.mem_cons_of_mem _ hy))
    have hx := h x (List.mem_cons_self ..)
    simp only [List.filter_cons]
    cases hA : A x with
    | true =>
      rw [hx hA]
      simp only [Bool.true_or, if_true, Bool.false_eq_true, if_false, List.cons_append]
      exact ih.cons x
    | false =>
      cases hB : B x with
      | false => simpa using ih
      | true =>
        simp only [Bool.false_or, if_true, Bool.false_eq_true, if_false]
        exact (ih.cons x).trans List.perm_middle.symm
theorem filter_one {α : Type} (f : α → Nat) (q : α → Bool) : ∀ {l : List α}, (l.map f).Nodup → ∀ {a : α}, a ∈ l → q a = true → l.filter (fun x => f x == f a && q x) = [a]
  | [], _, _, h, _ => by cases h
  | x :: l, hn, a, h, hq => by
    have hn' : f x ∉ l.map f ∧ (l.map f).Nodup := List.nodup_cons.1 hn
    rw [List.filter_cons]
    rcases List.mem_cons.1 h with e | h'
    · subst e
      rw [if_pos (by simp [hq])]
      congr 1
      rw [List.filter_eq_nil_iff]
      intro y hy
      have : f y ≠ f a := fun e => hn'.1 (List.mem_map.2 ⟨y, hy, e⟩)
      simp [this]
    · have : f x ≠ f a := fun e => hn'.1 (List.mem_map.2 ⟨a, h', e.symm⟩)
      rw [if_neg (by simp [this])]
      exact filter_one f q hn'.2 h' hq
theorem came_start (clock : Int) (l : SMap) : came clock l #[] = [] := by
  unfold came
  rw [List.filter_eq_nil_iff.2 (fun x _ => by simp)]
  rfl
theorem came_end {clock : Int} {l : SMap} {seen : Array Nat} (h : toCome l seen = 0) : came clock l seen = actives clock l := by
  unfold came actives
  congr 1
  exact List.filter_congr fun x hx => by rw [toCome_zero h x hx, Bool.true_and]
theorem came_not {clock : Int} {l : SMap} {seen : Array Nat} (hn : (l.map (·.2)).Nodup) {s : Slot} {n : Nat} (h : (s, n) ∈ l) (hd : drained clock s = true) : came clock l (seen.push n) = came clock l seen := by
  unfold came
  congr 1
  refine List.filter_congr fun x hx => ?_
  rw [Array.contains_push]
  by_cases e : x.2 = n
  · have := born_eq hn hx h e
    subst this
    rw [hd]; simp
  · have e' : (x.2 == n) = false := by simpa using e
    rw [e', Bool.or_false]
theorem came_step {clock : Int} {l : SMap} {seen : Array Nat} (hn : (l.map (·.2)).Nodup) {s : Slot} {n : Nat} (h : (s, n) ∈ l) (hs : seen.contains n = false) (hd : drained clock s = false) : (came clock l (seen.push n)).Perm (came clock l seen ++ [s]) := by
  unfold came
  have e1 : (l.filter fun x => (seen.push n).contains x.2 && !drained clock x.1) = l.filter fun x => (seen.contains x.2 && !drained clock x.1) || (x.2 == n && !drained clock x.1) := by
    refine List.filter_congr fun x hx => ?_
    rw [Array.contains_push]
    cases seen.contains x.2 <;> cases (x.2 == n) <;> cases drained clock x.1 <;> rfl
  have e2 := filter_or_perm (fun x : Slot × Nat => seen.contains x.2 && !drained clock x.1) (fun x : Slot × Nat => x.2 == n && !drained clock x.1) l (fun x hx hA => by
    by_cases e : x.2 = n
    · have := born_eq hn hx h e
      subst this
      rw [hs] at hA; cases hA
    · have e' : (x.2 == n) = false := by simpa using e
      rw [e', Bool.false_and])
  have e3 := filter_one (fun x : Slot × Nat => x.2) (fun x : Slot × Nat => !drained clock x.1) hn h (by simp [hd])
  have e3' : l.filter (fun x : Slot × Nat => x.2 == n && !drained clock x.1) = [(s, n)] := e3
  rw [e1]
  rw [e3'] at e2
  have := e2.map (fun x : Slot × Nat => x.1)
  rw [List.map_append] at this
  exact this
theorem came_sub (clock : Int) (l : SMap) (seen : Array Nat) : ∃ rest, (came clock l seen ++ rest).Perm (actives clock l) := by
  refine ⟨(l.filter fun x => !seen.contains x.2 && !drained clock x.1).map (·.1), ?_⟩
  unfold came actives
  rw [← List.map_append]
  refine List.Perm.map _ ?_
  have e2 := filter_or_perm (fun x : Slot × Nat => seen.contains x.2 && !drained clock x.1) (fun x : Slot × Nat => !seen.contains x.2 && !drained clock x.1) l (fun x _ hA => by
    cases hc : seen.contains x.2 with
    | true => rfl
    | false => rw [hc] at hA; cases hA)
  refine e2.symm.trans (List.Perm.of_eq (List.filter_congr fun x _ => ?_))
  cases seen.contains x.2 <;> cases drained clock x.1 <;> rfl
theorem came_len (clock : Int) (l : SMap) (seen : Array Nat) : (came clock l seen).length ≤ (actives clock l).length := by
  obtain ⟨rest, h⟩ := came_sub clock l seen
  have := h.length_eq
  rw [List.length_append] at this
  omega

theorem IterAt.walks {w w' : World} {r b c : Nat} {l : SMap} {seen : Array Nat} (h : IterAt w r b l c seen) (hk : KeepsWalks w w') : IterAt w' r b l c seen := by
  obtain ⟨hm, ⟨c0, hr, hc⟩, ho, hbn⟩ := h
  exact ⟨hk.same b _ hm rfl, ⟨c0, hk.same r _ hr rfl, hc⟩, ho, hbn⟩
theorem ext_grown {w w' : World} (h : Ext w w') : w.grownBy w' none := ⟨Below.os h, Below.tape h, Below.output h, h.sz, fun i hi _ => Below.block h i hi⟩
theorem extB_grown {b : Nat} {w w' : World} (h : ExtB b w w') : w.grownBy w' (some b) := ⟨h.os, h.tape, h.output, h.size, fun i hi hb => h.block i hi (fun e => hb (by rw [e]))⟩

theorem yield_bool {F : Fence} {m : Nat} {P : Program} {L : Nat} {args : Array Value} {W : World} {A B : World → Prop}
    (h : YieldAt F m P L args W fun e W' => (e = .returned (.bool true) ∧ A W') ∨ (e = .returned (.bool false) ∧ B W')) :
    YieldAt F m P L args W fun e W' => ∃ bo : Bool, e = .returned (.bool bo) ∧ Hid ((bo = true ∧ A W') ∨ (bo = false ∧ B W')) := by
  obtain ⟨fn, tmps, assign, body, hy, hR⟩ := h
  refine ⟨fn, tmps, assign, body, hy, hR.mono ?_⟩
  rintro e W' (⟨rfl, hA⟩ | ⟨rfl, hB⟩)
  · exact ⟨true, rfl, Lib.hid (Or.inl ⟨rfl, hA⟩)⟩
  · exact ⟨false, rfl, Lib.hid (Or.inr ⟨rfl, hB⟩)⟩

set_option maxHeartbeats 4000000 in
set_option maxRecDepth 100000 in
theorem active_1 (n L bx t mb c n₀ : Nat) (most clock : Int) (l : SMap) (J Jx : List Slot → World → Prop)
    (hY : ∀ pre x W, x ∈ actives clock l → J pre W → pre.length < (actives clock l).length → YieldAt Fence.wide (n - 1) Tryz.prog L #[x.val] W fun e W' =>
      (e = .returned (.bool true) ∧ J (pre ++ [x]) W' ∧ KpT n₀ W W') ∨ (e = .returned (.bool false) ∧ Jx (pre ++ [x]) W'))
    (W : World) (hJ : AbidesFrom W.heap.size J) (hb : W.cell? ⟨bx, 0, none⟩ = some (.pointer (some ⟨t, 0, none⟩))) (ht : TabAt W t mb most clock l c) (hok : TabOk l c) (hn0 : 0 ≤ clock) (hn1 : clock < 18446744073709551616)
    (l1 : bx < n₀) (l2 : t < n₀) (l3 : mb < n₀) (l4 : n₀ ≤ W.heap.size) (h0 : J [] W) :
    CallsIn Fence.wide n Tryz.prog 165 #[.func (.yield L) #[] #[], .pointer (some ⟨bx, 0, none⟩)] W fun e W' => (∃ v, e = .returned v) ∧
      ((∃ xs : List Slot, xs.Perm (actives clock l) ∧ J xs W') ∨ (∃ pre : List Slot, (∃ rest, (pre ++ rest).Perm (actives clock l)) ∧ Jx pre W')) := by
  obtain ⟨hrg, hit⟩ := run_srange (P := Tryz.prog) Tryz.underlying128 ht.map hok.old hok.born
  have hbc := ht.blk.cell
  have c2 : W.cell? ⟨t, 2, none⟩ = some (.map (some mb)) := hbc 2
  have c1 : W.cell? ⟨t, 1, none⟩ = some (.int .u64 clock) := hbc 1
  clear hbc
  refine callsIn_of_wp Tryz.func165 rfl trivial ?_ rfl
  simp only [Tryz.ntmps165, List.size_toArray, List.length_cons, List.length_nil, Nat.reduceAdd, Nat.reduceSub, Array.replicate_succ, Array.replicate_zero, List.push_toArray, List.append_toArray, List.nil_append, List.cons_append]
  gi_wp2
  clear hrg
  gi_loopw [12] (fun _ wr => ∃ (seen : Array Nat) (pre : List Slot), IterAt wr W.heap.size mb l c seen ∧ pre.Perm (came clock l seen) ∧ J pre wr ∧ Below n₀ W wr)
    (fun _ wr => wr.rangeLeft mb W.heap.size)
  case atStart =>
    exact ⟨#[], [], hit, by rw [came_start], hJ [] W _ none h0 (ext_grown ((Ext.refl W).alloc _)) (fun r e => by cases e), (Below.refl n₀ W).alloc l4 _⟩
  case round =>
    obtain ⟨seen, pre, hi, hperm, hJs, hbel⟩ := hrel
    rcases run_snext (P := Tryz.prog) hi with ⟨h0', hrun⟩ | ⟨s, m, w1, hmem, hns, hrun, hi1, hx1, hen⟩
    · gi_wp2
      go_end0
      exact ⟨⟨_, rfl⟩, .inl ⟨pre, by rw [← came_end h0']; exact hperm, hJs⟩⟩
    · have hsok := hok.ok _ hmem
      have hleft := hi.left
      have hlt := toCome_push hmem hns
      have hJ1 : J pre w1 := hJ pre wr w1 (some W.heap.size) hJs (extB_grown hx1) (fun r e => by cases e; obtain ⟨c0, q1, -⟩ := hi.it; exact ⟨Nat.le_refl _, _, q1, rfl⟩)
      have hbel1 : Below n₀ W w1 := hbel.grown (extB_grown hx1) (Nat.le_trans l4 hbel.size) (fun k e => by cases e; exact l4)
      have hb1 : w1.cell? ⟨bx, 0, none⟩ = some (.pointer (some ⟨t, 0, none⟩)) := (hbel1.cell (p := ⟨bx, 0, none⟩) l1).trans hb
      have t1 : w1.cell? ⟨t, 1, none⟩ = some (.int .u64 clock) := (hbel1.cell (p := ⟨t, 1, none⟩) l2).trans c1
      have hst := @came_step clock l seen hok.born s m hmem hns
      have hno := @came_not clock l seen hok.born s m hmem
      obtain ⟨k, sp, se, sbu, srk, sk, sa, sb⟩ := s
      obtain ⟨m1, m2, u1, u2, u3, u4, u5, u6, u7, u8, u9, u10, u11, u12⟩ := hsok
      simp only at m1 m2 u1 u2 u3 u4 u5 u6 u7 u8 u9 u10 u11 u12
      simp only [Slot.val, Slot.cells] at hrun hen
      have HST := Lib.hid hst
      have HNO := Lib.hid hno
      have HMEM := Lib.hid hmem
      clear hst hno hmem
      generalize hD : Slot.fill ⟨k, sp, se, sbu, srk, sk, sa, sb⟩ clock = Fi
      have HD := Lib.hid hD
      have HF := Lib.hid (fun W' : World => table_fillX k sp se sbu srk sk sa sb clock W' m1 m2 u1 u2 u3 u4 u5 u6 u7 u8 u9 u10 u11 u12 hn0 hn1)
      clear hD
      have hx2 : Ext w1 (w1.alloc (.cells #[.string k, .string sp, .int .u64 se, .int .u64 sbu, .int .u8 srk, .int .u8 sk, .int .u64 sa, .int .u64 sb] 145)) := (Ext.refl w1).alloc _
      have bq := Blk.new w1 #[.string k, .string sp, .int .u64 se, .int .u64 sbu, .int .u8 srk, .int .u8 sk, .int .u64 sa, .int .u64 sb] 145
      have hb2 := hx2.keep hb1
      have t2 := hx2.keep t1
      have hJ2 : J pre (w1.alloc (.cells #[.string k, .string sp, .int .u64 se, .int .u64 sbu, .int .u8 srk, .int .u8 sk, .int .u64 sa, .int .u64 sb] 145)) := hJ pre _ _ none hJ1 (ext_grown hx2) (fun r e => by cases e)
      have hi2 := hi1.ext hx2
      have hbel2 : Below n₀ W (w1.alloc (.cells #[.string k, .string sp, .int .u64 se, .int .u64 sbu, .int .u8 srk, .int .u8 sk, .int .u64 sa, .int .u64 sb] 145)) := hbel1.trans (Below.mono hx2 (by have := hbel1.size; omega))
      by_cases hz : Fi = 0
      · have hz' : decide (0 < Fi) = false := by simp [hz]
        gi_wp2_with fail
        generalize w1.alloc (.cells #[.string k, .string sp, .int .u64 se, .int .u64 sbu, .int .u8 srk, .int .u8 sk, .int .u64 sa, .int .u64 sb] 145) = w2 at *
        have q0 : w2.cell? ⟨w1.heap.size, 0, none⟩ = some (.string k) := bq.cell 0
        have q1 : w2.cell? ⟨w1.heap.size, 1, none⟩ = some (.string sp) := bq.cell 1
        have q2 : w2.cell? ⟨w1.heap.size, 2, none⟩ = some (.int .u64 se) := bq.cell 2
        have q3 : w2.cell? ⟨w1.heap.size, 3, none⟩ = some (.int .u64 sbu) := bq.cell 3
        have q4 : w2.cell? ⟨w1.heap.size, 4, none⟩ = some (.int .u8 srk) := bq.cell 4
        have q5 : w2.cell? ⟨w1.heap.size, 5, none⟩ = some (.int .u8 sk) := bq.cell 5
        have q6 : w2.cell? ⟨w1.heap.size, 6, none⟩ = some (.int .u64 sa) := bq.cell 6
        have q7 : w2.cell? ⟨w1.heap.size, 7, none⟩ = some (.int .u64 sb) := bq.cell 7
        have hfz : drained clock ⟨k, sp, se, sbu, srk, sk, sa, sb⟩ = true := by unfold drained; rw [HD.out, hz]; rfl
        subst hz
        refine wpIn_wide.2 ?_
        first
          | (go_region_with (go_at_call 151; (with_reducible refine (HF.out _).mono ?_); rw [HD.out]; rintro x w3 ⟨rfl, hx3⟩; have q0 := hx3.keep q0; have q1 := hx3.keep q1; have q2 := hx3.keep q2; have q3 := hx3.keep q3; have q4 := hx3.keep q4; have q5 := hx3.keep q5; have q6 := hx3.keep q6; have q7 := hx3.keep q7))
          | fail
        all_goals
          have hx23 : Ext w2 w3 := (by repeat (first | with_reducible exact Ext.refl _ | with_reducible assumption | with_reducible refine Ext.alloc ?_ _ | with_reducible refine Ext.drew ?_ | (with_reducible refine Ext.setCell ?_ (by first | exact Nat.le_refl _ | (dsimp only; omega) | (simp; done) | (simp; omega)) _) | with_reducible refine Ext.trans ?_ (by with_reducible assumption)))
          gi_wp2
          go_roundw
          case rel =>
            have hrl : ∃ (seen : Array Nat) (pre : List Slot), IterAt w3 W.heap.size mb l c seen ∧ pre.Perm (came clock l seen) ∧ J pre w3 ∧ Below n₀ W w3 := ⟨seen.push m, pre, hi2.ext hx23, by rw [HNO.out hfz]; exact hperm, hJ pre _ _ none hJ2 (ext_grown hx23) (fun r e => by cases e), hbel2.trans (Below.mono hx23 (by have := hbel2.size; omega))⟩
            first
              | exact hrl
              | ((repeat apply Exists.intro); exact ⟨hrl, rfl⟩)
          case measure => rw [(hi2.ext hx23).left, hleft]; exact hlt
      · have hfb := kFill_u sk sa sb clock (Slot.cap ⟨k, sp, se, sbu, srk, sk, sa, sb⟩) u9 u10 u11 hn0 hn1 (ruleCap_u sp se sbu srk u1 u3).1 (by have := (ruleCap_u sp se sbu srk u1 u3).2; show ruleCap sp se sbu srk < _; omega)
        have hz2 : 0 < Fi := by
          have h1 := HD.out
          have h2 : Slot.fill ⟨k, sp, se, sbu, srk, sk, sa, sb⟩ clock = kFill sk sa sb clock (Slot.cap ⟨k, sp, se, sbu, srk, sk, sa, sb⟩) := rfl
          rw [h2] at h1
          have := hfb.1
          omega
        have hdr : drained clock ⟨k, sp, se, sbu, srk, sk, sa, sb⟩ = false := by unfold drained; rw [HD.out]; simpa using hz
        clear hfb
        have hz' : decide (0 < Fi) = true := by simp [hz2]
        gi_wp2_with fail
        generalize w1.alloc (.cells #[.string k, .string sp, .int .u64 se, .int .u64 sbu, .int .u8 srk, .int .u8 sk, .int .u64 sa, .int .u64 sb] 145) = w2 at *
        have q0 : w2.cell? ⟨w1.heap.size, 0, none⟩ = some (.string k) := bq.cell 0
        have q1 : w2.cell? ⟨w1.heap.size, 1, none⟩ = some (.string sp) := bq.cell 1
        have q2 : w2.cell? ⟨w1.heap.size, 2, none⟩ = some (.int .u64 se) := bq.cell 2
        have q3 : w2.cell? ⟨w1.heap.size, 3, none⟩ = some (.int .u64 sbu) := bq.cell 3
        have q4 : w2.cell? ⟨w1.heap.size, 4, none⟩ = some (.int .u8 srk) := bq.cell 4
        have q5 : w2.cell? ⟨w1.heap.size, 5, none⟩ = some (.int .u8 sk) := bq.cell 5
        have q6 : w2.cell? ⟨w1.heap.size, 6, none⟩ = some (.int .u64 sa) := bq.cell 6
        have q7 : w2.cell? ⟨w1.heap.size, 7, none⟩ = some (.int .u64 sb) := bq.cell 7
        have hlen : pre.length < (actives clock l).length := by
          have h1 := (HST.out hdr).length_eq
          have h2 := came_len clock l (seen.push m)
          have h3 := hperm.length_eq
          rw [List.length_append] at h1
          simp at h1
          omega
        have HY := Lib.hid (fun (w3 : World) (hx : Ext w2 w3) => yield_bool (hY pre ⟨k, sp, se, sbu, srk, sk, sa, sb⟩ w3 (List.mem_map.2 ⟨(⟨k, sp, se, sbu, srk, sk, sa, sb⟩, m), List.mem_filter.2 ⟨HMEM.out, by rw [hdr]; rfl⟩, rfl⟩) (hJ pre w2 w3 none hJ2 (ext_grown hx) (fun r e => by cases e)) hlen))
        first
          | (gi_region_with (first
              | (refine ⟨trivial, fun h => absurd h (by decide), ?_⟩; gi_at_call 151; refine (callsIn_wide.2 (HF.out _)).mono ?_; rw [HD.out]; rintro x w3 ⟨rfl, hx3⟩; have q0 := hx3.keep q0; have q1 := hx3.keep q1; have q2 := hx3.keep q2; have q3 := hx3.keep q3; have q4 := hx3.keep q4; have q5 := hx3.keep q5; have q6 := hx3.keep q6; have q7 := hx3.keep q7; have hx23 : Ext w2 w3 := (by repeat (first | with_reducible exact Ext.refl _ | with_reducible assumption | with_reducible refine Ext.alloc ?_ _ | with_reducible refine Ext.drew ?_ | (with_reducible refine Ext.setCell ?_ (by first | exact Nat.le_refl _ | (dsimp only; omega) | (simp; done) | (simp; omega)) _) | with_reducible refine Ext.trans ?_ (by with_reducible assumption))); obtain ⟨fn, tmps, assign, body, hy, hR⟩ := HY.out w3 hx23; simp only [Slot.val, Slot.cells] at hy)
              | (refine ⟨fun h => absurd h (by decide), ?_⟩; refine hR.mono ?_; rintro x w4 ⟨bo, rfl, hbo⟩)))
          | fail
        all_goals
          have hpp : (pre ++ [(⟨k, sp, se, sbu, srk, sk, sa, sb⟩ : Slot)]).Perm (came clock l (seen.push m)) := (hperm.append_right _).trans (HST.out hdr).symm
          rcases hbo.out with ⟨rfl, hJ4, hk4⟩ | ⟨rfl, hJx4⟩
          · have hi4 := (hi2.ext hx23).walks hk4.2
            have hbel4 : Below n₀ W w4 := (hbel2.trans (Below.mono hx23 (by have := hbel2.size; omega))).trans hk4.1
            have HB4 := Lib.hid hbel4
            have HLT := Lib.hid (hleft ▸ hlt : toCome l (seen.push m) < wr.rangeLeft mb W.heap.size)
            clear hbel4 hleft hlt
            gi_wp2
            go_roundw
            case rel =>
              have hrl : ∃ (seen : Array Nat) (pre : List Slot), IterAt w4 W.heap.size mb l c seen ∧ pre.Perm (came clock l seen) ∧ J pre w4 ∧ Below n₀ W w4 := ⟨seen.push m, _, hi4, hpp, hJ4, HB4.out⟩
              first
                | exact hrl
                | exact ⟨_, hi4, _, hpp, hJ4, HB4.out⟩
                | ((repeat apply Exists.intro); exact ⟨hrl, rfl⟩)
            case measure => rw [hi4.left]; exact HLT.out
          · obtain ⟨rest, hrest⟩ := came_sub clock l (seen.push m)
            gi_wp2
            refine bodyPost_ret (results_none rfl _ _ _) rfl ?_
            exact ⟨⟨_, rfl⟩, .inr ⟨_, ⟨rest, (hpp.append_right _).trans hrest⟩, hJx4⟩⟩
end Go.Proofs.YtknlojlcahgnoaaGreat

namespace Go.Proofs.YtknlojlcahgnoaaGreat
open Go.RowKit
attribute [local go_sem] Oper.semAt_some
set_option linter.unusedVariables false
set_option linter.unusedSimpArgs false

theorem active_stops (bx t mb c n₀ n : Nat) (most clock : Int) (l : SMap) (w : World) (hb : w.cell? ⟨bx, 0, none⟩ = some (.pointer (some ⟨t, 0, none⟩))) (ht : TabAt w t mb most clock l c) (hok : TabOk l c) (hn0 : 0 ≤ clock) (hn1 : clock < 18446744073709551616)
    (l1 : bx < n₀) (l2 : t < n₀) (l3 : mb < n₀) (l4 : n₀ ≤ w.heap.size) :
    SeqStopsK Fence.wide n Tryz.prog 165 #[.pointer (some ⟨bx, 0, none⟩)] (fun s : Slot => #[s.val]) (KpT n₀) (fun xs => xs.Perm (actives clock l)) (fun pre => ∃ rest, (pre ++ rest).Perm (actives clock l)) (actives clock l).length w :=
  fun L J Jx W hW hJ _ hY h0 => active_1 n L bx t mb c n₀ most clock l J Jx (fun pre x W _ => hY pre x W) W hJ (Ext.keep hW hb) (ht.ext hW) hok hn0 hn1 l1 l2 l3 (Nat.le_trans l4 (Ext.sz hW)) h0

def flatS (l : List Slot) : List Value := l.flatMap fun s => s.cells.toList
theorem flatS_snoc (l : List Slot) (s : Slot) : flatS (l ++ [s]) = flatS l ++ s.cells.toList := by unfold flatS; rw [List.flatMap_append]; simp
theorem cells_new (w : World) (C : Array Value) (t : TypeId) : ∀ j u, C.toList[j]? = some u → (w.alloc (.cells C t)).cell? ((⟨w.heap.size, 0, none⟩ : Addr).add j) = some u := by
  intro j u h
  rw [addr_add', Nat.zero_add, (Blk.new w C t).cell]
  simpa using h
  where addr_add' : ∀ {b o j : Nat}, (⟨b, o, none⟩ : Addr).add j = ⟨b, o + j, none⟩ := by intro b o j; unfold Addr.add; split <;> simp_all

theorem slot_info : (Tryz.prog.info? 145).map (fun i => (i.zero, i.size, i.bytes)) = some (some slot0.val, 8, 80) := by kernel_rfl

/-- what has been gathered, between two rounds -/
def GatherI (w : World) (pre : List Slot) (W : World) : Prop :=
  (∃ v, Boxed W w.heap.size 118 v ∧ W.ownsRow w.heap.size 145 8 v pre.length (flatS pre) ∧ (v = .slice none 0 0 ↔ pre = [])) ∧ Below w.heap.size w W
def SlotAx (w : World) (bx : Nat) (x : Slot) (a' : Act) (W : World) : Prop :=
  ∃ Bx, w.heap.size < Bx ∧ Blk W Bx x.cells 145 ∧ a' = { tmps := #[.slice none 0 0, .func (.func 165) #[] #[.pointer (some ⟨bx, 0, none⟩)], .pointer (some ⟨w.heap.size, 0, none⟩), undef, .slice none 0 0, .pointer (some ⟨Bx, 0, none⟩), .func (.func 165) #[] #[.pointer (some ⟨bx, 0, none⟩)], x.val, undef, undef, undef, undef, undef], defers := [] }

set_option maxHeartbeats 4000000 in
set_option maxRecDepth 100000 in
theorem append_seq (bx t mb c : Nat) (most clock : Int) (l : SMap) (w : World) (hb : w.cell? ⟨bx, 0, none⟩ = some (.pointer (some ⟨t, 0, none⟩))) (ht : TabAt w t mb most clock l c) (hok : TabOk l c) (hn0 : 0 ≤ clock) (hn1 : clock < 18446744073709551616) (hlen : (actives clock l).length ≤ 1000000) :
    Calls Tryz.prog 203 #[.slice none 0 0, .func (.func 165) #[] #[.pointer (some ⟨bx, 0, none⟩)]] w fun e W' =>
      ∃ (v : Value) (xs : List Slot), e = .returned v ∧ xs.Perm (actives clock l) ∧ W'.ownsRow w.heap.size 145 8 v xs.length (flatS xs) ∧ (v = .slice none 0 0 ↔ xs = []) ∧ Ext w W' := by
  refine (callsIn_wide (n := 9)).1 ?_
  have hbl := cell_lt hb
  have htl := ht.blk.lt
  have hml := ht.map.lt
  obtain ⟨i0, hi, hz0, hz1, hz2⟩ := info_parts slot_info
  refine callsIn_of_wp_marks Tryz.func203 rfl trivial ?_ rfl
  simp only [Tryz.ntmps203, List.size_toArray, List.length_cons, List.length_nil, Nat.reduceAdd, Nat.reduceSub, Array.replicate_succ, Array.replicate_zero, List.push_toArray, List.append_toArray, List.nil_append, List.cons_append]
  have hxw : Ext w (w.alloc (.cells #[.slice none 0 0] 118)) := (Ext.refl w).alloc _
  gi_wp2
  have bO := Boxed.new w 118 (.slice none 0 0)
  refine wpIn_rangeFunc_ownH rfl (by omega) (gf := 165) (lb := #[.pointer (some ⟨bx, 0, none⟩)]) rfl trivial (enters_of Tryz.func165 (by kernel_rfl) rfl)
    (active_stops bx t mb c w.heap.size (9 - 1) most clock l _ (hxw.keep hb) (ht.ext hxw) hok hn0 hn1 hbl htl hml hxw.sz) (fun h k => ⟨belowK_t h.1 k.1, walksK_t h.2 k.2⟩) (fun W l o o' a1 a2 a3 a4 => ⟨belowK_b (by simp) W l o o' a1 a2 a3 a4, walksK_b W l o o' a1 a2 a3 a4⟩) (Below.refl _ _) (fun _ => rfl)
    (GatherI w) (fun _ _ _ => False)
    (OwnFrom.and (Own.from (holdsRow_own w.heap.size w.heap.size 118 145 8 (fun pre : List Slot => pre.length) flatS (fun pre v => v = .slice none 0 0 ↔ pre = [])) _) (ownFrom_below (Nat.le_refl _) (by simp)))
    (fun _ _ _ _ _ hs _ _ => hs)
    ⟨⟨_, bO, World.ownsRow_nil _ _ _ _, by simp⟩, hxw⟩
    (SlotAx w bx) ?hAx ?assign ?body ?done ?stop
  case hAx =>
    rintro x a' s X Y row ⟨Bx, h1, h2, h3⟩ hg hr
    exact ⟨Bx, h1, (hg.block Bx h2.lt (fun e => by obtain ⟨_, o, ho, hc⟩ := hr Bx e.symm; rw [show X.heap[Bx]? = _ from h2] at ho; cases ho; cases hc)).trans h2, h3⟩
  case assign =>
    rintro L pre x W K ⟨⟨v, hv, hrow, hnil⟩, hB⟩ hK
    obtain ⟨k, sp, se, sbu, srk, sk, sa, sb⟩ := x
    simp only [Slot.val, Slot.cells]
    gi_wp2
    exact hK _ _ ((KeepsOthers.alloc _ _).from _) ⟨(Below.refl _ W).alloc hB.size _, (KeepsOthers.alloc _ _).walks⟩ ⟨⟨v, hv.alloc _, hrow.alloc _, hnil⟩, hB.alloc hB.size _⟩ ⟨W.heap.size, hv.lt, Blk.new W _ _, rfl⟩
  case body =>
    rintro L pre x a' W hl ⟨r, hr⟩ ⟨⟨v, hv, hrow, hnil⟩, hB⟩ ⟨Bx, hBx, bX, rfl⟩ hlt
    obtain ⟨k, sp, se, sbu, srk, sk, sa, sb⟩ := x
    simp only [Slot.val, Slot.cells] at bX ⊢
    have hc := hv.cell
    have hcx := bX.cell
    have hlx := bX.lt
    have hml : (1000000 : Nat) + 1 ≤ maxLen := by decide
    gi_wp2_with (gi_at_builtin; refine wpListIn_append_own _ rfl _ _ 118 rfl w.heap.size 145 i0 slot0.val 8 80 Tryz.underlying118 hi hz0 hz1 hz2 rfl (by decide) _ _ _ rfl (hrow.alloc _) ⟨W.heap.size, 0, none⟩ 1 1 [.string k, .string sp, .int .u64 se, .int .u64 sbu, .int .u8 srk, .int .u8 sk, .int .u64 sa, .int .u64 sb] rfl rfl (cells_new W #[.string k, .string sp, .int .u64 se, .int .u64 sbu, .int .u8 srk, .int .u8 sk, .int .u64 sa, .int .u64 sb] 145) (by simp [Value.oneCell']) (by omega) (by omega) (by have := hB.size; simp; omega) ?_; intro v' w1 hown' hgrow _; obtain ⟨g', cap', rfl⟩ := ownsRow_succ hown'; obtain ⟨hv1, hv2, hr2, hk2, hb2⟩ := hv.appended (by decide) hrow hB.size (Nat.le_refl _) hown' hgrow; have hc1 := hv1.cell; have hf1 := hv1.frozen)
    exact ⟨hk2.from _, ⟨hb2, hk2.walks⟩, ⟨⟨_, hv2, by rw [flatS_snoc]; simpa [Slot.cells] using hr2, by simp⟩, hB.trans hb2⟩⟩
  case done =>
    rintro D ys W hD hperm ⟨⟨v, hv, hrow, hnil⟩, hB⟩ hK
    have hc := hv.cell
    gi_wp2
    refine ⟨by simp, .inl ⟨_, _, rfl, run_takeDeferred hK, ?_⟩⟩
    exact ⟨_, results_tmp rfl _ _ _, v, ys, rfl, hperm, ownsRow_putObj hrow _ hK rfl, hnil, hB.trans (belowK_b (w := w) (Nat.le_refl _) W D _ _ (by simp at hD; omega) hK rfl rfl)⟩
  case stop =>
    rintro D c pre W _ _ h _
    exact h.elim
end Go.Proofs.YtknlojlcahgnoaaGreat
