/- Walks: tollerref14: Same, Tick, New, told. Walks: tollerref14: moved. Walks: tollerref14.Move. What the reference's Charge tells and leaves: plain. -/
import Derived.Test.YtnlmbmbalmkiiaaGreatG45
import Derived.Test.YtnlmbmbalmkiiaaGreatTabN
import Derived.Test.YtnlmbmbalmkiiaaGreatChB
import Derived.Test.YtnlmbmbalmkiiaaGreatMigP
import Derived.Test.YtnlmbmbalmkiiaaGreatChW

/- Walks: tollerref14: Same, Tick, New, told. -/
namespace Go.Proofs.YtnlmbmbalmkiiaaGreat
open Go.RowKit
set_option linter.unusedVariables false
set_option linter.unusedSimpArgs false

theorem ref14_New (m : Int) (w : World) (hm0 : -9223372036854775808 ≤ m) (hm1 : m ≤ 9223372036854775807) :
    Calls Tryz.prog 12 #[.int .i64 m] w fun x w' => x = .returned (.agg #[.int .i64 (mostOf m), .int .u64 0, .slice none 0 0]) ∧ Ext w w' := by
  have hdef : mostOf m = max 1 (min m 1000000) := rfl
  generalize mostOf m = q at *
  have HQ := Lib.hid hdef
  clear hdef
  go_enter Tryz.func12, Tryz.ntmps12
  go_wp2
  all_goals
    refine ret_cell Tryz.results12 rfl (Blk.new w _ 47) Tryz.underlying47 rfl (by kernel_rfl) ⟨?_, (Ext.refl w).alloc _⟩
    first
      | (rw [show q = m by have := HQ.out; omega])
      | (rw [show q = 1000000 by have := HQ.out; omega])
      | (rw [show q = 1 by have := HQ.out; omega])

set_option maxHeartbeats 1000000 in
set_option maxRecDepth 100000 in
theorem ref14_Tick (most clock now : Int) (a : Option Addr) (n c : Nat) (w : World) (hn0 : 0 ≤ clock) (hn1 : clock < 18446744073709551616) (hx0 : 0 ≤ now) (hx1 : now < 18446744073709551616) :
    Calls Tryz.prog 40 #[.agg #[.int .i64 most, .int .u64 clock, .slice a n c], .int .u64 now] w fun x w' => x = .returned (.agg #[.int .i64 most, .int .u64 (max clock now), .slice a n c]) ∧ Ext w w' := by
  generalize hq : max clock now = q
  have HQ := Lib.hid hq
  clear hq
  go_enter Tryz.func40, Tryz.ntmps40
  go_wp2
  all_goals
    refine ret_cell Tryz.results40 rfl (Blk.new' _ _ 47 (b := w.heap.size + 1) (by simp)) Tryz.underlying47 rfl (by kernel_rfl) ⟨?_, ((Ext.refl w).alloc _).alloc _⟩
    first
      | (rw [show q = now by have := HQ.out; omega])
      | (rw [show q = clock by have := HQ.out; omega])

set_option maxHeartbeats 1000000 in
set_option maxRecDepth 100000 in
theorem ref14_Same_yes (v1 v2 : Value) (l : List Slot) (w : World) (h1 : SlotsAt w v1 l) (h2 : SlotsAt w v2 l) (hlen : l.length ≤ 1000000) :
    Calls Tryz.prog 17 #[v1, v2] w fun x w' => x = .returned (.bool true) ∧ Ext w w' := by
  obtain ⟨a1, c1, rfl⟩ := h1.size
  obtain ⟨a2, c2, rfl⟩ := h2.size
  have H1 := Lib.hid h1
  have H2 := Lib.hid h2
  clear h1 h2
  have hll : ((l.length : Int) == (l.length : Int)) = true := by simp
  go_enter Tryz.func17, Tryz.ntmps17
  go_wp2
  go_loopw [5] (fun i wr => ∃ k : Nat, k ≤ l.length ∧ i = .int .i64 k ∧ Ext w wr) (fun i _ => l.length - (intOf i).toNat)
  case atStart => exact ⟨0, by omega, rfl, Ext.refl _⟩
  case round =>
    obtain ⟨k, hk, rfl, hx⟩ := hrel
    by_cases hlt : k < l.length
    · obtain ⟨g1, o1, rfl, -, p0, p1, p2, p3, p4, p5, p6, p7⟩ := (H1.out.ext hx).cells k hlt
      obtain ⟨g2, o2, rfl, -, q0, q1, q2, q3, q4, q5, q6, q7⟩ := (H2.out.ext hx).cells k hlt
      generalize l[k] = s at *
      obtain ⟨s1, s2, s3, s4, s5, s6, s7, s8⟩ := s
      simp only at p0 p1 p2 p3 p4 p5 p6 p7 q0 q1 q2 q3 q4 q5 q6 q7
      generalize hoo1 : o1 + k * 8 = ob1 at *
      generalize hoo2 : o2 + k * 8 = ob2 at *
      go_upto_region 6 with fail
      go_quiet (fail)
      go_wp2
      go_roundw
      case rel => exact ⟨k + 1, by omega, by go_num, hx.trans (Ext.drewNs _ _)⟩
      case measure => simp [intOf]; omega
    · go_wp2
      go_ret
      exact ⟨rfl, hx⟩

/-- what is told of a state -/
def rTold (clock : Int) (p : ByteArray) (e b rk sk sa sb : Int) : Int × Int := (divS (satSub (ruleCap p e b rk) (kFill sk sa sb clock (ruleCap p e b rk))) e, ceilS (kFill sk sa sb clock (ruleCap p e b rk)) 1000000000)
set_option maxHeartbeats 4000000 in
set_option maxRecDepth 100000 in
theorem ref14_told (most clock : Int) (a : Option Addr) (n c : Nat) (code err limit left reset aft nan : Int) (ret : Bool) (p : ByteArray) (e b rk sk sa sb : Int) (w : World)
    (hn0 : 0 ≤ clock) (hn1 : clock < 18446744073709551616) (hp : p.size ≤ maxLen) (he0 : 0 ≤ e) (he1 : e < 18446744073709551616) (hb0 : 0 ≤ b) (hb1 : b < 18446744073709551616) (ha0 : 0 ≤ sa) (ha1 : sa < 18446744073709551616) (hs0 : 0 ≤ sb) (hs1 : sb < 18446744073709551616) :
    Calls Tryz.prog 91 #[.agg #[.int .i64 most, .int .u64 clock, .slice a n c], ansV code err limit left reset aft nan ret, .agg #[.string p, .int .u64 e, .int .u64 b, .int .u8 rk], .agg #[.int .u8 sk, .int .u64 sa, .int .u64 sb]] w fun x w' =>
      x = .returned (ansV code err b (rTold clock p e b rk sk sa sb).1 (rTold clock p e b rk sk sa sb).2 aft nan ret) ∧ Ext w w' := by
  have hc := ruleCap_u p e b rk he0 hb0
  unfold rTold
  have hcp := fun W : World => ref11_Cap p e b rk W hp he0 he1 hb0 hb1
  generalize ruleCap p e b rk = cap at *
  obtain ⟨hc0, hc1⟩ := hc
  have hF := kFill_u sk sa sb clock cap ha0 ha1 hs0 hn0 hn1 hc0 (by omega)
  have hf := fun W : World => ref07_Fill sk sa sb clock cap W ha0 ha1 hs0 hs1 hn0 hn1 hc0 (by omega)
  have hl := fun W : World => ref07_Left sk sa sb clock cap e W ha0 ha1 hs0 hs1 hn0 hn1 hc0 (by omega) he0 he1
  generalize kFill sk sa sb clock cap = F at *
  obtain ⟨hF0, hF1⟩ := hF
  have hu := divS_u (satSub cap F) e (satSub_u cap F hc0 (by omega) hF0).1 (by have := (satSub_u cap F hc0 (by omega) hF0).2; omega) he0
  generalize divS (satSub cap F) e = D at *
  have hce := fun W : World => ref02_Ceil F 1000000000 W hF0 hF1 (by omega) (by omega)
  generalize ceilS F 1000000000 = C at *
  have HC := Lib.hid hcp
  have HF := Lib.hid hf
  have HL := Lib.hid hl
  have HCE := Lib.hid hce
  clear hcp hf hl hce
  simp only [ansV, ansC]
  have k0 := ((((Blk.new' w #[.int .i64 most, .int .u64 clock, .slice a n c] 47 (b := w.heap.size) (by simp)).alloc (.cells #[.int .u8 code, .int .u16 err, .int .u64 limit, .int .u64 left, .int .u64 reset, .int .u64 aft, .int .u64 nan, .bool ret, .int .i64 0, .slice none 0 0] 44)).alloc (.cells #[.string p, .int .u64 e, .int .u64 b, .int .u8 rk] 41)).alloc (.cells #[.int .u8 sk, .int .u64 sa, .int .u64 sb] 65)).alloc (.cells #[.int .u8 0, .int .u16 0, .int .u64 0, .int .u64 0, .int .u64 0, .int .u64 0, .int .u64 0, .bool false, .int .i64 0, .slice none 0 0] 44)
  have k1 := (((Blk.new' (w.alloc (.cells #[.int .i64 most, .int .u64 clock, .slice a n c] 47)) #[.int .u8 code, .int .u16 err, .int .u64 limit, .int .u64 left, .int .u64 reset, .int .u64 aft, .int .u64 nan, .bool ret, .int .i64 0, .slice none 0 0] 44 (b := w.heap.size + 1) (by simp)).alloc (.cells #[.string p, .int .u64 e, .int .u64 b, .int .u8 rk] 41)).alloc (.cells #[.int .u8 sk, .int .u64 sa, .int .u64 sb] 65)).alloc (.cells #[.int .u8 0, .int .u16 0, .int .u64 0, .int .u64 0, .int .u64 0, .int .u64 0, .int .u64 0, .bool false, .int .i64 0, .slice none 0 0] 44)
  have k2 := ((Blk.new' ((w.alloc (.cells #[.int .i64 most, .int .u64 clock, .slice a n c] 47)).alloc (.cells #[.int .u8 code, .int .u16 err, .int .u64 limit, .int .u64 left, .int .u64 reset, .int .u64 aft, .int .u64 nan, .bool ret, .int .i64 0, .slice none 0 0] 44)) #[.string p, .int .u64 e, .int .u64 b, .int .u8 rk] 41 (b := w.heap.size + 1 + 1) (by simp)).alloc (.cells #[.int .u8 sk, .int .u64 sa, .int .u64 sb] 65)).alloc (.cells #[.int .u8 0, .int .u16 0, .int .u64 0, .int .u64 0, .int .u64 0, .int .u64 0, .int .u64 0, .bool false, .int .i64 0, .slice none 0 0] 44)
  have k3 := (Blk.new' (((w.alloc (.cells #[.int .i64 most, .int .u64 clock, .slice a n c] 47)).alloc (.cells #[.int .u8 code, .int .u16 err, .int .u64 limit, .int .u64 left, .int .u64 reset, .int .u64 aft, .int .u64 nan, .bool ret, .int .i64 0, .slice none 0 0] 44)).alloc (.cells #[.string p, .int .u64 e, .int .u64 b, .int .u8 rk] 41)) #[.int .u8 sk, .int .u64 sa, .int .u64 sb] 65 (b := w.heap.size + 1 + 1 + 1) (by simp)).alloc (.cells #[.int .u8 0, .int .u16 0, .int .u64 0, .int .u64 0, .int .u64 0, .int .u64 0, .int .u64 0, .bool false, .int .i64 0, .slice none 0 0] 44)
  have k4 := Blk.new' ((((w.alloc (.cells #[.int .i64 most, .int .u64 clock, .slice a n c] 47)).alloc (.cells #[.int .u8 code, .int .u16 err, .int .u64 limit, .int .u64 left, .int .u64 reset, .int .u64 aft, .int .u64 nan, .bool ret, .int .i64 0, .slice none 0 0] 44)).alloc (.cells #[.string p, .int .u64 e, .int .u64 b, .int .u8 rk] 41)).alloc (.cells #[.int .u8 sk, .int .u64 sa, .int .u64 sb] 65)) #[.int .u8 0, .int .u16 0, .int .u64 0, .int .u64 0, .int .u64 0, .int .u64 0, .int .u64 0, .bool false, .int .i64 0, .slice none 0 0] 44 (b := w.heap.size + 1 + 1 + 1 + 1) (by simp)
  have hx0 : Ext w (((((w.alloc (.cells #[.int .i64 most, .int .u64 clock, .slice a n c] 47)).alloc (.cells #[.int .u8 code, .int .u16 err, .int .u64 limit, .int .u64 left, .int .u64 reset, .int .u64 aft, .int .u64 nan, .bool ret, .int .i64 0, .slice none 0 0] 44)).alloc (.cells #[.string p, .int .u64 e, .int .u64 b, .int .u8 rk] 41)).alloc (.cells #[.int .u8 sk, .int .u64 sa, .int .u64 sb] 65)).alloc (.cells #[.int .u8 0, .int .u16 0, .int .u64 0, .int .u64 0, .int .u64 0, .int .u64 0, .int .u64 0, .bool false, .int .i64 0, .slice none 0 0] 44)) := (((((Ext.refl w).alloc _).alloc _).alloc _).alloc _).alloc _
  go_enter Tryz.func91, Tryz.ntmps91
  go_upto_region 1 with fail
  generalize (((((w.alloc (.cells #[.int .i64 most, .int .u64 clock, .slice a n c] 47)).alloc (.cells #[.int .u8 code, .int .u16 err, .int .u64 limit, .int .u64 left, .int .u64 reset, .int .u64 aft, .int .u64 nan, .bool ret, .int .i64 0, .slice none 0 0] 44)).alloc (.cells #[.string p, .int .u64 e, .int .u64 b, .int .u8 rk] 41)).alloc (.cells #[.int .u8 sk, .int .u64 sa, .int .u64 sb] 65)).alloc (.cells #[.int .u8 0, .int .u16 0, .int .u64 0, .int .u64 0, .int .u64 0, .int .u64 0, .int .u64 0, .bool false, .int .i64 0, .slice none 0 0] 44)) = w0 at *
  have q2 := k2.cell
  go_wp2_with fail
  refine (HC.out _).mono ?_
  rintro x w1 ⟨rfl, hx1⟩
  clear q2
  have hX := hx0.trans hx1
  have j0 := k0.ext hx1
  have j1 := k1.ext hx1
  have j2 := k2.ext hx1
  have j3 := k3.ext hx1
  have j4 := k4.ext hx1
  clear k0 k1 k2 k3 k4 hx0 hx1
  have q0 := j0.cell
  have q1 := j1.cell
  have f1 := j1.free
  have q2 := j2.cell
  have q3 := j3.cell
  go_wp2_with fail
  refine (HL.out _).mono ?_
  rintro x w2 ⟨rfl, hx2⟩
  clear q0 q1 f1 q2 q3
  have hX2 := (hX.set (b := w.heap.size + 1) (by omega) _ _).trans hx2
  have k0 := (j0.other (by simp only; omega) _).ext hx2
  have k1 := (j1.set _ _).ext hx2
  have k2 := (j2.other (by simp only; omega) _).ext hx2
  have k3 := (j3.other (by simp only; omega) _).ext hx2
  have k4 := (j4.other (by simp only; omega) _).ext hx2
  clear j0 j1 j2 j3 j4 hX hx2
  have q0 := k0.cell
  have q1 := k1.cell
  have f1 := k1.free
  have q2 := k2.cell
  have q3 := k3.cell
  go_wp2_with fail
  refine (HF.out _).mono ?_
  rintro x w3 ⟨rfl, hx3⟩
  clear q0 q1 f1 q2 q3
  have hX3 := (hX2.set (b := w.heap.size + 1) (by omega) _ _).trans hx3
  have j1 := (k1.set _ _).ext hx3
  have j4 := (k4.other (by simp only; omega) _).ext hx3
  clear k0 k1 k2 k3 k4 hX2 hx3
  have q1 := j1.cell
  have f1 := j1.free
  have q4 := j4.cell
  have f4 := j4.free
  have hl4 := j4.lt
  go_wp2_with (first
    | (go_at_call 92; (with_reducible refine (HCE.out _).mono ?_); rintro x w4 ⟨rfl, rfl⟩)
    | fail)
  have j5 := Blk.other (a := ⟨w.heap.size + 1, 4, none⟩) j4 (by simp only; omega) (.int .u64 C)
  have hS := Blk.set10 j5 (.int .u8 code) (.int .u16 err) (.int .u64 b) (.int .u64 D) (.int .u64 C) (.int .u64 aft) (.int .u64 nan) (.bool ret) (.int .i64 0) (.slice none 0 0)
  refine ret_cell Tryz.results91 rfl hS Tryz.underlying44 rfl (by kernel_rfl) ⟨rfl, ?_⟩
  exact (hX3.set (b := w.heap.size + 1) (by omega) _ _).new10 (b := w.heap.size + 1 + 1 + 1 + 1) (by omega) _ _ _ _ _ _ _ _ _ _
end Go.Proofs.YtnlmbmbalmkiiaaGreat

/- Walks: tollerref14: moved. -/
namespace Go.Proofs.YtnlmbmbalmkiiaaGreat
open Go.RowKit
set_option linter.unusedVariables false
set_option linter.unusedSimpArgs false

theorem Blk.set8 {w : World} {b : Nat} {a0 a1 a2 a3 a4 a5 a6 a7 : Value} {t : TypeId} (h : Blk w b #[a0, a1, a2, a3, a4, a5, a6, a7] t) (v0 v1 v2 v3 v4 v5 v6 v7 : Value) : Blk ((((((((w.setCell ⟨b, 0, none⟩ v0).setCell ⟨b, 1, none⟩ v1).setCell ⟨b, 2, none⟩ v2).setCell ⟨b, 3, none⟩ v3).setCell ⟨b, 4, none⟩ v4).setCell ⟨b, 5, none⟩ v5).setCell ⟨b, 6, none⟩ v6).setCell ⟨b, 7, none⟩ v7) b #[v0, v1, v2, v3, v4, v5, v6, v7] t := by
  have h0 : Blk _ b #[v0, a1, a2, a3, a4, a5, a6, a7] t := h.set 0 v0
  have h1 : Blk _ b #[v0, v1, a2, a3, a4, a5, a6, a7] t := h0.set 1 v1
  have h2 : Blk _ b #[v0, v1, v2, a3, a4, a5, a6, a7] t := h1.set 2 v2
  have h3 : Blk _ b #[v0, v1, v2, v3, a4, a5, a6, a7] t := h2.set 3 v3
  have h4 : Blk _ b #[v0, v1, v2, v3, v4, a5, a6, a7] t := h3.set 4 v4
  have h5 : Blk _ b #[v0, v1, v2, v3, v4, v5, a6, a7] t := h4.set 5 v5
  have h6 : Blk _ b #[v0, v1, v2, v3, v4, v5, v6, a7] t := h5.set 6 v6
  have h7 : Blk _ b #[v0, v1, v2, v3, v4, v5, v6, v7] t := h6.set 7 v7
  exact h7
theorem Ext.set8 {x y : World} (h : Ext x y) {b : Nat} (hb : x.heap.size ≤ b) (v0 v1 v2 v3 v4 v5 v6 v7 : Value) : Ext x ((((((((y.setCell ⟨b, 0, none⟩ v0).setCell ⟨b, 1, none⟩ v1).setCell ⟨b, 2, none⟩ v2).setCell ⟨b, 3, none⟩ v3).setCell ⟨b, 4, none⟩ v4).setCell ⟨b, 5, none⟩ v5).setCell ⟨b, 6, none⟩ v6).setCell ⟨b, 7, none⟩ v7) :=
  (((((((h.set hb _ _).set hb _ _).set hb _ _).set hb _ _).set hb _ _).set hb _ _).set hb _ _).set hb _ _

set_option maxHeartbeats 4000000 in
set_option maxRecDepth 100000 in
theorem ref14_moved (most clock : Int) (a : Option Addr) (n c : Nat) (s : Slot) (kind : Int) (w : World) (hs : SlotOk s) (hk : rightKind s.sk = true) (hq : rightKind kind = true) (hn0 : 0 ≤ clock) (hn1 : clock < 18446744073709551616) :
    Calls Tryz.prog 86 #[.agg #[.int .i64 most, .int .u64 clock, .slice a n c], s.val, .int .u8 kind] w fun x w' => x = .returned (movedS clock s kind).val ∧ Ext w w' := by
  obtain ⟨k, sp, se, sbu, srk, sk, sa, sb⟩ := s
  obtain ⟨m1, m2, v1, v2, v3, v4, v5, v6, v7, v8, v9, v10, v11, v12⟩ := hs
  simp only at m1 m2 v1 v2 v3 v4 v5 v6 v7 v8 v9 v10 v11 v12 hk
  have hc := ruleCap_u sp se sbu srk v1 v3
  have hE : movedS clock ⟨k, sp, se, sbu, srk, sk, sa, sb⟩ kind = ⟨k, sp, se, sbu, srk, kind, kOfA kind clock (ruleCap sp se sbu srk) (kFill sk sa sb clock (ruleCap sp se sbu srk)), kOfB kind clock⟩ := rfl
  rw [hE]
  have hcp := fun W : World => ref11_Cap sp se sbu srk W m2 v1 v2 v3 v4
  generalize hcap : ruleCap sp se sbu srk = cap at *
  have HC := Lib.hid hcp
  obtain ⟨hc0, hc1⟩ := hc
  have HU := Lib.hid (fun W : World => ref07_Migrate sk sa sb kind clock cap W v9 v10 v11 v12 hn0 hn1 hc0 (by omega) hk hq)
  generalize kOfA kind clock cap (kFill sk sa sb clock cap) = oa at *
  generalize kOfB kind clock = ob at *
  clear hcap hE hcp
  simp only [Slot.val, Slot.cells]
  have bt := ((Blk.new w #[.int .i64 most, .int .u64 clock, .slice a n c] 47).alloc (.cells #[.string k, .string sp, .int .u64 se, .int .u64 sbu, .int .u8 srk, .int .u8 sk, .int .u64 sa, .int .u64 sb] 69)).alloc (.cells #[.string ⟨#[]⟩, .string ⟨#[]⟩, .int .u64 0, .int .u64 0, .int .u8 0, .int .u8 0, .int .u64 0, .int .u64 0] 69)
  have bq := (Blk.new' (w.alloc (.cells #[.int .i64 most, .int .u64 clock, .slice a n c] 47)) #[.string k, .string sp, .int .u64 se, .int .u64 sbu, .int .u8 srk, .int .u8 sk, .int .u64 sa, .int .u64 sb] 69 (b := w.heap.size + 1) (by simp)).alloc (.cells #[.string ⟨#[]⟩, .string ⟨#[]⟩, .int .u64 0, .int .u64 0, .int .u8 0, .int .u8 0, .int .u64 0, .int .u64 0] 69)
  have br := Blk.new' ((w.alloc (.cells #[.int .i64 most, .int .u64 clock, .slice a n c] 47)).alloc (.cells #[.string k, .string sp, .int .u64 se, .int .u64 sbu, .int .u8 srk, .int .u8 sk, .int .u64 sa, .int .u64 sb] 69)) #[.string ⟨#[]⟩, .string ⟨#[]⟩, .int .u64 0, .int .u64 0, .int .u8 0, .int .u8 0, .int .u64 0, .int .u64 0] 69 (b := w.heap.size + 1 + 1) (by simp)
  have hx0 : Ext w (((w.alloc (.cells #[.int .i64 most, .int .u64 clock, .slice a n c] 47)).alloc (.cells #[.string k, .string sp, .int .u64 se, .int .u64 sbu, .int .u8 srk, .int .u8 sk, .int .u64 sa, .int .u64 sb] 69)).alloc (.cells #[.string ⟨#[]⟩, .string ⟨#[]⟩, .int .u64 0, .int .u64 0, .int .u8 0, .int .u8 0, .int .u64 0, .int .u64 0] 69)) := (((Ext.refl w).alloc _).alloc _).alloc _
  go_enter Tryz.func86, Tryz.ntmps86
  go_upto_region 1 with fail
  generalize (((w.alloc (.cells #[.int .i64 most, .int .u64 clock, .slice a n c] 47)).alloc (.cells #[.string k, .string sp, .int .u64 se, .int .u64 sbu, .int .u8 srk, .int .u8 sk, .int .u64 sa, .int .u64 sb] 69)).alloc (.cells #[.string ⟨#[]⟩, .string ⟨#[]⟩, .int .u64 0, .int .u64 0, .int .u8 0, .int .u8 0, .int .u64 0, .int .u64 0] 69)) = w0 at *
  have q1 : w0.cell? ⟨w.heap.size + 1, 1, none⟩ = some (.string sp) := bq.cell 1
  have q2 : w0.cell? ⟨w.heap.size + 1, 2, none⟩ = some (.int .u64 se) := bq.cell 2
  have q3 : w0.cell? ⟨w.heap.size + 1, 3, none⟩ = some (.int .u64 sbu) := bq.cell 3
  have q4 : w0.cell? ⟨w.heap.size + 1, 4, none⟩ = some (.int .u8 srk) := bq.cell 4
  have q5 : w0.cell? ⟨w.heap.size + 1, 5, none⟩ = some (.int .u8 sk) := bq.cell 5
  have q6 : w0.cell? ⟨w.heap.size + 1, 6, none⟩ = some (.int .u64 sa) := bq.cell 6
  have q7 : w0.cell? ⟨w.heap.size + 1, 7, none⟩ = some (.int .u64 sb) := bq.cell 7
  have g1 : w0.cell? ⟨w.heap.size, 1, none⟩ = some (.int .u64 clock) := bt.cell 1
  have HBR := Lib.hid br
  have HBQ := Lib.hid bq
  have HX0 := Lib.hid hx0
  clear bt bq br hx0
  have hw0 : w.heap.size + 1 + 1 < w0.heap.size := HBR.out.lt
  go_cut [7, 8] from 9 to 23 (fun s7 s8 wx => ∃ g, s7 = .pointer (some ⟨g, 0, none⟩) ∧ s8 = .int .i64 0 ∧ Blk wx g #[.int .u8 kind, .int .u64 oa, .int .u64 ob] 65 ∧ Ext w0 wx)
  case first =>
    go_region_held3 (fun w' => w'.cell? ⟨w.heap.size + 1, 1, none⟩ = some (.string sp) ∧ w'.cell? ⟨w.heap.size + 1, 2, none⟩ = some (.int .u64 se) ∧ w'.cell? ⟨w.heap.size + 1, 3, none⟩ = some (.int .u64 sbu) ∧ w'.cell? ⟨w.heap.size + 1, 4, none⟩ = some (.int .u8 srk) ∧ w'.cell? ⟨w.heap.size + 1, 5, none⟩ = some (.int .u8 sk) ∧ w'.cell? ⟨w.heap.size + 1, 6, none⟩ = some (.int .u64 sa) ∧ w'.cell? ⟨w.heap.size + 1, 7, none⟩ = some (.int .u64 sb) ∧ w'.cell? ⟨w.heap.size, 1, none⟩ = some (.int .u64 clock) ∧ Ext w0 w')
      (((try go_split_ands); refine ⟨?_, ?_, ?_, ?_, ?_, ?_, ?_, ?_, ?_⟩ <;> first | with_reducible assumption | exact (Ext.refl _).drew | ((repeat (first | with_reducible exact Ext.refl _ | with_reducible assumption | with_reducible refine Ext.alloc ?_ _ | with_reducible refine Ext.drew ?_ | (with_reducible refine Ext.setCell ?_ (by first | exact Nat.le_refl _ | (dsimp only; omega) | (simp; done) | (simp; omega)) _) | with_reducible refine Ext.trans ?_ (by with_reducible assumption))); done) | (refine Ext.keep (w := w0) (by repeat (first | with_reducible exact Ext.refl _ | with_reducible assumption | with_reducible refine Ext.alloc ?_ _ | with_reducible refine Ext.drew ?_ | (with_reducible refine Ext.setCell ?_ (by first | exact Nat.le_refl _ | (dsimp only; omega) | (simp; done) | (simp; omega)) _) | with_reducible refine Ext.trans ?_ (by with_reducible assumption))) ?_; with_reducible assumption)))
      (first
        | (go_at_call 25; (with_reducible refine (HC.out _).mono ?_); rintro x w6 ⟨rfl, hx6⟩; have hs6 := Ext.sz hx6; (try simp at hs6); (try have bn := Blk.ext (w := (w0.drew).alloc (.cells #[.int .u8 0, .int .u64 0, .int .u64 0] 65)) (b := (w0.drew).heap.size) (Blk.new _ _ _) hx6))
        | (go_at_call 122; (with_reducible refine (HU.out _).mono ?_); rintro x w7 ⟨rfl, hx7⟩; have hs7 := Ext.sz hx7; (try simp at hs7); (try first | (have bn : Blk w7 w6.heap.size #[.int .u8 0, .int .u64 0, .int .u64 0] 65 := Blk.ext (Blk.new' _ _ _ (by rfl)) hx7) | (have bn := bn.ext hx7)); (try (have bc := bn.cell; have bf := bn.free; have bl := bn.lt)); (try (have bz : Blk w7 w0.heap.size #[.int .u8 0, .int .u64 0, .int .u64 0] 65 := bn; have bcz := bz.cell; have bfz := bz.free))))
    all_goals
      go_wp2
      go_meet
      go_split_ands
      first
        | exact ⟨_, rfl, rfl, Blk.new _ _ _, by assumption⟩
        | exact ⟨_, rfl, rfl, ((bn.set 0 (.int .u8 kind)).set 1 (.int .u64 oa)).set 2 (.int .u64 ob), by assumption⟩
  case rest =>
    obtain ⟨g, rfl, rfl, hT, hX⟩ := hcut
    have hR := HBR.out.ext hX
    have hQ := HBQ.out.ext hX
    have hxg := HX0.out.trans hX
    have hfr := hR.free
    have hcr := hR.cell
    have hlr := hR.lt
    have hfq := hQ.free
    have hcq := hQ.cell
    have hct := hT.cell
    have hsz := hxg.sz
    clear q1 q2 q3 q4 q5 q6 q7 g1 hQ
    go_wp2
    have hS := Blk.set8 (((hR.other (a := ⟨w.heap.size + 1, 5, none⟩) (by dsimp only; omega) (.int .u8 kind)).other (a := ⟨w.heap.size + 1, 6, none⟩) (by dsimp only; omega) (.int .u64 oa)).other (a := ⟨w.heap.size + 1, 7, none⟩) (by dsimp only; omega) (.int .u64 ob)) (.string k) (.string sp) (.int .u64 se) (.int .u64 sbu) (.int .u8 srk) (.int .u8 kind) (.int .u64 oa) (.int .u64 ob)
    refine ret_cell Tryz.results86 rfl hS Tryz.underlying69 rfl (by kernel_rfl) ⟨rfl, ?_⟩
    exact (((hxg.set (b := w.heap.size + 1) (by omega) _ _).set (b := w.heap.size + 1) (by omega) _ _).set (b := w.heap.size + 1) (by omega) _ _).set8 (b := w.heap.size + 1 + 1) (by omega) _ _ _ _ _ _ _ _
end Go.Proofs.YtnlmbmbalmkiiaaGreat

/- Walks: tollerref14.Move. -/
namespace Go.Proofs.YtnlmbmbalmkiiaaGreat
open Go.RowKit
set_option linter.unusedVariables false
set_option linter.unusedSimpArgs false

theorem Blk.set3 {w : World} {b : Nat} {a0 a1 a2 : Value} {t : TypeId} (h : Blk w b #[a0, a1, a2] t) (v0 v1 v2 : Value) : Blk (((w.setCell ⟨b, 0, none⟩ v0).setCell ⟨b, 1, none⟩ v1).setCell ⟨b, 2, none⟩ v2) b #[v0, v1, v2] t := by
  have h0 : Blk _ b #[v0, a1, a2] t := h.set 0 v0
  have h1 : Blk _ b #[v0, v1, a2] t := h0.set 1 v1
  have h2 : Blk _ b #[v0, v1, v2] t := h1.set 2 v2
  exact h2
theorem RowOf.set1 {α : Type} {enc : α → Array Value} {k : Nat} {E : TypeId} {base b : Nat} {w : World} {v : Value} {l : List α} (h : RowOf enc k E base w v l) (hb : b < base) (o : Nat) (x : Value) : RowOf enc k E base (w.setCell ⟨b, o, none⟩ x) v l := h.extB ((ExtB.refl _ _).setCell _ _) hb
theorem fill_right {clock : Int} {s : Slot} (h : 0 < s.fill clock) : rightKind s.sk = true := by
  unfold Slot.fill kFill at h
  unfold rightKind
  by_cases q1 : s.sk = 1
  · rw [q1]; rfl
  by_cases q2 : s.sk = 2
  · rw [q2]; rfl
  by_cases q3 : s.sk = 3
  · rw [q3]; rfl
  simp [q1, q2, q3] at h
theorem rSlots_mem {clock : Int} {l : List Slot} {s : Slot} (h : s ∈ rSlots clock l) : s ∈ l ∧ 0 < s.fill clock := by
  unfold rSlots at h
  simpa using List.mem_filter.1 h
theorem cap_u {s : Slot} (h : SlotOk s) : 0 ≤ s.cap ∧ s.cap < 18446744073709551616 := by
  have := ruleCap_u s.p s.e s.b s.rk h.e0 h.b0
  show 0 ≤ ruleCap s.p s.e s.b s.rk ∧ ruleCap s.p s.e s.b s.rk < 18446744073709551616
  omega
theorem fill_u {clock : Int} {s : Slot} (h : SlotOk s) (hn0 : 0 ≤ clock) (hn1 : clock < 18446744073709551616) : 0 ≤ s.fill clock ∧ s.fill clock < 18446744073709551616 := by
  have hc := cap_u h
  exact kFill_u s.sk s.sa s.sb clock s.cap h.sa0 h.sa1 h.sb0 hn0 hn1 hc.1 hc.2
theorem movedS_ok {clock kind : Int} {s : Slot} (hso : SlotOk s) (hq : rightKind kind = true) (hn0 : 0 ≤ clock) (hn1 : clock < 18446744073709551616) : SlotOk (movedS clock s kind) := by
  have hkind : 0 ≤ kind ∧ kind < 256 := by unfold rightKind at hq; simp at hq; omega
  have hc := cap_u hso
  have hf := fill_u hso hn0 hn1
  have hnum := kOf_u kind clock s.cap (s.fill clock) hn0 hn1 hc.1 hc.2 hf.1 hf.2
  exact ⟨hso.key, hso.p, hso.e0, hso.e1, hso.b0, hso.b1, hso.rk0, hso.rk1, hkind.1, hkind.2, hnum.1, hnum.2.1, hnum.2.2.1, hnum.2.2.2⟩

set_option maxHeartbeats 1000000 in
set_option maxRecDepth 100000 in
theorem ref14_MoveN (most clock kind : Int) (a : Option Addr) (n c : Nat) (k : ByteArray) (w : World) (hq : rightKind kind = false) :
    Calls Tryz.prog 44 #[.agg #[.int .i64 most, .int .u64 clock, .slice a n c], .string k, .int .u8 kind] w fun x w' => x = .returned (.tuple #[.agg #[.int .i64 most, .int .u64 clock, .slice a n c], .int .i64 27]) ∧ Ext w w' := by
  go_enter Tryz.func44, Tryz.ntmps44
  go_wp2_with fail
  refine (ref07_Right kind _).mono ?_
  rw [hq]
  rintro x w1 ⟨rfl, rfl⟩
  go_wp2
  refine ret_cell_tmp Tryz.results44 rfl rfl (Blk.new' _ _ 47 (b := w.heap.size + 1) (by simp)) Tryz.underlying47 rfl (by kernel_rfl) ⟨rfl, ?_⟩
  exact ((Ext.refl w).alloc _).alloc _

set_option maxHeartbeats 1000000 in
set_option maxRecDepth 100000 in
theorem ref14_MoveA (most clock kind : Int) (v : Value) (l : List Slot) (k : ByteArray) (w : World) (hv : SlotsAt w v l) (hs : ∀ s ∈ l, SlotOk s) (hn0 : 0 ≤ clock) (hn1 : clock < 18446744073709551616) (hlen : l.length ≤ 1000000) (hq : rightKind kind = true)
    (hk : ∀ x ∈ rSlots clock l, x.key ≠ k) :
    Calls Tryz.prog 44 #[.agg #[.int .i64 most, .int .u64 clock, v], .string k, .int .u8 kind] w fun x w' => x = .returned (.tuple #[.agg #[.int .i64 most, .int .u64 clock, v], .int .i64 52]) ∧ Ext w w' := by
  obtain ⟨a, cp, rfl⟩ := hv.size
  have HSL := Lib.hid (fun W hx => ref14_Slots most clock (.slice a l.length cp) l W (hv.ext hx) hs hn0 hn1 hlen)
  have hrl : (rSlots clock l).length ≤ 1000000 := Nat.le_trans (List.length_filter_le _ _) hlen
  generalize rSlots clock l = xs at *
  have HF := Lib.hid (fun W v1 (h : SlotsAt W v1 xs) => ref14_find_no v1 xs k W h hrl hk)
  have bt := (Blk.new w #[.int .i64 most, .int .u64 clock, .slice a l.length cp] 47).alloc (.cells #[.int .i64 0, .int .u64 0, .slice none 0 0] 47)
  have br := Blk.new' (w.alloc (.cells #[.int .i64 most, .int .u64 clock, .slice a l.length cp] 47)) #[.int .i64 0, .int .u64 0, .slice none 0 0] 47 (b := w.heap.size + 1) (by simp)
  have hx0 : Ext w ((w.alloc (.cells #[.int .i64 most, .int .u64 clock, .slice a l.length cp] 47)).alloc (.cells #[.int .i64 0, .int .u64 0, .slice none 0 0] 47)) := ((Ext.refl w).alloc _).alloc _
  clear hv hs hk
  go_enter Tryz.func44, Tryz.ntmps44
  go_upto_region 1 with fail
  generalize (w.alloc (.cells #[.int .i64 most, .int .u64 clock, .slice a l.length cp] 47)).alloc (.cells #[.int .i64 0, .int .u64 0, .slice none 0 0] 47) = w0 at *
  have q0 := bt.cell
  go_wp2_with fail
  refine (ref07_Right kind _).mono ?_
  rw [hq]
  rintro x w1 ⟨rfl, rfl⟩
  go_wp2_with fail
  refine (HSL.out _ hx0).mono ?_
  rintro x w1 ⟨v1, rfl, hr1, hx1⟩
  obtain ⟨a1, c1, rfl⟩ := hr1.size
  have hf := HF.out _ _ hr1.slots
  have bt1 := bt.ext hx1
  have br1 := br.ext hx1
  have c1t := bt1.cell
  have c1r := br1.cell
  have f1r := br1.free
  have l1r := br1.lt
  have HBR := Lib.hid br1
  have HX := Lib.hid (And.intro hx0 hx1)
  have hf1 := Lib.hid hf
  clear bt br bt1 br1 q0 hx0 hx1 hf hr1 HSL HF
  go_wp2_with fail
  refine hf1.out.mono ?_
  rintro x w2 ⟨rfl, rfl⟩
  go_wp2
  refine ret_cell_tmp Tryz.results44 rfl rfl (Blk.set3 HBR.out _ _ _) Tryz.underlying47 rfl (by kernel_rfl) ⟨rfl, ?_⟩
  exact (HX.out.1.trans HX.out.2).set3 (b := w.heap.size + 1) (by omega) _ _ _

set_option maxHeartbeats 4000000 in
set_option maxRecDepth 100000 in
theorem ref14_MoveY (most clock kind : Int) (v : Value) (l : List Slot) (k : ByteArray) (xs : List Slot) (hxs : rSlots clock l = xs) (n : Nat) (hn : n < xs.length) (w : World) (hv : SlotsAt w v l) (hs : ∀ s ∈ l, SlotOk s) (hn0 : 0 ≤ clock) (hn1 : clock < 18446744073709551616) (hlen : l.length ≤ 1000000) (hq : rightKind kind = true)
    (hk : ∀ i (h : i < n), (xs[i]'(by omega)).key ≠ k) (hkq : xs[n].key = k) :
    Calls Tryz.prog 44 #[.agg #[.int .i64 most, .int .u64 clock, v], .string k, .int .u8 kind] w fun x w' => ∃ v', x = .returned (.tuple #[.agg #[.int .i64 most, .int .u64 clock, v'], .int .i64 0]) ∧ SlotRow w.heap.size w' v' (rWith xs (movedS clock xs[n] kind)) ∧ Ext w w' := by
  obtain ⟨a, cp, rfl⟩ := hv.size
  have HSL := Lib.hid (fun W hx => ref14_Slots most clock (.slice a l.length cp) l W (hv.ext hx) hs hn0 hn1 hlen)
  have hrl : (rSlots clock l).length ≤ 1000000 := Nat.le_trans (List.length_filter_le _ _) hlen
  have hrs : ∀ s ∈ rSlots clock l, SlotOk s ∧ rightKind s.sk = true := fun s h => ⟨hs s (rSlots_mem h).1, fill_right (rSlots_mem h).2⟩
  rw [hxs] at HSL hrl hrs
  clear hxs
  have HF := Lib.hid (fun W v1 (h : SlotsAt W v1 xs) => ref14_find_yes v1 xs n hn k W h hrl hk hkq)
  have hsn := hrs xs[n] (List.getElem_mem _)
  have hmv := fun W => ref14_moved most clock a l.length cp xs[n] kind W hsn.1 hsn.2 hq hn0 hn1
  have hok := movedS_ok hsn.1 hq hn0 hn1
  have hms : (movedS clock xs[n] kind).val = .agg (movedS clock xs[n] kind).cells := rfl
  generalize movedS clock xs[n] kind = ms at *
  have HW := Lib.hid (fun W v1 (h : SlotsAt W v1 xs) => ref14_with v1 xs ms W h hok (fun x hx => (hrs x hx).1) hrl)
  have bt := (Blk.new w #[.int .i64 most, .int .u64 clock, .slice a l.length cp] 47).alloc (.cells #[.int .i64 0, .int .u64 0, .slice none 0 0] 47)
  have br := Blk.new' (w.alloc (.cells #[.int .i64 most, .int .u64 clock, .slice a l.length cp] 47)) #[.int .i64 0, .int .u64 0, .slice none 0 0] 47 (b := w.heap.size + 1) (by simp)
  have hx0 : Ext w ((w.alloc (.cells #[.int .i64 most, .int .u64 clock, .slice a l.length cp] 47)).alloc (.cells #[.int .i64 0, .int .u64 0, .slice none 0 0] 47)) := ((Ext.refl w).alloc _).alloc _
  clear hv hs hk hrs hsn hok hkq
  go_enter Tryz.func44, Tryz.ntmps44
  go_upto_region 1 with fail
  generalize (w.alloc (.cells #[.int .i64 most, .int .u64 clock, .slice a l.length cp] 47)).alloc (.cells #[.int .i64 0, .int .u64 0, .slice none 0 0] 47) = w0 at *
  have q0 := bt.cell
  have HM := Lib.hid hmv
  clear hmv
  go_wp2_with fail
  refine (ref07_Right kind _).mono ?_
  rw [hq]
  rintro x w1 ⟨rfl, rfl⟩
  go_wp2_with fail
  refine (HSL.out _ hx0).mono ?_
  rintro x w1 ⟨v1, rfl, hr1, hx1⟩
  have HR1 := Lib.hid hr1.slots
  obtain ⟨a1, c1, rfl⟩ := hr1.size
  obtain ⟨b, oo, rfl, -, e0, e1, e2, e3, e4, e5, e6, e7⟩ := HR1.out.cells n hn
  have hf := HF.out _ _ hr1.slots
  have bt1 := bt.ext hx1
  have br1 := br.ext hx1
  have c1t := bt1.cell
  have HBT := Lib.hid bt1
  have HBR := Lib.hid br1
  have HX := Lib.hid (hx0.trans hx1)
  have hf1 := Lib.hid hf
  have hl1 := (hx0.trans hx1).sz
  have hd0 : (0 : Int) ≤ (n : Int) := by omega
  have hd1 : (n : Int) < (xs.length : Int) := by omega
  clear bt br bt1 br1 q0 hx0 hx1 hf hr1 HSL HF
  go_wp2_with fail
  refine hf1.out.mono ?_
  rintro x w2 ⟨rfl, rfl⟩
  clear hf1
  have HSN := Lib.hid (show xs[n].val = xs[n].val from rfl)
  generalize xs[n] = s at *
  obtain ⟨s1, s2, s3, s4, s5, s6, s7, s8⟩ := s
  simp only [Slot.val, Slot.cells] at HM HW
  simp only at e0 e1 e2 e3 e4 e5 e6 e7
  go_upto_region 7 with fail
  go_region_with ((first
    | (go_at_call 86; (with_reducible refine (HM.out _).mono ?_); rintro x w3 ⟨rfl, hx3⟩)
    | (go_at_call 85; refine (HW.out _ _ (HR1.out.ext ((Ext.refl _).drew.trans hx3))).mono ?_; rintro x w4 ⟨v4, rfl, hr4, hx4⟩; obtain ⟨a4, c4, rfl⟩ := hr4.size; have hxx := ((Ext.refl _).drew.trans hx3).trans hx4; have ct4 := (HBT.out.ext hxx).cell; have ft4 := (HBT.out.ext hxx).free; have cr4 := (HBR.out.ext hxx).cell; have fr4 := (HBR.out.ext hxx).free; have lr4 := (HBR.out.ext hxx).lt)))
  all_goals
    have hl3 : w1.heap.size ≤ w3.heap.size := ((Ext.refl _).drew.trans hx3).sz
    have hlb := HBR.out.lt
    go_wp2
    refine ret_cell_tmp Tryz.results44 rfl rfl (Blk.set3 ((HBR.out.ext hxx).other (a := ⟨w.heap.size, 2, none⟩) (by dsimp only; omega) _) _ _ _) Tryz.underlying47 rfl (by kernel_rfl) ⟨_, rfl, ?_, ?_⟩
    · exact (((((hr4.set1 (b := w.heap.size) (by omega) _ _).set1 (b := w.heap.size + 1) (by omega) _ _).set1 (b := w.heap.size + 1) (by omega) _ _).set1 (b := w.heap.size + 1) (by omega) _ _)).low (by omega)
    · exact ((HX.out.trans hxx).set (b := w.heap.size) (Nat.le_refl _) _ _).set3 (b := w.heap.size + 1) (by omega) _ _ _
end Go.Proofs.YtnlmbmbalmkiiaaGreat

/- What the reference's Charge tells and leaves: plain. -/
namespace Go.Proofs.YtnlmbmbalmkiiaaGreat
open Go.RowKit
set_option linter.unusedVariables false
set_option linter.unusedSimpArgs false

def rFind (xs : List Slot) (k : ByteArray) : Option Slot := xs.find? fun s => decide (s.key = k)
def rIdx (xs : List Slot) (k : ByteArray) : Int := match xs.findIdx? (fun s => decide (s.key = k)) with | some i => (i : Int) | none => -1
/-- the slot of a key, if its numbers are the rule's -/
def rHit (xs : List Slot) (k : ByteArray) (e b : Int) : Option Slot := (rFind xs k).filter fun s => s.e == e && s.b == b
/-- is there one by other numbers -/
def rOth (xs : List Slot) (k : ByteArray) (e b : Int) : Bool := (rFind xs k).isSome && !(rHit xs k e b).isSome
def rLeft (xs : List Slot) (k : ByteArray) (e b : Int) : List Slot := if rOth xs k e b then rWithout xs k else xs
def rAt1 (xs : List Slot) (k : ByteArray) (e b : Int) : Int := if rOth xs k e b then -1 else rIdx xs k
def rFull (most : Int) (xs : List Slot) (k : ByteArray) (e b : Int) : Bool := !(rHit xs k e b).isSome && decide (most ≤ ((rLeft xs k e b).length : Int))
def rChgV (most clock : Int) (xs : List Slot) (k : ByteArray) (e b rk n : Int) : Value :=
  if rFull most xs k e b then ansV 3 0 b 0 0 0 0 false else chgV clock (rHit xs k e b) e b rk n
def rChgL (most clock : Int) (xs : List Slot) (k p : ByteArray) (e b rk n : Int) : List Slot :=
  if rFull most xs k e b then rLeft xs k e b else if chgOk clock (rHit xs k e b) e b rk n then rWith (rLeft xs k e b) (chgS clock (rHit xs k e b) k p e b rk n) else rLeft xs k e b

theorem rIdx_cases (xs : List Slot) (k : ByteArray) : (rIdx xs k = -1 ∧ rFind xs k = none ∧ ∀ x ∈ xs, x.key ≠ k) ∨
    ∃ m, ∃ h : m < xs.length, rIdx xs k = (m : Int) ∧ rFind xs k = some xs[m] ∧ xs[m].key = k ∧ ∀ i (hi : i < m), (xs[i]'(by omega)).key ≠ k := by
  unfold rIdx rFind
  cases hf : xs.findIdx? (fun s => decide (s.key = k)) with
  | none =>
    left
    rw [List.findIdx?_eq_none_iff] at hf
    have hf' : ∀ x ∈ xs, x.key ≠ k := fun x hx => by simpa using hf x hx
    refine ⟨rfl, ?_, hf'⟩
    rw [List.find?_eq_none]
    intro x hx
    simpa using hf' x hx
  | some m =>
    right
    rw [List.findIdx?_eq_some_iff_getElem] at hf
    obtain ⟨h, h1, h2⟩ := hf
    have h1' : xs[m].key = k := by simpa using h1
    refine ⟨m, h, rfl, ?_, h1', fun i hi => by simpa using h2 i hi⟩
    rw [List.find?_eq_some_iff_getElem]
    exact ⟨by simpa using h1', m, h, rfl, fun j hj => by simpa using h2 j hj⟩
theorem rWithout_no {xs : List Slot} {k : ByteArray} (h : ∀ x ∈ xs, x.key ≠ k) : rWithout xs k = xs := by
  unfold rWithout
  exact List.filter_eq_self.2 fun x hx => by simpa using h x hx
theorem rLeft_mem {xs : List Slot} {k : ByteArray} {e b : Int} {s : Slot} (h : s ∈ rLeft xs k e b) : s ∈ xs := by
  unfold rLeft at h
  split at h
  · exact (List.mem_filter.1 h).1
  · exact h
theorem rLeft_len (xs : List Slot) (k : ByteArray) (e b : Int) : (rLeft xs k e b).length ≤ xs.length := by
  unfold rLeft
  split
  · exact List.length_filter_le _ _
  · exact Nat.le_refl _
/-- where the key is, then -/
theorem rAt1_cases (xs : List Slot) (k : ByteArray) (e b : Int) : (rAt1 xs k e b = -1 ∧ rHit xs k e b = none) ∨
    ∃ m, ∃ h : m < (rLeft xs k e b).length, rAt1 xs k e b = (m : Int) ∧ rHit xs k e b = some (rLeft xs k e b)[m] := by
  have hc := rIdx_cases xs k
  unfold rAt1 rLeft
  cases ho : rOth xs k e b
  · rcases hc with ⟨h1, h2, -⟩ | ⟨m, h, h1, h2, -⟩
    · left
      exact ⟨h1, by unfold rHit; rw [h2]; rfl⟩
    · right
      refine ⟨m, h, h1, ?_⟩
      unfold rOth at ho
      rw [h2] at ho
      unfold rHit at ho ⊢
      rw [h2] at ho ⊢
      simp only [Option.isSome_some, Bool.true_and, Bool.not_eq_false'] at ho
      rw [Option.filter_some] at ho ⊢
      split at ho
      · rename_i hq; rw [if_pos hq]; rfl
      · simp at ho
  · left
    refine ⟨rfl, ?_⟩
    unfold rOth at ho
    simp only [Bool.and_eq_true, Bool.not_eq_true'] at ho
    simpa using ho.2
theorem rHit_mem {xs : List Slot} {k : ByteArray} {e b : Int} {s : Slot} (h : rHit xs k e b = some s) : s ∈ xs ∧ s.key = k ∧ s.e = e ∧ s.b = b := by
  unfold rHit at h
  obtain ⟨h1, h2⟩ := Option.filter_eq_some_iff.1 h
  have h3 := List.find?_some h1
  have h4 := List.mem_of_find?_eq_some h1
  simp at h2 h3
  exact ⟨h4, h3, h2.1, h2.2⟩
end Go.Proofs.YtnlmbmbalmkiiaaGreat
