/- Walks: keep.judge.stays. -/
import Derived.Test.YtfglpejbgfmojaaGreatG3
import Derived.Test.YtfglpejbgfmojaaGreatG37
import Derived.Test.YtfglpejbgfmojaaGreatG5
import Derived.Test.YtfglpejbgfmojaaGreatG9
import Derived.Test.YtfglpejbgfmojaaGreatG23
import Derived.Test.YtfglpejbgfmojaaGreatG28

/- Walks: keep.judge.stays. -/
namespace Go.Proofs.YtfglpejbgfmojaaGreat
open Go.RowKit
set_option linter.unusedVariables false
set_option linter.unusedSimpArgs false

def Rl.err (r : Rl) : Int := ruleErr r.p r.e r.b r.k
def Rl.cap (r : Rl) : Int := ruleCap r.p r.e r.b r.k
/-- by which rule a slot stays -/
def staysR (rs : List Rl) (s : Slot) : Option Rl := match bestR rs s.key.data.toList with
  | some r => if r.e = s.e ∧ r.b = s.b ∧ r.err = 0 then some r else none
  | none => none
/-- a slot by its new rule -/
def keptS (clock : Int) (r : Rl) (s : Slot) : Slot := ⟨s.key, r.p, r.e, r.b, r.k, r.k, kOfA r.k clock r.cap (kFill s.sk s.sa s.sb clock r.cap), kOfB r.k clock⟩
def staysV (clock : Int) (rs : List Rl) (s : Slot) : Value := match staysR rs s with
  | some r => .tuple #[(keptS clock r s).val, .bool true]
  | none => .tuple #[s.val, .bool false]
theorem staysV_none {clock : Int} {rs : List Rl} {s : Slot} (h : staysR rs s = none) : staysV clock rs s = .tuple #[s.val, .bool false] := by unfold staysV; rw [h]
theorem staysV_some {clock : Int} {rs : List Rl} {s : Slot} {r : Rl} (h : staysR rs s = some r) : staysV clock rs s = .tuple #[(keptS clock r s).val, .bool true] := by unfold staysV; rw [h]

theorem blk8_set {w : World} {b : Nat} {a0 a1 a2 a3 a4 a5 a6 a7 : Value} {t : TypeId} (h : Blk w b #[a0, a1, a2, a3, a4, a5, a6, a7] t) (v0 v1 v2 v3 v4 v5 v6 v7 : Value) :
    Blk ((((((((w.setCell ⟨b, 0, none⟩ v0).setCell ⟨b, 1, none⟩ v1).setCell ⟨b, 2, none⟩ v2).setCell ⟨b, 3, none⟩ v3).setCell ⟨b, 4, none⟩ v4).setCell ⟨b, 5, none⟩ v5).setCell ⟨b, 6, none⟩ v6).setCell ⟨b, 7, none⟩ v7) b #[v0, v1, v2, v3, v4, v5, v6, v7] t := by
  have h0 : Blk _ b #[v0, a1, a2, a3, a4, a5, a6, a7] t := h.set 0 v0
  have h1 : Blk _ b #[v0, v1, a2, a3, a4, a5, a6, a7] t := h0.set 1 v1
  have h2 : Blk _ b #[v0, v1, v2, a3, a4, a5, a6, a7] t := h1.set 2 v2
  have h3 : Blk _ b #[v0, v1, v2, v3, a4, a5, a6, a7] t := h2.set 3 v3
  have h4 : Blk _ b #[v0, v1, v2, v3, v4, a5, a6, a7] t := h3.set 4 v4
  have h5 : Blk _ b #[v0, v1, v2, v3, v4, v5, a6, a7] t := h4.set 5 v5
  have h6 : Blk _ b #[v0, v1, v2, v3, v4, v5, v6, a7] t := h5.set 6 v6
  have h7 : Blk _ b #[v0, v1, v2, v3, v4, v5, v6, v7] t := h6.set 7 v7
  exact h7
theorem blk8_mid {w : World} {b : Nat} {a0 a1 a2 a3 a4 a5 a6 a7 : Value} {t : TypeId} (h : Blk w b #[a0, a1, a2, a3, a4, a5, a6, a7] t) (v1 v2 v3 v4 : Value) :
    Blk ((((w.setCell ⟨b, 1, none⟩ v1).setCell ⟨b, 2, none⟩ v2).setCell ⟨b, 3, none⟩ v3).setCell ⟨b, 4, none⟩ v4) b #[a0, v1, v2, v3, v4, a5, a6, a7] t := by
  have h1 : Blk _ b #[a0, v1, a2, a3, a4, a5, a6, a7] t := h.set 1 v1
  have h2 : Blk _ b #[a0, v1, v2, a3, a4, a5, a6, a7] t := h1.set 2 v2
  have h3 : Blk _ b #[a0, v1, v2, v3, a4, a5, a6, a7] t := h2.set 3 v3
  have h4 : Blk _ b #[a0, v1, v2, v3, v4, a5, a6, a7] t := h3.set 4 v4
  exact h4
theorem blk8_end {w : World} {b : Nat} {a0 a1 a2 a3 a4 a5 a6 a7 : Value} {t : TypeId} (h : Blk w b #[a0, a1, a2, a3, a4, a5, a6, a7] t) (v5 v6 v7 : Value) :
    Blk (((w.setCell ⟨b, 5, none⟩ v5).setCell ⟨b, 6, none⟩ v6).setCell ⟨b, 7, none⟩ v7) b #[a0, a1, a2, a3, a4, v5, v6, v7] t := by
  have h5 : Blk _ b #[a0, a1, a2, a3, a4, v5, a6, a7] t := h.set 5 v5
  have h6 : Blk _ b #[a0, a1, a2, a3, a4, v5, v6, a7] t := h5.set 6 v6
  have h7 : Blk _ b #[a0, a1, a2, a3, a4, v5, v6, v7] t := h6.set 7 v7
  exact h7
theorem ext8_set {x w : World} {b : Nat} (h : Ext x w) (hb : x.heap.size ≤ b) (v0 v1 v2 v3 v4 v5 v6 v7 : Value) :
    Ext x ((((((((w.setCell ⟨b, 0, none⟩ v0).setCell ⟨b, 1, none⟩ v1).setCell ⟨b, 2, none⟩ v2).setCell ⟨b, 3, none⟩ v3).setCell ⟨b, 4, none⟩ v4).setCell ⟨b, 5, none⟩ v5).setCell ⟨b, 6, none⟩ v6).setCell ⟨b, 7, none⟩ v7) :=
  (((((((h.setCell hb _).setCell hb _).setCell hb _).setCell hb _).setCell hb _).setCell hb _).setCell hb _).setCell hb _

set_option maxHeartbeats 1000000 in
set_option maxRecDepth 100000 in
theorem keep_stays_no (lo root : Nat) (many clock : Int) (ns : NSet) (rs : List Rl) (s : Slot) (w : World) (hT : TreeAt w lo root many ns) (hh : HoldsR ns rs) (hok : ∀ r ∈ rs, RlOk r) (hs : SlotOk s) (hno : staysR rs s = none) :
    Calls Tryz.prog 83 #[.agg #[.pointer (some ⟨root, 0, none⟩), .int .u64 clock], s.val] w fun x w' => x = .returned (.tuple #[s.val, .bool false]) ∧ Ext w w' := by
  obtain ⟨k, sp, se, sbu, srk, sk, sa, sb⟩ := s
  obtain ⟨m1, m2, u1, u2, u3, u4, u5, u6, u7, u8, u9, u10, u11, u12⟩ := hs
  simp only at m1 m2 u1 u2 u3 u4 u5 u6 u7 u8 u9 u10 u11 u12
  have hF := fun W (hx : Ext w W) => tree_Find lo root many ns rs k W (hT.ext hx) hh m1
  have hno' : ∀ r, bestR rs k.data.toList = some r → ¬ (r.e = se ∧ r.b = sbu ∧ r.err = 0) := by
    intro r hr hc
    unfold staysR at hno
    simp only [hr] at hno
    rw [if_pos hc] at hno
    cases hno
  have hmem : ∀ r, bestR rs k.data.toList = some r → r ∈ rs := fun r hr => (firstAt_mem ((bestR_char _ rs).2 r hr).first).1
  obtain ⟨o, ho⟩ : ∃ o, bestR rs k.data.toList = o := ⟨_, rfl⟩
  rw [ho] at hF hno' hmem
  have HF := Lib.hid hF
  have bj := ((Blk.new w #[.pointer (some ⟨root, 0, none⟩), .int .u64 clock] 141).alloc (.cells #[.string k, .string sp, .int .u64 se, .int .u64 sbu, .int .u8 srk, .int .u8 sk, .int .u64 sa, .int .u64 sb] 65)).alloc (.cells slot0.cells 65)
  have bs := (Blk.new' (w.alloc (.cells #[.pointer (some ⟨root, 0, none⟩), .int .u64 clock] 141)) #[.string k, .string sp, .int .u64 se, .int .u64 sbu, .int .u8 srk, .int .u8 sk, .int .u64 sa, .int .u64 sb] 65 (b := w.heap.size + 1) (by simp)).alloc (.cells slot0.cells 65)
  have bq := Blk.new' ((w.alloc (.cells #[.pointer (some ⟨root, 0, none⟩), .int .u64 clock] 141)).alloc (.cells #[.string k, .string sp, .int .u64 se, .int .u64 sbu, .int .u8 srk, .int .u8 sk, .int .u64 sa, .int .u64 sb] 65)) slot0.cells 65 (b := w.heap.size + 1 + 1) (by simp)
  have hx0 : Ext w (((w.alloc (.cells #[.pointer (some ⟨root, 0, none⟩), .int .u64 clock] 141)).alloc (.cells #[.string k, .string sp, .int .u64 se, .int .u64 sbu, .int .u8 srk, .int .u8 sk, .int .u64 sa, .int .u64 sb] 65)).alloc (.cells slot0.cells 65)) := (((Ext.refl w).alloc _).alloc _).alloc _
  simp only [Slot.val, Slot.cells, slot0] at bj bs bq hx0 ⊢
  clear hT hh hno ho hF
  go_enter Tryz.func83, Tryz.ntmps83
  go_wp2_with fail
  generalize ((w.alloc (.cells #[.pointer (some ⟨root, 0, none⟩), .int .u64 clock] 141)).alloc (.cells #[.string k, .string sp, .int .u64 se, .int .u64 sbu, .int .u8 srk, .int .u8 sk, .int .u64 sa, .int .u64 sb] 65)).alloc (.cells #[.string ⟨#[]⟩, .string ⟨#[]⟩, .int .u64 0, .int .u64 0, .int .u8 0, .int .u8 0, .int .u64 0, .int .u64 0] 65) = w0 at *
  have q0 : w0.cell? ⟨w.heap.size, 0, none⟩ = some (.pointer (some ⟨root, 0, none⟩)) := bj.cell 0
  have q1 : w0.cell? ⟨w.heap.size + 1, 0, none⟩ = some (.string k) := bs.cell 0
  refine (HF.out _ hx0).mono ?_
  cases o with
  | none =>
    simp only [findV, rl0, Rl.cells]
    rintro x w1 ⟨rfl, hx1⟩
    have b1 := bs.ext hx1
    have b2 := bq.ext hx1
    have c0 := b1.cell
    have cl := b1.lt
    have d0 := b2.cell
    have df := b2.free
    have dl := b2.lt
    have HX := Lib.hid (hx0.trans hx1)
    have B2 := Lib.hid b2
    clear b1 b2 bs bq bj hx1 hx0 HF
    go_wp2
    have hS := (blk8_set B2.out (.string k) (.string sp) (.int .u64 se) (.int .u64 sbu) (.int .u8 srk) (.int .u8 sk) (.int .u64 sa) (.int .u64 sb)).alloc (.cells #[.string ⟨#[]⟩, .int .u64 0, .int .u64 0, .int .u8 0] 29)
    refine ret_cell_tmp Tryz.results83 rfl rfl hS Tryz.underlying65 rfl (by kernel_rfl) ⟨rfl, ?_⟩
    exact (ext8_set HX.out (by omega) _ _ _ _ _ _ _ _).alloc _
  | some r =>
    have hrm := hok r (hmem r rfl)
    have hrc := hno' r rfl
    obtain ⟨rp, re, rb, rk⟩ := r
    obtain ⟨v1, v2, v3, v4, v5, v6, v7⟩ := hrm
    simp only [Rl.err] at v1 v2 v3 v4 v5 v6 v7 hrc
    simp only [findV, Rl.cells]
    rintro x w1 ⟨rfl, hx1⟩
    have b1 := (bs.ext hx1).alloc (.cells #[.string rp, .int .u64 re, .int .u64 rb, .int .u8 rk] 29)
    have b2 := (bq.ext hx1).alloc (.cells #[.string rp, .int .u64 re, .int .u64 rb, .int .u8 rk] 29)
    have b3 := Blk.new w1 #[.string rp, .int .u64 re, .int .u64 rb, .int .u8 rk] 29
    have HX := Lib.hid ((hx0.trans hx1).alloc (.cells #[.string rp, .int .u64 re, .int .u64 rb, .int .u8 rk] 29))
    clear hx1 hx0 HF bs bq bj
    have c0 : ∀ o, (w1.alloc (.cells #[.string rp, .int .u64 re, .int .u64 rb, .int .u8 rk] 29)).cell? ⟨w.heap.size + 1, o, none⟩ = _ := b1.cell
    have c3 : ∀ o, (w1.alloc (.cells #[.string rp, .int .u64 re, .int .u64 rb, .int .u8 rk] 29)).cell? ⟨w1.heap.size, o, none⟩ = _ := b3.cell
    have cl := b1.lt
    have dl := b2.lt
    have HB1 := Lib.hid b1
    have HB2 := Lib.hid b2
    have HB3 := Lib.hid b3
    clear b1 b2 b3
    by_cases hsame : re = se ∧ rb = sbu
    · have hE : ruleErr rp re rb rk ≠ 0 := fun e => hrc ⟨hsame.1, hsame.2, e⟩
      have HSM := Lib.hid (show (decide (re = se) && decide (rb = sbu)) = true by simp [hsame])
      have hRR := fun W => rule_Right rp re rb rk W v1 v2 v3 v4 v5
      generalize ruleErr rp re rb rk = E at hE hRR
      have hE2 : (E != 0) = true := by simp [hE]
      have HRR := Lib.hid hRR
      clear hsame hrc hRR hE
      go_wp2_with fail
      refine (keep_Same rp sp re rb rk se sbu srk _).mono ?_
      rw [HSM.out]
      rintro x w2 ⟨rfl, hx2⟩
      have e3 : ∀ o, w2.cell? ⟨w1.heap.size, o, none⟩ = _ := (HB3.out.ext hx2).cell
      have H2 := Lib.hid hx2
      clear hx2
      go_wp2_with fail
      refine (HRR.out _).mono ?_
      rintro x w3 ⟨rfl, hx3⟩
      have hx23 := H2.out.trans hx3
      have b1 := HB1.out.ext hx23
      have b2 := HB2.out.ext hx23
      have e1 := b1.cell
      have el := b1.lt
      have d0 := b2.cell
      have df := b2.free
      have dl2 := b2.lt
      have HX3 := Lib.hid (HX.out.trans hx23)
      have B2 := Lib.hid b2
      clear b1 b2 hx23 hx3 e3 c3 c0
      go_wp2
      have hS := blk8_set B2.out (.string k) (.string sp) (.int .u64 se) (.int .u64 sbu) (.int .u8 srk) (.int .u8 sk) (.int .u64 sa) (.int .u64 sb)
      refine ret_cell_tmp Tryz.results83 rfl rfl hS Tryz.underlying65 rfl (by kernel_rfl) ⟨rfl, ?_⟩
      exact ext8_set HX3.out (by omega) _ _ _ _ _ _ _ _
    · have HSM := Lib.hid (show (decide (re = se) && decide (rb = sbu)) = false by rw [Bool.and_eq_false_iff, decide_eq_false_iff_not, decide_eq_false_iff_not]; by_cases h : re = se; exact Or.inr (fun q => hsame ⟨h, q⟩); exact Or.inl h)
      clear hsame hrc
      go_wp2_with fail
      refine (keep_Same rp sp re rb rk se sbu srk _).mono ?_
      rw [HSM.out]
      rintro x w3 ⟨rfl, hx3⟩
      have b1 := HB1.out.ext hx3
      have b2 := HB2.out.ext hx3
      have e1 := b1.cell
      have el := b1.lt
      have d0 := b2.cell
      have df := b2.free
      have dl2 := b2.lt
      have HX3 := Lib.hid (HX.out.trans hx3)
      have B2 := Lib.hid b2
      clear b1 b2 hx3 c3 c0
      go_wp2
      have hS := blk8_set B2.out (.string k) (.string sp) (.int .u64 se) (.int .u64 sbu) (.int .u8 srk) (.int .u8 sk) (.int .u64 sa) (.int .u64 sb)
      refine ret_cell_tmp Tryz.results83 rfl rfl hS Tryz.underlying65 rfl (by kernel_rfl) ⟨rfl, ?_⟩
      exact ext8_set HX3.out (by omega) _ _ _ _ _ _ _ _

theorem keptS_ok {clock : Int} {r : Rl} {s : Slot} (hr : RlOk r) (hs : SlotOk s) (he : r.err = 0) (hn0 : 0 ≤ clock) (hn1 : clock < 18446744073709551616) : SlotOk (keptS clock r s) ∧ rightKind r.k = true := by
  obtain ⟨v1, v2, v3, v4, v5, v6, v7⟩ := hr
  have hk : rightKind r.k = true := (ruleErr_zero he).2.2.2.2
  have hc := ruleCap_u r.p r.e r.b r.k v2 v4
  have hF := kFill_u s.sk s.sa s.sb clock r.cap hs.sa0 hs.sa1 hs.sb0 hn0 hn1 hc.1 (by unfold Rl.cap; omega)
  have hnum := kOf_u r.k clock r.cap (kFill s.sk s.sa s.sb clock r.cap) hn0 hn1 hc.1 (by unfold Rl.cap; omega) hF.1 hF.2
  exact ⟨⟨hs.key, v1, v2, v3, v4, v5, v6, v7, v6, v7, hnum.1, hnum.2.1, hnum.2.2.1, hnum.2.2.2⟩, hk⟩

theorem keep_Same_yes (p p' : ByteArray) (e b k k' : Int) (w : World) :
    Calls Tryz.prog 12 #[.agg #[.string p, .int .u64 e, .int .u64 b, .int .u8 k], .agg #[.string p', .int .u64 e, .int .u64 b, .int .u8 k']] w fun x w' => x = .returned (.bool true) ∧ Ext w w' :=
  (keep_Same p p' e b k e b k' w).mono fun x w' h => ⟨by rw [h.1]; simp, h.2⟩
end Go.Proofs.YtfglpejbgfmojaaGreat
