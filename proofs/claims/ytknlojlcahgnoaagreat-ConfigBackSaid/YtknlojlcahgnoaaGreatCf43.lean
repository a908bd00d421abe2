/- Walk: config.Parse. -/
import Derived.Test.YtknlojlcahgnoaaGreatCf41
import Derived.Test.YtknlojlcahgnoaaGreatCf38
import Derived.Test.YtknlojlcahgnoaaGreatCf32
import Derived.Test.YtknlojlcahgnoaaGreatCf4

namespace Go.Proofs.YtknlojlcahgnoaaGreat
open Go.RowKit
set_option linter.unusedVariables false
set_option linter.unusedSimpArgs false

structure CfgRes where
  e : Int
  ln : Int
  cl : Int
  most : Int
  rs : List Rl
def cfgBad (e ln cl : Int) : CfgRes := ⟨e, ln, cl, 0, []⟩
/-- what a text of rules is: the policy, or what is wrong, and where -/
def cfgParse (l : List UInt8) : CfgRes :=
  if splitE l ≠ 0 then cfgBad (splitE l) (splitAt' l).1 (splitAt' l).2 else match cfgLines cfg0 (splitL l) with
  | .inl f => cfgBad f.1 f.2.1 f.2.2
  | .inr s => if endErr s ≠ 0 then cfgBad (endErr s) 0 0 else ⟨0, 0, 0, s.most, ordL Rl.key s.rs⟩
theorem cfgLines_app (s : CfgSt) (a b : List (List Wd)) : cfgLines s (a ++ b) = match cfgLines s a with
  | .inl f => .inl f
  | .inr s' => cfgLines s' b := by
  induction a generalizing s with
  | nil => rfl
  | cons x a ih =>
    show (if _ then _ else _) = _
    rw [show cfgLines s (x :: a) = if (lnErr s x).1 ≠ 0 then .inl ((lnErr s x).1, (wdAt x (lnErr s x).2).line, (wdAt x (lnErr s x).2).col) else cfgLines (lnPut s x) a from rfl]
    split
    · rfl
    · exact ih _
/-- what is right of a line -/
def LnOk (ws : List Wd) : Prop := ws ≠ [] ∧ (∀ x ∈ ws, x.t.size ≤ maxLen) ∧ ws.length ≤ 2000000
theorem layW_okL {row : List Wd} {out : List (List Wd)} (ho : ∀ ws ∈ out, LnOk ws) (hr : ∀ x ∈ row, WdOk x) (hl : row.length ≤ 2000000) : ∀ ws ∈ layW row out, LnOk ws := by
  unfold layW
  split
  · rename_i h
    intro ws hws
    rcases List.mem_append.1 hws with q | q
    · exact ho ws q
    · rw [List.mem_singleton.1 q]
      exact ⟨fun e => (by rw [e] at h; cases h), fun x hx => (hr x hx).2, hl⟩
  · exact ho
theorem spTo_out (l : List UInt8) (hl : l.length ≤ 1048576) : ∀ ws ∈ (spTo l).out, LnOk ws := by
  induction l using list_snoc' with
  | h0 => intro ws h; cases h
  | h1 l b ih =>
    rw [List.length_append, List.length_cons, List.length_nil] at hl
    have ih := ih (by omega)
    obtain ⟨i1, i2, i3, i4, i5⟩ := spTo_sizes l
    have hk := keepW_len (spTo l).line (spTo l).col (spTo l).cur (spTo l).row
    have hm : (2000000 : Nat) ≤ maxLen := by decide
    rw [spTo_snoc]
    unfold spStep
    split
    · exact ih
    · split
      · exact layW_okL ih (keepW_ok (spTo_ok l (by omega)) (by omega)) (by unfold SpSt.keep; omega)
      · exact ih
theorem splitL_ok (l : List UInt8) : (∀ ws ∈ splitL l, LnOk ws) ∧ (splitL l).length ≤ 2000000 := by
  unfold splitL
  split
  · exact ⟨fun ws h => (by cases h), by simp⟩
  · rename_i hl
    unfold wordsOf
    split
    · rename_i x hx
      exact ⟨fun ws h => (by cases h), by simp⟩
    · rename_i ls hls
      split at hls
      · cases hls
      · cases hls
        obtain ⟨i1, i2, i3, i4, i5⟩ := spTo_sizes l
        have hk := keepW_len (spTo l).line (spTo l).col (spTo l).cur (spTo l).row
        have hl2 := layW_len (spTo l).keep (spTo l).out
        have hm : (2000000 : Nat) ≤ maxLen := by decide
        exact ⟨layW_okL (spTo_out l (by omega)) (keepW_ok (spTo_ok l (by omega)) (by omega)) (by unfold SpSt.keep; omega), by unfold SpSt.lay; omega⟩
theorem splitAt_zero (l : List UInt8) (h : splitE l = 0) : splitAt' l = (0, 0) := by
  unfold splitE at h
  unfold splitAt'
  split at h
  · cases h
  · rename_i hl
    rw [if_neg hl]
    cases hw : wordsOf l with
    | inl p => rw [hw] at h; cases h
    | inr ls => rfl
theorem ExtB.keepC {b : Nat} {w w' : World} (h : ExtB b w w') {a : Addr} {v : Value} (c : w.cell? a = some v) (hne : a.block ≠ b) : w'.cell? a = some v := by
  have hlt : a.block < w.heap.size := by
    unfold World.cell? at c
    rcases Nat.lt_or_ge a.block w.heap.size with h | h
    · exact h
    · rw [Array.getElem?_eq_none h] at c; cases c
  have hb := h.block a.block hlt hne
  unfold World.cell? at c ⊢
  rw [hb]
  exact c
theorem wds_other {w w' : World} {v : Value} {l : List Wd} {c : Nat} {C : Array Value} {t : TypeId} (h : WdsAt w v l) (hB : Blk w c C t) (hC : ∀ (i : Nat) (s : ByteArray), C[i]? ≠ some (Value.string s)) (e : ExtB c w w') : WdsAt w' v l := by
  obtain ⟨a, cp, hv, hl⟩ := h
  refine ⟨a, cp, hv, fun hne => ?_⟩
  obtain ⟨b, o, ha, hc⟩ := hl hne
  have h0 : 0 < l.length := List.length_pos_iff.2 hne
  have hb : b ≠ c := fun q => by
    subst q
    have := hc 0 h0 0 (by decide)
    rw [hB.cell] at this
    exact hC _ _ this
  refine ⟨b, o, ha, fun j hj i hi => ?_⟩
  have := hc j hj i hi
  rw [Array.getElem?_eq_getElem (by rw [Wd.size3]; exact hi)] at this ⊢
  exact e.keepC this hb
theorem LinesAt.other {w w' : World} {v : Value} {ls : List (List Wd)} {c : Nat} {C : Array Value} {t : TypeId} (h : LinesAt w v ls) (hok : ∀ ws ∈ ls, LnOk ws) (hB : Blk w c C t) (hC : ∀ (i : Nat) (s : ByteArray), C[i]? ≠ some (Value.string s)) (hD : ∀ (i : Nat) (a : Option Addr) (n m : Nat), C[i]? ≠ some (Value.slice a n m)) (e : ExtB c w w') : LinesAt w' v ls := by
  obtain ⟨a, cp, hv, hl⟩ := h
  refine ⟨a, cp, hv, fun hne => ?_⟩
  obtain ⟨b, o, ha, hc⟩ := hl hne
  refine ⟨b, o, ha, fun j hj => ?_⟩
  obtain ⟨x, hx, hws⟩ := hc j hj
  have hb : b ≠ c := fun q => by
    subst q
    obtain ⟨a', c', hx', -⟩ := hws
    rw [hB.cell, hx'] at hx
    exact hD _ _ _ _ hx
  exact ⟨x, e.keepC hx hb, wds_other hws hB hC e⟩
def ParseIs (w : World) (l : List UInt8) (x : Ending) (w' : World) : Prop :=
  ∃ v, x = .returned (.tuple #[.agg #[.int .i64 (cfgParse l).most, v], .int .u16 (cfgParse l).e, .agg #[.int .i64 (cfgParse l).ln, .int .i64 (cfgParse l).cl]]) ∧ RuleOwn w.heap.size w' v (cfgParse l).rs ∧ Ext w w'
theorem RdMem.size {w w' : World} {bR mb base : Nat} {rv : Value} {s : CfgSt} {l : UMap} {c : Nat} {m : Int} (h : RdMem w bR mb base rv s l c) (hB : Blk w' bR (rdC m rv mb) 105) (e : ExtB bR w w') : RdMem w' bR mb base rv ⟨m, s.rs⟩ l c :=
  ⟨hB, h.met.extB e (Ne.symm h.ne), h.keys, own_extB h.rules e h.b0, h.b0, h.b1, Nat.le_trans h.b2 e.size, h.ne⟩
theorem ext_rd {w4 w5 wr : World} {bR mb base : Nat} (e : Ext w4 w5) (f : FrP (rdP bR mb base) w5 wr) (h1 : w4.heap.size ≤ bR) (h2 : w4.heap.size ≤ mb) (h3 : w4.heap.size ≤ base) : Ext w4 wr :=
  ⟨f.os.trans (Below.os e), f.tape.trans (Below.tape e), f.output.trans (Below.output e), Nat.le_trans e.sz f.size, fun k hk => (f.block k (Nat.lt_of_lt_of_le hk e.sz) ⟨by omega, by omega, by omega⟩).trans (Below.block e k hk)⟩

theorem size_beq {t : ByteArray} (h : t ≠ ⟨#[115, 105, 122, 101]⟩) : (t.toList == [115, 105, 122, 101]) = false := by
  rw [ByteArray.toList_eq, beq_eq_false_iff_ne]
  intro q
  apply h
  apply ByteArray.ext
  apply Array.ext'
  exact q
theorem rlErr_len {rs : List Rl} {ws : List Wd} (h : (rlErr rs ws).1 = 0) : rs.length < 1000 := by
  unfold rlErr at h
  split at h
  · rename_i q; exact absurd h q
  · split at h
    · cases h
    · split at h
      · cases h
      · omega
/-- behind k lines -/
def CfgLoop (w2 : World) (ls : List (List Wd)) (k : Nat) (wr : World) : Prop :=
  ∃ s rv um c, cfgLines cfg0 (ls.take k) = .inr s ∧ s.rs.length ≤ 1000 ∧ 0 ≤ s.most ∧ RdMem wr (w2.heap.size + 1) w2.heap.size (w2.heap.size + 2) rv s um c ∧ Ext w2 wr
theorem CfgLoop.start (w2 : World) (ls : List (List Wd)) : CfgLoop w2 ls 0 ((w2.alloc (.map #[] 0)).alloc (.cells #[.int .i64 0, .slice none 0 0, .map (some w2.heap.size)] 105)) := by
  refine ⟨cfg0, .slice none 0 0, [], 0, rfl, by decide, by decide, ⟨Blk.new' _ _ _ (by simp), ?_, rfl, World.ownsRow_nil _ _ _ _, Nat.lt_succ_self _, by omega, by simp, by omega⟩, ((Ext.refl w2).alloc _).alloc _⟩
  have h1 : (w2.alloc (.map #[] 0)).heap[w2.heap.size]? = some (.map #[] 0) := map_new_at w2 _
  exact (((Ext.refl (w2.alloc (.map #[] 0))).alloc _).block (lt_of_block h1)).trans h1
abbrev parseDefer (B : Nat) : List Deferred := [{ target := .fn (.func 45) #[.pointer (some ⟨B, 0, none⟩), .pointer (some ⟨B + 1, 0, none⟩), .pointer (some ⟨B + 2, 0, none⟩)], args := #[] }]
/-- a panic goes through the door -/
theorem parse_door {w w2 w5 : World} {l : List UInt8} {tmps : Array Value} {e ln cl : Int} (hp : tmps.getD 2 undef = .pointer (some ⟨w.heap.size, 0, none⟩)) (hq : tmps.getD 3 undef = .pointer (some ⟨w.heap.size + 1, 0, none⟩)) (hr : tmps.getD 4 undef = .pointer (some ⟨w.heap.size + 2, 0, none⟩))
    (bp : Blk w2 w.heap.size #[.int .i64 0, .slice none 0 0] 28) (be : Blk w2 (w.heap.size + 1) #[.int .u16 0] 40) (ba : Blk w2 (w.heap.size + 2) #[.int .i64 0, .int .i64 0] 44) (hx2 : Ext w w2) (hx5 : Ext w2 w5) (HF : cfgParse l = cfgBad e ln cl) :
    bodyPostD Tryz.prog Tryz.f17 (fun x w' => ParseIs w l x w') (Exit.panic [{ v := faultV e ln cl, recovered := false }]) { tmps := tmps, defers := parseDefer w.heap.size } w5 := by
  refine leaves_cons (f := 45) (args := #[.pointer (some ⟨w.heap.size, 0, none⟩), .pointer (some ⟨w.heap.size + 1, 0, none⟩), .pointer (some ⟨w.heap.size + 2, 0, none⟩)]) (by simp) (by simp [go_sem]) ?_
  refine (parse_catch w.heap.size e ln cl w5 (bp.ext hx5) (be.ext hx5) (ba.ext hx5)).mono ?_
  rintro x u' w6 ⟨rfl, rfl, zp, ze, za, f⟩
  show Leaves _ _ _ _ [] .returning w6
  refine leaves_ccc Tryz.results17 hp hq hr zp ze za Tryz.underlying28 rfl (by kernel_rfl) (fun _ => by kernel_rfl) Tryz.underlying44 rfl (by kernel_rfl) ⟨.slice none 0 0, ?_, ?_, ?_⟩
  · rw [HF]; rfl
  · rw [HF]; exact World.ownsRow_nil _ _ _ _
  · have hx := hx2.trans hx5
    exact ⟨f.os.trans (Below.os hx), f.tape.trans (Below.tape hx), f.output.trans (Below.output hx), Nat.le_trans hx.sz f.size, fun k hk => (f.block k (Nat.lt_of_lt_of_le hk hx.sz) ⟨by omega, by omega, by omega⟩).trans (Below.block hx k hk)⟩
/-- the way out -/
theorem parse_leave {w w5 : World} {l : List UInt8} {tmps : Array Value} {v : Value} (hp : tmps.getD 2 undef = .pointer (some ⟨w.heap.size, 0, none⟩)) (hq : tmps.getD 3 undef = .pointer (some ⟨w.heap.size + 1, 0, none⟩)) (hr : tmps.getD 4 undef = .pointer (some ⟨w.heap.size + 2, 0, none⟩))
    {most : Int} {rs : List Rl} (bp : Blk w5 w.heap.size #[.int .i64 most, v] 28) (be : Blk w5 (w.heap.size + 1) #[.int .u16 0] 40) (ba : Blk w5 (w.heap.size + 2) #[.int .i64 0, .int .i64 0] 44) (hx : Ext w w5) (HF : cfgParse l = ⟨0, 0, 0, most, rs⟩) (hv : RuleOwn w.heap.size w5 v rs) :
    bodyPostD Tryz.prog Tryz.f17 (fun x w' => ParseIs w l x w') Exit.ret { tmps := tmps, defers := parseDefer w.heap.size } w5 := by
  refine leaves_cons (f := 45) (args := #[.pointer (some ⟨w.heap.size, 0, none⟩), .pointer (some ⟨w.heap.size + 1, 0, none⟩), .pointer (some ⟨w.heap.size + 2, 0, none⟩)]) (by simp) (by simp [go_sem]) ?_
  refine (parse_idle ⟨w.heap.size, 0, none⟩ ⟨w.heap.size + 1, 0, none⟩ ⟨w.heap.size + 2, 0, none⟩ w5).mono ?_
  rintro x u' w6 ⟨rfl, rfl, rfl⟩
  show Leaves _ _ _ _ [] .returning w6
  refine leaves_ccc Tryz.results17 hp hq hr bp be ba Tryz.underlying28 rfl (by kernel_rfl) (fun _ => by kernel_rfl) Tryz.underlying44 rfl (by kernel_rfl) ⟨v, ?_, ?_, hx⟩
  · rw [HF]
  · rw [HF]; exact hv
set_option maxHeartbeats 4000000 in
set_option maxRecDepth 100000 in
theorem config_Parse (tv : Value) (l : List UInt8) (w : World) (ht : ByteSlice w tv l) (hcp : CapLe tv) : Calls Tryz.prog 17 #[tv] w fun x w' => ParseIs w l x w' := by
  have HT := Lib.hid ht
  have HCP := Lib.hid hcp
  obtain ⟨⟨ta, tc, rfl, -⟩, -⟩ := ht
  clear hcp
  have hmf : ∀ (fn : Fn) (first cap : Array Value) (w : World), (Instr.makeFunc fn first cap).run Tryz.prog w = .ok (.func fn first cap) w := fun _ _ _ _ => rfl
  have hmm := @run_makeMap Tryz.prog
  have x0 : Ext w (((w.alloc (.cells #[.int .i64 0, .slice none 0 0] 28)).alloc (.cells #[.int .u16 0] 40)).alloc (.cells #[.int .i64 0, .int .i64 0] 44)) := (((Ext.refl w).alloc _).alloc _).alloc _
  have b0 : Blk (((w.alloc (.cells #[.int .i64 0, .slice none 0 0] 28)).alloc (.cells #[.int .u16 0] 40)).alloc (.cells #[.int .i64 0, .int .i64 0] 44)) w.heap.size #[.int .i64 0, .slice none 0 0] 28 := ((Blk.new' _ _ _ rfl).alloc _).alloc _
  have b1 : Blk (((w.alloc (.cells #[.int .i64 0, .slice none 0 0] 28)).alloc (.cells #[.int .u16 0] 40)).alloc (.cells #[.int .i64 0, .int .i64 0] 44)) (w.heap.size + 1) #[.int .u16 0] 40 := (Blk.new' _ _ _ (by simp)).alloc _
  have b2 : Blk (((w.alloc (.cells #[.int .i64 0, .slice none 0 0] 28)).alloc (.cells #[.int .u16 0] 40)).alloc (.cells #[.int .i64 0, .int .i64 0] 44)) (w.heap.size + 2) #[.int .i64 0, .int .i64 0] 44 := Blk.new' _ _ _ (by simp)
  go_enter_defers Tryz.func17, Tryz.ntmps17
  go_upto_region 1 with fail
  generalize ((w.alloc (.cells #[.int .i64 0, .slice none 0 0] 28)).alloc (.cells #[.int .u16 0] 40)).alloc (.cells #[.int .i64 0, .int .i64 0] 44) = w0 at *
  have HSP := Lib.hid (words_Split _ l w0 (HT.out.ext x0) HCP.out)
  go_wp2_with fail
  refine HSP.out.mono ?_
  rintro x w1 ⟨ov, rfl, hls, hx1⟩
  have bp := b0.ext hx1
  have be := b1.ext hx1
  have ba := b2.ext hx1
  have l2 := ba.lt
  have e0 : w1.cell? ⟨w.heap.size + 1, 0, none⟩ = some (.int .u16 0) := be.cell 0
  have a0 : w1.cell? ⟨w.heap.size + 2, 0, none⟩ = some (.int .i64 0) := ba.cell 0
  have a1 : w1.cell? ⟨w.heap.size + 2, 1, none⟩ = some (.int .i64 0) := ba.cell 1
  have fe := be.free 0
  have fa0 := ba.free 0
  have fa1 := ba.free 1
  have HBP := Lib.hid bp
  have HBE := Lib.hid be
  have HBA := Lib.hid ba
  have HLS := Lib.hid hls
  have HX1 := Lib.hid (x0.trans hx1)
  clear bp be ba hls hx1 x0 b0 b1 b2
  have HPD : Hid (cfgParse l = if splitE l ≠ 0 then cfgBad (splitE l) (splitAt' l).1 (splitAt' l).2 else match cfgLines cfg0 (splitL l) with
    | .inl f => cfgBad f.1 f.2.1 f.2.2
    | .inr s => if endErr s ≠ 0 then cfgBad (endErr s) 0 0 else ⟨0, 0, 0, s.most, ordL Rl.key s.rs⟩) := Lib.hid rfl
  have HOKL := Lib.hid (splitL_ok l)
  have HSA : Hid (splitE l = 0 → splitAt' l = (0, 0)) := Lib.hid (splitAt_zero l)
  generalize hSE : splitE l = SE at *
  generalize hSA : splitAt' l = SA at *
  obtain ⟨ln, cl⟩ := SA
  generalize splitL l = ls at *
  dsimp only
  go_upto_region 2 with fail
  have xB : ExtB (w.heap.size + 1) w1 (w1.setCell ⟨w.heap.size + 1, 0, none⟩ (.int .u16 SE)) := (ExtB.refl _ w1).setCell 0 _
  have xC : ExtB (w.heap.size + 2) (w1.setCell ⟨w.heap.size + 1, 0, none⟩ (.int .u16 SE)) (((w1.setCell ⟨w.heap.size + 1, 0, none⟩ (.int .u16 SE)).setCell ⟨w.heap.size + 2, 0, none⟩ (.int .i64 ln)).setCell ⟨w.heap.size + 2, 1, none⟩ (.int .i64 cl)) := ((ExtB.refl _ _).setCell 0 _).setCell 1 _
  have bp := ((HBP.out.extB xB (by omega)).extB xC (by omega))
  have be := ((HBE.out.set 0 (.int .u16 SE)).extB xC (by omega))
  have ba := (((HBA.out.extB xB (by omega)).set 0 (.int .i64 ln)).set 1 (.int .i64 cl))
  have hx2 := (HX1.out.own xB (Nat.le_succ _)).own xC (by omega)
  have hlx := (HLS.out.other HOKL.out.1 HBE.out (by intro i q h; cases i <;> simp at h) (by intro i q n m h; cases i <;> simp at h) xB).other HOKL.out.1 (HBA.out.extB xB (by omega)) (by intro i q h; rcases i with _ | _ | i <;> simp at h) (by intro i q n m h; rcases i with _ | _ | i <;> simp at h) xC
  have e22 : w.heap.size + 1 + 1 = w.heap.size + 2 := rfl
  rw [e22]
  clear xB xC e0 a0 a1 fe fa0 fa1 l2 HBP HBE HBA HLS HX1
  generalize ((w1.setCell ⟨w.heap.size + 1, 0, none⟩ (.int .u16 SE)).setCell ⟨w.heap.size + 2, 0, none⟩ (.int .i64 ln)).setCell ⟨w.heap.size + 2, 1, none⟩ (.int .i64 cl) = w2 at *
  have HBP := Lib.hid bp
  have HBE : Hid (Blk w2 (w.heap.size + 1) #[.int .u16 SE] 40) := Lib.hid be
  have HBA : Hid (Blk w2 (w.heap.size + 2) #[.int .i64 ln, .int .i64 cl] 44) := Lib.hid ba
  have HLS := Lib.hid hlx
  have HX2 := Lib.hid hx2
  have e0 : w2.cell? ⟨w.heap.size + 1, 0, none⟩ = some (.int .u16 SE) := HBE.out.cell 0
  clear bp be ba hlx hx2
  by_cases hse : SE = 0
  · subst hse
    obtain ⟨rfl, rfl⟩ := Prod.mk.inj (HSA.out rfl)
    have HPC : Hid (cfgParse l = match cfgLines cfg0 ls with
      | .inl f => cfgBad f.1 f.2.1 f.2.2
      | .inr s => if endErr s ≠ 0 then cfgBad (endErr s) 0 0 else ⟨0, 0, 0, s.most, ordL Rl.key s.rs⟩) := Lib.hid (by rw [HPD.out, if_neg (by simp)])
    clear HPD HSA HCP HT
    have HLS1 := HLS.out
    obtain ⟨oa, oc, rfl, hol⟩ := HLS1
    clear hol
    have hlen := HOKL.out.2
    go_wp2
    go_loopw [26] (fun i wr => ∃ (k : Nat), k ≤ ls.length ∧ i = .int .i64 k ∧ CfgLoop w2 ls k wr) (fun i _ => ls.length - (intOf i).toNat)
    case atStart => exact ⟨0, by omega, rfl, CfgLoop.start w2 ls⟩
    case round =>
      obtain ⟨k, hk, rfl, s, rv, um, c, hcl, hrl, hmo, hrm, hxr⟩ := hrel
      have HCL := Lib.hid hcl
      have HRM := Lib.hid hrm
      have HXR := Lib.hid hxr
      clear hcl hrm
      by_cases hlt : k < ls.length
      · obtain ⟨a', c', hv, hll⟩ := HLS.out.ext hxr
        cases hv
        obtain ⟨b, o, rfl, hcc⟩ := hll (by intro e; rw [e] at hlt; simp at hlt)
        obtain ⟨xv, hxc, hws⟩ := hcc k hlt
        obtain ⟨hne, hsz, hwl⟩ := HOKL.out.1 ls[k] (List.getElem_mem _)
        have HTK : Hid (ls.take (k + 1) = ls.take k ++ [ls[k]]) := Lib.hid (by rw [List.take_add_one, List.getElem?_eq_getElem hlt]; rfl)
        have HDR : Hid (ls = ls.take k ++ (ls[k] :: ls.drop (k + 1))) := Lib.hid (by rw [List.getElem_cons_drop hlt, List.take_append_drop])
        generalize ls[k] = ws at *
        obtain ⟨wa, wc, rfl, hwc⟩ := hws
        obtain ⟨wb, wo, rfl, hww⟩ := hwc hne
        have hl0 : 0 < ws.length := List.length_pos_iff.2 hne
        have g0 : wr.cell? ⟨wb, wo, none⟩ = some (.string ws[0].t) := hww 0 hl0 0 (by decide)
        have hk1 : (k : Int) < (ls.length : Int) := by omega
        have hp0 : (0 : Int) < (ws.length : Int) := by omega
        have HWS : Hid (WdsAt wr (.slice (some ⟨wb, wo, none⟩) ws.length wc) ws) := Lib.hid ⟨_, _, rfl, fun _ => ⟨wb, wo, rfl, hww⟩⟩
        have HSZ := Lib.hid hsz
        have hw0 : wdAt ws 0 = ws[0] := by unfold wdAt; rw [List.getD_eq_getElem?_getD, List.getElem?_eq_getElem hl0]; rfl
        have HLE : Hid (lnErr s ws = if ws[0].t = (⟨#[115, 105, 122, 101]⟩ : ByteArray) then szErr s.most ws else rlErr s.rs ws) := Lib.hid (by unfold lnErr; rw [hw0]; rfl)
        have HLP : Hid (lnPut s ws = if ws[0].t = (⟨#[115, 105, 122, 101]⟩ : ByteArray) then ⟨digNum (wdAt ws 1).t, s.rs⟩ else ⟨s.most, s.rs ++ [prRl (ruleParse (wTexts ws))]⟩) := Lib.hid (by unfold lnPut; rw [hw0]; rfl)
        generalize ws[0].t = t0 at *
        clear hww hwc hcc hll hxr hw0
        by_cases htt : t0 = (⟨#[115, 105, 122, 101]⟩ : ByteArray)
        · have HE1 : Hid (lnErr s ws = szErr s.most ws) := Lib.hid (by rw [HLE.out, if_pos htt])
          have HE2 : Hid (lnPut s ws = ⟨digNum (wdAt ws 1).t, s.rs⟩) := Lib.hid (by rw [HLP.out, if_pos htt])
          subst htt
          have HSC := Lib.hid (reader_size (w2.heap.size + 1) w2.heap.size rv _ s.most ws wr HRM.out.rd HWS.out hne HSZ.out)
          go_wp2_with fail
          refine HSC.out.mono ?_
          rintro x w5 (⟨h0, rfl, hB, hx5⟩ | ⟨h0, rfl, hx5⟩)
          · have hnext : CfgLoop w2 ls (k + 1) w5 := by
              refine ⟨lnPut s ws, rv, um, c, ?_, ?_, ?_, ?_, HXR.out.own hx5 (Nat.le_succ _)⟩
              · rw [HTK.out, cfgLines_app, HCL.out]
                show (if _ then _ else _) = _
                rw [if_neg (by rw [HE1.out]; simpa using h0)]
                rfl
              · rw [HE2.out]; exact hrl
              · rw [HE2.out]; exact (digNum_bounds _).1
              · rw [HE2.out]
                exact HRM.out.size hB hx5
            go_wp2
            go_roundw
            case rel => exact ⟨k + 1, by omega, by go_num, hnext⟩
            case measure => simp [intOf]; omega
          · have HF : Hid (cfgParse l = cfgBad (szErr s.most ws).1 (wdAt ws (szErr s.most ws).2).line (wdAt ws (szErr s.most ws).2).col) := Lib.hid (by
              rw [HPC.out, HDR.out, cfgLines_app, HCL.out]
              show (match (if _ then _ else _ : Sum (Int × Int × Int) CfgSt) with | .inl f => _ | .inr s => _) = _
              rw [if_pos (by rw [HE1.out]; exact h0), HE1.out])
            have HX5 := Lib.hid (HXR.out.trans hx5)
            clear h0 hx5
            generalize (szErr s.most ws).1 = fe at *
            generalize (wdAt ws (szErr s.most ws).2).line = fl_ at *
            generalize (wdAt ws (szErr s.most ws).2).col = fc at *
            unfold faultE
            go_wp2
            exact parse_door rfl rfl rfl HBP.out HBE.out HBA.out HX2.out HX5.out HF.out
        · have HE1 : Hid (lnErr s ws = rlErr s.rs ws) := Lib.hid (by rw [HLE.out, if_neg htt])
          have HE2 : Hid (lnPut s ws = ⟨s.most, s.rs ++ [prRl (ruleParse (wTexts ws))]⟩) := Lib.hid (by rw [HLP.out, if_neg htt])
          have hsb : (t0.toList == [115, 105, 122, 101]) = false := size_beq htt
          have HSC := Lib.hid (reader_rule (w2.heap.size + 1) w2.heap.size (w2.heap.size + 2) rv _ s um c ws wr HRM.out HWS.out hne HSZ.out hwl hrl)
          go_wp2_with fail
          refine HSC.out.mono ?_
          rintro x w5 ⟨hfr, (⟨h0, rfl, rv5, um5, c5, hrm5⟩ | ⟨h0, rfl⟩)⟩
          · have hnext : CfgLoop w2 ls (k + 1) w5 := by
              refine ⟨lnPut s ws, rv5, um5, c5, ?_, ?_, ?_, ?_, ext_rd HXR.out hfr (Nat.le_succ _) (Nat.le_refl _) (by omega)⟩
              · rw [HTK.out, cfgLines_app, HCL.out]
                show (if _ then _ else _) = _
                rw [if_neg (by rw [HE1.out]; simpa using h0)]
                rfl
              · rw [HE2.out]
                have := rlErr_len h0
                simp only [List.length_append, List.length_cons, List.length_nil]
                omega
              · rw [HE2.out]; exact hmo
              · rw [HE2.out]; exact hrm5
            clear hfr hrm5
            go_wp2
            go_roundw
            case rel => exact ⟨k + 1, by omega, by go_num, hnext⟩
            case measure => simp [intOf]; omega
          · have HF : Hid (cfgParse l = cfgBad (rlErr s.rs ws).1 (wdAt ws (rlErr s.rs ws).2).line (wdAt ws (rlErr s.rs ws).2).col) := Lib.hid (by
              rw [HPC.out, HDR.out, cfgLines_app, HCL.out]
              show (match (if _ then _ else _ : Sum (Int × Int × Int) CfgSt) with | .inl f => _ | .inr s => _) = _
              rw [if_pos (by rw [HE1.out]; exact h0), HE1.out])
            have HX5 := Lib.hid (ext_rd HXR.out hfr (Nat.le_succ _) (Nat.le_refl _) (by omega))
            clear h0 hfr
            generalize (rlErr s.rs ws).1 = fe at *
            generalize (wdAt ws (rlErr s.rs ws).2).line = fl_ at *
            generalize (wdAt ws (rlErr s.rs ws).2).col = fc at *
            unfold faultE
            go_wp2
            exact parse_door rfl rfl rfl HBP.out HBE.out HBA.out HX2.out HX5.out HF.out
      · have hkl : k = ls.length := by omega
        have hcl := HCL.out
        rw [hkl, List.take_length] at hcl
        have HPE : Hid (cfgParse l = if endErr s ≠ 0 then cfgBad (endErr s) 0 0 else ⟨0, 0, 0, s.most, ordL Rl.key s.rs⟩) := Lib.hid (by rw [HPC.out, hcl])
        have hk1 : ¬ (k : Int) < (ls.length : Int) := by omega
        have HEN := Lib.hid (reader_end (w2.heap.size + 1) w2.heap.size c rv s.most s.rs um wr HRM.out.rd HRM.out.met HRM.out.keys hmo)
        clear hcl hkl hxr
        go_wp2_with fail
        refine HEN.out.mono ?_
        rintro x w5 ⟨hx5, (⟨h0, rfl⟩ | ⟨h0, rfl⟩)⟩
        · have HPF : Hid (cfgParse l = ⟨0, 0, 0, s.most, ordL Rl.key s.rs⟩) := Lib.hid (by rw [HPE.out, if_neg (by simpa using h0)])
          have HX5 := Lib.hid (HXR.out.trans hx5)
          have hrd := HRM.out.rd.ext hx5
          have lR := hrd.lt
          have m0 : w5.cell? ⟨w2.heap.size + 1, 0, none⟩ = some (.int .i64 s.most) := hrd.cell 0
          have m1 : w5.cell? ⟨w2.heap.size + 1, 1, none⟩ = some rv := hrd.cell 1
          have HOR := Lib.hid (config_Order s.most rv s.rs w5 (RuleOwn.at (own_ext HRM.out.rules hx5)) (by omega))
          clear h0 hx5 hrd
          go_wp2_with fail
          refine HOR.out.mono ?_
          rintro x w6 ⟨v6, rfl, hown6, hx6⟩
          have bp6 := HBP.out.ext (HX5.out.trans hx6)
          have be6 := HBE.out.ext (HX5.out.trans hx6)
          have ba6 := HBA.out.ext (HX5.out.trans hx6)
          have l6 := ba6.lt
          have HO6 := Lib.hid hown6
          have HX6 := Lib.hid (HX2.out.trans (HX5.out.trans hx6))
          have HP6 := Lib.hid bp6
          have HQ6 := Lib.hid be6
          have HA6 := Lib.hid ba6
          have HS5 := Lib.hid (HX2.out.trans HX5.out).sz
          have p0 : w6.cell? ⟨w.heap.size, 0, none⟩ = some (.int .i64 0) := bp6.cell 0
          have p1 : w6.cell? ⟨w.heap.size, 1, none⟩ = some (.slice none 0 0) := bp6.cell 1
          have e6 : w6.cell? ⟨w.heap.size + 1, 0, none⟩ = some (.int .u16 0) := be6.cell 0
          have a6 : w6.cell? ⟨w.heap.size + 2, 0, none⟩ = some (.int .i64 0) := ba6.cell 0
          have a7 : w6.cell? ⟨w.heap.size + 2, 1, none⟩ = some (.int .i64 0) := ba6.cell 1
          have f0 := bp6.free 0
          have f1 := bp6.free 1
          have f2 := be6.free 0
          have f3 := ba6.free 0
          have f4 := ba6.free 1
          obtain ⟨va, vc, hv6⟩ : ∃ va vc, v6 = .slice va (ordL Rl.key s.rs).length vc := by
            obtain ⟨-, ⟨h, h0⟩ | ⟨g', cap, cur, h, -⟩⟩ := hown6
            · exact ⟨none, 0, by rw [h, h0]⟩
            · exact ⟨_, _, h⟩
          subst hv6
          clear bp6 be6 ba6 hown6 hx6
          go_wp2
          have l5 := (HBA.out.ext HX5.out).lt
          generalize hv6 : Value.slice va (ordL Rl.key s.rs).length vc = v6 at *
          have yA : ExtB w.heap.size w6 ((w6.setCell ⟨w.heap.size, 0, none⟩ (.int .i64 s.most)).setCell ⟨w.heap.size, 1, none⟩ v6) := ((ExtB.refl _ w6).setCell 0 _).setCell 1 _
          have yB : ExtB (w.heap.size + 1) _ (((w6.setCell ⟨w.heap.size, 0, none⟩ (.int .i64 s.most)).setCell ⟨w.heap.size, 1, none⟩ v6).setCell ⟨w.heap.size + 1, 0, none⟩ (.int .u16 0)) := (ExtB.refl _ _).setCell 0 _
          have yC : ExtB (w.heap.size + 2) _ (((((w6.setCell ⟨w.heap.size, 0, none⟩ (.int .i64 s.most)).setCell ⟨w.heap.size, 1, none⟩ v6).setCell ⟨w.heap.size + 1, 0, none⟩ (.int .u16 0)).setCell ⟨w.heap.size + 2, 0, none⟩ (.int .i64 0)).setCell ⟨w.heap.size + 2, 1, none⟩ (.int .i64 0)) := ((ExtB.refl _ _).setCell 0 _).setCell 1 _
          have zp := ((((HP6.out.set 0 (.int .i64 s.most)).set 1 v6).extB yB (by omega)).extB yC (by omega))
          have ze := (((HQ6.out.extB yA (by omega)).set 0 (.int .u16 0)).extB yC (by omega))
          have za := ((((HA6.out.extB yA (by omega)).extB yB (by omega)).set 0 (.int .i64 0)).set 1 (.int .i64 0))
          have zx := (((HX6.out.own yA (Nat.le_refl _)).own yB (by omega)).own yC (by omega))
          have zo := own_extB (own_extB (own_extB HO6.out yA (by omega)) yB (by omega)) yC (by omega)
          exact parse_leave rfl rfl rfl zp ze za zx HPF.out (RuleOwn.low zo (by omega))
        · have HF : Hid (cfgParse l = cfgBad (endErr s) 0 0) := Lib.hid (by rw [HPE.out, if_pos h0])
          have HX5 := Lib.hid (HXR.out.trans hx5)
          clear h0 hx5
          generalize endErr s = fe at *
          unfold faultE
          go_wp2
          exact parse_door rfl rfl rfl HBP.out HBE.out HBA.out HX2.out HX5.out HF.out
  · have hsb : (SE != 0) = true := by simpa using hse
    have HR : Hid (cfgParse l = cfgBad SE ln cl) := Lib.hid (by rw [HPD.out, if_pos hse])
    clear hse
    have a0 : w2.cell? ⟨w.heap.size + 2, 0, none⟩ = some (.int .i64 ln) := HBA.out.cell 0
    have a1 : w2.cell? ⟨w.heap.size + 2, 1, none⟩ = some (.int .i64 cl) := HBA.out.cell 1
    have p0 : w2.cell? ⟨w.heap.size, 0, none⟩ = some (.int .i64 0) := HBP.out.cell 0
    have p1 : w2.cell? ⟨w.heap.size, 1, none⟩ = some (.slice none 0 0) := HBP.out.cell 1
    have f1 := HBP.out.free 0
    have f2 := HBP.out.free 1
    have f3 := HBE.out.free 0
    have f4 := HBA.out.free 0
    have f5 := HBA.out.free 1
    have l2 := HBA.out.lt
    go_wp2_with fail
    go_region
    have yA : ExtB w.heap.size w2 ((w2.setCell ⟨w.heap.size, 0, none⟩ (.int .i64 0)).setCell ⟨w.heap.size, 1, none⟩ (.slice none 0 0)) := ((ExtB.refl _ w2).setCell 0 _).setCell 1 _
    have yB : ExtB (w.heap.size + 1) _ (((w2.setCell ⟨w.heap.size, 0, none⟩ (.int .i64 0)).setCell ⟨w.heap.size, 1, none⟩ (.slice none 0 0)).setCell ⟨w.heap.size + 1, 0, none⟩ (.int .u16 SE)) := (ExtB.refl _ _).setCell 0 _
    have yC : ExtB (w.heap.size + 2) _ (((((w2.setCell ⟨w.heap.size, 0, none⟩ (.int .i64 0)).setCell ⟨w.heap.size, 1, none⟩ (.slice none 0 0)).setCell ⟨w.heap.size + 1, 0, none⟩ (.int .u16 SE)).setCell ⟨w.heap.size + 2, 0, none⟩ (.int .i64 ln)).setCell ⟨w.heap.size + 2, 1, none⟩ (.int .i64 cl)) := ((ExtB.refl _ _).setCell 0 _).setCell 1 _
    have zp := Lib.hid (((((HBP.out.set 0 (.int .i64 0)).set 1 (.slice none 0 0)).extB yB (by omega)).extB yC (by omega)).drew)
    have ze := Lib.hid ((((HBE.out.extB yA (by omega)).set 0 (.int .u16 SE)).extB yC (by omega)).drew)
    have za := Lib.hid ((((HBA.out.extB yA (by omega)).extB yB (by omega)).set 0 (.int .i64 ln)).set 1 (.int .i64 cl)).drew
    have zx := Lib.hid ((((HX2.out.own yA (Nat.le_refl _)).own yB (by omega)).own yC (by omega)).drew)
    generalize (((((w2.setCell ⟨w.heap.size, 0, none⟩ (.int .i64 0)).setCell ⟨w.heap.size, 1, none⟩ (.slice none 0 0)).setCell ⟨w.heap.size + 1, 0, none⟩ (.int .u16 SE)).setCell ⟨w.heap.size + 2, 0, none⟩ (.int .i64 ln)).setCell ⟨w.heap.size + 2, 1, none⟩ (.int .i64 cl)).drew = w3 at *
    go_wp2
    refine leaves_ccc Tryz.results17 rfl rfl rfl zp.out ze.out za.out Tryz.underlying28 rfl (by kernel_rfl) (fun _ => by kernel_rfl) Tryz.underlying44 rfl (by kernel_rfl) ⟨.slice none 0 0, ?_, ?_, zx.out⟩
    · rw [HR.out]
      rfl
    · rw [HR.out]
      exact World.ownsRow_nil _ _ _ _
end Go.Proofs.YtknlojlcahgnoaaGreat
