/- A region that draws its order, whose operations read and whose callees make memory, but for the last ones, that come one behind another: one walk. Walks: tollerlaw14.Name, holds; Active. Plain: entries; a slot that goes over to another kernel. Walks: Entries$1, told, Entries, tollerref14.Entry. -/
import Derived.StillTail
import Derived.Deep.DeepCutAuto
import Derived.Deep.CutRange
import Derived.Deep.QuietTactic
import Derived.BigQuiet
import Derived.OwnWalk
import Derived.Laws.AppendOwn
import Derived.Test.YtknlojlcahgnoaaGreatEb5
import Derived.Test.YtknlojlcahgnoaaGreatEb35
import Derived.Test.YtknlojlcahgnoaaGreatEb11
import Derived.Test.YtknlojlcahgnoaaGreatEb25
import Derived.Test.YtknlojlcahgnoaaGreatEb40
import Derived.Test.YtknlojlcahgnoaaGreatEb32
import Derived.Test.YtknlojlcahgnoaaGreatEb13

namespace Go.Proofs.YtknlojlcahgnoaaGreat
open Go.RowKit
set_option linter.unusedVariables false

section
variable {P : Program} {ops : Array Oper} {md : Region.Mode} {C : World → Prop}

/-- whatever order is picked, up to where the last operations begin, in a class of worlds -/
def anyHead (P : Program) (md : Region.Mode) (ops : Array Oper) (C : World → Prop) (n : Nat) (L : Array Bool → Act → Prop) : Nat → Array Bool → Act → Prop
  | 0, listed, a => L listed a
  | f + 1, listed, a => Region.ready md ops listed ≠ [] ∧ ∀ i ∈ Region.ready md ops listed, i < n ∧ qOp P ops C i (anyHead P md ops C n L f (listed.setIfInBounds i true)) a

theorem any_of_head {n g : Nat} {L : Array Bool → Act → Prop} {Q' : Exit → Act → World → Prop} (hL : ∀ listed a w, C w → L listed a → wpAny P md ops Q' g listed a w) :
    ∀ (f : Nat) (listed : Array Bool) (a : Act) (w : World), C w → anyHead P md ops C n L f listed a → wpAny P md ops Q' (f + g) listed a w
  | 0, listed, a, w, hw, h => by rw [Nat.zero_add]; exact hL _ _ _ hw h
  | f + 1, listed, a, w, hw, h => by
    rw [show f + 1 + g = (f + g) + 1 by omega]
    exact ⟨fun h0 => absurd h0 h.1, fun i hi => wpOp_of_qOp hw (fun a' w' hw' h' => any_of_head hL f _ a' w' hw' h') (h.2 i hi).2⟩

theorem head_first {n i : Nat} {oi : Oper} {v : Value} {L : Array Bool → Act → Prop} (hi : ops[i]? = some oi) (hsel : ∀ (j : Nat) (o : Oper) cs b, ops[j]? = some o → o.op ≠ .select cs b)
    (hs : Region.sinkB md ops n = true) (hc : Region.chainB md ops n = true) (hn : n < ops.size) (hin : i < n) (hdone : ∀ listed a, L listed a → ∀ j ∈ Region.ready md ops listed, n ≤ j) :
    ∀ (f : Nat) (listed : Array Bool) (a : Act), HeadInv md ops n listed →
      (∀ j oj, ops[j]? = some oj → j ≠ i → listed.getD j true = false → (∀ e ∈ oj.after, Region.binds md e = true → e.on ≠ i) → oi.apart ops oj = true) →
      i ∈ Region.ready md ops listed → YieldsIn P ops C oi v a → anyHead P md ops C n L f (listed.setIfInBounds i true) (a.put oi.dst v) → anyHead P md ops C n L (f + 1) listed a := by
  intro f
  induction f with
  | zero =>
    intro listed a inv _ hr hy H
    have hun := (mem_ready.1 hr).1
    refine ⟨fun h => (by rw [h] at hr; cases hr), fun j hj => ?_⟩
    have hjn : j < n := Decidable.byContradiction fun h => tail_waits hs hc hn inv _ i rfl hin hun j (Nat.le_of_not_lt h) hj
    refine ⟨hjn, ?_⟩
    by_cases hji : j = i
    · subst hji; exact hy.qOp hi H
    · exact absurd (hdone _ _ H j (ready_mono hj hji)) (by omega)
  | succ f ih =>
    intro listed a inv hfree hr hy H
    have hun := (mem_ready.1 hr).1
    refine ⟨fun h => (by rw [h] at hr; cases hr), fun j hj => ?_⟩
    have hjn : j < n := Decidable.byContradiction fun h => tail_waits hs hc hn inv _ i rfl hin hun j (Nat.le_of_not_lt h) hj
    refine ⟨hjn, ?_⟩
    by_cases hji : j = i
    · subst hji; exact hy.qOp hi H
    · obtain ⟨hjun, oj, hoj, hall⟩ := mem_ready.1 hj
      have hnot : ∀ e ∈ oj.after, Region.binds md e = true → e.on ≠ i := fun e he hb heq => by
        have h1 := hall e he hb
        rw [heq, getD_both hun] at h1
        cases h1
      have h2 := qOp_put hoj (hfree j oj hoj hji hjun hnot) (fun cs b => hsel i oi cs b hi) (fun cs b => hsel j oj cs b hoj) hy (H.2 j (ready_mono hj hji)).2
      refine qOp_mono (fun a' h3 => ih (listed.setIfInBounds j true) a' (inv.set hj hjn) (fun k ok hk hki hku hno => hfree k ok hk hki ?_ hno) (ready_mono hr (Ne.symm hji)) h3.1 ?_) h2
      · by_cases hjk : j = k
        · subst hjk; exact hjun
        · rw [getD_set_ne true hjk] at hku; exact hku
      · rw [Array.setIfInBounds_comm _ _ hji]
        exact h3.2

theorem head_lex {n g : Nat} {Lq : Act → Prop} (hsel : Region.noSelect ops = true) (hs : Region.sinkB md ops n = true) (hc : Region.chainB md ops n = true) (hn : n < ops.size) :
    ∀ (l : List Oper) (k : Nat) (listed : Array Bool) (a : Act), (∀ j, j < l.length → l[j]? = ops[k + j]?) → k + l.length = n → HeadInv md ops n listed →
    Region.lexHead md ops g l.length k listed = true → wpQuiet P ops C Lq l a → anyHead P md ops C n (fun listed' a' => Region.seqB md ops g n listed' = true ∧ Lq a') l.length listed a
  | [], k, listed, a, _, hk, _, hB, h => by
    have : k = n := by simpa using hk
    subst this
    exact ⟨by simpa [Region.lexHead] using hB, h⟩
  | o :: l, k, listed, a, hl, hk, inv, hB, h => by
    have h0 : ops[k]? = some o := by simpa using (hl 0 (by simp)).symm
    simp only [List.length_cons, Region.lexHead, Bool.and_eq_true] at hB
    obtain ⟨⟨hr, hf⟩, hB'⟩ := hB
    have hkn : k < n := by simp only [List.length_cons] at hk; omega
    have hr' : k ∈ Region.ready md ops listed := by simpa using hr
    have hst : qOp P ops C k (wpQuiet P ops C Lq l) a := by unfold qOp; simp only [h0]; exact h
    obtain ⟨v, hy, hK⟩ := yieldsIn_of_qOp h0 hst
    exact head_first h0 (Region.noSelect_spec hsel) hs hc hn hkn (fun listed' a' hL => seqB_ready hL.1) l.length listed a inv (Region.free_spec h0 hf) hr' hy
      (head_lex hsel hs hc hn l (k + 1) _ _ (fun j hj => by have := hl (j + 1) (by simp; omega); simpa [Nat.add_assoc, Nat.add_comm 1 j] using this) (by simp only [List.length_cons] at hk; omega) (inv.set hr' hkn) hB' hK)
end

theorem wp_region_grow_tail {P : Program} {id : Nat} {Q : Exit → Act → World → Prop} {a : Act} {w : World} {l : List Oper} (n : Nat) (hm : P.follows .mixedOrders = true) (hB : Region.lexTailB .any l.toArray n = true)
    (h : wpQuiet P l.toArray (fun w' => ∃ s : Grown w, w' = grown w s) (fun a' => ∀ w', (∃ s : Grown w, w' = grown w s) → wpList P l.toArray Q (l.drop n) a' w') (l.take n) a) : (Code.region id l.toArray true).wp P Q a w := by
  simp only [Region.lexTailB, Bool.and_eq_true, decide_eq_true_eq] at hB
  obtain ⟨⟨⟨⟨hsel, hn⟩, hs⟩, hc⟩, hlex⟩ := hB
  have hn' : n < l.length := by simpa using hn
  have htl : (l.take n).length = n := by simp; omega
  have hdl : (l.drop n).length = l.toArray.size - n := by simp
  have inv0 : HeadInv .any l.toArray n (Array.replicate l.toArray.size false) :=
    ⟨by simp, fun j oj _ hl => (by rw [getD_replicate_false] at hl; cases hl), fun t _ ht => getD_in (by simpa using ht) (getD_replicate_false _ _)⟩
  have H := head_lex (md := .any) (g := l.toArray.size - n) hsel hs hc hn (l.take n) 0 _ a (fun j hj => by
    have hj' : j < n := by rw [htl] at hj; exact hj
    simp [hj']) (by simpa using htl) inv0 (by rw [htl]; exact hlex) h
  refine wp_region_any hm ?_
  have := any_of_head (C := fun w' => ∃ s : Grown w, w' = grown w s) (Q' := Q) (g := l.toArray.size - n) (fun listed a' w' hw' hL => by
    have := wpAny_of_seq (md := .any) (Q' := Q) (l.drop n) n listed a' w' (fun j => by simp [List.getElem?_drop]) (by rw [hdl]; exact hL.1) (hL.2 w' hw')
    rwa [hdl] at this) _ _ _ { w with drawn := w.drawn + 1 } ⟨⟨w.drew, (Ext.refl w).drew⟩, rfl⟩ H
  rw [htl, show n + (l.toArray.size - n) = l.toArray.size by omega] at this
  exact this
end Go.Proofs.YtknlojlcahgnoaaGreat

namespace Go.Proofs.YtknlojlcahgnoaaGreat
open Go.RowKit
set_option linter.unusedVariables false
set_option linter.unusedSimpArgs false

def deedName (d : Deed) : ByteArray := if 240 ≤ d.kind then ⟨#[]⟩ else if 2 < (keyText d.key).size ∧ d.kind < 200 then first1 (keyText d.key) else keyText d.key
theorem deedName_ok (d : Deed) : (deedName d = ⟨#[]⟩ ∨ keyOk (deedName d) = true) ∧ (deedName d).size ≤ 12 := by
  have h := keyText_ok d.key
  have h1 := first1_ok h.1
  unfold deedName
  split
  · exact ⟨Or.inl rfl, by decide⟩
  · split
    · exact ⟨Or.inr h1.1, by omega⟩
    · exact ⟨Or.inr h.1, h.2⟩

set_option maxHeartbeats 1000000 in
set_option maxRecDepth 100000 in
theorem law14_Name (d : Deed) (w : World) (hd : DeedOk w d) :
    Calls Tryz.prog 64 #[.agg #[.int .u8 d.kind, .int .u32 d.wait, .int .u8 d.big, d.keyv, .int .u8 d.rule, .int .u16 d.n, .int .u8 d.to]] w fun x w' => x = .returned (.string (deedName d)) ∧ Ext w w' := by
  have hk0 := hd.k0
  have hk1 := hd.k1
  have HK := Lib.hid hd.key
  have hkt := keyText_ok d.key
  have hksz : 1 ≤ (keyText d.key).size := by have := hkt.1; unfold keyOk at this; simp at this; omega
  have hks := hkt.2
  have hN : Hid (deedName d = if 240 ≤ d.kind then ⟨#[]⟩ else if 2 < (keyText d.key).size ∧ d.kind < 200 then (keyText d.key).extract 0 1 else keyText d.key) := Lib.hid rfl
  generalize deedName d = N at *
  generalize hkx : keyText d.key = kx at *
  have HKX := Lib.hid hkx
  have HW := Lib.hid (fun W (hx : Ext w W) => law09_Key d.keyv d.key W (HK.out.ext hx))
  clear hd hkt hkx
  generalize d.kind = dk at *
  generalize d.wait = dw at *
  generalize d.big = db at *
  generalize d.keyv = dkv at *
  generalize d.key = dkl at *
  generalize d.rule = dr at *
  generalize d.n = dn at *
  generalize d.to = dt at *
  have hx0 := (Ext.refl w).alloc (.cells #[.int .u8 dk, .int .u32 dw, .int .u8 db, dkv, .int .u8 dr, .int .u16 dn, .int .u8 dt] 69)
  have bq := Blk.new w #[.int .u8 dk, .int .u32 dw, .int .u8 db, dkv, .int .u8 dr, .int .u16 dn, .int .u8 dt] 69
  by_cases h1 : 240 ≤ dk
  · go_enter Tryz.func64, Tryz.ntmps64
    go_wp2
    go_ret
    exact ⟨ret_str (by rw [hN.out, if_pos h1]), hx0⟩
  · go_enter Tryz.func64, Tryz.ntmps64
    go_wp2_with fail
    refine (HW.out _ hx0).mono ?_
    rw [HKX.out]
    rintro x w1 ⟨rfl, hx1⟩
    have c0 : w1.cell? ⟨w.heap.size, 0, none⟩ = some (.int .u8 dk) := (bq.ext hx1).cell 0
    by_cases h2 : 2 < kx.size
    · by_cases h3 : dk < 200
      · go_wp2
        go_ret
        exact ⟨ret_str (by rw [hN.out, if_neg (by omega), if_pos (by omega)]), hx0.trans hx1⟩
      · go_wp2
        go_ret
        exact ⟨ret_str (by rw [hN.out, if_neg (by omega), if_neg (by omega)]), hx0.trans hx1⟩
    · go_wp2
      go_ret
      exact ⟨ret_str (by rw [hN.out, if_neg (by omega), if_neg (by omega)]), hx0.trans hx1⟩

theorem SlotSlice.size {base : Nat} {w : World} {v : Value} {l : List Slot} (h : SlotSlice base w v l) : ∃ a c, v = .slice a l.length c := by
  obtain ⟨a, c, hv, -⟩ := h.form
  exact ⟨a, c, hv⟩

theorem SlotSlice.extB {base g : Nat} {w w' : World} {v : Value} {l : List Slot} (h : SlotSlice base w v l) (e : ExtB g w w') (hg : g < base) : SlotSlice base w' v l := by
  obtain ⟨⟨a, c, hv, hf⟩, hn⟩ := h
  refine ⟨⟨a, c, hv, fun hne => ?_⟩, hn⟩
  obtain ⟨b, h1, h2, h3, h4⟩ := hf hne
  have hp : 0 < l.length := List.length_pos_iff.2 hne
  have c0 : w.cell? ⟨b, 0 * 8 + 0, none⟩ = some (.string l[0].key) := h3 0 hp 0 (by omega)
  have hb := e.block b (cell_lt c0) (by omega)
  refine ⟨b, h1, h2, fun j hj i hi => ?_, fun o ho => ?_⟩
  · rw [← h3 j hj i hi]; simp [World.cell?, hb]
  · rw [← h4 o ho]; simp [World.frozen?, hb]
theorem SlotSlice.ext {base : Nat} {w w' : World} {v : Value} {l : List Slot} (h : SlotSlice base w v l) (e : Ext w w') : SlotSlice base w' v l := by
  obtain ⟨⟨a, c, hv, hf⟩, hn⟩ := h
  refine ⟨⟨a, c, hv, fun hne => ?_⟩, hn⟩
  obtain ⟨b, h1, h2, h3, h4⟩ := hf hne
  have hp : 0 < l.length := List.length_pos_iff.2 hne
  have c0 : w.cell? ⟨b, 0 * 8 + 0, none⟩ = some (.string l[0].key) := h3 0 hp 0 (by omega)
  have hb := e.block (cell_lt c0)
  refine ⟨b, h1, h2, fun j hj i hi => ?_, fun o ho => ?_⟩
  · rw [← h3 j hj i hi]; simp [World.cell?, hb]
  · rw [← h4 o ho]; simp [World.frozen?, hb]

end Go.Proofs.YtknlojlcahgnoaaGreat

namespace Go.Proofs.YtknlojlcahgnoaaGreat
set_option linter.unusedVariables false
set_option linter.unusedSimpArgs false

/-- a key, and until when -/
structure Ent where
  key : ByteArray
  till : Int
def Ent.cells (e : Ent) : Array Value := #[.string e.key, .int .u64 e.till]
def entOf (clock : Int) (s : Slot) : Ent := ⟨s.key, kUntil (s.fill clock) clock⟩
/-- the entries of a table -/
def entsOf (clock : Int) (l : SMap) : List Ent := (slotsOf clock l).map (entOf clock)

end Go.Proofs.YtknlojlcahgnoaaGreat

namespace Go.Proofs.YtknlojlcahgnoaaGreat
open Go.RowKit
set_option linter.unusedVariables false
set_option linter.unusedSimpArgs false

set_option maxHeartbeats 1000000 in
set_option maxRecDepth 100000 in
theorem entries_1 (bx t mb c : Nat) (most clock : Int) (l : SMap) (s : Slot) (w : World) (hb : w.cell? ⟨bx, 0, none⟩ = some (.pointer (some ⟨t, 0, none⟩))) (ht : TabAt w t mb most clock l c) (hs : SlotOk s) (hn0 : 0 ≤ clock) (hn1 : clock < 18446744073709551616) :
    Calls Tryz.prog 79 #[s.val, .pointer (some ⟨bx, 0, none⟩)] w fun x w' => x = .returned (.agg (entOf clock s).cells) ∧ Ext w w' := by
  obtain ⟨k, sp, se, sbu, srk, sk, sa, sb⟩ := s
  obtain ⟨m1, m2, v1, v2, v3, v4, v5, v6, v7, v8, v9, v10, v11, v12⟩ := hs
  simp only at m1 m2 v1 v2 v3 v4 v5 v6 v7 v8 v9 v10 v11 v12
  have hc := ruleCap_u sp se sbu srk v1 v3
  have hF := kFill_u sk sa sb clock (ruleCap sp se sbu srk) v9 v10 v11 hn0 hn1 hc.1 (by omega)
  have hE : entOf clock ⟨k, sp, se, sbu, srk, sk, sa, sb⟩ = ⟨k, kUntil (kFill sk sa sb clock (ruleCap sp se sbu srk)) clock⟩ := rfl
  rw [hE]
  have hcp := fun W : World => rule_Cap sp se sbu srk W m2 v1 v2 v3 v4
  generalize hcap : ruleCap sp se sbu srk = cap at *
  have HC := Lib.hid hcp
  obtain ⟨hc0, hc1⟩ := hc
  have HU := Lib.hid (fun W : World => kernel_Until sk sa sb clock cap W v9 v10 v11 v12 hn0 hn1 hc0 (by omega))
  generalize kUntil (kFill sk sa sb clock cap) clock = U at *
  clear hcap hF hE hcp
  simp only [Slot.val, Slot.cells, Ent.cells]
  have bq := (Blk.new w #[.string k, .string sp, .int .u64 se, .int .u64 sbu, .int .u8 srk, .int .u8 sk, .int .u64 sa, .int .u64 sb] 145).alloc (.cells #[.string ⟨#[]⟩, .int .u64 0] 80)
  have br := Blk.new' (w.alloc (.cells #[.string k, .string sp, .int .u64 se, .int .u64 sbu, .int .u8 srk, .int .u8 sk, .int .u64 sa, .int .u64 sb] 145)) #[.string ⟨#[]⟩, .int .u64 0] 80 (b := w.heap.size + 1) (by simp)
  have hx0 : Ext w ((w.alloc (.cells #[.string k, .string sp, .int .u64 se, .int .u64 sbu, .int .u8 srk, .int .u8 sk, .int .u64 sa, .int .u64 sb] 145)).alloc (.cells #[.string ⟨#[]⟩, .int .u64 0] 80)) := ((Ext.refl w).alloc _).alloc _
  go_enter Tryz.func79, Tryz.ntmps79
  go_upto_region 1 with fail
  generalize (w.alloc (.cells #[.string k, .string sp, .int .u64 se, .int .u64 sbu, .int .u8 srk, .int .u8 sk, .int .u64 sa, .int .u64 sb] 145)).alloc (.cells #[.string ⟨#[]⟩, .int .u64 0] 80) = w0 at *
  have q0 : ∀ s, (grown w0 s).cell? ⟨w.heap.size, 0, none⟩ = some (.string k) := grown_cell (bq.cell 0)
  have q1 : ∀ s, (grown w0 s).cell? ⟨w.heap.size, 1, none⟩ = some (.string sp) := grown_cell (bq.cell 1)
  have q2 : ∀ s, (grown w0 s).cell? ⟨w.heap.size, 2, none⟩ = some (.int .u64 se) := grown_cell (bq.cell 2)
  have q3 : ∀ s, (grown w0 s).cell? ⟨w.heap.size, 3, none⟩ = some (.int .u64 sbu) := grown_cell (bq.cell 3)
  have q4 : ∀ s, (grown w0 s).cell? ⟨w.heap.size, 4, none⟩ = some (.int .u8 srk) := grown_cell (bq.cell 4)
  have q5 : ∀ s, (grown w0 s).cell? ⟨w.heap.size, 5, none⟩ = some (.int .u8 sk) := grown_cell (bq.cell 5)
  have q6 : ∀ s, (grown w0 s).cell? ⟨w.heap.size, 6, none⟩ = some (.int .u64 sa) := grown_cell (bq.cell 6)
  have q7 : ∀ s, (grown w0 s).cell? ⟨w.heap.size, 7, none⟩ = some (.int .u64 sb) := grown_cell (bq.cell 7)
  have g0 : ∀ s, (grown w0 s).cell? ⟨bx, 0, none⟩ = some (.pointer (some ⟨t, 0, none⟩)) := grown_cell (hx0.keep hb)
  have g1 : ∀ s, (grown w0 s).cell? ⟨t, 1, none⟩ = some (.int .u64 clock) := grown_cell (hx0.keep (ht.blk.cell 1))
  have HBR := Lib.hid br
  have HX0 := Lib.hid hx0
  clear bq br hx0 ht hb
  refine wp_region_grow_tail 13 (by kernel_rfl) (by kernel_rfl) ?_
  simp only [List.take_succ_cons, List.take_zero, List.drop_succ_cons, List.drop_zero]
  repeat (go_big_quiet_step (first
    | (go_at_call 69; exact grow_call (HC.out _))
    | (go_at_call 80; exact grow_call (HU.out _))))
  refine wpQuiet_nil ?_
  rintro _ ⟨sg, rfl⟩
  have hR := HBR.out.ext (grown_ext w0 sg)
  have hfr := hR.free
  have hcr := hR.cell
  have hw := HX0.out.sz
  have hxg := HX0.out.trans (grown_ext w0 sg)
  go_wp2
  have hS := (hR.set 0 (.string k)).set 1 (.int .u64 U)
  refine ret_cell Tryz.results79 rfl hS Tryz.underlying80 rfl (by kernel_rfl) ⟨rfl, ?_⟩
  exact (hxg.set (by omega) _ _).set (by omega) _ _

theorem ent_size (x : Ent) : x.cells.size = 2 := rfl
theorem entry_info : (Tryz.prog.info? 80).map (fun i => (i.zero, i.size, i.bytes)) = some (some (.agg #[.string ⟨#[]⟩, .int .u64 0]), 2, 24) := by kernel_rfl
/-- a slice of entries, in memory of its own -/
abbrev EntSlice (base : Nat) (w : World) (v : Value) (l : List Ent) : Prop := RowOf Ent.cells 2 80 base w v l

/-- a slot's cells, all of them -/
theorem slot_all {base : Nat} {w w' : World} {a : Option Addr} {n c : Nat} {l : List Slot} (h : SlotSlice base w (.slice a n c) l) (e : Ext w w') (k : Nat) (hk : k < l.length) : ∃ b, a = some ⟨b, 0, none⟩ ∧ b < w.heap.size ∧ base ≤ b ∧
    w'.cell? ⟨b, k * 8, none⟩ = some (.string l[k].key) ∧ w'.cell? ⟨b, k * 8 + 1, none⟩ = some (.string l[k].p) ∧ w'.cell? ⟨b, k * 8 + 2, none⟩ = some (.int .u64 l[k].e) ∧ w'.cell? ⟨b, k * 8 + 3, none⟩ = some (.int .u64 l[k].b) ∧
    w'.cell? ⟨b, k * 8 + 4, none⟩ = some (.int .u8 l[k].rk) ∧ w'.cell? ⟨b, k * 8 + 5, none⟩ = some (.int .u8 l[k].sk) ∧ w'.cell? ⟨b, k * 8 + 6, none⟩ = some (.int .u64 l[k].sa) ∧ w'.cell? ⟨b, k * 8 + 7, none⟩ = some (.int .u64 l[k].sb) := by
  obtain ⟨a', c', hv, hf⟩ := h.form
  cases hv
  obtain ⟨b, h1, h2, h3, -⟩ := hf (fun q => by rw [q] at hk; simp at hk)
  have c0 : w.cell? ⟨b, k * 8, none⟩ = some (.string l[k].key) := h3 k hk 0 (by omega)
  exact ⟨b, h1, cell_lt c0, h2, e.keep c0, e.keep (h3 k hk 1 (by omega)), e.keep (h3 k hk 2 (by omega)), e.keep (h3 k hk 3 (by omega)), e.keep (h3 k hk 4 (by omega)), e.keep (h3 k hk 5 (by omega)), e.keep (h3 k hk 6 (by omega)), e.keep (h3 k hk 7 (by omega))⟩

set_option maxHeartbeats 4000000 in
set_option maxRecDepth 100000 in
theorem table_told (bx t mb c base : Nat) (most clock : Int) (m : SMap) (v : Value) (l : List Slot) (w : World) (hb : w.cell? ⟨bx, 0, none⟩ = some (.pointer (some ⟨t, 0, none⟩))) (ht : TabAt w t mb most clock m c) (hv : SlotSlice base w v l) (hs : ∀ s ∈ l, SlotOk s) (hn0 : 0 ≤ clock) (hn1 : clock < 18446744073709551616) (hlen : l.length ≤ 1000000) :
    Calls Tryz.prog 78 #[v, .func (.func 79) #[] #[.pointer (some ⟨bx, 0, none⟩)]] w fun x w' => ∃ v', x = .returned v' ∧ EntSlice w.heap.size w' v' (l.map (entOf clock)) ∧ Ext w w' := by
  obtain ⟨a, cp, rfl⟩ := hv.size
  have HV := Lib.hid hv
  have HT := Lib.hid ht
  have HS := Lib.hid hs
  obtain ⟨i0, hi, hz0, hz1, hz2⟩ := info_parts entry_info
  have HI := Lib.hid (And.intro hi (And.intro hz0 (And.intro hz1 hz2)))
  have hml : (1000000 : Nat) + 1 ≤ maxLen := by decide
  clear hv ht hs hi hz0 hz1 hz2
  go_enter Tryz.func78, Tryz.ntmps78
  go_wp2
  go_loopw [5, 10] (fun o i wr => ∃ (k : Nat), k ≤ l.length ∧ i = .int .i64 k ∧ EntSlice w.heap.size wr o ((l.take k).map (entOf clock)) ∧ Ext w wr) (fun _ i _ => l.length - (intOf i).toNat)
  case atStart => exact ⟨0, by omega, rfl, RowOf.empty _ _ _ _ _, Ext.refl _⟩
  case round =>
    obtain ⟨k, hk, rfl, hrow, hx⟩ := hrel
    by_cases hlt : k < l.length
    · obtain ⟨b, rfl, hbl, -, e0, e1, e2, e3, e4, e5, e6, e7⟩ := slot_all HV.out hx k hlt
      have hso := HS.out l[k] (List.getElem_mem _)
      have htk : (l.take (k + 1)).map (entOf clock) = (l.take k).map (entOf clock) ++ [entOf clock l[k]] := by
        rw [List.take_succ_eq_append_getElem hlt, List.map_append]; rfl
      have htl : ((l.take k).map (entOf clock)).length = k := by simp; omega
      have HE := Lib.hid (fun W hb ht => entries_1 bx t mb c most clock m l[k] W hb ht hso hn0 hn1)
      have HROW := Lib.hid hrow
      have HTK := Lib.hid htk
      have HTL := Lib.hid htl
      have htx := HT.out.ext hx
      have hbx := hx.keep hb
      have hwx := hx.sz
      generalize hent : entOf clock l[k] = en at *
      have HEN := Lib.hid hent
      clear hrow htk htl hso hent
      obtain ⟨ek, et⟩ := en
      generalize l[k] = s at *
      obtain ⟨s1, s2, s3, s4, s5, s6, s7, s8⟩ := s
      simp only [Slot.val, Slot.cells, Ent.cells] at e0 e1 e2 e3 e4 e5 e6 e7 HE
      have hx1 : Ext wr (wr.alloc (.cells #[.string s1, .string s2, .int .u64 s3, .int .u64 s4, .int .u8 s5, .int .u8 s6, .int .u64 s7, .int .u64 s8] 145)) := (Ext.refl wr).alloc _
      have HC := Lib.hid (HE.out _ (hx1.keep hbx) (htx.ext hx1))
      clear HE
      go_wp2_with (first
        | (go_at_call 79; (with_reducible refine HC.out.mono ?_); rintro x w2 ⟨rfl, hx2⟩)
        | (at_builtin; refine wpList_append_own _ rfl (.tmp 14) (.tmp 18) 50 rfl w.heap.size 80 i0 (.agg #[.string ⟨#[]⟩, .int .u64 0]) 2 24 Tryz.underlying50 HI.out.1 HI.out.2.1 HI.out.2.2.1 HI.out.2.2.2 rfl (by decide) _ _ _ rfl ((own_ext (own_ext HROW.out.own hx1) hx2).alloc _) ⟨w2.heap.size, 0, none⟩ 1 1 [.string ek, .int .u64 et] rfl rfl (blk_news (C := #[.string ek, .int .u64 et]) (Blk.new _ _ _)) (by simp [Value.oneCell']) (by rw [HTL.out]; omega) (by rw [HTL.out]; omega) (by have := hx1.sz; have := hx2.sz; simp; omega) ?_; rintro v' w3 hown hgrow -)
        | fail)
      have hx3 : Ext w w3 := Ext.grownAt (((hx.trans hx1).trans hx2).alloc _) ((own_ext (own_ext HROW.out.own hx1) hx2).alloc _) (Nat.le_refl _) hgrow
      have hrow3 : EntSlice w.heap.size w3 v' ((l.take (k + 1)).map (entOf clock)) := by
        refine RowOf.mk' hown ?_ ?_ ?_
        · rw [HTK.out, List.length_append]; rfl
        · rw [HTK.out, flatE_snoc]; rfl
        · obtain ⟨g, cap, rfl⟩ := ownsRow_succ hown
          rw [HTK.out]
          simp
      go_roundw
      case rel => exact ⟨k + 1, by omega, by go_num, hrow3, hx3⟩
      case measure => simp [intOf]; omega
    · rw [List.take_of_length_le (by omega)] at hrow
      have HROW := Lib.hid hrow
      clear hrow
      go_wp2
      go_ret
      exact ⟨_, rfl, HROW.out, hx⟩

set_option maxHeartbeats 1000000 in
set_option maxRecDepth 100000 in
theorem table_Entries (t mb c : Nat) (most clock : Int) (l : SMap) (w : World) (ht : TabAt w t mb most clock l c) (hok : TabOk l c) (hn0 : 0 ≤ clock) (hn1 : clock < 18446744073709551616) (hlen : l.length ≤ 1000000) :
    Calls Tryz.prog 32 #[.pointer (some ⟨t, 0, none⟩)] w fun x w' => ∃ v, x = .returned v ∧ EntSlice w.heap.size w' v (entsOf clock l) ∧ Ext w w' := by
  have HOK := Lib.hid hok
  have hx0 : Ext w (w.alloc (.cells #[.pointer (some ⟨t, 0, none⟩)] 63)) := (Ext.refl w).alloc _
  have bq := Blk.new w #[.pointer (some ⟨t, 0, none⟩)] 63
  have hc0 : (w.alloc (.cells #[.pointer (some ⟨t, 0, none⟩)] 63)).cell? ⟨w.heap.size, 0, none⟩ = some (.pointer (some ⟨t, 0, none⟩)) := bq.cell 0
  have HT := Lib.hid (ht.ext hx0)
  have hlw : w.heap.size ≤ (w.alloc (.cells #[.pointer (some ⟨t, 0, none⟩)] 63)).heap.size := hx0.sz
  clear ht hok bq
  go_enter Tryz.func32, Tryz.ntmps32
  go_upto_region 1 with fail
  generalize w.alloc (.cells #[.pointer (some ⟨t, 0, none⟩)] 63) = w0 at *
  go_wp2_with fail
  refine (table_Slots t mb c most clock l _ HT.out HOK.out hn0 hn1 hlen).mono ?_
  rintro x w1 ⟨v1, rfl, hs1, hx1⟩
  have hsl : (slotsOf clock l).length ≤ 1000000 := Nat.le_trans (by rw [slotsOf_len]; exact actives_len clock l) hlen
  have HS1 := Lib.hid hs1
  have hc1 := hx1.keep hc0
  have HTT := Lib.hid (table_told w.heap.size t mb c _ most clock l v1 (slotsOf clock l) w1 hc1 (HT.out.ext hx1) hs1 (fun s hs => by obtain ⟨n, hn⟩ := actives_mem ((slotsOf_perm clock l).mem_iff.1 hs); exact HOK.out.ok _ hn) hn0 hn1 hsl)
  clear hs1
  go_wp2_with fail
  refine HTT.out.mono ?_
  rintro x w2 ⟨v2, rfl, hr2, hx2⟩
  have HR2 := Lib.hid hr2
  clear hr2
  go_wp2
  go_ret
  exact ⟨_, rfl, HR2.out.low (by have := hx1.sz; omega), (hx0.trans hx1).trans hx2⟩
end Go.Proofs.YtknlojlcahgnoaaGreat
