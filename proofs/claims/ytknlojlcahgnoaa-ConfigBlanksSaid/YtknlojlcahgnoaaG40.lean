/- A region that draws its order, whose operations read and whose callees make memory, but for the last ones, that come one behind another: one walk. Walks: kernel.Migrate; a table's move; tollerlaw14.cost. Walks: tollerlaw14.Name, holds; Active. Walks: a table's Move (a range over its iterator, whose body writes the table's map and leaves). Plain: entries; a slot that goes over to another kernel. Walks: Entries$1, told, Entries, tollerref14.Entry. Walks: a table's MoveAll. -/
import Derived.StillTail
import Derived.Deep.DeepCutAuto
import Derived.Deep.CutRange
import Derived.Deep.QuietTactic
import Derived.BigQuiet
import Derived.OwnWalk
import Derived.Laws.AppendOwn
import Derived.Test.YtknlojlcahgnoaaG2
import Derived.Test.YtknlojlcahgnoaaG36
import Derived.Test.YtknlojlcahgnoaaG9
import Derived.Test.YtknlojlcahgnoaaG20
import Derived.Test.YtknlojlcahgnoaaG38
import Derived.Test.YtknlojlcahgnoaaG31
import Derived.Test.YtknlojlcahgnoaaG11

/- A region that draws its order, whose operations read and whose callees make memory, but for the last ones, that come one behind another: one walk. -/
namespace Go.Proofs.Ytknlojlcahgnoaa
open Go.RowKit
set_option linter.unusedVariables false

section
variable {P : Program} {ops : Array Oper} {md : Region.Mode} {C : World → Prop}

/-- whatever order is picked, up to where the last operations begin, in a class of worlds -/
def anyHead (P : Program) (md : Region.Mode) (ops : Array Oper) (C : World → Prop) (n : Nat) (L : Array Bool → Act → Prop) : Nat → Array Bool → Act → Prop
  | 0, listed, a => L listed a
  | f + 1, listed, a => Region.ready md ops listed ≠ [] ∧ ∀ i ∈ Region.ready md ops listed, i < n ∧ qOp P ops C i (anyHead P md ops C n L f (listed.setIfInBounds i true)) a

theorem any_of_head {n g : Nat} {L : Array Bool → Act → Prop} {Q' : Exit → Act → World → Prop} (hL : ∀ listed a w, C w → L listed a → wpAny P md ops Q' g listed a w) :
    ∀ (f : Nat) (listed : Array Bool) (a : Act) (w : World), C w → anyHead P md ops C n L f listed a → wpAny P md ops Q' (f + g) listed a w
  | 0, listed, a, w, hw, h => by rw [Nat.zero_add]; exact hL _ _ _ hw h
  | f + 1, listed, a, w, hw, h => by
    rw [show f + 1 + g = (f + g) + 1 by omega]
    exact ⟨fun h0 => absurd h0 h.1, fun i hi => wpOp_of_qOp hw (fun a' w' hw' h' => any_of_head hL f _ a' w' hw' h') (h.2 i hi).2⟩

theorem head_first {n i : Nat} {oi : Oper} {v : Value} {L : Array Bool → Act → Prop} (hi : ops[i]? = some oi) (hsel : ∀ (j : Nat) (o : Oper) cs b, ops[j]? = some o → o.op ≠ .select cs b)
    (hs : Region.sinkB md ops n = true) (hc : Region.chainB md ops n = true) (hn : n < ops.size) (hin : i < n) (hdone : ∀ listed a, L listed a → ∀ j ∈ Region.ready md ops listed, n ≤ j) :
    ∀ (f : Nat) (listed : Array Bool) (a : Act), HeadInv md ops n listed →
      (∀ j oj, ops[j]? = some oj → j ≠ i → listed.getD j true = false → (∀ e ∈ oj.after, Region.binds md e = true → e.on ≠ i) → oi.apart ops oj = true) →
      i ∈ Region.ready md ops listed → YieldsIn P ops C oi v a → anyHead P md ops C n L f (listed.setIfInBounds i true) (a.put oi.dst v) → anyHead P md ops C n L (f + 1) listed a := by
  intro f
  induction f with
  | zero =>
    intro listed a inv _ hr hy H
    have hun := (mem_ready.1 hr).1
    refine ⟨fun h => (by rw [h] at hr; cases hr), fun j hj => ?_⟩
    have hjn : j < n := Decidable.byContradiction fun h => tail_waits hs hc hn inv _ i rfl hin hun j (Nat.le_of_not_lt h) hj
    refine ⟨hjn, ?_⟩
    by_cases hji : j = i
    · subst hji; exact hy.qOp hi H
    · exact absurd (hdone _ _ H j (ready_mono hj hji)) (by omega)
  | succ f ih =>
    intro listed a inv hfree hr hy H
    have hun := (mem_ready.1 hr).1
    refine ⟨fun h => (by rw [h] at hr; cases hr), fun j hj => ?_⟩
    have hjn : j < n := Decidable.byContradiction fun h => tail_waits hs hc hn inv _ i rfl hin hun j (Nat.le_of_not_lt h) hj
    refine ⟨hjn, ?_⟩
    by_cases hji : j = i
    · subst hji; exact hy.qOp hi H
    · obtain ⟨hjun, oj, hoj, hall⟩ := mem_ready.1 hj
      have hnot : ∀ e ∈ oj.after, Region.binds md e = true → e.on ≠ i := fun e he hb heq => by
        have h1 := hall e he hb
        rw [heq, getD_both hun] at h1
        cases h1
      have h2 := qOp_put hoj (hfree j oj hoj hji hjun hnot) (fun cs b => hsel i oi cs b hi) (fun cs b => hsel j oj cs b hoj) hy (H.2 j (ready_mono hj hji)).2
      refine qOp_mono (fun a' h3 => ih (listed.setIfInBounds j true) a' (inv.set hj hjn) (fun k ok hk hki hku hno => hfree k ok hk hki ?_ hno) (ready_mono hr (Ne.symm hji)) h3.1 ?_) h2
      · by_cases hjk : j = k
        · subst hjk; exact hjun
        · rw [getD_set_ne true hjk] at hku; exact hku
      · rw [Array.setIfInBounds_comm _ _ hji]
        exact h3.2

theorem head_lex {n g : Nat} {Lq : Act → Prop} (hsel : Region.noSelect ops = true) (hs : Region.sinkB md ops n = true) (hc : Region.chainB md ops n = true) (hn : n < ops.size) :
    ∀ (l : List Oper) (k : Nat) (listed : Array Bool) (a : Act), (∀ j, j < l.length → l[j]? = ops[k + j]?) → k + l.length = n → HeadInv md ops n listed →
    Region.lexHead md ops g l.length k listed = true → wpQuiet P ops C Lq l a → anyHead P md ops C n (fun listed' a' => Region.seqB md ops g n listed' = true ∧ Lq a') l.length listed a
  | [], k, listed, a, _, hk, _, hB, h => by
    have : k = n := by simpa using hk
    subst this
    exact ⟨by simpa [Region.lexHead] using hB, h⟩
  | o :: l, k, listed, a, hl, hk, inv, hB, h => by
    have h0 : ops[k]? = some o := by simpa using (hl 0 (by simp)).symm
    simp only [List.length_cons, Region.lexHead, Bool.and_eq_true] at hB
    obtain ⟨⟨hr, hf⟩, hB'⟩ := hB
    have hkn : k < n := by simp only [List.length_cons] at hk; omega
    have hr' : k ∈ Region.ready md ops listed := by simpa using hr
    have hst : qOp P ops C k (wpQuiet P ops C Lq l) a := by unfold qOp; simp only [h0]; exact h
    obtain ⟨v, hy, hK⟩ := yieldsIn_of_qOp h0 hst
    exact head_first h0 (Region.noSelect_spec hsel) hs hc hn hkn (fun listed' a' hL => seqB_ready hL.1) l.length listed a inv (Region.free_spec h0 hf) hr' hy
      (head_lex hsel hs hc hn l (k + 1) _ _ (fun j hj => by have := hl (j + 1) (by simp; omega); simpa [Nat.add_assoc, Nat.add_comm 1 j] using this) (by simp only [List.length_cons] at hk; omega) (inv.set hr' hkn) hB' hK)
end

theorem wp_region_grow_tail {P : Program} {id : Nat} {Q : Exit → Act → World → Prop} {a : Act} {w : World} {l : List Oper} (n : Nat) (hm : P.follows .mixedOrders = true) (hB : Region.lexTailB .any l.toArray n = true)
    (h : wpQuiet P l.toArray (fun w' => ∃ s : Grown w, w' = grown w s) (fun a' => ∀ w', (∃ s : Grown w, w' = grown w s) → wpList P l.toArray Q (l.drop n) a' w') (l.take n) a) : (Code.region id l.toArray true).wp P Q a w := by
  simp only [Region.lexTailB, Bool.and_eq_true, decide_eq_true_eq] at hB
  obtain ⟨⟨⟨⟨hsel, hn⟩, hs⟩, hc⟩, hlex⟩ := hB
  have hn' : n < l.length := by simpa using hn
  have htl : (l.take n).length = n := by simp; omega
  have hdl : (l.drop n).length = l.toArray.size - n := by simp
  have inv0 : HeadInv .any l.toArray n (Array.replicate l.toArray.size false) :=
    ⟨by simp, fun j oj _ hl => (by rw [getD_replicate_false] at hl; cases hl), fun t _ ht => getD_in (by simpa using ht) (getD_replicate_false _ _)⟩
  have H := head_lex (md := .any) (g := l.toArray.size - n) hsel hs hc hn (l.take n) 0 _ a (fun j hj => by
    have hj' : j < n := by rw [htl] at hj; exact hj
    simp [hj']) (by simpa using htl) inv0 (by rw [htl]; exact hlex) h
  refine wp_region_any hm ?_
  have := any_of_head (C := fun w' => ∃ s : Grown w, w' = grown w s) (Q' := Q) (g := l.toArray.size - n) (fun listed a' w' hw' hL => by
    have := wpAny_of_seq (md := .any) (Q' := Q) (l.drop n) n listed a' w' (fun j => by simp [List.getElem?_drop]) (by rw [hdl]; exact hL.1) (hL.2 w' hw')
    rwa [hdl] at this) _ _ _ { w with drawn := w.drawn + 1 } ⟨⟨w.drew, (Ext.refl w).drew⟩, rfl⟩ H
  rw [htl, show n + (l.toArray.size - n) = l.toArray.size by omega] at this
  exact this
end Go.Proofs.Ytknlojlcahgnoaa

/- Walks: kernel.Migrate; a table's move; tollerlaw14.cost. -/
namespace Go.Proofs.Ytknlojlcahgnoaa
open Go.RowKit
set_option linter.unusedVariables false
set_option linter.unusedSimpArgs false

theorem ofV_right {k now cap fill : Int} (h : rightKind k = true) : ofV k now cap fill = .tuple #[.agg #[.int .u8 k, .int .u64 (kOfA k now cap fill), .int .u64 (kOfB k now)], .int .u16 0] := by
  unfold ofV stV
  rw [h]
  rfl

def costOf (n : Int) : Int := if 60000 ≤ n then 18446744073709551615 - n else n % 6
theorem costOf_u {n : Int} (h0 : 0 ≤ n) (h1 : n < 65536) : 0 ≤ costOf n ∧ costOf n < 18446744073709551616 := by unfold costOf; split <;> omega
end Go.Proofs.Ytknlojlcahgnoaa

/- Walks: tollerlaw14.Name, holds; Active. -/
namespace Go.Proofs.Ytknlojlcahgnoaa
open Go.RowKit
set_option linter.unusedVariables false
set_option linter.unusedSimpArgs false

def deedName (d : Deed) : ByteArray := if 240 ≤ d.kind then ⟨#[]⟩ else if 2 < (keyText d.key).size ∧ d.kind < 200 then first1 (keyText d.key) else keyText d.key
theorem deedName_ok (d : Deed) : (deedName d = ⟨#[]⟩ ∨ keyOk (deedName d) = true) ∧ (deedName d).size ≤ 12 := by
  have h := keyText_ok d.key
  have h1 := first1_ok h.1
  unfold deedName
  split
  · exact ⟨Or.inl rfl, by decide⟩
  · split
    · exact ⟨Or.inr h1.1, by omega⟩
    · exact ⟨Or.inr h.1, h.2⟩

theorem toList_beq (a b : ByteArray) : (a.toList == b.toList) = decide (a = b) := by
  rw [Bool.eq_iff_iff, beq_iff_eq, decide_eq_true_iff]
  constructor
  · intro h
    rw [ByteArray.toList_eq, ByteArray.toList_eq] at h
    exact ByteArray.ext (Array.toList_inj.1 h)
  · rintro rfl; rfl
/-- a slot's cells, where a walk looks for them -/
theorem slot_cells {base : Nat} {w w' : World} {a : Option Addr} {n c : Nat} {l : List Slot} (h : SlotSlice base w (.slice a n c) l) (e : Ext w w') (k : Nat) (hk : k < l.length) : ∃ b, a = some ⟨b, 0, none⟩ ∧ base ≤ b ∧ b < w.heap.size ∧ w'.cell? ⟨b, k * 8, none⟩ = some (.string l[k].key) ∧
    w'.cell? ⟨b, k * 8 + 2, none⟩ = some (.int .u64 l[k].e) ∧ w'.cell? ⟨b, k * 8 + 3, none⟩ = some (.int .u64 l[k].b) := by
  obtain ⟨a', c', hv, hf⟩ := h.form
  cases hv
  obtain ⟨b, h1, h2, h3, -⟩ := hf (fun q => by rw [q] at hk; simp at hk)
  have c0 : w.cell? ⟨b, k * 8, none⟩ = some (.string l[k].key) := h3 k hk 0 (by omega)
  exact ⟨b, h1, h2, cell_lt c0, e.keep c0, e.keep (h3 k hk 2 (by omega)), e.keep (h3 k hk 3 (by omega))⟩
theorem SlotSlice.size {base : Nat} {w : World} {v : Value} {l : List Slot} (h : SlotSlice base w v l) : ∃ a c, v = .slice a l.length c := by
  obtain ⟨a, c, hv, -⟩ := h.form
  exact ⟨a, c, hv⟩

theorem SlotSlice.extB {base g : Nat} {w w' : World} {v : Value} {l : List Slot} (h : SlotSlice base w v l) (e : ExtB g w w') (hg : g < base) : SlotSlice base w' v l := by
  obtain ⟨⟨a, c, hv, hf⟩, hn⟩ := h
  refine ⟨⟨a, c, hv, fun hne => ?_⟩, hn⟩
  obtain ⟨b, h1, h2, h3, h4⟩ := hf hne
  have hp : 0 < l.length := List.length_pos_iff.2 hne
  have c0 : w.cell? ⟨b, 0 * 8 + 0, none⟩ = some (.string l[0].key) := h3 0 hp 0 (by omega)
  have hb := e.block b (cell_lt c0) (by omega)
  refine ⟨b, h1, h2, fun j hj i hi => ?_, fun o ho => ?_⟩
  · rw [← h3 j hj i hi]; simp [World.cell?, hb]
  · rw [← h4 o ho]; simp [World.frozen?, hb]
theorem SlotSlice.ext {base : Nat} {w w' : World} {v : Value} {l : List Slot} (h : SlotSlice base w v l) (e : Ext w w') : SlotSlice base w' v l := by
  obtain ⟨⟨a, c, hv, hf⟩, hn⟩ := h
  refine ⟨⟨a, c, hv, fun hne => ?_⟩, hn⟩
  obtain ⟨b, h1, h2, h3, h4⟩ := hf hne
  have hp : 0 < l.length := List.length_pos_iff.2 hne
  have c0 : w.cell? ⟨b, 0 * 8 + 0, none⟩ = some (.string l[0].key) := h3 0 hp 0 (by omega)
  have hb := e.block (cell_lt c0)
  refine ⟨b, h1, h2, fun j hj i hi => ?_, fun o ho => ?_⟩
  · rw [← h3 j hj i hi]; simp [World.cell?, hb]
  · rw [← h4 o ho]; simp [World.frozen?, hb]

end Go.Proofs.Ytknlojlcahgnoaa

/- Walks: a table's Move (a range over its iterator, whose body writes the table's map and leaves). -/
namespace Go.Proofs.Ytknlojlcahgnoaa
open Go.RowKit
attribute [local go_sem] Oper.semAt_some
set_option linter.unusedVariables false
set_option linter.unusedSimpArgs false

abbrev ActS (clock : Int) (l : SMap) := {s : Slot // s ∈ actives clock l}

/-- an active slot's kernel is right -/
theorem actives_right {clock : Int} {l : SMap} {s : Slot} (h : s ∈ actives clock l) : rightKind s.sk = true := by
  unfold actives at h
  obtain ⟨⟨a, b⟩, h1, rfl⟩ := List.mem_map.1 h
  have h2 := (List.mem_filter.1 h1).2
  unfold drained Slot.fill kFill at h2
  unfold rightKind
  by_cases q1 : a.sk = 1
  · rw [q1]; rfl
  by_cases q2 : a.sk = 2
  · rw [q2]; rfl
  by_cases q3 : a.sk = 3
  · rw [q3]; rfl
  simp [q1, q2, q3] at h2

/-- the loop is not yet over -/
def MoveI (W0 : World) (clock : Int) (l : SMap) (k : ByteArray) (pre : List (ActS clock l)) (W : World) : Prop := (∀ x ∈ pre, x.1.key ≠ k) ∧ Ext W0 W
theorem extB_from {mb : Nat} {w X Y : World} {row : Option Nat} (h : ExtB mb w X) (hg : X.grownBy Y row) (hr : ∀ r, row = some r → w.heap.size ≤ r) : ExtB mb w Y :=
  ⟨hg.os.trans h.os, hg.tape.trans h.tape, hg.output.trans h.output, Nat.le_trans h.size hg.size, fun i hi hb => (hg.block i (Nat.lt_of_lt_of_le hi h.size) (fun e => by have := hr i e.symm; omega)).trans (h.block i hi hb)⟩
theorem ext_from {w X Y : World} {row : Option Nat} (h : Ext w X) (hg : X.grownBy Y row) (hr : ∀ r, row = some r → w.heap.size ≤ r) : Ext w Y := Below.grown h hg (Ext.sz h) hr
theorem blk_from {b : Nat} {C : Array Value} {ty : TypeId} {X Y : World} {row : Option Nat} (h : Blk X b C ty) (hg : X.grownBy Y row) (hr : ∀ r, row = some r → b < r) : Blk Y b C ty :=
  (hg.block b h.lt (fun e => by have := hr b e.symm; omega)).trans h
theorem map_from {b c : Nat} {l : SMap} {X Y : World} {row : Option Nat} (h : MapIs X b l c) (hg : X.grownBy Y row) (hr : ∀ r, row = some r → b < r) : MapIs Y b l c :=
  (hg.block b h.lt (fun e => by have := hr b e.symm; omega)).trans h

end Go.Proofs.Ytknlojlcahgnoaa

/- Plain: entries; a slot that goes over to another kernel. -/
namespace Go.Proofs.Ytknlojlcahgnoaa
set_option linter.unusedVariables false
set_option linter.unusedSimpArgs false

/-- a key, and until when -/
structure Ent where
  key : ByteArray
  till : Int
def Ent.cells (e : Ent) : Array Value := #[.string e.key, .int .u64 e.till]
def entOf (clock : Int) (s : Slot) : Ent := ⟨s.key, kUntil (s.fill clock) clock⟩
/-- the entries of a table -/
def entsOf (clock : Int) (l : SMap) : List Ent := (slotsOf clock l).map (entOf clock)

theorem kUntil_u {f now : Int} (h0 : 0 ≤ f) (hn : 0 ≤ now) : 0 ≤ kUntil f now ∧ kUntil f now < 18446744073709551616 := by
  have := satAdd_u now f hn h0
  unfold kUntil; split <;> omega
end Go.Proofs.Ytknlojlcahgnoaa

/- Walks: Entries$1, told, Entries, tollerref14.Entry. -/
namespace Go.Proofs.Ytknlojlcahgnoaa
open Go.RowKit
set_option linter.unusedVariables false
set_option linter.unusedSimpArgs false

theorem ent_size (x : Ent) : x.cells.size = 2 := rfl
/-- a slot's cells, all of them -/
theorem slot_all {base : Nat} {w w' : World} {a : Option Addr} {n c : Nat} {l : List Slot} (h : SlotSlice base w (.slice a n c) l) (e : Ext w w') (k : Nat) (hk : k < l.length) : ∃ b, a = some ⟨b, 0, none⟩ ∧ b < w.heap.size ∧ base ≤ b ∧
    w'.cell? ⟨b, k * 8, none⟩ = some (.string l[k].key) ∧ w'.cell? ⟨b, k * 8 + 1, none⟩ = some (.string l[k].p) ∧ w'.cell? ⟨b, k * 8 + 2, none⟩ = some (.int .u64 l[k].e) ∧ w'.cell? ⟨b, k * 8 + 3, none⟩ = some (.int .u64 l[k].b) ∧
    w'.cell? ⟨b, k * 8 + 4, none⟩ = some (.int .u8 l[k].rk) ∧ w'.cell? ⟨b, k * 8 + 5, none⟩ = some (.int .u8 l[k].sk) ∧ w'.cell? ⟨b, k * 8 + 6, none⟩ = some (.int .u64 l[k].sa) ∧ w'.cell? ⟨b, k * 8 + 7, none⟩ = some (.int .u64 l[k].sb) := by
  obtain ⟨a', c', hv, hf⟩ := h.form
  cases hv
  obtain ⟨b, h1, h2, h3, -⟩ := hf (fun q => by rw [q] at hk; simp at hk)
  have c0 : w.cell? ⟨b, k * 8, none⟩ = some (.string l[k].key) := h3 k hk 0 (by omega)
  exact ⟨b, h1, cell_lt c0, h2, e.keep c0, e.keep (h3 k hk 1 (by omega)), e.keep (h3 k hk 2 (by omega)), e.keep (h3 k hk 3 (by omega)), e.keep (h3 k hk 4 (by omega)), e.keep (h3 k hk 5 (by omega)), e.keep (h3 k hk 6 (by omega)), e.keep (h3 k hk 7 (by omega))⟩

end Go.Proofs.Ytknlojlcahgnoaa

/- Walks: a table's MoveAll. -/
namespace Go.Proofs.Ytknlojlcahgnoaa
open Go.RowKit
set_option linter.unusedVariables false
set_option linter.unusedSimpArgs false

/-- slots that go over, one behind another -/
def mvStep (clock kind : Int) (p : SMap × Nat) (s : Slot) : SMap × Nat := (p.1.put (movedS clock s kind) p.2, p.1.putC (movedS clock s kind) p.2)
def mvTo (clock kind : Int) (l : SMap) (c k : Nat) : SMap × Nat := ((slotsOf clock l).take k).foldl (mvStep clock kind) (l, c)
theorem mvTo_zero (clock kind : Int) (l : SMap) (c : Nat) : mvTo clock kind l c 0 = (l, c) := rfl
theorem mvTo_succ (clock kind : Int) (l : SMap) (c k : Nat) (h : k < (slotsOf clock l).length) : mvTo clock kind l c (k + 1) = mvStep clock kind (mvTo clock kind l c k) (slotsOf clock l)[k] := by
  unfold mvTo
  rw [List.take_succ_eq_append_getElem h, List.foldl_append]
  rfl

end Go.Proofs.Ytknlojlcahgnoaa
