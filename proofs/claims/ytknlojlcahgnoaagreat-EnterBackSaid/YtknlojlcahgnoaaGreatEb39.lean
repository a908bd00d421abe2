/- Walks: words.Split. -/
import Derived.Deep.CutBlock
import Derived.Test.YtknlojlcahgnoaaGreatEb36

namespace Go.Proofs.YtknlojlcahgnoaaGreat
open Go.RowKit
set_option linter.unusedVariables false
set_option linter.unusedSimpArgs false

theorem run_store_complexS {P : Program} {w : World} {a : Addr} {m : Mode} (k : FloatKind) (x y : Nat) : (store a (.complex k x y) m).run P w = stored P w a (.complex k x y) m := run_store P w a _ m rfl
attribute [local go_sem] run_store_complexS
section
variable {P : Program}
end
/-- a slice's length is at most its capacity -/
def CapLe (v : Value) : Prop := ∀ a n c, v = .slice a n c → n ≤ c
/-- what was told: the lines, or what is wrong, and where -/
def SplitIs (w : World) (l : List UInt8) (x : Ending) (w' : World) : Prop :=
  ∃ ov, x = .returned (.tuple #[ov, .int .u16 (splitE l), .agg #[.int .i64 (splitAt' l).1, .int .i64 (splitAt' l).2]]) ∧ LinesAt w' ov (splitL l) ∧ Ext w w'
theorem SplitIs.big {w w' : World} {l : List UInt8} (h : 1048576 < l.length) (e : Ext w w') : SplitIs w l (.returned (.tuple #[.slice none 0 0, .int .u16 21, .agg #[.int .i64 0, .int .i64 0]])) w' := by
  refine ⟨.slice none 0 0, ?_, ?_, e⟩
  · unfold splitE splitAt'
    rw [if_pos h, if_pos h]
  · unfold splitL
    rw [if_pos h]
    exact ⟨none, 0, rfl, fun q => absurd rfl q⟩
theorem SplitIs.bad {w w' : World} {l : List UInt8} {a b : Nat} (h : ¬ 1048576 < l.length) (hw : wordsOf l = .inl (a, b)) (e : Ext w w') : SplitIs w l (.returned (.tuple #[.slice none 0 0, .int .u16 20, .agg #[.int .i64 (a : Int), .int .i64 (b : Int)]])) w' := by
  refine ⟨.slice none 0 0, ?_, ?_, e⟩
  · unfold splitE splitAt'
    rw [if_neg h, if_neg h, hw]
  · unfold splitL
    rw [if_neg h, hw]
    exact ⟨none, 0, rfl, fun q => absurd rfl q⟩
theorem SplitIs.good {w w' : World} {l : List UInt8} {ls : List (List Wd)} {ov : Value} (h : ¬ 1048576 < l.length) (hw : wordsOf l = .inr ls) (hl : LinesAt w' ov ls) (e : Ext w w') : SplitIs w l (.returned (.tuple #[ov, .int .u16 0, .agg #[.int .i64 0, .int .i64 0]])) w' := by
  refine ⟨ov, ?_, ?_, e⟩
  · unfold splitE splitAt'
    rw [if_neg h, if_neg h, hw]
  · unfold splitL
    rw [if_neg h, hw]
    exact hl
def SpNext (l : List UInt8) (tv : Value) (w : World) (k : Nat) (w' : World) : Prop :=
  ∃ (was : Int) (from_ : Nat) (rv ov : Value) (vs : List Value) (lim : Nat), k ≤ l.length ∧ Fair (l.take k) ∧ SpMem w' w.heap.size tv k was from_ rv ov vs lim (spTo (l.take k)).line (spTo (l.take k)).col (spTo (l.take k)).row (spTo (l.take k)).out ∧
    (was = 0 ↔ (spTo (l.take k)).cur ≠ []) ∧ ((spTo (l.take k)).cur ≠ [] → from_ + (spTo (l.take k)).cur.length = k ∧ (spTo (l.take k)).cur = (l.take k).drop from_) ∧ Ext w w'
theorem SpMem.ext {w w' : World} {tv rv ov : Value} {k from_ : Nat} {was : Int} {vs : List Value} {lim line col : Nat} {row : List Wd} {out : List (List Wd)} (h : SpMem w' w.heap.size tv k was from_ rv ov vs lim line col row out) {w2 : World} (e : Ext w w') (f : FrB (w.heap.size + 3) lim w' w2) : Ext w w2 := by
  have := h.lim0
  exact ⟨f.os.trans (Below.os e), f.tape.trans (Below.tape e), f.output.trans (Below.output e), Nat.le_trans e.sz f.size, fun c hc => (f.block c (by omega) (by omega)).trans (Below.block e c hc)⟩
theorem SpNext.start (l : List UInt8) (tv : Value) (w : World) : SpNext l tv w 0 ((((((((w.alloc (.cells #[tv] 22)).alloc (.cells #[.int .i64 0, .int .i64 0] 44)).alloc (.cells #[.slice none 0 0] 96)).alloc (.cells #[.slice none 0 0] 106)).alloc (.cells #[.int .i64 0] 3)).alloc (.cells #[.int .i64 0] 3)).alloc (.cells #[.complex .f64 4607182418800017408 4607182418800017408] 176)).alloc (.cells #[.int .i64 1] 3)) := by
  refine ⟨1, 0, .slice none 0 0, .slice none 0 0, [], w.heap.size + 8, Nat.zero_le _, (by intro b hb; simp at hb), ?_, ⟨fun h => by omega, fun h => absurd rfl h⟩, fun h => absurd rfl h, ((((((((Ext.refl w).alloc _).alloc _).alloc _).alloc _).alloc _).alloc _).alloc _).alloc _⟩
  refine ⟨?_, ?_, ?_, ?_, ?_, ?_, ?_, ?_, RowOf.empty _ _ _ _ _, World.ownsRow_nil _ _ _ _, rfl, fun j hj => absurd hj (Nat.not_lt_zero j), fun g hg => (by cases hg), Nat.le_refl _, (by simp)⟩
  · exact (((((((Blk.new' _ _ _ rfl).alloc _).alloc _).alloc _).alloc _).alloc _).alloc _).alloc _
  · exact ((((((Blk.new' _ _ _ (by simp)).alloc _).alloc _).alloc _).alloc _).alloc _).alloc _
  · exact (((((Blk.new' _ _ _ (by simp)).alloc _).alloc _).alloc _).alloc _).alloc _
  · exact ((((Blk.new' _ _ _ (by simp)).alloc _).alloc _).alloc _).alloc _
  · exact (((Blk.new' _ _ _ (by simp)).alloc _).alloc _).alloc _
  · exact ((Blk.new' _ _ _ (by simp)).alloc _).alloc _
  · rw [show (fl (spTo (List.take 0 l)).line) = 4607182418800017408 from fl_one, show (fl (spTo (List.take 0 l)).col) = 4607182418800017408 from fl_one]
    exact (Blk.new' _ _ _ (by simp)).alloc _
  · exact Blk.new' _ _ _ (by simp)

end Go.Proofs.YtknlojlcahgnoaaGreat
