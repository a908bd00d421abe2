/- The memory of words.Split: what each step leaves. Walks: words.Split. -/
import Derived.Deep.CutBlock
import Derived.RegionTactic
import Derived.BigRegion
import Derived.Deep.RegionLaw
import Derived.Deep.RegionHeld3
import Derived.RangeFuncBox
import Derived.Test.YtknlojlcahgnoaaGreatEa49
import Derived.Test.YtknlojlcahgnoaaGreatEa52
import Derived.Test.YtknlojlcahgnoaaGreatEa5

namespace Go.Proofs.YtknlojlcahgnoaaGreat
open Go.RowKit
set_option linter.unusedVariables false
set_option linter.unusedSimpArgs false

def splitE (l : List UInt8) : Int := if 1048576 < l.length then 21 else match wordsOf l with
  | .inl _ => 20
  | .inr _ => 0
def splitAt' (l : List UInt8) : Int × Int := if 1048576 < l.length then (0, 0) else match wordsOf l with
  | .inl p => ((p.1 : Int), (p.2 : Int))
  | .inr _ => (0, 0)
def splitL (l : List UInt8) : List (List Wd) := if 1048576 < l.length then [] else match wordsOf l with
  | .inl _ => []
  | .inr ls => ls

/-- a line that has been laid -/
def LineIn (base lim : Nat) (w : World) (v : Value) (ws : List Wd) : Prop :=
  ∃ g cap C, v = .slice (some ⟨g, 0, none⟩) ws.length cap ∧ base ≤ g ∧ g < lim ∧ Blk w g C 108 ∧ ∀ j (h : j < ws.length) i, i < 3 → C[j * 3 + i]? = (ws[j].cells)[i]?
theorem LineIn.extB {base lim b : Nat} {w w' : World} {v : Value} {ws : List Wd} (h : LineIn base lim w v ws) (e : ExtB b w w') (hb : b < base) : LineIn base lim w' v ws := by
  obtain ⟨g, cap, C, h1, h2, h3, h4, h5⟩ := h
  exact ⟨g, cap, C, h1, h2, h3, h4.extB e (by omega), h5⟩
theorem LineIn.fr {base lim lim' b : Nat} {w w' : World} {v : Value} {ws : List Wd} (h : LineIn base lim w v ws) (e : FrB b lim w w') (hb : b < base) : LineIn base lim w' v ws := by
  obtain ⟨g, cap, C, h1, h2, h3, h4, h5⟩ := h
  exact ⟨g, cap, C, h1, h2, h3, h4.fr e h3 (by omega), h5⟩
theorem own_type {x : World} {lim k n : Nat} {e : TypeId} {v : Value} {xs : List Value} (o : x.ownsRow lim e k v n xs) {c : Nat} {C : Array Value} {t : TypeId} (h : Blk x c C t) (ht : t ≠ e) : some c ≠ v.ownBlock := by
  obtain ⟨-, ⟨rfl, -⟩ | ⟨g', cap, cur, rfl, h2, h3, -⟩⟩ := o
  · intro q; cases q
  · intro q
    cases q
    have := (show x.heap[g']? = some (.cells C t) from h).symm.trans h3
    simp at this
    exact ht this.2
theorem own_fr {b lim base k n : Nat} {w w' : World} {e : TypeId} {v : Value} {xs : List Value} (o : w.ownsRow base e k v n xs) (hl : ∀ g, v.ownBlock = some g → g < lim) (f : FrB b lim w w') (hb : b < base) : w'.ownsRow base e k v n xs := by
  obtain ⟨h0, h | ⟨g, cap, cur, rfl, h2, h3, h4⟩⟩ := o
  · exact ⟨h0, Or.inl h⟩
  · exact ⟨h0, Or.inr ⟨g, cap, cur, rfl, h2, (f.block g (hl g rfl) (by omega)).trans h3, h4⟩⟩
/-- the memory of the walk through a text -/
structure SpMem (w : World) (B : Nat) (tv : Value) (k : Nat) (was : Int) (from_ : Nat) (rv ov : Value) (vs : List Value) (lim : Nat) (line col : Nat) (row : List Wd) (out : List (List Wd)) : Prop where
  text : Blk w B #[tv] 22
  place : Blk w (B + 1) #[.int .i64 0, .int .i64 0] 44
  out_ : Blk w (B + 2) #[ov] 96
  row_ : Blk w (B + 3) #[rv] 106
  fr : Blk w (B + 4) #[.int .i64 (from_ : Int)] 3
  kk : Blk w (B + 5) #[.int .i64 (k : Int)] 3
  pl : Blk w (B + 6) #[.complex .f64 (fl line) (fl col)] 176
  wa : Blk w (B + 7) #[.int .i64 was] 3
  rowW : WdRow lim w rv row
  outW : w.ownsRow (B + 8) 106 1 ov vs.length vs
  outN : vs.length = out.length
  lines : ∀ j (h : j < vs.length) (h' : j < out.length), LineIn (B + 8) lim w vs[j] out[j]
  outL : ∀ g, ov.ownBlock = some g → g < lim
  lim0 : B + 8 ≤ lim
  lim1 : lim ≤ w.heap.size
section
variable {w w' : World} {B : Nat} {tv rv ov : Value} {k from_ : Nat} {was : Int} {vs : List Value} {lim line col : Nat} {row : List Wd} {out : List (List Wd)}
theorem SpMem.kept (h : SpMem w B tv k was from_ rv ov vs lim line col row out) {rv' : Value} {row' : List Wd} (h1 : Blk w' (B + 3) #[rv'] 106) (h2 : WdRow lim w' rv' row') (f : FrB (B + 3) lim w w') : SpMem w' B tv k was from_ rv' ov vs lim line col row' out := by
  have hl := h.lim0
  exact ⟨h.text.fr f (by omega) (by omega), h.place.fr f (by omega) (by omega), h.out_.fr f (by omega) (by omega), h1, h.fr.fr f (by omega) (by omega), h.kk.fr f (by omega) (by omega), h.pl.fr f (by omega) (by omega), h.wa.fr f (by omega) (by omega), h2, own_fr h.outW h.outL f (by omega), h.outN, fun j q1 q2 => (h.lines j q1 q2).fr (lim' := lim) f (by omega), h.outL, h.lim0, Nat.le_trans h.lim1 f.size⟩
end
end Go.Proofs.YtknlojlcahgnoaaGreat

namespace Go.Proofs.YtknlojlcahgnoaaGreat
open Go.RowKit
set_option linter.unusedVariables false
set_option linter.unusedSimpArgs false

theorem run_store_complexS {P : Program} {w : World} {a : Addr} {m : Mode} (k : FloatKind) (x y : Nat) : (store a (.complex k x y) m).run P w = stored P w a (.complex k x y) m := run_store P w a _ m rfl
attribute [local go_sem] run_store_complexS
section
variable {P : Program}
end
/-- a slice's length is at most its capacity -/
def CapLe (v : Value) : Prop := ∀ a n c, v = .slice a n c → n ≤ c
/-- what was told: the lines, or what is wrong, and where -/
def SplitIs (w : World) (l : List UInt8) (x : Ending) (w' : World) : Prop :=
  ∃ ov, x = .returned (.tuple #[ov, .int .u16 (splitE l), .agg #[.int .i64 (splitAt' l).1, .int .i64 (splitAt' l).2]]) ∧ LinesAt w' ov (splitL l) ∧ Ext w w'
theorem SplitIs.big {w w' : World} {l : List UInt8} (h : 1048576 < l.length) (e : Ext w w') : SplitIs w l (.returned (.tuple #[.slice none 0 0, .int .u16 21, .agg #[.int .i64 0, .int .i64 0]])) w' := by
  refine ⟨.slice none 0 0, ?_, ?_, e⟩
  · unfold splitE splitAt'
    rw [if_pos h, if_pos h]
  · unfold splitL
    rw [if_pos h]
    exact ⟨none, 0, rfl, fun q => absurd rfl q⟩
theorem SplitIs.bad {w w' : World} {l : List UInt8} {a b : Nat} (h : ¬ 1048576 < l.length) (hw : wordsOf l = .inl (a, b)) (e : Ext w w') : SplitIs w l (.returned (.tuple #[.slice none 0 0, .int .u16 20, .agg #[.int .i64 (a : Int), .int .i64 (b : Int)]])) w' := by
  refine ⟨.slice none 0 0, ?_, ?_, e⟩
  · unfold splitE splitAt'
    rw [if_neg h, if_neg h, hw]
  · unfold splitL
    rw [if_neg h, hw]
    exact ⟨none, 0, rfl, fun q => absurd rfl q⟩
theorem SplitIs.good {w w' : World} {l : List UInt8} {ls : List (List Wd)} {ov : Value} (h : ¬ 1048576 < l.length) (hw : wordsOf l = .inr ls) (hl : LinesAt w' ov ls) (e : Ext w w') : SplitIs w l (.returned (.tuple #[ov, .int .u16 0, .agg #[.int .i64 0, .int .i64 0]])) w' := by
  refine ⟨ov, ?_, ?_, e⟩
  · unfold splitE splitAt'
    rw [if_neg h, if_neg h, hw]
  · unfold splitL
    rw [if_neg h, hw]
    exact hl
def SpNext (l : List UInt8) (tv : Value) (w : World) (k : Nat) (w' : World) : Prop :=
  ∃ (was : Int) (from_ : Nat) (rv ov : Value) (vs : List Value) (lim : Nat), k ≤ l.length ∧ Fair (l.take k) ∧ SpMem w' w.heap.size tv k was from_ rv ov vs lim (spTo (l.take k)).line (spTo (l.take k)).col (spTo (l.take k)).row (spTo (l.take k)).out ∧
    (was = 0 ↔ (spTo (l.take k)).cur ≠ []) ∧ ((spTo (l.take k)).cur ≠ [] → from_ + (spTo (l.take k)).cur.length = k ∧ (spTo (l.take k)).cur = (l.take k).drop from_) ∧ Ext w w'
theorem SpMem.ext {w w' : World} {tv rv ov : Value} {k from_ : Nat} {was : Int} {vs : List Value} {lim line col : Nat} {row : List Wd} {out : List (List Wd)} (h : SpMem w' w.heap.size tv k was from_ rv ov vs lim line col row out) {w2 : World} (e : Ext w w') (f : FrB (w.heap.size + 3) lim w' w2) : Ext w w2 := by
  have := h.lim0
  exact ⟨f.os.trans (Below.os e), f.tape.trans (Below.tape e), f.output.trans (Below.output e), Nat.le_trans e.sz f.size, fun c hc => (f.block c (by omega) (by omega)).trans (Below.block e c hc)⟩
theorem SpNext.start (l : List UInt8) (tv : Value) (w : World) : SpNext l tv w 0 ((((((((w.alloc (.cells #[tv] 22)).alloc (.cells #[.int .i64 0, .int .i64 0] 44)).alloc (.cells #[.slice none 0 0] 96)).alloc (.cells #[.slice none 0 0] 106)).alloc (.cells #[.int .i64 0] 3)).alloc (.cells #[.int .i64 0] 3)).alloc (.cells #[.complex .f64 4607182418800017408 4607182418800017408] 176)).alloc (.cells #[.int .i64 1] 3)) := by
  refine ⟨1, 0, .slice none 0 0, .slice none 0 0, [], w.heap.size + 8, Nat.zero_le _, (by intro b hb; simp at hb), ?_, ⟨fun h => by omega, fun h => absurd rfl h⟩, fun h => absurd rfl h, ((((((((Ext.refl w).alloc _).alloc _).alloc _).alloc _).alloc _).alloc _).alloc _).alloc _⟩
  refine ⟨?_, ?_, ?_, ?_, ?_, ?_, ?_, ?_, RowOf.empty _ _ _ _ _, World.ownsRow_nil _ _ _ _, rfl, fun j hj => absurd hj (Nat.not_lt_zero j), fun g hg => (by cases hg), Nat.le_refl _, (by simp)⟩
  · exact (((((((Blk.new' _ _ _ rfl).alloc _).alloc _).alloc _).alloc _).alloc _).alloc _).alloc _
  · exact ((((((Blk.new' _ _ _ (by simp)).alloc _).alloc _).alloc _).alloc _).alloc _).alloc _
  · exact (((((Blk.new' _ _ _ (by simp)).alloc _).alloc _).alloc _).alloc _).alloc _
  · exact ((((Blk.new' _ _ _ (by simp)).alloc _).alloc _).alloc _).alloc _
  · exact (((Blk.new' _ _ _ (by simp)).alloc _).alloc _).alloc _
  · exact ((Blk.new' _ _ _ (by simp)).alloc _).alloc _
  · rw [show (fl (spTo (List.take 0 l)).line) = 4607182418800017408 from fl_one, show (fl (spTo (List.take 0 l)).col) = 4607182418800017408 from fl_one]
    exact (Blk.new' _ _ _ (by simp)).alloc _
  · exact Blk.new' _ _ _ (by simp)

end Go.Proofs.YtknlojlcahgnoaaGreat
