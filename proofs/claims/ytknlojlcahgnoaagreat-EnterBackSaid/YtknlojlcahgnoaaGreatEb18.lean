/- Plain: a text's words by lines: as the program steps through it, and by the document; both are the same. No program in sight. Plain: whole numbers below 2^53 as floats: what they are read as, their sums and differences, and the way back. append to a row of the call's own, as a step of a region that draws its order; words in memory. Walks: the closures of words.Split: a word that is none; a line is laid. -/
import Derived.Laws.ComplexArith
import Derived.WalkKit
import Derived.Test.YtknlojlcahgnoaaGreatProg
import Derived.Deep.RegionLawGrows
import Derived.Deep.CutBlock
import Derived.RangeFuncBox
import Derived.Test.YtknlojlcahgnoaaGreatEb1
import Derived.Test.YtknlojlcahgnoaaGreatEb5
import Derived.Test.YtknlojlcahgnoaaGreatEb13

namespace Go.Proofs.YtknlojlcahgnoaaGreat
set_option linter.unusedVariables false
set_option linter.unusedSimpArgs false

theorem list_snoc' {α : Type} {m : List α → Prop} (h0 : m []) (h1 : ∀ xs x, m xs → m (xs ++ [x])) (l : List α) : m l := by
  have h : ∀ n (l : List α), l.length = n → m l := by
    intro n
    induction n with
    | zero => intro l hl; rw [List.length_eq_zero_iff.1 hl]; exact h0
    | succ n ih =>
      intro l hl
      have hne : l ≠ [] := by intro e; rw [e] at hl; cases hl
      rw [← List.dropLast_concat_getLast hne]
      exact h1 _ _ (ih _ (by rw [List.length_dropLast]; omega))
  exact h _ l rfl
/-- a word, and where it stands -/
structure Wd where
  t : ByteArray
  line : Int
  col : Int
/-- kinds of bytes: visible, blank, the end of a line, another one -/
def bKind (b : UInt8) : Nat := if b = 10 then 2 else if b = 32 ∨ b = 9 then 1 else if 32 < b.toNat ∧ b.toNat ≤ 126 then 0 else 3
def bText (l : List UInt8) : ByteArray := ⟨l.toArray⟩
/-- a word ends, if there is one -/
def keepW (line col : Nat) (cur : List UInt8) (row : List Wd) : List Wd := if cur = [] then row else row ++ [⟨bText cur, line, ((col - cur.length : Nat) : Int)⟩]
/-- is it a line that says something -/
def saysL : List Wd → Bool
  | [] => false
  | w :: _ => !decide (w.t.data.toList.head? = some 35)
def layW (row : List Wd) (out : List (List Wd)) : List (List Wd) := if saysL row then out ++ [row] else out
structure SpSt where
  line : Nat
  col : Nat
  cur : List UInt8
  row : List Wd
  out : List (List Wd)
def sp0 : SpSt := ⟨1, 1, [], [], []⟩
def SpSt.keep (s : SpSt) : List Wd := keepW s.line s.col s.cur s.row
def SpSt.lay (s : SpSt) : List (List Wd) := layW s.keep s.out
def spStep (s : SpSt) (b : UInt8) : SpSt :=
  if bKind b = 0 then ⟨s.line, s.col + 1, s.cur ++ [b], s.row, s.out⟩ else if bKind b = 2 then ⟨s.line + 1, 1, [], [], s.lay⟩ else ⟨s.line, s.col + 1, [], s.keep, s.out⟩
def spTo (l : List UInt8) : SpSt := l.foldl spStep sp0
/-- no byte is another one -/
def Fair (l : List UInt8) : Prop := ∀ b ∈ l, bKind b ≠ 3
/-- what a text's words are: the lines, or where it goes wrong -/
def wordsOf (l : List UInt8) : Sum (Nat × Nat) (List (List Wd)) :=
  match l.findIdx? (fun b => decide (bKind b = 3)) with
  | some k => .inl ((spTo (l.take k)).line, (spTo (l.take k)).col)
  | none => .inr (spTo l).lay
/-- by the document: a line's words -/
structure LnSt where
  col : Nat
  cur : List UInt8
  row : List Wd
def lnStep (n : Nat) (s : LnSt) (b : UInt8) : LnSt := if b = 32 ∨ b = 9 then ⟨s.col + 1, [], keepW n s.col s.cur s.row⟩ else ⟨s.col + 1, s.cur ++ [b], s.row⟩
def lnTo (n : Nat) (l : List UInt8) : LnSt := l.foldl (lnStep n) ⟨1, [], []⟩
theorem lnTo_snoc (n : Nat) (l : List UInt8) (b : UInt8) : lnTo n (l ++ [b]) = lnStep n (lnTo n l) b := by unfold lnTo; rw [List.foldl_append]; rfl
theorem lnTo_col (n : Nat) (l : List UInt8) : (lnTo n l).col = l.length + 1 := by
  induction l using list_snoc' with
  | h0 => rfl
  | h1 l b ih => rw [lnTo_snoc, List.length_append]; unfold lnStep; split <;> simp [ih]
def lnKeep (n : Nat) (l : List UInt8) : List Wd := keepW n (lnTo n l).col (lnTo n l).cur (lnTo n l).row
/-- those that are told: none, if the first one begins with the sign -/
def refLine (l : List UInt8) (n : Nat) : List Wd := if saysL (lnKeep n l) then lnKeep n l else []
def addL (row : List Wd) (out : List (List Wd)) : List (List Wd) := if row = [] then out else out ++ [row]
structure RfSt where
  n : Nat
  ln : List UInt8
  out : List (List Wd)
def RfSt.lay (s : RfSt) : List (List Wd) := addL (refLine s.ln s.n) s.out
def rfStep (s : RfSt) (b : UInt8) : RfSt := if b = 10 then ⟨s.n + 1, [], s.lay⟩ else ⟨s.n, s.ln ++ [b], s.out⟩
theorem addL_line (l : List UInt8) (n : Nat) (out : List (List Wd)) : addL (refLine l n) out = layW (lnKeep n l) out := by
  unfold addL refLine layW
  cases h : saysL (lnKeep n l) with
  | false => simp
  | true =>
    have : lnKeep n l ≠ [] := by intro e; rw [e] at h; cases h
    simp [this]
/-- both walks are at the same place -/
structure SameSt (s : SpSt) (t : RfSt) : Prop where
  n : s.line = t.n
  col : s.col = t.ln.length + 1
  cur : s.cur = (lnTo t.n t.ln).cur
  row : s.row = (lnTo t.n t.ln).row
  out : s.out = t.out
theorem SameSt.keep {s : SpSt} {t : RfSt} (h : SameSt s t) : s.keep = lnKeep t.n t.ln := by
  unfold SpSt.keep lnKeep
  rw [h.n, h.col, h.cur, h.row, lnTo_col]
theorem SameSt.lay {s : SpSt} {t : RfSt} (h : SameSt s t) : s.lay = t.lay := by
  unfold SpSt.lay RfSt.lay
  rw [addL_line, h.keep, h.out]
theorem SameSt.step {s : SpSt} {t : RfSt} (h : SameSt s t) {b : UInt8} (hb : bKind b ≠ 3) : SameSt (spStep s b) (rfStep t b) := by
  unfold spStep rfStep
  unfold bKind at *
  by_cases h1 : b = 10
  · simp only [h1, if_true, show (2 : Nat) ≠ 0 by decide, if_false]
    exact ⟨by rw [h.n], rfl, rfl, rfl, h.lay⟩
  · simp only [h1, if_false]
    by_cases h2 : b = 32 ∨ b = 9
    · simp only [h2, if_true, show (1 : Nat) ≠ 0 by decide, show (1 : Nat) ≠ 2 by decide, if_false]
      refine ⟨h.n, by simp [h.col], ?_, ?_, h.out⟩ <;> dsimp only <;> rw [lnTo_snoc] <;> unfold lnStep <;> rw [if_pos h2]
      exact h.keep
    · simp only [h2, if_false] at hb ⊢
      by_cases h3 : 32 < b.toNat ∧ b.toNat ≤ 126
      · simp only [h3, and_self, if_true]
        refine ⟨h.n, by simp [h.col], ?_, ?_, h.out⟩ <;> dsimp only <;> rw [lnTo_snoc] <;> unfold lnStep <;> rw [if_neg h2]
        · rw [h.cur]
        · rw [h.row]
      · exact absurd (by rw [if_neg h1, if_neg h3]) hb
end Go.Proofs.YtknlojlcahgnoaaGreat

namespace Go.Proofs.YtknlojlcahgnoaaGreat
open Go
set_option linter.unusedVariables false
set_option linter.unusedSimpArgs false

/-- a whole number as a float -/
def fl (n : Nat) : Nat := FloatKind.nearest .f64 (n : Int)
theorem fl_one : fl 1 = 4607182418800017408 := by decide
end Go.Proofs.YtknlojlcahgnoaaGreat

namespace Go.Proofs.YtknlojlcahgnoaaGreat
open Go.RowKit
set_option linter.unusedVariables false
set_option linter.unusedSimpArgs false

def Wd.cells (x : Wd) : Array Value := #[.string x.t, .int .i64 x.line, .int .i64 x.col]
theorem Wd.size3 (x : Wd) : x.cells.size = 3 := rfl
/-- words in memory -/
abbrev WdsAt (w : World) (v : Value) (l : List Wd) : Prop := ElemsAt Wd.cells 3 w v l
abbrev WdRow (base : Nat) (w : World) (v : Value) (l : List Wd) : Prop := RowOf Wd.cells 3 108 base w v l
/-- lines of words in memory -/
def LinesAt (w : World) (v : Value) (ls : List (List Wd)) : Prop :=
  ∃ a c, v = .slice a ls.length c ∧ (ls ≠ [] → ∃ b o, a = some ⟨b, o, none⟩ ∧ ∀ j (h : j < ls.length), ∃ x, w.cell? ⟨b, o + j, none⟩ = some x ∧ WdsAt w x ls[j])
theorem LinesAt.ext {w w' : World} {v : Value} {ls : List (List Wd)} (h : LinesAt w v ls) (e : Ext w w') : LinesAt w' v ls := by
  obtain ⟨a, c, hv, hl⟩ := h
  refine ⟨a, c, hv, fun hne => ?_⟩
  obtain ⟨b, o, ha, hc⟩ := hl hne
  refine ⟨b, o, ha, fun j hj => ?_⟩
  obtain ⟨x, h1, h2⟩ := hc j hj
  exact ⟨x, e.keep h1, h2.ext Wd.size3 e⟩

/-- what was below a limit is as it was, but for one block; there may be new blocks -/
structure FrB (b lim : Nat) (w w' : World) : Prop where
  os : w'.os = w.os
  tape : w'.tape = w.tape
  output : w'.output = w.output
  size : w.heap.size ≤ w'.heap.size
  block : ∀ k, k < lim → k ≠ b → w'.heap[k]? = w.heap[k]?
theorem ExtB.fr {b lim : Nat} {w w' : World} (h : ExtB b w w') (hl : lim ≤ w.heap.size) : FrB b lim w w' := ⟨h.os, h.tape, h.output, h.size, fun k hk hne => h.block k (Nat.lt_of_lt_of_le hk hl) hne⟩
theorem own_low {x : World} {lim k n : Nat} {e : TypeId} {v : Value} {xs : List Value} (o : x.ownsRow lim e k v n xs) {c : Nat} (hc : c < lim) : some c ≠ v.ownBlock := by
  obtain ⟨-, ⟨rfl, -⟩ | ⟨g', cap, cur, rfl, h2, -⟩⟩ := o
  · intro h; cases h
  · intro h; cases h; exact absurd hc (Nat.not_lt_of_le h2)
theorem Ext.fr {b lim : Nat} {w w' : World} (h : Ext w w') (hl : lim ≤ w.heap.size) : FrB b lim w w' := (h.toB b).fr hl
theorem FrB.grown {b lim k n : Nat} {w x y z : World} {e : TypeId} {v : Value} {xs : List Value} (h : FrB b lim w y) (hl : lim ≤ y.heap.size) (o : x.ownsRow lim e k v n xs) (g : y.grownBy z v.ownBlock) : FrB b lim w z :=
  ⟨g.os.trans h.os, g.tape.trans h.tape, g.output.trans h.output, Nat.le_trans h.size g.size, fun c hc hne => (g.block c (Nat.lt_of_lt_of_le hc hl) (own_low o hc)).trans (h.block c hc hne)⟩
theorem FrB.setCell {b lim : Nat} {w y : World} (h : FrB b lim w y) (o : Nat) (v : Value) : FrB b lim w (y.setCell ⟨b, o, none⟩ v) :=
  ⟨h.os, h.tape, h.output, by simpa [World.setCell] using h.size, fun k hk hne => (Below.heap_setCell _ _ _ _ hne).trans (h.block k hk hne)⟩
theorem FrB.refl (b lim : Nat) (w : World) : FrB b lim w w := ⟨rfl, rfl, rfl, Nat.le_refl _, fun _ _ _ => rfl⟩
theorem Blk.fr {b lim c : Nat} {w w' : World} {C : Array Value} {t : TypeId} (h : Blk w c C t) (e : FrB b lim w w') (hc : c < lim) (hne : c ≠ b) : Blk w' c C t := (e.block c hc hne).trans h
end Go.Proofs.YtknlojlcahgnoaaGreat

namespace Go.Proofs.YtknlojlcahgnoaaGreat
open Go.RowKit
set_option linter.unusedVariables false
set_option linter.unusedSimpArgs false

/-- the blocks of which p says so are as they were; there may be new blocks -/
structure FrP (p : Nat → Prop) (w w' : World) : Prop where
  os : w'.os = w.os
  tape : w'.tape = w.tape
  output : w'.output = w.output
  size : w.heap.size ≤ w'.heap.size
  block : ∀ k, k < w.heap.size → p k → w'.heap[k]? = w.heap[k]?
theorem FrP.refl (p : Nat → Prop) (w : World) : FrP p w w := ⟨rfl, rfl, rfl, Nat.le_refl _, fun _ _ _ => rfl⟩
theorem FrP.trans {p : Nat → Prop} {x y z : World} (h : FrP p x y) (k : FrP p y z) : FrP p x z :=
  ⟨k.os.trans h.os, k.tape.trans h.tape, k.output.trans h.output, Nat.le_trans h.size k.size, fun i hi hb => (k.block i (Nat.lt_of_lt_of_le hi h.size) hb).trans (h.block i hi hb)⟩
theorem FrP.setCell {p : Nat → Prop} {x y : World} (h : FrP p x y) {b : Nat} (hb : ¬ p b) (o : Nat) (v : Value) : FrP p x (y.setCell ⟨b, o, none⟩ v) :=
  ⟨h.os, h.tape, h.output, by simpa [World.setCell] using h.size, fun k hk hp => (Below.heap_setCell _ _ _ _ (fun e => hb (by have e' : k = b := e; rw [← e']; exact hp))).trans (h.block k hk hp)⟩
theorem FrP.grown {p : Nat → Prop} {x y z : World} (h : FrP p x y) {ob : Option Nat} (g : y.grownBy z ob) (hp : ∀ k, p k → some k ≠ ob) : FrP p x z :=
  ⟨g.os.trans h.os, g.tape.trans h.tape, g.output.trans h.output, Nat.le_trans h.size g.size, fun k hk hpk => (g.block k (Nat.lt_of_lt_of_le hk h.size) (hp k hpk)).trans (h.block k hk hpk)⟩
theorem FrP.mono {p q : Nat → Prop} {x y : World} (h : FrP p x y) (hq : ∀ k, q k → p k) : FrP q x y := ⟨h.os, h.tape, h.output, h.size, fun k hk hpk => h.block k hk (hq k hpk)⟩
end Go.Proofs.YtknlojlcahgnoaaGreat
