/- Plain laws of the kernels: how full a state is; what comes in; what is left. No program in sight. Plain laws of a table with one key. Keys of choices are right keys; so is their first byte; the rules of choices are right. The memory of words.Split: what each step leaves. -/
import Derived.Test.YtknlojlcahgnoaaGreatCf24
import Derived.Test.YtknlojlcahgnoaaGreatCf23
import Derived.Test.YtknlojlcahgnoaaGreatCf0
import Derived.Test.YtknlojlcahgnoaaGreatCf6
import Derived.Test.YtknlojlcahgnoaaGreatCf3
import Derived.Test.YtknlojlcahgnoaaGreatCf25
import Derived.Test.YtknlojlcahgnoaaGreatCf21
import Derived.Test.YtknlojlcahgnoaaGreatCf4

namespace Go.Proofs.YtknlojlcahgnoaaGreat
set_option linter.unusedVariables false
set_option linter.unusedSimpArgs false

/-- a state that a kernel may have at a time -/
def Sane (k a x clock cap : Int) : Prop :=
  0 ≤ a ∧ 0 ≤ x ∧ ((k = 1 ∧ a ≤ clock + cap) ∨ ((k = 2 ∨ k = 3) ∧ x ≤ clock ∧ a ≤ cap))

theorem Sane.ok {k a x clock cap W : Int} (h : Sane k a x clock cap) (hc : 0 ≤ cap) (hn0 : 0 ≤ clock) (hW : 0 ≤ W) : kOk k a x clock cap W = decide (kFill k a x clock cap + W ≤ cap) := by
  obtain ⟨h1, h2, h3⟩ := h
  unfold kOk kFill fitsB
  rcases h3 with ⟨rfl, h⟩ | ⟨rfl | rfl, h, h'⟩
  · simp only [if_true]
    rw [decide_eq_decide]
    unfold satSub
    split <;> omega
  · simp only [show ¬ ((2 : Int) = 1) by decide, if_false, if_true]
    rw [decide_eq_decide]
    omega
  · simp only [show ¬ ((3 : Int) = 1) by decide, show ¬ ((3 : Int) = 2) by decide, if_false, if_true]
theorem Sane.of {k clock cap : Int} (hk : k = 1 ∨ k = 2 ∨ k = 3) (hc : 0 ≤ cap) (hn0 : 0 ≤ clock) (hb : clock + cap < 18446744073709551616) : Sane k (kOfA k clock cap 0) (kOfB k clock) clock cap ∧ kFill k (kOfA k clock cap 0) (kOfB k clock) clock cap = 0 := by
  unfold Sane kFill kOfA kOfB satSub satAdd
  rcases hk with rfl | rfl | rfl
  · simp only [if_true]
    refine ⟨⟨?_, ?_, Or.inl ⟨trivial, ?_⟩⟩, ?_⟩ <;> repeat' split
    all_goals omega
  · simp only [show ¬ ((2 : Int) = 1) by decide, if_false, if_true]
    refine ⟨⟨?_, ?_, Or.inr ⟨Or.inl trivial, ?_, ?_⟩⟩, ?_⟩ <;> repeat' split
    all_goals omega
  · simp only [show ¬ ((3 : Int) = 1) by decide, show ¬ ((3 : Int) = 2) by decide, if_false, if_true]
    refine ⟨⟨?_, ?_, Or.inr ⟨Or.inr trivial, ?_, ?_⟩⟩, ?_⟩ <;> repeat' split
    all_goals omega
end Go.Proofs.YtknlojlcahgnoaaGreat

namespace Go.Proofs.YtknlojlcahgnoaaGreat
set_option linter.unusedVariables false
set_option linter.unusedSimpArgs false

/-- a table that has one key at most, by one rule -/
structure OneAt (l : SMap) (c : Nat) (name p : ByteArray) (e b rk clock : Int) : Prop where
  ok : TabOk l c
  len : l.length ≤ 1
  all : ∀ x ∈ l, x.1.key = name ∧ x.1.p = p ∧ x.1.e = e ∧ x.1.b = b ∧ x.1.rk = rk ∧ Sane x.1.sk x.1.sa x.1.sb clock (e * b)
theorem OneAt.nil (c : Nat) (name p : ByteArray) (e b rk clock : Int) : OneAt [] c name p e b rk clock := ⟨TabOk.nil c, by simp, fun x h => (by cases h)⟩
theorem OneAt.look {l : SMap} {c : Nat} {name p : ByteArray} {e b rk clock : Int} (h : OneAt l c name p e b rk clock) {s : Slot} (hl : l.look name = some s) : s.key = name ∧ s.p = p ∧ s.e = e ∧ s.b = b ∧ s.rk = rk ∧ Sane s.sk s.sa s.sb clock (e * b) := by
  obtain ⟨n, hn⟩ := look_mem hl
  exact h.all _ hn
end Go.Proofs.YtknlojlcahgnoaaGreat

namespace Go.Proofs.YtknlojlcahgnoaaGreat
open Go.RowKit
set_option linter.unusedVariables false
set_option linter.unusedSimpArgs false

theorem pieceOf_ok (n : Nat) : noBad (pieceOf n).data.toList = true := by
  unfold pieceOf
  repeat' split
  all_goals decide
theorem noBad_append (a b : List UInt8) : noBad (a ++ b) = (noBad a && noBad b) := by simp [noBad]
theorem keyCat_ok : ∀ (m : Nat) (l : List UInt8), l.length = m → noBad (keyCat l).data.toList = true := by
  intro m
  induction m with
  | zero => intro l h; obtain rfl := List.eq_nil_of_length_eq_zero h; decide
  | succ m ih =>
    intro l h
    have hne : l ≠ [] := by intro e; subst e; simp at h
    rw [← List.dropLast_concat_getLast hne, keyCat_snoc, ByteArray.data_append, Array.toList_append, noBad_append, ih l.dropLast (by rw [List.length_dropLast]; omega), pieceOf_ok]
    rfl
theorem keyText_ok (l : List UInt8) : keyOk (keyText l) = true ∧ (keyText l).size ≤ 12 := by
  unfold keyText
  split
  · decide
  · rename_i h
    have h2 := keyCat_size (l.take 6)
    rw [List.length_take] at h2
    have h3 := keyCat_ok _ (l.take 6) rfl
    refine ⟨?_, by omega⟩
    unfold keyOk
    rw [h3]
    simp
    omega
end Go.Proofs.YtknlojlcahgnoaaGreat

namespace Go.Proofs.YtknlojlcahgnoaaGreat
open Go.RowKit
set_option linter.unusedVariables false
set_option linter.unusedSimpArgs false

def splitE (l : List UInt8) : Int := if 1048576 < l.length then 21 else match wordsOf l with
  | .inl _ => 20
  | .inr _ => 0
def splitAt' (l : List UInt8) : Int × Int := if 1048576 < l.length then (0, 0) else match wordsOf l with
  | .inl p => ((p.1 : Int), (p.2 : Int))
  | .inr _ => (0, 0)
def splitL (l : List UInt8) : List (List Wd) := if 1048576 < l.length then [] else match wordsOf l with
  | .inl _ => []
  | .inr ls => ls

/-- a line that has been laid -/
def LineIn (base lim : Nat) (w : World) (v : Value) (ws : List Wd) : Prop :=
  ∃ g cap C, v = .slice (some ⟨g, 0, none⟩) ws.length cap ∧ base ≤ g ∧ g < lim ∧ Blk w g C 108 ∧ ∀ j (h : j < ws.length) i, i < 3 → C[j * 3 + i]? = (ws[j].cells)[i]?
theorem LineIn.extB {base lim b : Nat} {w w' : World} {v : Value} {ws : List Wd} (h : LineIn base lim w v ws) (e : ExtB b w w') (hb : b < base) : LineIn base lim w' v ws := by
  obtain ⟨g, cap, C, h1, h2, h3, h4, h5⟩ := h
  exact ⟨g, cap, C, h1, h2, h3, h4.extB e (by omega), h5⟩
theorem LineIn.fr {base lim lim' b : Nat} {w w' : World} {v : Value} {ws : List Wd} (h : LineIn base lim w v ws) (e : FrB b lim w w') (hb : b < base) : LineIn base lim w' v ws := by
  obtain ⟨g, cap, C, h1, h2, h3, h4, h5⟩ := h
  exact ⟨g, cap, C, h1, h2, h3, h4.fr e h3 (by omega), h5⟩
theorem own_type {x : World} {lim k n : Nat} {e : TypeId} {v : Value} {xs : List Value} (o : x.ownsRow lim e k v n xs) {c : Nat} {C : Array Value} {t : TypeId} (h : Blk x c C t) (ht : t ≠ e) : some c ≠ v.ownBlock := by
  obtain ⟨-, ⟨rfl, -⟩ | ⟨g', cap, cur, rfl, h2, h3, -⟩⟩ := o
  · intro q; cases q
  · intro q
    cases q
    have := (show x.heap[g']? = some (.cells C t) from h).symm.trans h3
    simp at this
    exact ht this.2
theorem own_fr {b lim base k n : Nat} {w w' : World} {e : TypeId} {v : Value} {xs : List Value} (o : w.ownsRow base e k v n xs) (hl : ∀ g, v.ownBlock = some g → g < lim) (f : FrB b lim w w') (hb : b < base) : w'.ownsRow base e k v n xs := by
  obtain ⟨h0, h | ⟨g, cap, cur, rfl, h2, h3, h4⟩⟩ := o
  · exact ⟨h0, Or.inl h⟩
  · exact ⟨h0, Or.inr ⟨g, cap, cur, rfl, h2, (f.block g (hl g rfl) (by omega)).trans h3, h4⟩⟩
/-- the memory of the walk through a text -/
structure SpMem (w : World) (B : Nat) (tv : Value) (k : Nat) (was : Int) (from_ : Nat) (rv ov : Value) (vs : List Value) (lim : Nat) (line col : Nat) (row : List Wd) (out : List (List Wd)) : Prop where
  text : Blk w B #[tv] 22
  place : Blk w (B + 1) #[.int .i64 0, .int .i64 0] 44
  out_ : Blk w (B + 2) #[ov] 96
  row_ : Blk w (B + 3) #[rv] 106
  fr : Blk w (B + 4) #[.int .i64 (from_ : Int)] 3
  kk : Blk w (B + 5) #[.int .i64 (k : Int)] 3
  pl : Blk w (B + 6) #[.complex .f64 (fl line) (fl col)] 176
  wa : Blk w (B + 7) #[.int .i64 was] 3
  rowW : WdRow lim w rv row
  outW : w.ownsRow (B + 8) 106 1 ov vs.length vs
  outN : vs.length = out.length
  lines : ∀ j (h : j < vs.length) (h' : j < out.length), LineIn (B + 8) lim w vs[j] out[j]
  outL : ∀ g, ov.ownBlock = some g → g < lim
  lim0 : B + 8 ≤ lim
  lim1 : lim ≤ w.heap.size
section
variable {w w' : World} {B : Nat} {tv rv ov : Value} {k from_ : Nat} {was : Int} {vs : List Value} {lim line col : Nat} {row : List Wd} {out : List (List Wd)}
theorem SpMem.setFrom (h : SpMem w B tv k was from_ rv ov vs lim line col row out) (f : Nat) : SpMem (w.setCell ⟨B + 4, 0, none⟩ (.int .i64 (f : Int))) B tv k was f rv ov vs lim line col row out := by
  have e : ExtB (B + 4) w (w.setCell ⟨B + 4, 0, none⟩ (.int .i64 (f : Int))) := (ExtB.refl _ w).setCell 0 _
  exact ⟨h.text.other (a := ⟨B + 4, 0, none⟩) (by dsimp only; omega) _, h.place.other (a := ⟨B + 4, 0, none⟩) (by dsimp only; omega) _, h.out_.other (a := ⟨B + 4, 0, none⟩) (by dsimp only; omega) _, h.row_.other (a := ⟨B + 4, 0, none⟩) (by dsimp only; omega) _, h.fr.set 0 _, h.kk.other (a := ⟨B + 4, 0, none⟩) (by dsimp only; omega) _, h.pl.other (a := ⟨B + 4, 0, none⟩) (by dsimp only; omega) _, h.wa.other (a := ⟨B + 4, 0, none⟩) (by dsimp only; omega) _, h.rowW.extB e (by have := h.lim0; omega), own_extB h.outW e (by omega), h.outN, fun j h1 h2 => (h.lines j h1 h2).extB e (by omega), h.outL, h.lim0, Nat.le_trans h.lim1 e.size⟩
theorem SpMem.setK (h : SpMem w B tv k was from_ rv ov vs lim line col row out) (k2 : Nat) : SpMem (w.setCell ⟨B + 5, 0, none⟩ (.int .i64 (k2 : Int))) B tv k2 was from_ rv ov vs lim line col row out := by
  have e : ExtB (B + 5) w (w.setCell ⟨B + 5, 0, none⟩ (.int .i64 (k2 : Int))) := (ExtB.refl _ w).setCell 0 _
  exact ⟨h.text.other (a := ⟨B + 5, 0, none⟩) (by dsimp only; omega) _, h.place.other (a := ⟨B + 5, 0, none⟩) (by dsimp only; omega) _, h.out_.other (a := ⟨B + 5, 0, none⟩) (by dsimp only; omega) _, h.row_.other (a := ⟨B + 5, 0, none⟩) (by dsimp only; omega) _, h.fr.other (a := ⟨B + 5, 0, none⟩) (by dsimp only; omega) _, h.kk.set 0 _, h.pl.other (a := ⟨B + 5, 0, none⟩) (by dsimp only; omega) _, h.wa.other (a := ⟨B + 5, 0, none⟩) (by dsimp only; omega) _, h.rowW.extB e (by have := h.lim0; omega), own_extB h.outW e (by omega), h.outN, fun j h1 h2 => (h.lines j h1 h2).extB e (by omega), h.outL, h.lim0, Nat.le_trans h.lim1 e.size⟩
theorem SpMem.setPl (h : SpMem w B tv k was from_ rv ov vs lim line col row out) (a b : Nat) : SpMem (w.setCell ⟨B + 6, 0, none⟩ (.complex .f64 (fl a) (fl b))) B tv k was from_ rv ov vs lim a b row out := by
  have e : ExtB (B + 6) w (w.setCell ⟨B + 6, 0, none⟩ (.complex .f64 (fl a) (fl b))) := (ExtB.refl _ w).setCell 0 _
  exact ⟨h.text.other (a := ⟨B + 6, 0, none⟩) (by dsimp only; omega) _, h.place.other (a := ⟨B + 6, 0, none⟩) (by dsimp only; omega) _, h.out_.other (a := ⟨B + 6, 0, none⟩) (by dsimp only; omega) _, h.row_.other (a := ⟨B + 6, 0, none⟩) (by dsimp only; omega) _, h.fr.other (a := ⟨B + 6, 0, none⟩) (by dsimp only; omega) _, h.kk.other (a := ⟨B + 6, 0, none⟩) (by dsimp only; omega) _, h.pl.set 0 _, h.wa.other (a := ⟨B + 6, 0, none⟩) (by dsimp only; omega) _, h.rowW.extB e (by have := h.lim0; omega), own_extB h.outW e (by omega), h.outN, fun j h1 h2 => (h.lines j h1 h2).extB e (by omega), h.outL, h.lim0, Nat.le_trans h.lim1 e.size⟩
theorem SpMem.setWas (h : SpMem w B tv k was from_ rv ov vs lim line col row out) (x : Int) : SpMem (w.setCell ⟨B + 7, 0, none⟩ (.int .i64 x)) B tv k x from_ rv ov vs lim line col row out := by
  have e : ExtB (B + 7) w (w.setCell ⟨B + 7, 0, none⟩ (.int .i64 x)) := (ExtB.refl _ w).setCell 0 _
  exact ⟨h.text.other (a := ⟨B + 7, 0, none⟩) (by dsimp only; omega) _, h.place.other (a := ⟨B + 7, 0, none⟩) (by dsimp only; omega) _, h.out_.other (a := ⟨B + 7, 0, none⟩) (by dsimp only; omega) _, h.row_.other (a := ⟨B + 7, 0, none⟩) (by dsimp only; omega) _, h.fr.other (a := ⟨B + 7, 0, none⟩) (by dsimp only; omega) _, h.kk.other (a := ⟨B + 7, 0, none⟩) (by dsimp only; omega) _, h.pl.other (a := ⟨B + 7, 0, none⟩) (by dsimp only; omega) _, h.wa.set 0 _, h.rowW.extB e (by have := h.lim0; omega), own_extB h.outW e (by omega), h.outN, fun j h1 h2 => (h.lines j h1 h2).extB e (by omega), h.outL, h.lim0, Nat.le_trans h.lim1 e.size⟩
theorem SpMem.kept (h : SpMem w B tv k was from_ rv ov vs lim line col row out) {rv' : Value} {row' : List Wd} (h1 : Blk w' (B + 3) #[rv'] 106) (h2 : WdRow lim w' rv' row') (f : FrB (B + 3) lim w w') : SpMem w' B tv k was from_ rv' ov vs lim line col row' out := by
  have hl := h.lim0
  exact ⟨h.text.fr f (by omega) (by omega), h.place.fr f (by omega) (by omega), h.out_.fr f (by omega) (by omega), h1, h.fr.fr f (by omega) (by omega), h.kk.fr f (by omega) (by omega), h.pl.fr f (by omega) (by omega), h.wa.fr f (by omega) (by omega), h2, own_fr h.outW h.outL f (by omega), h.outN, fun j q1 q2 => (h.lines j q1 q2).fr (lim' := lim) f (by omega), h.outL, h.lim0, Nat.le_trans h.lim1 f.size⟩
theorem SpMem.laidNo (h : SpMem w B tv k was from_ rv ov vs lim line col row out) (h1 : Blk w' (B + 3) #[.slice none 0 0] 106) (f : FrP (fun c => c ≠ B + 3) w w') : SpMem w' B tv k was from_ (.slice none 0 0) ov vs lim line col [] out := by
  have hl := h.lim0
  have e : ExtB (B + 3) w w' := ⟨f.os, f.tape, f.output, f.size, f.block⟩
  exact ⟨h.text.extB e (by omega), h.place.extB e (by omega), h.out_.extB e (by omega), h1, h.fr.extB e (by omega), h.kk.extB e (by omega), h.pl.extB e (by omega), h.wa.extB e (by omega), RowOf.empty _ _ _ _ _, own_extB h.outW e (by omega), h.outN, fun j q1 q2 => (h.lines j q1 q2).extB e (by omega), h.outL, h.lim0, Nat.le_trans h.lim1 f.size⟩
theorem SpMem.laid (h : SpMem w B tv k was from_ rv ov vs lim line col row out) {ov' : Value} (hrow : row ≠ []) (h1 : Blk w' (B + 3) #[.slice none 0 0] 106) (h2 : Blk w' (B + 2) #[ov'] 96) (h3 : w'.ownsRow (B + 8) 106 1 ov' (vs.length + 1) (vs ++ [rv]))
    (f : FrP (fun c => c ≠ B + 3 ∧ c ≠ B + 2 ∧ some c ≠ ov.ownBlock) w w') : SpMem w' B tv k was from_ (.slice none 0 0) ov' (vs ++ [rv]) w'.heap.size line col [] (out ++ [row]) := by
  have hl := h.lim0
  have hs := f.size
  have hl1 := h.lim1
  have blk : ∀ {c : Nat} {C : Array Value} {t : TypeId}, Blk w c C t → c ≠ B + 3 → c ≠ B + 2 → t ≠ 106 → Blk w' c C t := fun hb n1 n2 nt => hb.frP f ⟨n1, n2, own_type h.outW hb nt⟩
  have low : ∀ {c : Nat} {C : Array Value} {t : TypeId}, Blk w c C t → c ≠ B + 3 → c ≠ B + 2 → c < B + 8 → Blk w' c C t := fun hb n1 n2 nt => hb.frP f ⟨n1, n2, own_low h.outW nt⟩
  obtain ⟨-, ⟨-, h0⟩ | ⟨g, cap, cur, hg, h5, h6, h7, h8, h9, h10⟩⟩ := h.rowW.own
  · exact absurd (List.length_eq_zero_iff.1 h0) hrow
  have hg' := h.rowW.cells Wd.size3
  have h6' : Blk w g cur 108 := h6
  refine ⟨low h.text (by omega) (by omega) (by omega), low h.place (by omega) (by omega) (by omega), h2, h1, low h.fr (by omega) (by omega) (by omega), low h.kk (by omega) (by omega) (by omega), low h.pl (by omega) (by omega) (by omega), low h.wa (by omega) (by omega) (by omega), RowOf.empty _ _ _ _ _, ?_, ?_, ?_, ?_, by omega, Nat.le_refl _⟩
  · rw [List.length_append]; exact h3
  · rw [List.length_append, List.length_append, h.outN]; rfl
  · intro j q1 q2
    by_cases hj : j < vs.length
    · rw [List.getElem_append_left hj, List.getElem_append_left (by rw [← h.outN]; exact hj)]
      obtain ⟨g2, cap2, C2, e1, e2, e3, e4, e5⟩ := h.lines j hj (by rw [← h.outN]; exact hj)
      exact ⟨g2, cap2, C2, e1, e2, by omega, blk e4 (by omega) (by omega) (by decide), e5⟩
    · have hj' : j = vs.length := by rw [List.length_append] at q1; simp at q1; omega
      subst hj'
      have ho := h.outN
      rw [List.getElem_append_right (Nat.le_refl _), List.getElem_append_right (by omega)]
      simp only [Nat.sub_self, List.getElem_cons_zero, ho]
      have hlt := h6'.lt
      refine ⟨g, cap, cur, hg, by omega, by omega, blk h6' (by omega) (by omega) (by decide), fun j hj i hi => ?_⟩
      obtain ⟨b, c', hv, -, -, hq⟩ := hg' j hj
      rw [hg] at hv
      simp at hv
      have := hq i hi
      rw [← hv.1, h6'.cell] at this
      exact this
  · intro g2 hg2
    obtain ⟨-, ⟨-, h0⟩ | ⟨g3, cap3, cur3, e1, e2, e3, -⟩⟩ := h3
    · omega
    · rw [e1] at hg2
      cases hg2
      exact lt_of_block e3
/-- at the end: the lines, read -/
theorem lines_read (outW : w.ownsRow (B + 8) 106 1 ov vs.length vs) (ho : vs.length = out.length) (lines : ∀ j (h : j < vs.length) (h' : j < out.length), LineIn (B + 8) lim w vs[j] out[j]) : LinesAt w ov out := by
  obtain ⟨-, ⟨rfl, h0⟩ | ⟨g, cap, cur, rfl, h5, h6, h7, h8, h9, h10⟩⟩ := outW
  · have : out = [] := List.length_eq_zero_iff.1 (by omega)
    subst this
    exact ⟨none, 0, rfl, fun q => absurd rfl q⟩
  · refine ⟨_, cap, by rw [ho], fun _ => ⟨g, 0, rfl, fun j hj => ?_⟩⟩
    have hj' : j < vs.length := by omega
    refine ⟨vs[j], ?_, ?_⟩
    · rw [Blk.cell (show Blk w g cur 106 from h6), Nat.zero_add]
      have : (cur.toList.take (vs.length * 1))[j]? = some vs[j] := by rw [h10]; exact List.getElem?_eq_getElem hj'
      rw [List.getElem?_take_of_lt (by omega), Array.getElem?_toList] at this
      exact this
    · obtain ⟨g2, cap2, C2, e1, e2, e3, e4, e5⟩ := lines j hj' hj
      refine ⟨_, cap2, e1, fun _ => ⟨g2, 0, rfl, fun i hi m hm => ?_⟩⟩
      rw [e4.cell, Nat.zero_add]
      exact e5 i hi m hm
theorem SpMem.read (h : SpMem w B tv k was from_ rv ov vs lim line col row out) {b : Nat} (e : ExtB b w w') (hb : b < B + 8) : LinesAt w' ov out :=
  lines_read (own_extB h.outW e hb) h.outN (fun j q1 q2 => (h.lines j q1 q2).extB e hb)
end
theorem layW_len (row : List Wd) (out : List (List Wd)) : (layW row out).length ≤ out.length + 1 := by
  unfold layW
  split <;> simp
theorem keepW_len (a b : Nat) (cur : List UInt8) (row : List Wd) : (keepW a b cur row).length ≤ row.length + 1 := by
  unfold keepW
  split <;> simp
/-- the sizes of a walk through a text -/
theorem spTo_sizes (l : List UInt8) : (spTo l).line ≤ l.length + 1 ∧ (spTo l).col ≤ l.length + 1 ∧ (spTo l).cur.length < (spTo l).col ∧ (spTo l).row.length ≤ l.length ∧ (spTo l).out.length ≤ l.length := by
  induction l using list_snoc' with
  | h0 => exact ⟨by decide, by decide, by decide, by decide, by decide⟩
  | h1 l b ih =>
    obtain ⟨i1, i2, i3, i4, i5⟩ := ih
    rw [spTo_snoc, List.length_append, List.length_cons, List.length_nil]
    have hk := keepW_len (spTo l).line (spTo l).col (spTo l).cur (spTo l).row
    have hl := layW_len (spTo l).keep (spTo l).out
    unfold spStep
    split
    · refine ⟨by dsimp only; omega, by dsimp only; omega, ?_, by dsimp only; omega, by dsimp only; omega⟩
      simp only [List.length_append, List.length_cons, List.length_nil]
      omega
    · split
      · refine ⟨by dsimp only; omega, by dsimp only; omega, by simp, by simp, ?_⟩
        show (spTo l).lay.length ≤ _
        unfold SpSt.lay
        omega
      · refine ⟨by dsimp only; omega, by dsimp only; omega, by simp, ?_, by dsimp only; omega⟩
        show (spTo l).keep.length ≤ _
        unfold SpSt.keep
        omega
theorem bText_ok {l : List UInt8} (h : l ≠ []) (hl : l.length ≤ maxLen) (a b : Int) : WdOk ⟨bText l, a, b⟩ := by
  refine ⟨fun e => h ?_, by unfold bText; show l.toArray.size ≤ _; simpa using hl⟩
  have : (bText l).data.toList = (⟨#[]⟩ : ByteArray).data.toList := by rw [show bText l = _ from e]
  simpa [bText] using this
theorem keepW_ok {a b : Nat} {cur : List UInt8} {row : List Wd} (h : ∀ x ∈ row, WdOk x) (hl : cur.length ≤ maxLen) : ∀ x ∈ keepW a b cur row, WdOk x := by
  unfold keepW
  split
  · exact h
  · rename_i hc
    intro x hx
    rcases List.mem_append.1 hx with q | q
    · exact h x q
    · rw [List.mem_singleton.1 q]; exact bText_ok hc hl _ _
theorem spTo_ok (l : List UInt8) (hl : l.length ≤ 1048576) : ∀ x ∈ (spTo l).row, WdOk x := by
  induction l using list_snoc' with
  | h0 => intro x hx; cases hx
  | h1 l b ih =>
    rw [List.length_append, List.length_cons, List.length_nil] at hl
    have ih := ih (by omega)
    obtain ⟨i1, i2, i3, i4, i5⟩ := spTo_sizes l
    rw [spTo_snoc]
    unfold spStep
    split
    · exact ih
    · split
      · intro x hx; cases hx
      · have hm : (2000000 : Nat) ≤ maxLen := by decide
        exact keepW_ok ih (by omega)
end Go.Proofs.YtknlojlcahgnoaaGreat
