/- Plain: a text's words by lines: as the program steps through it, and by the document; both are the same. No program in sight. Plain: whole numbers below 2^53 as floats: what they are read as, their sums and differences, and the way back. Plain laws: a charge of a table that has few keys; all are drained later. Plain laws: tables that differ in the kernels of their slots alone: whoever goes over to whatever kernel, all is told the same. -/
import Derived.Laws.ComplexArith
import Derived.WalkKit
import Derived.Test.YtknlojlcahgnoaaGreatProg
import Derived.Test.YtknlojlcahgnoaaGreatEa0
import Derived.Test.YtknlojlcahgnoaaGreatEa3
import Derived.Test.YtknlojlcahgnoaaGreatEa31
import Derived.Test.YtknlojlcahgnoaaGreatEa29
import Derived.Test.YtknlojlcahgnoaaGreatEa33

namespace Go.Proofs.YtknlojlcahgnoaaGreat
set_option linter.unusedVariables false
set_option linter.unusedSimpArgs false

theorem list_snoc' {α : Type} {m : List α → Prop} (h0 : m []) (h1 : ∀ xs x, m xs → m (xs ++ [x])) (l : List α) : m l := by
  have h : ∀ n (l : List α), l.length = n → m l := by
    intro n
    induction n with
    | zero => intro l hl; rw [List.length_eq_zero_iff.1 hl]; exact h0
    | succ n ih =>
      intro l hl
      have hne : l ≠ [] := by intro e; rw [e] at hl; cases hl
      rw [← List.dropLast_concat_getLast hne]
      exact h1 _ _ (ih _ (by rw [List.length_dropLast]; omega))
  exact h _ l rfl
/-- a word, and where it stands -/
structure Wd where
  t : ByteArray
  line : Int
  col : Int
/-- kinds of bytes: visible, blank, the end of a line, another one -/
def bKind (b : UInt8) : Nat := if b = 10 then 2 else if b = 32 ∨ b = 9 then 1 else if 32 < b.toNat ∧ b.toNat ≤ 126 then 0 else 3
def bText (l : List UInt8) : ByteArray := ⟨l.toArray⟩
/-- a word ends, if there is one -/
def keepW (line col : Nat) (cur : List UInt8) (row : List Wd) : List Wd := if cur = [] then row else row ++ [⟨bText cur, line, ((col - cur.length : Nat) : Int)⟩]
/-- is it a line that says something -/
def saysL : List Wd → Bool
  | [] => false
  | w :: _ => !decide (w.t.data.toList.head? = some 35)
def layW (row : List Wd) (out : List (List Wd)) : List (List Wd) := if saysL row then out ++ [row] else out
structure SpSt where
  line : Nat
  col : Nat
  cur : List UInt8
  row : List Wd
  out : List (List Wd)
def sp0 : SpSt := ⟨1, 1, [], [], []⟩
def SpSt.keep (s : SpSt) : List Wd := keepW s.line s.col s.cur s.row
def SpSt.lay (s : SpSt) : List (List Wd) := layW s.keep s.out
def spStep (s : SpSt) (b : UInt8) : SpSt :=
  if bKind b = 0 then ⟨s.line, s.col + 1, s.cur ++ [b], s.row, s.out⟩ else if bKind b = 2 then ⟨s.line + 1, 1, [], [], s.lay⟩ else ⟨s.line, s.col + 1, [], s.keep, s.out⟩
def spTo (l : List UInt8) : SpSt := l.foldl spStep sp0
/-- no byte is another one -/
def Fair (l : List UInt8) : Prop := ∀ b ∈ l, bKind b ≠ 3
/-- what a text's words are: the lines, or where it goes wrong -/
def wordsOf (l : List UInt8) : Sum (Nat × Nat) (List (List Wd)) :=
  match l.findIdx? (fun b => decide (bKind b = 3)) with
  | some k => .inl ((spTo (l.take k)).line, (spTo (l.take k)).col)
  | none => .inr (spTo l).lay
/-- by the document: a line's words -/
structure LnSt where
  col : Nat
  cur : List UInt8
  row : List Wd
def lnStep (n : Nat) (s : LnSt) (b : UInt8) : LnSt := if b = 32 ∨ b = 9 then ⟨s.col + 1, [], keepW n s.col s.cur s.row⟩ else ⟨s.col + 1, s.cur ++ [b], s.row⟩
def lnTo (n : Nat) (l : List UInt8) : LnSt := l.foldl (lnStep n) ⟨1, [], []⟩
theorem lnTo_snoc (n : Nat) (l : List UInt8) (b : UInt8) : lnTo n (l ++ [b]) = lnStep n (lnTo n l) b := by unfold lnTo; rw [List.foldl_append]; rfl
theorem lnTo_col (n : Nat) (l : List UInt8) : (lnTo n l).col = l.length + 1 := by
  induction l using list_snoc' with
  | h0 => rfl
  | h1 l b ih => rw [lnTo_snoc, List.length_append]; unfold lnStep; split <;> simp [ih]
def lnKeep (n : Nat) (l : List UInt8) : List Wd := keepW n (lnTo n l).col (lnTo n l).cur (lnTo n l).row
/-- those that are told: none, if the first one begins with the sign -/
def refLine (l : List UInt8) (n : Nat) : List Wd := if saysL (lnKeep n l) then lnKeep n l else []
def addL (row : List Wd) (out : List (List Wd)) : List (List Wd) := if row = [] then out else out ++ [row]
structure RfSt where
  n : Nat
  ln : List UInt8
  out : List (List Wd)
def RfSt.lay (s : RfSt) : List (List Wd) := addL (refLine s.ln s.n) s.out
def rfStep (s : RfSt) (b : UInt8) : RfSt := if b = 10 then ⟨s.n + 1, [], s.lay⟩ else ⟨s.n, s.ln ++ [b], s.out⟩
theorem addL_line (l : List UInt8) (n : Nat) (out : List (List Wd)) : addL (refLine l n) out = layW (lnKeep n l) out := by
  unfold addL refLine layW
  cases h : saysL (lnKeep n l) with
  | false => simp
  | true =>
    have : lnKeep n l ≠ [] := by intro e; rw [e] at h; cases h
    simp [this]
/-- both walks are at the same place -/
structure SameSt (s : SpSt) (t : RfSt) : Prop where
  n : s.line = t.n
  col : s.col = t.ln.length + 1
  cur : s.cur = (lnTo t.n t.ln).cur
  row : s.row = (lnTo t.n t.ln).row
  out : s.out = t.out
theorem SameSt.keep {s : SpSt} {t : RfSt} (h : SameSt s t) : s.keep = lnKeep t.n t.ln := by
  unfold SpSt.keep lnKeep
  rw [h.n, h.col, h.cur, h.row, lnTo_col]
theorem SameSt.lay {s : SpSt} {t : RfSt} (h : SameSt s t) : s.lay = t.lay := by
  unfold SpSt.lay RfSt.lay
  rw [addL_line, h.keep, h.out]
theorem SameSt.step {s : SpSt} {t : RfSt} (h : SameSt s t) {b : UInt8} (hb : bKind b ≠ 3) : SameSt (spStep s b) (rfStep t b) := by
  unfold spStep rfStep
  unfold bKind at *
  by_cases h1 : b = 10
  · simp only [h1, if_true, show (2 : Nat) ≠ 0 by decide, if_false]
    exact ⟨by rw [h.n], rfl, rfl, rfl, h.lay⟩
  · simp only [h1, if_false]
    by_cases h2 : b = 32 ∨ b = 9
    · simp only [h2, if_true, show (1 : Nat) ≠ 0 by decide, show (1 : Nat) ≠ 2 by decide, if_false]
      refine ⟨h.n, by simp [h.col], ?_, ?_, h.out⟩ <;> dsimp only <;> rw [lnTo_snoc] <;> unfold lnStep <;> rw [if_pos h2]
      exact h.keep
    · simp only [h2, if_false] at hb ⊢
      by_cases h3 : 32 < b.toNat ∧ b.toNat ≤ 126
      · simp only [h3, and_self, if_true]
        refine ⟨h.n, by simp [h.col], ?_, ?_, h.out⟩ <;> dsimp only <;> rw [lnTo_snoc] <;> unfold lnStep <;> rw [if_neg h2]
        · rw [h.cur]
        · rw [h.row]
      · exact absurd (by rw [if_neg h1, if_neg h3]) hb
end Go.Proofs.YtknlojlcahgnoaaGreat

namespace Go.Proofs.YtknlojlcahgnoaaGreat
open Go
set_option linter.unusedVariables false
set_option linter.unusedSimpArgs false

/-- a whole number as a float -/
def fl (n : Nat) : Nat := FloatKind.nearest .f64 (n : Int)
theorem fl_one : fl 1 = 4607182418800017408 := by decide
end Go.Proofs.YtknlojlcahgnoaaGreat

namespace Go.Proofs.YtknlojlcahgnoaaGreat
set_option linter.unusedVariables false
set_option linter.unusedSimpArgs false

theorem put_mem {l : SMap} {s : Slot} {c : Nat} {x : Slot × Nat} (h : x ∈ l.put s c) : x ∈ l ∨ x.1 = s := by
  unfold SMap.put at h
  split at h
  · obtain ⟨y, hy, rfl⟩ := List.mem_map.1 h
    split
    · exact Or.inr rfl
    · exact Or.inl hy
  · rcases List.mem_append.1 h with h | h
    · exact Or.inl h
    · obtain rfl := List.mem_singleton.1 h; exact Or.inr rfl
end Go.Proofs.YtknlojlcahgnoaaGreat

namespace Go.Proofs.YtknlojlcahgnoaaGreat
set_option linter.unusedVariables false
set_option linter.unusedSimpArgs false

/-- what is seen of a slot -/
abbrev Sig := ByteArray × Int × Int × Int
def sg (clock : Int) (s : Slot) : Sig := (s.key, s.e, s.b, kFill s.sk s.sa s.sb clock (s.e * s.b))
def sgs (clock : Int) (l : SMap) : List Sig := l.map fun x => sg clock x.1
/-- a slot that came of a right rule -/
structure Good (clock : Int) (s : Slot) : Prop where
  rule : ruleErr s.p s.e s.b s.rk = 0
  sane : Sane s.sk s.sa s.sb clock (s.e * s.b)
theorem Good.cap {clock : Int} {s : Slot} (h : Good clock s) : s.cap = s.e * s.b ∧ 0 ≤ s.e * s.b ∧ s.e * s.b ≤ 4611686018427387904 := by
  obtain ⟨-, he, hb, hc, -⟩ := ruleErr_zero h.rule
  refine ⟨by unfold Slot.cap ruleCap; rw [if_pos h.rule], Int.mul_nonneg (by omega) (by omega), capOk_lt hc⟩
theorem Good.fill {clock : Int} {s : Slot} (h : Good clock s) : s.fill clock = (sg clock s).2.2.2 := by
  unfold Slot.fill sg; rw [h.cap.1]
def Goods (clock : Int) (l : SMap) : Prop := ∀ x ∈ l, Good clock x.1
theorem look_sg (clock : Int) (l : SMap) (k : ByteArray) : (l.look k).map (sg clock) = (sgs clock l).find? fun y => decide (y.1 = k) := by
  unfold SMap.look sgs
  rw [List.find?_map, Option.map_map]
  rfl
theorem del_sg (clock : Int) (l : SMap) (k : ByteArray) : sgs clock (l.del k) = (sgs clock l).filter fun y => decide (y.1 ≠ k) := by
  unfold SMap.del sgs
  rw [List.filter_map]
  rfl
theorem rep_sg (clock : Int) (l : SMap) (s : Slot) : sgs clock (l.rep s) = (sgs clock l).map fun y => if y.1 = s.key then sg clock s else y := by
  unfold SMap.rep sgs
  rw [List.map_map, List.map_map]
  refine List.map_congr_left fun x _ => ?_
  show sg clock (if x.1.key = s.key then (s, x.2) else x).1 = if x.1.key = s.key then sg clock s else sg clock x.1
  split <;> rfl
theorem put_sg (clock : Int) (l : SMap) (s : Slot) (c : Nat) : sgs clock (l.put s c) =
    if ((sgs clock l).find? fun y => decide (y.1 = s.key)).isSome then (sgs clock l).map fun y => if y.1 = s.key then sg clock s else y else sgs clock l ++ [sg clock s] := by
  rw [← look_sg]
  unfold SMap.put
  rw [Option.isSome_map]
  split
  · rw [rep_sg]
  · unfold sgs; rw [List.map_append]; rfl
theorem sgs_len (clock : Int) (l : SMap) : (sgs clock l).length = l.length := by unfold sgs; rw [List.length_map]

/-- two tables that look alike -/
structure Al (clock : Int) (l l' : SMap) : Prop where
  sig : sgs clock l = sgs clock l'
  a : Goods clock l
  b : Goods clock l'
theorem Al.nil (clock : Int) : Al clock [] [] := ⟨rfl, fun x h => (by cases h), fun x h => (by cases h)⟩
theorem Al.len {clock : Int} {l l' : SMap} (h : Al clock l l') : l.length = l'.length := by rw [← sgs_len clock l, h.sig, sgs_len]

/-- of a slot that is hit -/
theorem hit_sg {clock : Int} {l : SMap} (h : Goods clock l) (k : ByteArray) (e b : Int) : (slotHit l k e b clock).map (sg clock) = ((sgs clock l).find? fun y => decide (y.1 = k)).filter fun y => y.2.1 == e && y.2.2.1 == b && !(y.2.2.2 == 0) := by
  rw [← look_sg]
  unfold slotHit
  cases hl : l.look k with
  | none => rfl
  | some s =>
    obtain ⟨n, hn⟩ := look_mem hl
    have hg := h _ hn
    have e1 : (s.e == e && s.b == b && !(s.fill clock == 0)) = ((sg clock s).2.1 == e && (sg clock s).2.2.1 == b && !((sg clock s).2.2.2 == 0)) := by
      rw [hg.fill]; rfl
    show Option.map (sg clock) (if (s.e == e && s.b == b && !(s.fill clock == 0)) = true then some s else none) = if ((sg clock s).2.1 == e && (sg clock s).2.2.1 == b && !((sg clock s).2.2.2 == 0)) = true then some (sg clock s) else none
    by_cases q : (s.e == e && s.b == b && !(s.fill clock == 0)) = true
    · rw [if_pos q, if_pos (e1.symm.trans q)]; rfl
    · rw [if_neg q, if_neg (fun r => q (e1.trans r))]; rfl
theorem Al.hit {clock : Int} {l l' : SMap} (h : Al clock l l') (k : ByteArray) (e b : Int) : (slotHit l k e b clock).map (sg clock) = (slotHit l' k e b clock).map (sg clock) := by
  rw [hit_sg h.a, hit_sg h.b, h.sig]
theorem Al.some {clock : Int} {l l' : SMap} (h : Al clock l l') (k : ByteArray) (e b : Int) : (slotHit l k e b clock).isSome = (slotHit l' k e b clock).isSome := by
  have := congrArg Option.isSome (h.hit k e b)
  rwa [Option.isSome_map, Option.isSome_map] at this
theorem Goods.sub {clock : Int} {l m : SMap} (h : Goods clock l) (hs : ∀ x ∈ m, x ∈ l) : Goods clock m := fun x hx => h x (hs x hx)
theorem slotLeft_sub (l : SMap) (k : ByteArray) (e b clock : Int) : ∀ x ∈ slotLeft l k e b clock, x ∈ l := by
  unfold slotLeft
  split
  · exact fun x hx => hx
  · exact fun x hx => (List.mem_filter.1 hx).1
theorem Al.left {clock : Int} {l l' : SMap} (h : Al clock l l') (k : ByteArray) (e b : Int) : Al clock (slotLeft l k e b clock) (slotLeft l' k e b clock) := by
  refine ⟨?_, h.a.sub (slotLeft_sub l k e b clock), h.b.sub (slotLeft_sub l' k e b clock)⟩
  unfold slotLeft
  rw [h.some k e b]
  split
  · exact h.sig
  · rw [del_sg, del_sg, h.sig]
theorem Al.put {clock : Int} {l l' : SMap} (h : Al clock l l') {s s' : Slot} (hs : sg clock s = sg clock s') (g : Good clock s) (g' : Good clock s') (c c' : Nat) : Al clock (l.put s c) (l'.put s' c') := by
  have hk : s.key = s'.key := congrArg (·.1) hs
  refine ⟨by rw [put_sg, put_sg, h.sig, hs, hk], fun x hx => ?_, fun x hx => ?_⟩
  · rcases put_mem hx with q | q
    · exact h.a x q
    · rw [q]; exact g
  · rcases put_mem hx with q | q
    · exact h.b x q
    · rw [q]; exact g'

/-- a slot that goes over is as full as it was -/
theorem Sane.ofF {k clock cap F : Int} (hk : k = 1 ∨ k = 2 ∨ k = 3) (hF0 : 0 ≤ F) (hF : F ≤ cap) (hn0 : 0 ≤ clock) (hb : clock + cap < 18446744073709551616) : Sane k (kOfA k clock cap F) (kOfB k clock) clock cap ∧ kFill k (kOfA k clock cap F) (kOfB k clock) clock cap = F := by
  unfold Sane kFill kOfA kOfB satSub satAdd
  rcases hk with rfl | rfl | rfl
  · simp only [if_true]
    refine ⟨⟨?_, ?_, Or.inl ⟨trivial, ?_⟩⟩, ?_⟩ <;> repeat' split
    all_goals omega
  · simp only [show ¬ ((2 : Int) = 1) by decide, if_false, if_true]
    refine ⟨⟨?_, ?_, Or.inr ⟨Or.inl trivial, ?_, ?_⟩⟩, ?_⟩ <;> repeat' split
    all_goals omega
  · simp only [show ¬ ((3 : Int) = 1) by decide, show ¬ ((3 : Int) = 2) by decide, if_false, if_true]
    refine ⟨⟨?_, ?_, Or.inr ⟨Or.inr trivial, ?_, ?_⟩⟩, ?_⟩ <;> repeat' split
    all_goals omega
end Go.Proofs.YtknlojlcahgnoaaGreat
