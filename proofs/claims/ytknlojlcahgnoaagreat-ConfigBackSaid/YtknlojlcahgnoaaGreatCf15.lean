/- Plain: a text's words by lines: as the program steps through it, and by the document; both are the same. No program in sight. Walks: words.kind, words.place. -/
import Derived.Test.YtknlojlcahgnoaaGreatProg
import Derived.Test.YtknlojlcahgnoaaGreatCf0
import Derived.Test.YtknlojlcahgnoaaGreatCf2
import Derived.Test.YtknlojlcahgnoaaGreatCf12

namespace Go.Proofs.YtknlojlcahgnoaaGreat
set_option linter.unusedVariables false
set_option linter.unusedSimpArgs false

theorem list_snoc' {α : Type} {m : List α → Prop} (h0 : m []) (h1 : ∀ xs x, m xs → m (xs ++ [x])) (l : List α) : m l := by
  have h : ∀ n (l : List α), l.length = n → m l := by
    intro n
    induction n with
    | zero => intro l hl; rw [List.length_eq_zero_iff.1 hl]; exact h0
    | succ n ih =>
      intro l hl
      have hne : l ≠ [] := by intro e; rw [e] at hl; cases hl
      rw [← List.dropLast_concat_getLast hne]
      exact h1 _ _ (ih _ (by rw [List.length_dropLast]; omega))
  exact h _ l rfl
/-- a word, and where it stands -/
structure Wd where
  t : ByteArray
  line : Int
  col : Int
/-- kinds of bytes: visible, blank, the end of a line, another one -/
def bKind (b : UInt8) : Nat := if b = 10 then 2 else if b = 32 ∨ b = 9 then 1 else if 32 < b.toNat ∧ b.toNat ≤ 126 then 0 else 3
def bText (l : List UInt8) : ByteArray := ⟨l.toArray⟩
/-- a word ends, if there is one -/
def keepW (line col : Nat) (cur : List UInt8) (row : List Wd) : List Wd := if cur = [] then row else row ++ [⟨bText cur, line, ((col - cur.length : Nat) : Int)⟩]
/-- is it a line that says something -/
def saysL : List Wd → Bool
  | [] => false
  | w :: _ => !decide (w.t.data.toList.head? = some 35)
def layW (row : List Wd) (out : List (List Wd)) : List (List Wd) := if saysL row then out ++ [row] else out
structure SpSt where
  line : Nat
  col : Nat
  cur : List UInt8
  row : List Wd
  out : List (List Wd)
def sp0 : SpSt := ⟨1, 1, [], [], []⟩
def SpSt.keep (s : SpSt) : List Wd := keepW s.line s.col s.cur s.row
def SpSt.lay (s : SpSt) : List (List Wd) := layW s.keep s.out
def spStep (s : SpSt) (b : UInt8) : SpSt :=
  if bKind b = 0 then ⟨s.line, s.col + 1, s.cur ++ [b], s.row, s.out⟩ else if bKind b = 2 then ⟨s.line + 1, 1, [], [], s.lay⟩ else ⟨s.line, s.col + 1, [], s.keep, s.out⟩
def spTo (l : List UInt8) : SpSt := l.foldl spStep sp0
theorem spTo_snoc (l : List UInt8) (b : UInt8) : spTo (l ++ [b]) = spStep (spTo l) b := by unfold spTo; rw [List.foldl_append]; rfl
/-- no byte is another one -/
def Fair (l : List UInt8) : Prop := ∀ b ∈ l, bKind b ≠ 3
/-- what a text's words are: the lines, or where it goes wrong -/
def wordsOf (l : List UInt8) : Sum (Nat × Nat) (List (List Wd)) :=
  match l.findIdx? (fun b => decide (bKind b = 3)) with
  | some k => .inl ((spTo (l.take k)).line, (spTo (l.take k)).col)
  | none => .inr (spTo l).lay
theorem wordsOf_bad {l : List UInt8} {k : Nat} (hk : k < l.length) (h : Fair (l.take k)) (hb : bKind l[k] = 3) : wordsOf l = .inl ((spTo (l.take k)).line, (spTo (l.take k)).col) := by
  have e : l.findIdx? (fun b => decide (bKind b = 3)) = some k := by
    rw [List.findIdx?_eq_some_iff_getElem]
    refine ⟨hk, by simpa using hb, fun j hj => ?_⟩
    have := h l[j] (List.mem_iff_getElem.2 ⟨j, by rw [List.length_take]; omega, by rw [List.getElem_take]⟩)
    simpa using this
  unfold wordsOf
  rw [e]
theorem wordsOf_good {l : List UInt8} (h : Fair l) : wordsOf l = .inr (spTo l).lay := by
  have e : l.findIdx? (fun b => decide (bKind b = 3)) = none := by
    rw [List.findIdx?_eq_none_iff]
    intro b hb
    simpa using h b hb
  unfold wordsOf
  rw [e]

/-- by the document: a line's words -/
structure LnSt where
  col : Nat
  cur : List UInt8
  row : List Wd
def lnStep (n : Nat) (s : LnSt) (b : UInt8) : LnSt := if b = 32 ∨ b = 9 then ⟨s.col + 1, [], keepW n s.col s.cur s.row⟩ else ⟨s.col + 1, s.cur ++ [b], s.row⟩
def lnTo (n : Nat) (l : List UInt8) : LnSt := l.foldl (lnStep n) ⟨1, [], []⟩
theorem lnTo_snoc (n : Nat) (l : List UInt8) (b : UInt8) : lnTo n (l ++ [b]) = lnStep n (lnTo n l) b := by unfold lnTo; rw [List.foldl_append]; rfl
theorem lnTo_col (n : Nat) (l : List UInt8) : (lnTo n l).col = l.length + 1 := by
  induction l using list_snoc' with
  | h0 => rfl
  | h1 l b ih => rw [lnTo_snoc, List.length_append]; unfold lnStep; split <;> simp [ih]
def lnKeep (n : Nat) (l : List UInt8) : List Wd := keepW n (lnTo n l).col (lnTo n l).cur (lnTo n l).row
/-- those that are told: none, if the first one begins with the sign -/
def refLine (l : List UInt8) (n : Nat) : List Wd := if saysL (lnKeep n l) then lnKeep n l else []
def addL (row : List Wd) (out : List (List Wd)) : List (List Wd) := if row = [] then out else out ++ [row]
structure RfSt where
  n : Nat
  ln : List UInt8
  out : List (List Wd)
def RfSt.lay (s : RfSt) : List (List Wd) := addL (refLine s.ln s.n) s.out
def rfStep (s : RfSt) (b : UInt8) : RfSt := if b = 10 then ⟨s.n + 1, [], s.lay⟩ else ⟨s.n, s.ln ++ [b], s.out⟩
def rfTo (l : List UInt8) : RfSt := l.foldl rfStep ⟨1, [], []⟩
theorem rfTo_snoc (l : List UInt8) (b : UInt8) : rfTo (l ++ [b]) = rfStep (rfTo l) b := by unfold rfTo; rw [List.foldl_append]; rfl
theorem addL_line (l : List UInt8) (n : Nat) (out : List (List Wd)) : addL (refLine l n) out = layW (lnKeep n l) out := by
  unfold addL refLine layW
  cases h : saysL (lnKeep n l) with
  | false => simp
  | true =>
    have : lnKeep n l ≠ [] := by intro e; rw [e] at h; cases h
    simp [this]
/-- both walks are at the same place -/
structure SameSt (s : SpSt) (t : RfSt) : Prop where
  n : s.line = t.n
  col : s.col = t.ln.length + 1
  cur : s.cur = (lnTo t.n t.ln).cur
  row : s.row = (lnTo t.n t.ln).row
  out : s.out = t.out
theorem SameSt.keep {s : SpSt} {t : RfSt} (h : SameSt s t) : s.keep = lnKeep t.n t.ln := by
  unfold SpSt.keep lnKeep
  rw [h.n, h.col, h.cur, h.row, lnTo_col]
theorem SameSt.lay {s : SpSt} {t : RfSt} (h : SameSt s t) : s.lay = t.lay := by
  unfold SpSt.lay RfSt.lay
  rw [addL_line, h.keep, h.out]
theorem SameSt.step {s : SpSt} {t : RfSt} (h : SameSt s t) {b : UInt8} (hb : bKind b ≠ 3) : SameSt (spStep s b) (rfStep t b) := by
  unfold spStep rfStep
  unfold bKind at *
  by_cases h1 : b = 10
  · simp only [h1, if_true, show (2 : Nat) ≠ 0 by decide, if_false]
    exact ⟨by rw [h.n], rfl, rfl, rfl, h.lay⟩
  · simp only [h1, if_false]
    by_cases h2 : b = 32 ∨ b = 9
    · simp only [h2, if_true, show (1 : Nat) ≠ 0 by decide, show (1 : Nat) ≠ 2 by decide, if_false]
      refine ⟨h.n, by simp [h.col], ?_, ?_, h.out⟩ <;> dsimp only <;> rw [lnTo_snoc] <;> unfold lnStep <;> rw [if_pos h2]
      exact h.keep
    · simp only [h2, if_false] at hb ⊢
      by_cases h3 : 32 < b.toNat ∧ b.toNat ≤ 126
      · simp only [h3, and_self, if_true]
        refine ⟨h.n, by simp [h.col], ?_, ?_, h.out⟩ <;> dsimp only <;> rw [lnTo_snoc] <;> unfold lnStep <;> rw [if_neg h2]
        · rw [h.cur]
        · rw [h.row]
      · exact absurd (by rw [if_neg h1, if_neg h3]) hb
theorem same_to (l : List UInt8) (h : Fair l) : SameSt (spTo l) (rfTo l) := by
  induction l using list_snoc' with
  | h0 => exact ⟨rfl, rfl, rfl, rfl, rfl⟩
  | h1 l b ih =>
    rw [spTo_snoc, rfTo_snoc]
    exact (ih fun x hx => h x (List.mem_append_left _ hx)).step (h b (by simp))
end Go.Proofs.YtknlojlcahgnoaaGreat

namespace Go.Proofs.YtknlojlcahgnoaaGreat
open Go.RowKit
set_option linter.unusedVariables false
set_option linter.unusedSimpArgs false

theorem bKind_nat (b : UInt8) : bKind b = if b.toNat = 10 then 2 else if b.toNat = 32 ∨ b.toNat = 9 then 1 else if 32 < b.toNat ∧ b.toNat ≤ 126 then 0 else 3 := by
  have h10 : b = 10 ↔ b.toNat = 10 := ⟨fun h => by rw [h]; rfl, fun h => UInt8.toNat_inj.1 h⟩
  have h32 : b = 32 ↔ b.toNat = 32 := ⟨fun h => by rw [h]; rfl, fun h => UInt8.toNat_inj.1 h⟩
  have h9 : b = 9 ↔ b.toNat = 9 := ⟨fun h => by rw [h]; rfl, fun h => UInt8.toNat_inj.1 h⟩
  unfold bKind
  simp only [h10, h32, h9]
set_option maxHeartbeats 1000000 in
set_option maxRecDepth 100000 in
theorem words_kind (b : UInt8) (w : World) :
    Calls Tryz.prog 97 #[.int .u8 b.toNat] w fun x w' => x = .returned (.int .i64 (bKind b)) ∧ w' = w := by
  have hb := b.toNat_lt
  rw [bKind_nat]
  generalize b.toNat = n at *
  obtain ⟨K, hK⟩ : ∃ K, (if n = 10 then 2 else if n = 32 ∨ n = 9 then 1 else if 32 < n ∧ n ≤ 126 then 0 else 3 : Nat) = K := ⟨_, rfl⟩
  rw [hK]
  have HK := Lib.hid hK
  clear hK
  go_enter Tryz.func97, Tryz.ntmps97
  by_cases h1 : n = 10
  · have e : K = 2 := by rw [← HK.out, if_pos h1]
    subst h1; subst e
    go_wp2
    go_ret
    exact ⟨rfl, rfl⟩
  by_cases h2 : n = 32
  · have e : K = 1 := by rw [← HK.out, if_neg h1, if_pos (Or.inl h2)]
    subst h2; subst e
    go_wp2
    go_ret
    exact ⟨rfl, rfl⟩
  by_cases h3 : n = 9
  · have e : K = 1 := by rw [← HK.out, if_neg h1, if_pos (Or.inr h3)]
    subst h3; subst e
    go_wp2
    go_ret
    exact ⟨rfl, rfl⟩
  by_cases h4 : 32 < n
  · by_cases h5 : n ≤ 126
    · have e : K = 0 := by rw [← HK.out, if_neg h1, if_neg (by omega), if_pos ⟨h4, h5⟩]
      subst e
      have q1 : ¬ (n : Int) = 10 := by omega
      have q2 : ¬ (n : Int) = 32 := by omega
      have q3 : ¬ (n : Int) = 9 := by omega
      have q4 : 32 < (n : Int) := by omega
      have q5 : (n : Int) ≤ 126 := by omega
      go_wp2
      go_ret
      exact ⟨rfl, rfl⟩
    · have e : K = 3 := by rw [← HK.out, if_neg h1, if_neg (by omega), if_neg (by omega)]
      subst e
      have q1 : ¬ (n : Int) = 10 := by omega
      have q2 : ¬ (n : Int) = 32 := by omega
      have q3 : ¬ (n : Int) = 9 := by omega
      have q4 : 32 < (n : Int) := by omega
      have q5 : ¬ (n : Int) ≤ 126 := by omega
      go_wp2
      go_ret
      exact ⟨rfl, rfl⟩
  · have e : K = 3 := by rw [← HK.out, if_neg h1, if_neg (by omega), if_neg (by omega)]
    subst e
    have q1 : ¬ (n : Int) = 10 := by omega
    have q2 : ¬ (n : Int) = 32 := by omega
    have q3 : ¬ (n : Int) = 9 := by omega
    have q4 : ¬ 32 < (n : Int) := by omega
    go_wp2
    go_ret
    exact ⟨rfl, rfl⟩

theorem conv_fl (n : Nat) (hn : n < 9007199254740992) (w : World) : (convert 178 3 (.float .f64 (fl n))).run Tryz.prog w = .ok (.int .i64 (n : Int)) w :=
  run_convert_float_int (P := Tryz.prog) w 178 3 .f64 .i64 (fl n) (n : Int) (by kernel_rfl) Tryz.underlying3 (fl_int hn)
set_option maxHeartbeats 1000000 in
set_option maxRecDepth 100000 in
theorem words_place (a b : Nat) (w : World) (ha : a < 9007199254740992) (hb : b < 9007199254740992) :
    Calls Tryz.prog 95 #[.complex .f64 (fl a) (fl b)] w fun x w' => x = .returned (.agg #[.int .i64 (a : Int), .int .i64 (b : Int)]) ∧ Ext w w' := by
  have h1 := conv_fl a ha
  have h2 := conv_fl b hb
  have HX : Ext w w := Ext.refl w
  generalize fl a = fa at *
  generalize fl b = fb at *
  go_enter Tryz.func95, Tryz.ntmps95
  go_wp2
  have hS := Blk.new w #[.int .i64 (a : Int), .int .i64 (b : Int)] 44
  refine ret_cell Tryz.results95 rfl hS Tryz.underlying44 rfl (by kernel_rfl) ⟨rfl, ?_⟩
  exact HX.alloc _
end Go.Proofs.YtknlojlcahgnoaaGreat
