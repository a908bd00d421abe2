/- Plain: whole numbers below 2^53 as floats: what they are read as, their sums and differences, and the way back. Rows of elements of any make, in memory of the call's own. Slices whose elements are known, wherever they lie. Plain: stable sorting: two runs exchanged; a part rotated; one element moved. No program in sight. Plain: where the searches of a symmetrical merge end. No program in sight. A range over a map of slots, whose round may delete the slot that came. How a slice of deeds comes out of an argument's reading. -/
import Derived.Laws.ComplexArith
import Derived.WalkKit
import Derived.OwnWalk
import Derived.Laws.AppendOwn
import Derived.Maps.RangeWalk
import Derived.Deep.Slices
import Derived.Deep.Fields
import Derived.ChangeSame
import Derived.Test.YtknlojlcahgnoaaGreatCf2
import Derived.Test.YtknlojlcahgnoaaGreatCf7
import Derived.Test.YtknlojlcahgnoaaGreatCf11

namespace Go.Proofs.YtknlojlcahgnoaaGreat
open Go
set_option linter.unusedVariables false
set_option linter.unusedSimpArgs false

/-- a whole number as a float -/
def fl (n : Nat) : Nat := FloatKind.nearest .f64 (n : Int)
theorem pow_log {n : Nat} (h : n ≠ 0) : 2 ^ n.log2 ≤ n ∧ n < 2 ^ (n.log2 + 1) := ⟨Nat.log2_self_le h, Nat.lt_log2_self⟩
theorem log_lt {n : Nat} (h : n ≠ 0) (hn : n < 9007199254740992) : n.log2 ≤ 52 := by
  have := Nat.log2_self_le h
  apply Nat.le_of_not_lt
  intro q
  have := Nat.pow_le_pow_right (n := 2) (by omega) (show 53 ≤ n.log2 from q)
  omega
theorem log_mul {n : Nat} (h : n ≠ 0) (b : Nat) : (n * 2 ^ b).log2 = n.log2 + b := by
  have hne : n * 2 ^ b ≠ 0 := Nat.mul_ne_zero h (by have := Nat.two_pow_pos b; omega)
  refine (Nat.log2_eq_iff hne).2 ⟨?_, ?_⟩
  · rw [Nat.pow_add]; exact Nat.mul_le_mul_right _ (Nat.log2_self_le h)
  · rw [show n.log2 + b + 1 = n.log2 + 1 + b by omega, Nat.pow_add]
    exact Nat.mul_lt_mul_of_pos_right Nat.lt_log2_self (Nat.two_pow_pos b)
/-- the whole number's digits at 53 places -/
theorem long_num {n : Nat} (h : n ≠ 0) (hn : n < 9007199254740992) : 4503599627370496 ≤ n * 2 ^ (52 - n.log2) ∧ n * 2 ^ (52 - n.log2) < 9007199254740992 := by
  obtain ⟨h1, h2⟩ := pow_log h
  have hl := log_lt h hn
  constructor
  · have := Nat.mul_le_mul_right (2 ^ (52 - n.log2)) h1
    rw [← Nat.pow_add, show n.log2 + (52 - n.log2) = 52 by omega] at this
    exact this
  · have := Nat.mul_lt_mul_of_pos_right h2 (Nat.two_pow_pos (52 - n.log2))
    rw [← Nat.pow_add, show n.log2 + 1 + (52 - n.log2) = 53 by omega] at this
    exact this
theorem cut_exact (way : Ieee.Toward) (n drop : Nat) : way.cut false (n * 2 ^ drop) drop = n := by
  unfold Ieee.Toward.cut
  by_cases h0 : n = 0
  · subst h0
    dsimp only
    rw [Nat.zero_mul, Nat.zero_div, Nat.zero_mod]
    have hp : 0 < 1 <<< min drop ((0 : Nat).log2 + 2) := by rw [Nat.one_shiftLeft]; exact Nat.two_pow_pos _
    generalize 1 <<< min drop ((0 : Nat).log2 + 2) = g at hp
    cases way <;> simp
  · have hg : min drop ((n * 2 ^ drop).log2 + 2) = drop := by rw [log_mul h0]; omega
    dsimp only
    rw [hg, Nat.one_shiftLeft, Nat.mul_div_cancel _ (Nat.two_pow_pos _), Nat.mul_mod_left]
    have hp : 0 < 2 ^ drop := Nat.two_pow_pos _
    generalize 2 ^ drop = g at hp
    have hp' : (g == 0) = false := by simp; omega
    cases way <;> simp [hp']
/-- the nearest float of a whole number that is spelled with some more places -/
theorem nearest_exact {n : Nat} (h : n ≠ 0) (hn : n < 9007199254740992) (b : Nat) : Ieee.double.nearest false (n * 2 ^ b) (-(b : Int)) = (n.log2 + 1022) * 4503599627370496 + n * 2 ^ (52 - n.log2) := by
  have hl := log_lt h hn
  obtain ⟨h1, h2⟩ := long_num h hn
  have hne : n * 2 ^ b ≠ 0 := Nat.mul_ne_zero h (by have := Nat.two_pow_pos b; omega)
  unfold Ieee.Format.nearest
  rw [if_neg hne]
  have e1 : Ieee.double.leastPlace = -1074 := by decide
  have e2 : Ieee.double.fractionBits = 52 := rfl
  have e3 : Ieee.double.binade = 4503599627370496 := by decide
  have e4 : Ieee.double.infRung = 9218868437227405312 := by decide
  rw [e1, e2, e3, e4, log_mul h]
  have hlast : max (-(b : Int) + ((n.log2 + b : Nat) : Int) - ((52 : Nat) : Int)) (-1074) = (n.log2 : Int) - 52 := by omega
  simp only [hlast]
  have hk : Ieee.Toward.even.cut false ((n * 2 ^ b) <<< (-(b : Int) - ((n.log2 : Int) - 52)).toNat) ((n.log2 : Int) - 52 - -(b : Int)).toNat = n * 2 ^ (52 - n.log2) := by
    rcases Nat.le_total b (52 - n.log2) with q | q
    · rw [show (-(b : Int) - ((n.log2 : Int) - 52)).toNat = 52 - n.log2 - b by omega, show ((n.log2 : Int) - 52 - -(b : Int)).toNat = 0 by omega, Nat.shiftLeft_eq, Nat.mul_assoc, ← Nat.pow_add, show b + (52 - n.log2 - b) = 52 - n.log2 by omega]
      have := cut_exact .even (n * 2 ^ (52 - n.log2)) 0
      rwa [Nat.pow_zero, Nat.mul_one] at this
    · rw [show (-(b : Int) - ((n.log2 : Int) - 52)).toNat = 0 by omega, show ((n.log2 : Int) - 52 - -(b : Int)).toNat = b - (52 - n.log2) by omega, Nat.shiftLeft_zero]
      have := cut_exact .even (n * 2 ^ (52 - n.log2)) (b - (52 - n.log2))
      rwa [Nat.mul_assoc, ← Nat.pow_add, show 52 - n.log2 + (b - (52 - n.log2)) = b by omega] at this
  rw [hk, show ((n.log2 : Int) - 52 - -1074).toNat = n.log2 + 1022 by omega]
  unfold Ieee.Format.word
  rw [if_neg Bool.false_ne_true, Nat.min_eq_left]
  generalize n * 2 ^ (52 - n.log2) = N at h1 h2
  generalize n.log2 = L at hl
  omega
theorem fl_pos {n : Nat} (h : n ≠ 0) (hn : n < 9007199254740992) : fl n = (n.log2 + 1022) * 4503599627370496 + n * 2 ^ (52 - n.log2) := by
  have := nearest_exact h hn 0
  rw [Nat.pow_zero, Nat.mul_one] at this
  rw [← this]
  unfold fl FloatKind.nearest FloatKind.encode
  show Ieee.Format.write Ieee.double (.number (decide ((n : Int) < 0)) (n : Int).natAbs 0) = _
  rw [show decide ((n : Int) < 0) = false from decide_eq_false (by omega), Int.natAbs_natCast]
  rfl
theorem fl_zero : fl 0 = 0 := by decide
theorem fl_one : fl 1 = 4607182418800017408 := by decide
theorem read_zero : Ieee.double.read (fl 0) = .number false 0 (-1074) := by decide
theorem read_fl {n : Nat} (h : n ≠ 0) (hn : n < 9007199254740992) : Ieee.double.read (fl n) = .number false (n * 2 ^ (52 - n.log2)) ((n.log2 : Int) - 52) := by
  have hl := log_lt h hn
  obtain ⟨h1, h2⟩ := long_num h hn
  rw [fl_pos h hn]
  generalize n * 2 ^ (52 - n.log2) = N at h1 h2 ⊢
  generalize n.log2 = L at hl ⊢
  unfold Ieee.Format.read
  have e1 : Ieee.double.leastPlace = -1074 := by decide
  have e3 : Ieee.double.binade = 4503599627370496 := by decide
  have e4 : Ieee.double.infRung = 9218868437227405312 := by decide
  have e5 : Ieee.double.signWeight = 9223372036854775808 := by decide
  simp only [e1, e3, e4, e5]
  have hb : (L + 1022) * 4503599627370496 + N < 9218868437227405312 := by omega
  have q1 : ((L + 1022) * 4503599627370496 + N) / 9223372036854775808 = 0 := Nat.div_eq_of_lt (by omega)
  have q2 : ((L + 1022) * 4503599627370496 + N) % 9223372036854775808 = (L + 1022) * 4503599627370496 + N := Nat.mod_eq_of_lt (by omega)
  have q3 : ((L + 1022) * 4503599627370496 + N) / 4503599627370496 = L + 1023 := by omega
  have q4 : ((L + 1022) * 4503599627370496 + N) % 4503599627370496 = N - 4503599627370496 := by omega
  rw [q1, q2, if_neg (by omega), if_pos hb, q3, q4]
  have r1 : 4503599627370496 + (N - 4503599627370496) = N := by omega
  have r2 : (-1074 : Int) + ((L + 1023 - 1 : Nat) : Int) = (L : Int) - 52 := by omega
  rw [r1, r2]
  rfl
theorem zero_shift (b : Nat) : 0 = 0 * 2 ^ b := (Nat.zero_mul _).symm
/-- as a datum: at whatever place below all its digits -/
theorem read_at (n : Nat) (hn : n < 9007199254740992) : ∃ (m b : Nat), b ≤ 1074 ∧ Ieee.double.read (fl n) = .number false m (-(b : Int)) ∧ m = n * 2 ^ b := by
  by_cases h : n = 0
  · subst h
    obtain ⟨q, hq⟩ : ∃ q : Nat, q = 1074 := ⟨_, rfl⟩
    refine ⟨0, q, by omega, ?_, zero_shift q⟩
    rw [read_zero]
    congr 1
    omega
  · have hl := log_lt h hn
    exact ⟨_, 52 - n.log2, by omega, by rw [read_fl h hn]; congr 1; omega, rfl⟩
theorem shl_pow (n a b : Nat) : (n * 2 ^ a) <<< b = n * 2 ^ (a + b) := by rw [Nat.shiftLeft_eq, Nat.mul_assoc, ← Nat.pow_add]
theorem write_exact {n : Nat} (hn : n < 9007199254740992) (b : Nat) : Ieee.double.write (.number false (n * 2 ^ b) (-(b : Int))) = fl n := by
  show Ieee.double.nearest false _ _ = _
  by_cases h : n = 0
  · subst h
    rw [fl_zero, Nat.zero_mul]
    unfold Ieee.Format.nearest
    rw [if_pos rfl]
    rfl
  · rw [nearest_exact h hn b, fl_pos h hn]
/-- the sum -/
theorem fl_add {m n : Nat} (hs : m + n < 9007199254740992) : floatBits .add .f64 (fl m) (fl n) = some (fl (m + n)) := by
  show Ieee.double.add (fl m) (fl n) = _
  unfold Ieee.Format.add
  obtain ⟨x, a, ha, ex, hx⟩ := read_at m (by omega)
  obtain ⟨y, b, hb, ey, hy⟩ := read_at n (by omega)
  rw [ex, ey]
  simp only [Ieee.Datum.sum, Ieee.signed, Bool.false_eq_true, if_false, Option.map_some, Bool.and_self]
  have hmin : min (-(a : Int)) (-(b : Int)) = -((max a b : Nat) : Int) := by omega
  rw [hmin, show (-(a : Int) - -((max a b : Nat) : Int)).toNat = max a b - a by omega, show (-(b : Int) - -((max a b : Nat) : Int)).toNat = max a b - b by omega, hx, hy, shl_pow, shl_pow,
    show a + (max a b - a) = max a b by omega, show b + (max a b - b) = max a b by omega]
  have ht : ((m * 2 ^ max a b : Nat) : Int) + ((n * 2 ^ max a b : Nat) : Int) = (((m + n) * 2 ^ max a b : Nat) : Int) := by rw [← Int.natCast_add, Nat.add_mul]
  rw [ht, Int.natAbs_natCast]
  have hneg : (if (((m + n) * 2 ^ max a b : Nat) : Int) = 0 then false else decide ((((m + n) * 2 ^ max a b : Nat) : Int) < 0)) = false := by
    split
    · rfl
    · exact decide_eq_false (by omega)
  rw [hneg, write_exact hs]
/-- the difference -/
theorem fl_sub {m n : Nat} (hm : m < 9007199254740992) (hs : n ≤ m) : floatBits .sub .f64 (fl m) (fl n) = some (fl (m - n)) := by
  show Ieee.double.sub (fl m) (fl n) = _
  unfold Ieee.Format.sub
  obtain ⟨x, a, ha, ex, hx⟩ := read_at m (by omega)
  obtain ⟨y, b, hb, ey, hy⟩ := read_at n (by omega)
  rw [ex, ey]
  simp only [Ieee.Datum.opposite, Ieee.Datum.sum, Ieee.signed, Bool.false_eq_true, if_false, Option.map_some, Bool.not_false, if_true, Bool.false_and]
  have hmin : min (-(a : Int)) (-(b : Int)) = -((max a b : Nat) : Int) := by omega
  rw [hmin, show (-(a : Int) - -((max a b : Nat) : Int)).toNat = max a b - a by omega, show (-(b : Int) - -((max a b : Nat) : Int)).toNat = max a b - b by omega, hx, hy, shl_pow, shl_pow,
    show a + (max a b - a) = max a b by omega, show b + (max a b - b) = max a b by omega]
  have hle : n * 2 ^ max a b ≤ m * 2 ^ max a b := Nat.mul_le_mul_right _ hs
  have ht : ((m * 2 ^ max a b : Nat) : Int) + -((n * 2 ^ max a b : Nat) : Int) = (((m - n) * 2 ^ max a b : Nat) : Int) := by rw [Nat.sub_mul]; omega
  rw [ht, Int.natAbs_natCast]
  have hneg : (if (((m - n) * 2 ^ max a b : Nat) : Int) = 0 then false else decide ((((m - n) * 2 ^ max a b : Nat) : Int) < 0)) = false := by
    split
    · rfl
    · exact decide_eq_false (by omega)
  rw [hneg, write_exact (by omega)]
/-- the way back -/
theorem fl_int {n : Nat} (hn : n < 9007199254740992) : floatToIntVal .f64 (fl n) .i64 = some (n : Int) := by
  unfold floatToIntVal
  have e : (FloatKind.decode .f64 (fl n)).toInt .zero = some (n : Int) := by
    show (Ieee.double.read (fl n)).toInt .zero = _
    obtain ⟨x, a, ha, ex, hx⟩ := read_at n hn
    rw [ex, hx]
    unfold Ieee.Datum.toInt Ieee.Datum.integral
    dsimp only
    rw [show (-(a : Int)).toNat = 0 by omega, show (- -(a : Int)).toNat = a by omega, Nat.shiftLeft_zero, cut_exact]
    simp [Ieee.signed]
  rw [e]
  have h1 : IntKind.i64.min ≤ (n : Int) ∧ (n : Int) ≤ IntKind.i64.max := by
    have a1 : IntKind.i64.min = -9223372036854775808 := by decide
    have a2 : IntKind.i64.max = 9223372036854775807 := by decide
    rw [a1, a2]; omega
  simp only [h1, and_self, if_true]
end Go.Proofs.YtknlojlcahgnoaaGreat

namespace Go.Proofs.YtknlojlcahgnoaaGreat
open Go.RowKit
set_option linter.unusedVariables false
set_option linter.unusedSimpArgs false

/-- the cells of a list of elements -/
def flatE {α : Type} (enc : α → Array Value) (l : List α) : List Value := l.flatMap fun x => (enc x).toList
theorem flatE_snoc {α : Type} (enc : α → Array Value) (l : List α) (x : α) : flatE enc (l ++ [x]) = flatE enc l ++ (enc x).toList := by unfold flatE; rw [List.flatMap_append]; simp
theorem flatE_len {α : Type} {enc : α → Array Value} {k : Nat} (hk : ∀ x, (enc x).size = k) (l : List α) : (flatE enc l).length = l.length * k := by
  induction l with
  | nil => simp [flatE]
  | cons s l ih =>
    show ((enc s).toList ++ flatE enc l).length = _
    rw [List.length_append, ih, List.length_cons, Array.length_toList, hk, Nat.add_mul]
    omega
theorem flatE_get {α : Type} {enc : α → Array Value} {k : Nat} (hk : ∀ x, (enc x).size = k) : ∀ (l : List α) (j i : Nat) (h : j < l.length), i < k → (flatE enc l)[j * k + i]? = (enc l[j])[i]?
  | [], j, i, h, _ => by simp at h
  | x :: l, 0, i, h, hi => by
    show ((enc x).toList ++ flatE enc l)[0 * k + i]? = _
    rw [List.getElem?_append_left (by rw [Array.length_toList, hk]; omega)]
    simp
  | x :: l, j + 1, i, h, hi => by
    show ((enc x).toList ++ flatE enc l)[(j + 1) * k + i]? = _
    have e : (j + 1) * k + i = j * k + i + k := by rw [Nat.add_mul]; omega
    rw [List.getElem?_append_right (by rw [Array.length_toList, hk, e]; omega), Array.length_toList, hk, e, Nat.add_sub_cancel]
    have := flatE_get hk l j i (by simpa using h) hi
    simpa using this

theorem own_ext {w w' : World} {base k n : Nat} {E : TypeId} {v : Value} {xs : List Value} (h : w.ownsRow base E k v n xs) (e : Ext w w') : w'.ownsRow base E k v n xs := by
  obtain ⟨h0, h | ⟨g, cap, cur, h1, h2, h3, h4, h5, h6, h7⟩⟩ := h
  · exact ⟨h0, Or.inl h⟩
  · exact ⟨h0, Or.inr ⟨g, cap, cur, h1, h2, (e.block (lt_of_block h3)).trans h3, h4, h5, h6, h7⟩⟩
theorem own_extB {w w' : World} {base k n b : Nat} {E : TypeId} {v : Value} {xs : List Value} (h : w.ownsRow base E k v n xs) (e : ExtB b w w') (hb : b < base) : w'.ownsRow base E k v n xs := by
  obtain ⟨h0, h | ⟨g, cap, cur, h1, h2, h3, h4, h5, h6, h7⟩⟩ := h
  · exact ⟨h0, Or.inl h⟩
  · exact ⟨h0, Or.inr ⟨g, cap, cur, h1, h2, (e.block _ (lt_of_block h3) (by omega)).trans h3, h4, h5, h6, h7⟩⟩

/-- a slice of its own that reads as a list -/
structure RowOf {α : Type} (enc : α → Array Value) (k : Nat) (E : TypeId) (base : Nat) (w : World) (v : Value) (l : List α) : Prop where
  own : w.ownsRow base E k v l.length (flatE enc l)
  nil : v = .slice none 0 0 ↔ l = []
section
variable {α : Type} {enc : α → Array Value} {k : Nat} {E : TypeId} {base : Nat} {w w' : World} {v : Value} {l : List α}
theorem RowOf.empty (enc : α → Array Value) (k : Nat) (E : TypeId) (base : Nat) (w : World) : RowOf enc k E base w (.slice none 0 0) [] := ⟨World.ownsRow_nil _ _ _ _, by simp⟩
theorem RowOf.ext (h : RowOf enc k E base w v l) (e : Ext w w') : RowOf enc k E base w' v l := ⟨own_ext h.own e, h.nil⟩
theorem RowOf.extB {b : Nat} (h : RowOf enc k E base w v l) (e : ExtB b w w') (hb : b < base) : RowOf enc k E base w' v l := ⟨own_extB h.own e hb, h.nil⟩
theorem RowOf.low {b : Nat} (h : RowOf enc k E base w v l) (hb : b ≤ base) : RowOf enc k E b w v l := by
  obtain ⟨⟨h0, h | ⟨g, cap, cur, h1, h2, h3⟩⟩, hn⟩ := h
  · exact ⟨⟨h0, Or.inl h⟩, hn⟩
  · exact ⟨⟨h0, Or.inr ⟨g, cap, cur, h1, Nat.le_trans hb h2, h3⟩⟩, hn⟩
theorem RowOf.size (h : RowOf enc k E base w v l) : ∃ a c, v = .slice a l.length c := by
  obtain ⟨⟨-, ⟨rfl, h0⟩ | ⟨g, cap, cur, h1, -⟩⟩, -⟩ := h
  · exact ⟨none, 0, by rw [h0]⟩
  · exact ⟨_, cap, h1⟩
theorem RowOf.len (h : RowOf enc k E base w v l) : l.length ≤ maxLen := by
  obtain ⟨⟨-, ⟨-, h0⟩ | ⟨g, cap, cur, h1, h2, h3, h4, h5, -⟩⟩, -⟩ := h
  · omega
  · omega
theorem RowOf.cells (hk : ∀ x, (enc x).size = k) (h : RowOf enc k E base w v l) (j : Nat) (hj : j < l.length) : ∃ b c, v = .slice (some ⟨b, 0, none⟩) l.length c ∧ base ≤ b ∧ b < w.heap.size ∧ ∀ i, i < k → w.cell? ⟨b, j * k + i, none⟩ = (enc l[j])[i]? := by
  obtain ⟨⟨-, ⟨-, h0⟩ | ⟨g, cap, cur, h1, h2, h3, h4, h5, h6, h7⟩⟩, -⟩ := h
  · omega
  · refine ⟨g, cap, h1, h2, lt_of_block h3, fun i hi => ?_⟩
    rw [Blk.cell (t := E) (show Blk w g cur E from h3), ← flatE_get hk l j i hj hi, ← h7]
    have : j * k + i < l.length * k := by
      have : (j + 1) * k ≤ l.length * k := Nat.mul_le_mul_right k (by omega)
      rw [Nat.add_mul] at this
      omega
    rw [List.getElem?_take_of_lt this, Array.getElem?_toList]
end
/-- what has been appended to -/
theorem RowOf.mk' {α : Type} {enc : α → Array Value} {k : Nat} {E : TypeId} {base n : Nat} {w : World} {v : Value} {l : List α} {xs : List Value} (h : w.ownsRow base E k v n xs) (hn : n = l.length) (hx : xs = flatE enc l) (hne : v = .slice none 0 0 ↔ l = []) : RowOf enc k E base w v l := by
  subst hn; subst hx; exact ⟨h, hne⟩
theorem Ext.grownAt {x y z : World} {base k n : Nat} {e : TypeId} {v : Value} {xs : List Value} (h : Ext x y) (o : y.ownsRow base e k v n xs) (hb : x.heap.size ≤ base) (g : y.grownBy z v.ownBlock) : Ext x z := by
  refine Below.grown h g h.sz fun r hr => ?_
  obtain ⟨-, ⟨rfl, -⟩ | ⟨g', cap, cur, rfl, h2, -⟩⟩ := o
  · cases hr
  · cases hr; exact Nat.le_trans hb h2
/-- new cells, where a law looks for them -/
theorem blk_news {w : World} {b : Nat} {C : Array Value} {t : TypeId} (h : Blk w b C t) : ∀ j u, C.toList[j]? = some u → w.cell? ((⟨b, 0, none⟩ : Addr).add j) = some u := by
  intro j u hu
  have e : ((⟨b, 0, none⟩ : Addr).add j) = ⟨b, 0 + j, none⟩ := by unfold Addr.add; split <;> simp_all
  rw [e, Nat.zero_add, h.cell]
  simpa using hu
end Go.Proofs.YtknlojlcahgnoaaGreat

namespace Go.Proofs.YtknlojlcahgnoaaGreat
open Go.RowKit
set_option linter.unusedVariables false
set_option linter.unusedSimpArgs false

section
variable {α : Type} {enc : α → Array Value} {k : Nat} {w w' : World} {v : Value} {l : List α}
/-- a slice whose elements are these -/
def ElemsAt (enc : α → Array Value) (k : Nat) (w : World) (v : Value) (l : List α) : Prop :=
  ∃ a c, v = .slice a l.length c ∧ (l ≠ [] → ∃ b o, a = some ⟨b, o, none⟩ ∧ ∀ j (h : j < l.length) i, i < k → w.cell? ⟨b, o + (j * k + i), none⟩ = (enc l[j])[i]?)
theorem ElemsAt.ext (hk : ∀ x, (enc x).size = k) (h : ElemsAt enc k w v l) (e : Ext w w') : ElemsAt enc k w' v l := by
  obtain ⟨a, c, hv, hl⟩ := h
  refine ⟨a, c, hv, fun hne => ?_⟩
  obtain ⟨b, o, ha, hc⟩ := hl hne
  refine ⟨b, o, ha, fun j hj i hi => ?_⟩
  have := hc j hj i hi
  rw [Array.getElem?_eq_getElem (by rw [hk]; exact hi)] at this ⊢
  exact e.keep this
theorem ElemsAt.size (h : ElemsAt enc k w v l) : ∃ a c, v = .slice a l.length c := by
  obtain ⟨a, c, hv, -⟩ := h
  exact ⟨a, c, hv⟩
theorem ElemsAt.nil (enc : α → Array Value) (k : Nat) (w : World) : ElemsAt enc k w (.slice none 0 0) [] := ⟨_, _, rfl, fun h => absurd rfl h⟩
theorem ElemsAt.cells (hk : ∀ x, (enc x).size = k) (hk0 : 0 < k) {a : Option Addr} {n c : Nat} (h : ElemsAt enc k w (.slice a n c) l) (j : Nat) (hj : j < l.length) :
    ∃ b o, a = some ⟨b, o, none⟩ ∧ b < w.heap.size ∧ ∀ i, i < k → w.cell? ⟨b, o + (j * k + i), none⟩ = (enc l[j])[i]? := by
  obtain ⟨a', c', hv, hl⟩ := h
  simp at hv
  obtain ⟨rfl, -, -⟩ := hv
  obtain ⟨b, o, ha, hc⟩ := hl (by intro e; rw [e] at hj; simp at hj)
  refine ⟨b, o, ha, ?_, fun i hi => hc j hj i hi⟩
  have := hc j hj 0 hk0
  rw [Array.getElem?_eq_getElem (by rw [hk]; exact hk0)] at this
  exact cell_lt this
theorem RowOf.elems (hk : ∀ x, (enc x).size = k) {E : TypeId} {base : Nat} (h : RowOf enc k E base w v l) : ElemsAt enc k w v l := by
  obtain ⟨a, c, rfl⟩ := h.size
  refine ⟨a, c, rfl, fun hne => ?_⟩
  have h0 : 0 < l.length := List.length_pos_iff.2 hne
  obtain ⟨b, c', hv, -, -, -⟩ := h.cells hk 0 h0
  simp at hv
  refine ⟨b, 0, hv.1, fun j hj i hi => ?_⟩
  obtain ⟨b', c'', hv', -, -, hc⟩ := h.cells hk j hj
  simp at hv'
  have : b' = b := by
    have := hv.1.symm.trans hv'.1
    simp at this
    exact this.symm
  subst this
  rw [Nat.zero_add]
  exact hc i hi
end
end Go.Proofs.YtknlojlcahgnoaaGreat

namespace Go.Proofs.YtknlojlcahgnoaaGreat
open Go.Sort
set_option linter.unusedVariables false
set_option linter.unusedSimpArgs false
set_option linter.unusedSectionVars false

section
variable {α : Type} [Inhabited α] {key : α → List UInt8}
/-- two runs of one length, the first i of each exchanged -/
def srL (P X Z Y S : List α) (i : Nat) : List α := P ++ (Y.take i ++ (X.drop i ++ (Z ++ (X.take i ++ (Y.drop i ++ S)))))
theorem srL_zero (P X Z Y S : List α) : srL P X Z Y S 0 = P ++ (X ++ (Z ++ (Y ++ S))) := by unfold srL; simp
theorem srL_all {P X Z Y S : List α} (h : X.length = Y.length) : srL P X Z Y S X.length = P ++ (Y ++ (Z ++ (X ++ S))) := by
  unfold srL
  rw [List.take_of_length_le (l := Y) (by omega), List.drop_of_length_le (l := X) (by omega), List.take_of_length_le (l := X) (by omega), List.drop_of_length_le (l := Y) (by omega)]
  simp
theorem sr_step {d : Array α} {P X Z Y S : List α} {i : Nat} (hl : X.length = Y.length) (hi : i < X.length) (h : d.toList = srL P X Z Y S i) :
    (swp d (P.length + i) (P.length + X.length + Z.length + i)).toList = srL P X Z Y S (i + 1) := by
  have hx : X.drop i = X[i] :: X.drop (i + 1) := (List.getElem_cons_drop hi).symm
  have hy : Y.drop i = Y[i]'(by omega) :: Y.drop (i + 1) := (List.getElem_cons_drop (by omega)).symm
  have e : d.toList = (P ++ Y.take i) ++ X[i] :: ((X.drop (i + 1) ++ (Z ++ X.take i)) ++ Y[i]'(by omega) :: (Y.drop (i + 1) ++ S)) := by
    rw [h]
    unfold srL
    rw [hx, hy]
    simp only [List.append_assoc, List.cons_append, List.nil_append]
  have := (swp_list e).1
  have hA : (P ++ Y.take i).length = P.length + i := by rw [List.length_append, List.length_take]; omega
  have hB : (X.drop (i + 1) ++ (Z ++ X.take i)).length = (X.length - (i + 1)) + (Z.length + i) := by rw [List.length_append, List.length_append, List.length_drop, List.length_take]; omega
  rw [hA, hB, show P.length + i + 1 + (X.length - (i + 1) + (Z.length + i)) = P.length + X.length + Z.length + i by omega] at this
  rw [this]
  unfold srL
  rw [List.take_succ_eq_append_getElem hi, List.take_succ_eq_append_getElem (by omega : i < Y.length)]
  simp only [List.append_assoc, List.cons_append, List.nil_append]
/-- one element goes up, a step at a time -/
def upL (P B S : List α) (x : α) (i : Nat) : List α := P ++ (B.take i ++ (x :: (B.drop i ++ S)))
theorem up_step {d : Array α} {P B S : List α} {x : α} {i : Nat} (hi : i < B.length) (h : d.toList = upL P B S x i) : (swp d (P.length + i) (P.length + i + 1)).toList = upL P B S x (i + 1) := by
  have hx : B.drop i = B[i] :: B.drop (i + 1) := (List.getElem_cons_drop hi).symm
  have e : d.toList = (P ++ B.take i) ++ x :: B[i] :: (B.drop (i + 1) ++ S) := by
    rw [h]
    unfold upL
    rw [hx]
    simp only [List.append_assoc, List.cons_append, List.nil_append]
  have := (swp_next e).1
  have hA : (P ++ B.take i).length = P.length + i := by rw [List.length_append, List.length_take]; omega
  rw [hA] at this
  rw [this]
  unfold upL
  rw [List.take_succ_eq_append_getElem hi]
  simp only [List.append_assoc, List.cons_append, List.nil_append]
/-- one element goes down, a step at a time: i of the run are still ahead of it -/
theorem down_step {d : Array α} {P B S : List α} {x : α} {i : Nat} (hi : i < B.length) (h : d.toList = upL P B S x (i + 1)) : (swp d (P.length + i + 1) (P.length + i)).toList = upL P B S x i := by
  have e : d.toList = (P ++ B.take i) ++ B[i] :: x :: (B.drop (i + 1) ++ S) := by
    rw [h]
    unfold upL
    rw [List.take_succ_eq_append_getElem hi]
    simp only [List.append_assoc, List.cons_append, List.nil_append]
  have := (swp_next e).2
  have hA : (P ++ B.take i).length = P.length + i := by rw [List.length_append, List.length_take]; omega
  rw [hA] at this
  rw [this]
  unfold upL
  rw [← List.getElem_cons_drop hi]
  simp only [List.append_assoc, List.cons_append, List.nil_append]
/-- a part that is being rotated: what stands, and what it is to be -/
structure RotAt (T : List α) (L : List α) (m i j : Nat) (P X Y S : List α) : Prop where
  now : L = P ++ (X ++ (Y ++ S))
  goal : T = P ++ (Y ++ (X ++ S))
  pl : P.length + i = m
  xl : X.length = i
  yl : Y.length = j
theorem RotAt.left {T L : List α} {m i j : Nat} {P X Y S : List α} (h : RotAt T L m i j P X Y S) (hj : j < i) :
    RotAt T (P ++ (Y ++ (X.drop j ++ (X.take j ++ S)))) m (i - j) j (P ++ Y) (X.drop j) (X.take j) S := by
  obtain ⟨h1, h2, h3, h4, h5⟩ := h
  refine ⟨by simp only [List.append_assoc, List.cons_append, List.nil_append], ?_, by rw [List.length_append]; omega, by rw [List.length_drop]; omega, by rw [List.length_take]; omega⟩
  rw [h2]
  conv => lhs; rw [← List.take_append_drop j X]
  simp only [List.append_assoc, List.cons_append, List.nil_append]
theorem RotAt.right {T L : List α} {m i j : Nat} {P X Y S : List α} (h : RotAt T L m i j P X Y S) (hj : i < j) :
    RotAt T (P ++ (Y.drop (j - i) ++ (Y.take (j - i) ++ (X ++ S)))) m i (j - i) P (Y.drop (j - i)) (Y.take (j - i)) (X ++ S) := by
  obtain ⟨h1, h2, h3, h4, h5⟩ := h
  refine ⟨rfl, ?_, h3, by rw [List.length_drop]; omega, by rw [List.length_take]; omega⟩
  rw [h2]
  conv => lhs; rw [← List.take_append_drop (j - i) Y]
  simp only [List.append_assoc, List.cons_append, List.nil_append]
end
end Go.Proofs.YtknlojlcahgnoaaGreat

namespace Go.Proofs.YtknlojlcahgnoaaGreat
open Go.Sort
set_option linter.unusedVariables false
set_option linter.unusedSimpArgs false
set_option linter.unusedSectionVars false

section
variable {α : Type} [Inhabited α] {key : α → List UInt8} {lt : α → α → Bool}
theorem list_at' {d : Array α} {A D : List α} {x : α} {n : Nat} (h : d.toList = A ++ x :: D) (hn : n = A.length) : d[n]! = x := by subst hn; exact list_at h
theorem seg_get {d : Array α} {P B S : List α} (h : d.toList = P ++ (B ++ S)) {t j : Nat} (ht : t < B.length) (hj : j = P.length + t) : d[j]! = B[t] := by
  refine list_at' (A := P ++ B.take t) (D := B.drop (t + 1) ++ S) ?_ (by rw [List.length_append, List.length_take]; omega)
  rw [h]
  conv => lhs; rw [← List.take_append_drop t B, ← List.getElem_cons_drop ht]
  simp only [List.append_assoc, List.cons_append]
theorem take_last {B : List α} {t : Nat} (ht : t < B.length) : (B.take (t + 1)).getLast? = some B[t] := by rw [List.take_succ_eq_append_getElem ht, List.getLast?_append]; simp
theorem drop_head {B : List α} {t : Nat} (ht : t < B.length) : (B.drop t).head? = some B[t] := by rw [← List.getElem_cons_drop ht]; rfl

theorem sym_one_at (hlt : ∀ x y, lt x y = decide (key x < key y)) {d : Array α} {P B S : List α} {x : α} (hd : d.toList = P ++ (x :: (B ++ S))) {m i : Nat} (hm : m = P.length + 1) (h1 : m ≤ i) (h2 : i ≤ m + B.length) (hU : UpL key B)
    (q : (i = m ∨ lt d[i - 1]! x = true) ∧ (i = m + B.length ∨ lt d[i]! x = false)) : P ++ (B.take (i - m) ++ (x :: (B.drop (i - m) ++ S))) = P ++ (ordL key (x :: B) ++ S) := by
  have hd' : d.toList = (P ++ [x]) ++ (B ++ S) := by rw [hd]; simp
  have hl : (P ++ [x]).length = m := by simp [hm]
  rw [← sym_one (x := x) (B1 := B.take (i - m)) (B2 := B.drop (i - m)) (A := []) hU (List.take_append_drop _ _).symm ?_ ?_]
  · simp
  · rcases q.1 with h | h
    · left; rw [h]; simp
    · by_cases e : i = m
      · left; rw [e]; simp
      · right
        obtain ⟨t, ht⟩ : ∃ t, i = m + t + 1 := ⟨i - m - 1, by omega⟩
        rw [seg_get hd' (t := t) (by omega) (by omega), hlt] at h
        exact ⟨_, by rw [show i - m = t + 1 by omega, take_last (by omega)]; rfl, by simpa using h⟩
  · rcases q.2 with h | h
    · left; rw [h]; simp
    · by_cases e : i = m + B.length
      · left; rw [e]; simp
      · right
        rw [seg_get hd' (t := i - m) (by omega) (by omega), hlt] at h
        exact ⟨_, by rw [drop_head (by omega)]; rfl, by simpa using h⟩
theorem sym_last_at (hlt : ∀ x y, lt x y = decide (key x < key y)) {d : Array α} {P A S : List α} {y : α} (hd : d.toList = P ++ (A ++ (y :: S))) {a i : Nat} (ha : a = P.length) (h1 : a ≤ i) (h2 : i ≤ a + A.length) (hU : UpL key A)
    (q : (i = a ∨ lt y d[i - 1]! = false) ∧ (i = a + A.length ∨ lt y d[i]! = true)) : P ++ (A.take (i - a) ++ (y :: (A.drop (i - a) ++ S))) = P ++ (ordL key (A ++ [y]) ++ S) := by
  rw [← sym_last (y := y) (A1 := A.take (i - a)) (A2 := A.drop (i - a)) hU (List.take_append_drop _ _).symm ?_ ?_]
  · simp
  · rcases q.1 with h | h
    · left; rw [h]; simp
    · by_cases e : i = a
      · left; rw [e]; simp
      · right
        obtain ⟨t, ht⟩ : ∃ t, i = a + t + 1 := ⟨i - a - 1, by omega⟩
        rw [seg_get hd (t := t) (by omega) (by omega), hlt] at h
        exact ⟨_, by rw [show i - a = t + 1 by omega, take_last (by omega)]; rfl, by simpa using h⟩
  · rcases q.2 with h | h
    · left; rw [h]; simp
    · by_cases e : i = a + A.length
      · left; rw [e]; simp
      · right
        rw [seg_get hd (t := i - a) (by omega) (by omega), hlt] at h
        exact ⟨_, by rw [drop_head (by omega)]; rfl, by simpa using h⟩
/-- where the symmetrical search begins, and ends at the latest -/
def symS (a m b : Nat) : Nat := if (a + b) / 2 < m then (a + b) / 2 + m - b else a
def symR (a m b : Nat) : Nat := if (a + b) / 2 < m then (a + b) / 2 else m
theorem sym_at (hlt : ∀ x y, lt x y = decide (key x < key y)) {d : Array α} {P A B S : List α} (hd : d.toList = P ++ (A ++ (B ++ S))) {a m b s e : Nat} (ha : a = P.length) (hm : m = a + A.length) (hb : b = m + B.length) (hA : UpL key A) (hB : UpL key B)
    (h1 : symS a m b ≤ s) (h2 : s ≤ symR a m b) (he : e + s = (a + b) / 2 + m) (q : (s = symS a m b ∨ lt d[(a + b) / 2 + m - s]! d[s - 1]! = false) ∧ (s = symR a m b ∨ lt d[(a + b) / 2 + m - 1 - s]! d[s]! = true)) :
    ordL key (A.take (s - a) ++ B.take (e - m)) ++ ordL key (A.drop (s - a) ++ B.drop (e - m)) = ordL key (A ++ B) := by
  have hd2 : d.toList = (P ++ A) ++ (B ++ S) := by rw [hd]; simp
  have hpa : (P ++ A).length = m := by rw [List.length_append]; omega
  have b1 : a ≤ s ∧ s ≤ m ∧ m ≤ e ∧ e ≤ b := by
    unfold symS at h1; unfold symR at h2
    split at h1 <;> rename_i hh <;> simp only [hh, if_true, if_false] at h2 <;> omega
  have hj := sym_join (key := key) (A1 := A.take (s - a)) (A2 := A.drop (s - a)) (B1 := B.take (e - m)) (B2 := B.drop (e - m)) (by rw [List.take_append_drop]; exact hA) (by rw [List.take_append_drop]; exact hB) ?_ ?_
  · rw [hj, List.take_append_drop, List.take_append_drop]
  · by_cases c1 : s = m
    · left; rw [c1, hm]; simp
    by_cases c2 : e = m
    · right; left; rw [c2]; simp
    right; right
    rcases q.2 with h | h
    · unfold symR at h; split at h <;> omega
    · obtain ⟨t, ht⟩ : ∃ t, e = m + t + 1 := ⟨e - m - 1, by omega⟩
      rw [seg_get hd2 (t := t) (by omega) (by omega), seg_get hd (t := s - a) (by omega) (by omega), hlt] at h
      exact ⟨_, by rw [drop_head (by omega)]; rfl, _, by rw [show e - m = t + 1 by omega, take_last (by omega)]; rfl, by simpa using h⟩
  · by_cases c1 : s = a
    · left; rw [c1]; simp
    by_cases c2 : e = b
    · right; left; rw [c2, hb]; simp
    right; right
    rcases q.1 with h | h
    · unfold symS at h; split at h <;> omega
    · obtain ⟨t, ht⟩ : ∃ t, s = a + t + 1 := ⟨s - a - 1, by omega⟩
      rw [seg_get hd2 (t := e - m) (by omega) (by omega), seg_get hd (t := t) (by omega) (by omega), hlt] at h
      exact ⟨_, by rw [show s - a = t + 1 by omega, take_last (by omega)]; rfl, _, by rw [drop_head (by omega)]; rfl, by simpa using h⟩
end
end Go.Proofs.YtknlojlcahgnoaaGreat

namespace Go.Proofs.YtknlojlcahgnoaaGreat
open Go.RowKit
set_option linter.unusedVariables false
set_option linter.unusedSimpArgs false

/-- an iterator over a map of slots: nothing was laid into it since the loop began -/
structure IterAt (w : World) (r b : Nat) (l : SMap) (c : Nat) (seen : Array Nat) : Prop where
  map : MapIs w b l c
  it : ∃ c0, w.heap[r]? = some (.mapIter (some b) c seen c0) ∧ c ≤ c0
  old : ∀ x ∈ l, x.2 < c
  born : (l.map (·.2)).Nodup
theorem IterAt.ne {w : World} {r b c : Nat} {l : SMap} {seen : Array Nat} (h : IterAt w r b l c seen) : b ≠ r := fun e => by
  subst e
  obtain ⟨c0, h1, -⟩ := h.it
  have := (show w.heap[b]? = some (.map (ents l) c) from h.map).symm.trans h1
  cases this
theorem IterAt.lt {w : World} {r b c : Nat} {l : SMap} {seen : Array Nat} (h : IterAt w r b l c seen) : r < w.heap.size := by
  obtain ⟨c0, h1, -⟩ := h.it
  exact lt_of_block h1
theorem IterAt.ext {w w' : World} {r b c : Nat} {l : SMap} {seen : Array Nat} (h : IterAt w r b l c seen) (e : Ext w w') : IterAt w' r b l c seen := by
  obtain ⟨c0, h1, h2⟩ := h.it
  exact ⟨h.map.ext e, ⟨c0, (e.block h.lt).trans h1, h2⟩, h.old, h.born⟩

/-- how many are to come -/
def toCome (l : SMap) (seen : Array Nat) : Nat := (l.filter fun x => !seen.contains x.2).length
theorem leftOf_ents (l : SMap) (seen : Array Nat) : leftOf (ents l) seen = ents (l.filter fun x => !seen.contains x.2) := by
  unfold leftOf ents
  rw [List.filter_toArray, List.filter_map]
  rfl
theorem leftOf_size (l : SMap) (seen : Array Nat) : (leftOf (ents l) seen).size = toCome l seen := by
  rw [leftOf_ents]; simp [ents, toCome]
theorem IterAt.left {w : World} {r b c : Nat} {l : SMap} {seen : Array Nat} (h : IterAt w r b l c seen) : w.rangeLeft b r = toCome l seen := by
  obtain ⟨c0, h1, h2⟩ := h.it
  unfold World.rangeLeft
  rw [show w.heap[b]? = some (.map (ents l) c) from h.map, h1]
  exact leftOf_size l seen

section
variable {P : Program} {t k e : TypeId}
end

theorem map_inj {α β : Type} (f : α → β) : ∀ {l : List α}, (l.map f).Nodup → ∀ {x y : α}, x ∈ l → y ∈ l → f x = f y → x = y
  | [], _, _, _, hx, _, _ => by cases hx
  | a :: l, hn, x, y, hx, hy, h => by
    have hn' : f a ∉ l.map f ∧ (l.map f).Nodup := List.nodup_cons.1 hn
    rcases List.mem_cons.1 hx with e1 | hx'
    · rcases List.mem_cons.1 hy with e2 | hy'
      · rw [e1, e2]
      · exact absurd (List.mem_map.2 ⟨y, hy', by rw [← h, e1]⟩) hn'.1
    · rcases List.mem_cons.1 hy with e2 | hy'
      · exact absurd (List.mem_map.2 ⟨x, hx', by rw [h, e2]⟩) hn'.1
      · exact map_inj f hn'.2 hx' hy' h
theorem key_eq {l : SMap} (hn : l.keys.Nodup) {x y : Slot × Nat} (hx : x ∈ l) (hy : y ∈ l) (h : x.1.key = y.1.key) : x = y := map_inj (fun x : Slot × Nat => x.1.key) (l := l) hn hx hy h
end Go.Proofs.YtknlojlcahgnoaaGreat

namespace Go.Proofs.YtknlojlcahgnoaaGreat
open Go.ChangeShapes Go.WideShapes Go.ChangeAt Go.RowKit Go.Deep
set_option linter.unusedVariables false
set_option linter.unusedSimpArgs false

section
variable {H : Type} {enc : TypeId × Value → H} {P : Program} {w : World} {base : Nat} {held : Bool}

/-- one element's fields, a cell each -/
theorem field_cells {e : TypeId} {fs : Array Field} {fuel : Nat} {a : Addr} {cs : List Value} {x : DataW H × List MemPlace} {sp : Nat → Bool} (he : P.underlying e = some (.struct fs)) (hone : oneCellFields P fs = true) (hC : P.cellsOf e = fs.size)
    (hc : w.cells? base a (P.cellsOf e) = some cs) (ht : DataW.trod enc P w base sp held fuel e cs = some x) :
    ∀ (j : Nat) (f : Field), fs[j]? = some f → ∃ (v : Value) (y : DataW H × List MemPlace) (n : Nat), w.cell? (a.add j) = some v ∧ DataW.trod enc P w base sp held n f.type [v] = some y := by
  obtain ⟨xs, n, -, -, -, hlen, hf⟩ := DataW.trod_struct he ht
  obtain ⟨-, hcl, hat⟩ := World.cells?_some hc
  intro j f hj
  obtain ⟨ho, hk⟩ := hone_of hone j f hj
  have hjl : j < fs.size := (Array.getElem?_eq_some_iff.1 hj).1
  have hjc : j < cs.length := by rw [hcl, hC]; exact hjl
  have h1 := hf j f hj
  rw [ho, hk] at h1
  have e1 : (cs.drop j).take 1 = [cs[j]] := by rw [List.drop_eq_getElem_cons hjc]; rfl
  rw [e1] at h1
  refine ⟨cs[j], xs[j]'(by omega), n, ?_, h1.trans (List.getElem?_eq_getElem (by omega))⟩
  rw [hat j (by rw [hC]; exact hjl), List.getElem?_eq_getElem hjc]

theorem field_int {t : TypeId} {k : IntKind} {v : Value} {n : Nat} {sp : Nat → Bool} {y : DataW H × List MemPlace} (ht : P.underlying t = some (.int k)) (h : DataW.trod enc P w base sp held n t [v] = some y) : ∃ x, v = .int k x ∧ (Lit.int k x).wf = true := by
  obtain ⟨x, hv, -, hw⟩ := DataW.trod_int ht h
  simp only [List.cons.injEq, and_true] at hv
  exact ⟨x, hv, hw⟩

theorem field_bytes {t e : TypeId} {v : Value} {n : Nat} {y : DataW H × List MemPlace} (ht : P.underlying t = some (.slice e)) (he : P.underlying e = some (.int .u8)) (hc : P.cellsOf e = 1) (h : DataW.trod enc P w base (fun _ => true) held n t [v] = some y) : ∃ l, ByteSlice w v l := by
  rcases open_ints ht he hc h with ⟨hcs, _⟩ | ⟨x, len', cap', zs, hcs, _, hl, hm, hz, _, hcell, hwz⟩
  · simp only [List.cons.injEq, and_true] at hcs
    subst hcs
    exact ⟨[], ⟨_, _, rfl, fun h => absurd rfl h⟩, by simp⟩
  · simp only [List.cons.injEq, and_true] at hcs
    subst hcs
    simp only [if_true] at hz
    have hlen : ((zs.take len').map fun n => UInt8.ofNat n.toNat).length = len' := by rw [List.length_map, List.length_take, hz]; omega
    refine ⟨(zs.take len').map fun n => UInt8.ofNat n.toNat, ⟨some x, cap', by rw [hlen], fun hne => ?_⟩, by rw [hlen]; omega⟩
    have h0 : 0 < len' := by
      rcases Nat.eq_zero_or_pos len' with e | e
      · subst e; simp at hne
      · exact e
    have ex := plain_addr (hcell 0 (by omega))
    refine ⟨x.block, x.off, by rw [← ex], fun j hj => ?_⟩
    rw [hlen] at hj
    have hw := hwz (zs[j]'(by omega)) (List.getElem_mem _)
    have hb : 0 ≤ zs[j]'(by omega) ∧ zs[j]'(by omega) ≤ 255 := by simpa [Lit.wf, IntKind.min, IntKind.max, IntKind.signed, IntKind.bits] using hw
    rw [← addr_add, ← ex, hcell j (by omega)]
    simp only [List.getElem_map, List.getElem_take]
    simp [List.getD, List.getElem?_eq_getElem (show j < zs.length by omega)]
    omega
end

section
variable {H : Type} {enc : TypeId × Value → H} {W : World} {r : Reach} {b0 base : Nat} {held : Bool} {v : Value} {d : DataW H} {p : List MemPlace}

end
end Go.Proofs.YtknlojlcahgnoaaGreat
