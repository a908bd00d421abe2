/- Plain lemmas on integers, bits and 128-bit products: no program in sight. A world that holds all that another one held, and new blocks besides. Decimal digits, plainly. Walks: packages wide and num; the references 01 and 02. Walks: package key; the reference 09. Maps: what the operations do to a block that is a map, whatever its elements. -/
import Derived.WalkKit
import Derived.WalkSpells
import Derived.WalkLawsBesides
import Derived.ProofKit
import Derived.Lib.Hide
import Derived.Laws.EntriesVeiled
import Derived.Lib.ConvBytes
import Derived.Test.YtnlmbmbalmkiiaaProg

/- Plain lemmas on integers, bits and 128-bit products: no program in sight. -/
namespace Go.Proofs.Ytnlmbmbalmkiiaa
open Go.RowKit

theorem wrap_u64 (n : Int) : IntKind.u64.wrap n = n % 18446744073709551616 := by
  simp [IntKind.wrap, IntKind.signed, IntKind.bits]
theorem wraps_u64 (n : Int) (h₀ : 0 ≤ n) (h₁ : n < 2 ^ 64) : IntKind.u64.wrap n = n := by rw [wrap_u64]; omega
theorem and_mask32 (a : Int) (h0 : 0 ≤ a) (h1 : a < 18446744073709551616) : bits .and .u64 a 4294967295 = a % 4294967296 :=
  bits_mask .u64 64 (by decide) wraps_u64 32 (by decide) a h0 h1
theorem or_join32 (x y : Int) (hx : 0 ≤ x) (hx' : x % 4294967296 = 0) (hx2 : x < 18446744073709551616) (hy : 0 ≤ y) (hy' : y < 4294967296) :
    bits .or .u64 x y = x + y :=
  bits_join .u64 64 (by decide) wraps_u64 32 x y hx hx' hx2 hy hy' (by omega)

theorem prod_lt (x y : Int) (hx : 0 ≤ x) (hy : 0 ≤ y) (hx' : x ≤ 4294967295) (hy' : y ≤ 4294967295) : 0 ≤ x * y ∧ x * y ≤ 18446744065119617025 := by
  refine ⟨Int.mul_nonneg hx hy, ?_⟩
  have := Int.mul_le_mul hx' hy' hy (by omega : (0:Int) ≤ 4294967295)
  omega
theorem prod_split (x1 x0 y1 y0 : Int) : (x1 * 4294967296 + x0) * (y1 * 4294967296 + y0) = (x1 * y1) * 18446744073709551616 + (x0 * y1) * 4294967296 + (x1 * y0) * 4294967296 + x0 * y0 := by
  simp only [Int.add_mul, Int.mul_add]
  have e1 : x1 * 4294967296 * (y1 * 4294967296) = (x1 * y1) * 18446744073709551616 := by
    rw [Int.mul_assoc, Int.mul_left_comm 4294967296 y1, ← Int.mul_assoc]; simp only [Int.reduceMul]
  have e2 : x1 * 4294967296 * y0 = (x1 * y0) * 4294967296 := by rw [Int.mul_right_comm]
  have e3 : x0 * (y1 * 4294967296) = (x0 * y1) * 4294967296 := by rw [Int.mul_assoc]
  omega

/-- THE PRODUCT OF 128 BITS by halves, in the walk's own spelling. -/
theorem mul_halves (a b : Int) (ha0 : 0 ≤ a) (ha1 : a < 18446744073709551616) (hb0 : 0 ≤ b) (hb1 : b < 18446744073709551616) :
    (IntKind.u64.wrap (IntKind.u64.wrap (IntKind.u64.wrap (a / 4294967296 * (b / 4294967296)) +
        IntKind.u64.wrap (IntKind.u64.wrap (a / 4294967296 * bits BinOp.and IntKind.u64 b 4294967295) +
          IntKind.u64.wrap (bits BinOp.and IntKind.u64 a 4294967295 * bits BinOp.and IntKind.u64 b 4294967295) / 4294967296) / 4294967296) +
      IntKind.u64.wrap (IntKind.u64.wrap (bits BinOp.and IntKind.u64 a 4294967295 * (b / 4294967296)) +
        bits BinOp.and IntKind.u64 (IntKind.u64.wrap (IntKind.u64.wrap (a / 4294967296 * bits BinOp.and IntKind.u64 b 4294967295) +
          IntKind.u64.wrap (bits BinOp.and IntKind.u64 a 4294967295 * bits BinOp.and IntKind.u64 b 4294967295) / 4294967296)) 4294967295) / 4294967296))
      = a * b / 18446744073709551616 ∧
    bits BinOp.or IntKind.u64 (IntKind.u64.wrap (IntKind.u64.wrap (IntKind.u64.wrap (bits BinOp.and IntKind.u64 a 4294967295 * (b / 4294967296)) +
        bits BinOp.and IntKind.u64 (IntKind.u64.wrap (IntKind.u64.wrap (a / 4294967296 * bits BinOp.and IntKind.u64 b 4294967295) +
          IntKind.u64.wrap (bits BinOp.and IntKind.u64 a 4294967295 * bits BinOp.and IntKind.u64 b 4294967295) / 4294967296)) 4294967295) * 4294967296))
      (bits BinOp.and IntKind.u64 (IntKind.u64.wrap (bits BinOp.and IntKind.u64 a 4294967295 * bits BinOp.and IntKind.u64 b 4294967295)) 4294967295)
      = a * b % 18446744073709551616 := by
  rw [and_mask32 a ha0 ha1, and_mask32 b hb0 hb1]
  have hab : a * b = (a / 4294967296 * (b / 4294967296)) * 18446744073709551616 + (a % 4294967296 * (b / 4294967296)) * 4294967296 +
      (a / 4294967296 * (b % 4294967296)) * 4294967296 + a % 4294967296 * (b % 4294967296) := by
    have := prod_split (a / 4294967296) (a % 4294967296) (b / 4294967296) (b % 4294967296)
    rw [← this]; congr 1 <;> omega
  obtain ⟨l1, u1⟩ := prod_lt (a / 4294967296) (b / 4294967296) (by omega) (by omega) (by omega) (by omega)
  obtain ⟨l2, u2⟩ := prod_lt (a % 4294967296) (b / 4294967296) (by omega) (by omega) (by omega) (by omega)
  obtain ⟨l3, u3⟩ := prod_lt (a / 4294967296) (b % 4294967296) (by omega) (by omega) (by omega) (by omega)
  obtain ⟨l4, u4⟩ := prod_lt (a % 4294967296) (b % 4294967296) (by omega) (by omega) (by omega) (by omega)
  rw [hab]
  generalize a / 4294967296 * (b / 4294967296) = p11 at *
  generalize a % 4294967296 * (b / 4294967296) = p01 at *
  generalize a / 4294967296 * (b % 4294967296) = p10 at *
  generalize a % 4294967296 * (b % 4294967296) = p00 at *
  simp only [wrap_u64]
  rw [and_mask32 _ (by omega) (by omega), and_mask32 _ (by omega) (by omega), or_join32 _ _ (by omega) (by omega) (by omega) (by omega) (by omega)]
  constructor <;> omega

/-- THE PRODUCT BIT BY BIT: of b the bits from k on are done. -/
def MulRel (a b : Int) (k : Nat) (h l : Int) : Prop := h * 18446744073709551616 + l = a * (b / 2 ^ k) ∧ 0 ≤ l ∧ l < 18446744073709551616 ∧ 0 ≤ h

theorem mulRel_start (a b : Int) (hb0 : 0 ≤ b) (hb1 : b < 18446744073709551616) : MulRel a b 64 0 0 := by
  have : b / 2 ^ 64 = 0 := by omega
  exact ⟨by rw [this]; simp, by omega, by omega, by omega⟩

theorem half_half (b : Int) (k : Nat) (hk : 1 ≤ k) : b / 2 ^ k = b / 2 ^ (k - 1) / 2 := by
  obtain ⟨j, rfl⟩ : ∃ j, k = j + 1 := ⟨k - 1, by omega⟩
  rw [Nat.add_sub_cancel, Int.pow_succ, ← Int.ediv_ediv_of_nonneg (Int.pow_nonneg (by omega))]

theorem part_le (b : Int) (k : Nat) (hb0 : 0 ≤ b) : 0 ≤ b / 2 ^ k ∧ b / 2 ^ k ≤ b :=
  ⟨Int.ediv_nonneg hb0 (Int.pow_nonneg (by omega)), Int.ediv_le_self _ hb0⟩

theorem mulRel_parts {a b : Int} {k : Nat} {h l : Int} (ha0 : 0 ≤ a) (ha1 : a < 18446744073709551616) (hb0 : 0 ≤ b) (hb1 : b < 18446744073709551616) (hk : 1 ≤ k) (R : MulRel a b k h l) :
    ∃ t m : Int, t = h * 18446744073709551616 + l ∧ a * (b / 2 ^ (k - 1)) = 2 * t + m ∧ 0 ≤ a * (b / 2 ^ (k - 1)) ∧ a * (b / 2 ^ (k - 1)) < 340282366920938463463374607431768211456 ∧
      ((((b / 2 ^ (k - 1)).tmod 2 == 1) = true ∧ m = a) ∨ (((b / 2 ^ (k - 1)).tmod 2 == 1) = false ∧ m = 0)) := by
  obtain ⟨h0, h1, h2, h3⟩ := R
  rw [half_half b k hk] at h0
  obtain ⟨hB0, hB1⟩ := part_le b (k - 1) hb0
  generalize b / 2 ^ (k - 1) = B at *
  have hm : B.tmod 2 = B % 2 := Int.tmod_eq_emod_of_nonneg hB0
  have hup : a * B ≤ 18446744073709551615 * 18446744073709551615 := Int.mul_le_mul (by omega) (by omega) hB0 (by omega)
  have hlo : 0 ≤ a * B := Int.mul_nonneg ha0 hB0
  refine ⟨_, a * (B % 2), rfl, ?_, hlo, by omega, ?_⟩
  · rw [h0]
    have e : B = 2 * (B / 2) + B % 2 := by omega
    conv => lhs; rw [e]
    rw [Int.mul_add, Int.mul_left_comm]
  · rw [hm]
    rcases (by omega : B % 2 = 0 ∨ B % 2 = 1) with e | e <;> rw [e] <;> simp

theorem mulRel_zero {a b : Int} {k : Nat} {h l : Int} (ha0 : 0 ≤ a) (ha1 : a < 18446744073709551616) (hb0 : 0 ≤ b) (hb1 : b < 18446744073709551616) (hk : 1 ≤ k) (R : MulRel a b k h l)
    (hbit : ((b / 2 ^ (k - 1)).tmod 2 == 1) = false) :
    MulRel a b (k - 1) (IntKind.u64.wrap (IntKind.u64.wrap (h * 2) + l / 9223372036854775808)) (IntKind.u64.wrap (l * 2)) := by
  obtain ⟨t, m, ht, he, h0, h1, hc⟩ := mulRel_parts ha0 ha1 hb0 hb1 hk R
  obtain ⟨-, r1, r2, r3⟩ := R
  rcases hc with ⟨hc, -⟩ | ⟨-, rfl⟩
  · rw [hbit] at hc; cases hc
  simp only [wrap_u64]
  refine ⟨?_, by omega, by omega, by omega⟩
  rw [he] at h0 h1 ⊢
  omega

theorem mulRel_one {a b : Int} {k : Nat} {h l : Int} (ha0 : 0 ≤ a) (ha1 : a < 18446744073709551616) (hb0 : 0 ≤ b) (hb1 : b < 18446744073709551616) (hk : 1 ≤ k) (R : MulRel a b k h l)
    (hbit : ((b / 2 ^ (k - 1)).tmod 2 == 1) = true) (hcarry : ¬ IntKind.u64.wrap (IntKind.u64.wrap (l * 2) + a) < IntKind.u64.wrap (l * 2)) :
    MulRel a b (k - 1) (IntKind.u64.wrap (IntKind.u64.wrap (h * 2) + l / 9223372036854775808)) (IntKind.u64.wrap (IntKind.u64.wrap (l * 2) + a)) := by
  obtain ⟨t, m, ht, he, h0, h1, hc⟩ := mulRel_parts ha0 ha1 hb0 hb1 hk R
  obtain ⟨-, r1, r2, r3⟩ := R
  rcases hc with ⟨-, rfl⟩ | ⟨hc, -⟩
  rotate_left
  · rw [hbit] at hc; cases hc
  simp only [wrap_u64] at hcarry ⊢
  refine ⟨?_, by omega, by omega, by omega⟩
  rw [he] at h0 h1 ⊢
  omega

theorem mulRel_carry {a b : Int} {k : Nat} {h l : Int} (ha0 : 0 ≤ a) (ha1 : a < 18446744073709551616) (hb0 : 0 ≤ b) (hb1 : b < 18446744073709551616) (hk : 1 ≤ k) (R : MulRel a b k h l)
    (hbit : ((b / 2 ^ (k - 1)).tmod 2 == 1) = true) (hcarry : IntKind.u64.wrap (IntKind.u64.wrap (l * 2) + a) < IntKind.u64.wrap (l * 2)) :
    MulRel a b (k - 1) (IntKind.u64.wrap (IntKind.u64.wrap (IntKind.u64.wrap (h * 2) + l / 9223372036854775808) + 1)) (IntKind.u64.wrap (IntKind.u64.wrap (l * 2) + a)) := by
  obtain ⟨t, m, ht, he, h0, h1, hc⟩ := mulRel_parts ha0 ha1 hb0 hb1 hk R
  obtain ⟨-, r1, r2, r3⟩ := R
  rcases hc with ⟨-, rfl⟩ | ⟨hc, -⟩
  rotate_left
  · rw [hbit] at hc; cases hc
  simp only [wrap_u64] at hcarry ⊢
  refine ⟨?_, by omega, by omega, by omega⟩
  rw [he] at h0 h1 ⊢
  omega

theorem mulRel_end {a b h l : Int} (R : MulRel a b 0 h l) : h = a * b / 18446744073709551616 ∧ l = a * b % 18446744073709551616 := by
  obtain ⟨h0, h1, h2, h3⟩ := R
  have : a * (b / 2 ^ 0) = a * b := by simp
  rw [this] at h0
  constructor <;> omega
end Go.Proofs.Ytnlmbmbalmkiiaa

/- A world that holds all that another one held, and new blocks besides. -/
namespace Go.Proofs.Ytnlmbmbalmkiiaa
open Go.RowKit

/-- what was there is as it was; there may be new blocks -/
def Ext (w w' : World) : Prop := Below w.heap.size w w'

theorem Ext.below {w w' : World} (h : Ext w w') : Below w.heap.size w w' := h
theorem Ext.refl (w : World) : Ext w w := Below.refl _ _
theorem Ext.trans {a b c : World} (h : Ext a b) (k : Ext b c) : Ext a c := Below.trans h (Below.mono k h.size)
theorem Ext.alloc {a b : World} (h : Ext a b) (o : Obj) : Ext a (b.alloc o) := Below.alloc h h.size o
theorem Ext.drew {a b : World} (h : Ext a b) : Ext a b.drew := Below.drew h
theorem Ext.sz {a b : World} (h : Ext a b) : a.heap.size ≤ b.heap.size := h.size
theorem Ext.setCell {a b : World} (h : Ext a b) {p : Addr} (hp : a.heap.size ≤ p.block) (u : Value) : Ext a (b.setCell p u) := Below.setCell h hp u
theorem Ext.cells {W w1 : World} (hb : Ext W w1) : (∀ b o, b < W.heap.size → w1.cell? ⟨b, o, none⟩ = W.cell? ⟨b, o, none⟩) ∧ (∀ b o, b < W.heap.size → w1.frozen? ⟨b, o, none⟩ = W.frozen? ⟨b, o, none⟩) :=
  ⟨fun b o h => Below.cell hb (p := ⟨b, o, none⟩) h, fun b o h => Below.frozen hb (p := ⟨b, o, none⟩) h⟩
theorem Ext.cell {W w1 : World} (hb : Ext W w1) {b o : Nat} (h : b < W.heap.size) : w1.cell? ⟨b, o, none⟩ = W.cell? ⟨b, o, none⟩ := hb.cells.1 b o h
theorem Ext.block {W w1 : World} (hb : Ext W w1) {b : Nat} (h : b < W.heap.size) : w1.heap[b]? = W.heap[b]? := Below.block hb b h

theorem ret_int {k : IntKind} {a b : Int} (h : a = b) : Ending.returned (.int k a) = .returned (.int k b) := by rw [h]
theorem val_int {k : IntKind} {a b : Int} (h : a = b) : Value.int k a = .int k b := by rw [h]
theorem val_bool {a b : Bool} (h : a = b) : Value.bool a = .bool b := by rw [h]
theorem val_str {a b : ByteArray} (h : a = b) : Value.string a = .string b := by rw [h]
theorem ret_str {a b : ByteArray} (h : a = b) : Ending.returned (.string a) = .returned (.string b) := by rw [h]
theorem ret_2 {a b c d : Value} (h : a = c) (h' : b = d) : Ending.returned (.tuple #[a, b]) = .returned (.tuple #[c, d]) := by rw [h, h']
theorem ret_3 {a b c d x y : Value} (h : a = c) (h' : b = d) (h'' : x = y) : Ending.returned (.tuple #[a, b, x]) = .returned (.tuple #[c, d, y]) := by rw [h, h', h'']
theorem ret_bool {a b : Bool} (h : a = b) : Ending.returned (.bool a) = .returned (.bool b) := by rw [h]

theorem Ext.keep {w w' : World} (h : Ext w w') {a : Addr} {v : Value} (c : w.cell? a = some v) : w'.cell? a = some v := by
  have hlt : a.block < w.heap.size := by
    unfold World.cell? at c
    rcases Nat.lt_or_ge a.block w.heap.size with h | h
    · exact h
    · rw [Array.getElem?_eq_none h] at c; cases c
  rw [Below.cell h hlt]; exact c
theorem cell_lt {w : World} {b o : Nat} {v : Value} (c : w.cell? ⟨b, o, none⟩ = some v) : b < w.heap.size := by
  unfold World.cell? at c
  rcases Nat.lt_or_ge b w.heap.size with h | h
  · exact h
  · simp [Array.getElem?_eq_none h] at c

/-- a scope in which the run jumps back to one label: the passes first; the first of them by the same law -/
theorem wp_scope_jumps2 {P : Program} {a : Act} {w : World} {Q : Exit → Act → World → Prop} {c rest : Code} (l : Nat) (J : Act → World → Prop) (μ : Act → World → Nat) (hf : findLabel c l = some (Code.skip.seq rest))
    (pass : ∀ a w, J a w → rest.wp P (Exit.jump l (fun a' w' => J a' w' ∧ μ a' w' < μ a w) Q) a w)
    (first : (∀ a w, J a w → rest.wp P (Exit.jump l J Q) a w) → c.wp P (Exit.jump l J Q) a w) : (Code.scope c).wp P Q a w :=
  wp_scope_jumps l J μ hf (first fun a w h => Code.wp_mono (fun e a' w' q => by
    cases e with
    | goto l' => exact ⟨q.1, q.2.1⟩
    | _ => exact q) (pass a w h)) fun a w h => wp_seq (wp_skip (pass a w h))

/-- block b holds just these cells, and may be written -/
def Blk (w : World) (b : Nat) (C : Array Value) (t : TypeId) : Prop := w.heap[b]? = some (.cells C t)
theorem Blk.lt {w : World} {b : Nat} {C : Array Value} {t : TypeId} (h : Blk w b C t) : b < w.heap.size := lt_of_block h
theorem Blk.new (w : World) (C : Array Value) (t : TypeId) : Blk (w.alloc (.cells C t)) w.heap.size C t := (MapKept.heap_alloc w _).1
theorem Blk.new' (w : World) (C : Array Value) (t : TypeId) {b : Nat} (hb : b = w.heap.size) : Blk (w.alloc (.cells C t)) b C t := by subst hb; exact Blk.new w C t
theorem Blk.alloc {w : World} {b : Nat} {C : Array Value} {t : TypeId} (h : Blk w b C t) (o : Obj) : Blk (w.alloc o) b C t := ((MapKept.heap_alloc w o).2 b h.lt).trans h
theorem Blk.drew {w : World} {b : Nat} {C : Array Value} {t : TypeId} (h : Blk w b C t) : Blk w.drew b C t := h
theorem Blk.ext {w w' : World} {b : Nat} {C : Array Value} {t : TypeId} (h : Blk w b C t) (e : Ext w w') : Blk w' b C t := (e.block h.lt).trans h
theorem Blk.cell {w : World} {b : Nat} {C : Array Value} {t : TypeId} (h : Blk w b C t) (o : Nat) : w.cell? ⟨b, o, none⟩ = C[o]? := by simp [World.cell?, show w.heap[b]? = _ from h]
theorem Blk.free {w : World} {b : Nat} {C : Array Value} {t : TypeId} (h : Blk w b C t) (o : Nat) : w.frozen? ⟨b, o, none⟩ = false := by simp [World.frozen?, show w.heap[b]? = _ from h]
theorem Blk.set {w : World} {b : Nat} {C : Array Value} {t : TypeId} (h : Blk w b C t) (o : Nat) (v : Value) : Blk (w.setCell ⟨b, o, none⟩ v) b (C.setIfInBounds o v) t := by
  have hlt := h.lt
  have h' : w.heap[b] = .cells C t := by
    have := (Array.getElem?_eq_some_iff.1 (show w.heap[b]? = some (.cells C t) from h)).2
    exact this
  show (w.heap.modify b _)[b]? = _
  rw [Array.getElem?_eq_getElem (by simpa using hlt), Array.getElem_modify_self, h']
  simp
theorem Blk.other {w : World} {b : Nat} {C : Array Value} {t : TypeId} (h : Blk w b C t) {a : Addr} (ne : b ≠ a.block) (v : Value) : Blk (w.setCell a v) b C t := by
  show (w.setCell a v).heap[b]? = _
  rw [Below.heap_setCell _ _ _ _ ne]; exact h

theorem Blk.ne {w : World} {b c : Nat} {C D : Array Value} {t u : TypeId} (h : Blk w b C t) (k : Blk w c D u) (hs : C.size ≠ D.size) : b ≠ c := fun e => by
  subst e
  have := (show w.heap[b]? = some (.cells C t) from h).symm.trans (show w.heap[b]? = some (.cells D u) from k)
  simp at this
  exact hs (by rw [this.1])

/-- what was there is as it was but for block b; there may be new blocks -/
structure ExtB (b : Nat) (w w' : World) : Prop where
  os : w'.os = w.os
  tape : w'.tape = w.tape
  output : w'.output = w.output
  size : w.heap.size ≤ w'.heap.size
  block : ∀ k, k < w.heap.size → k ≠ b → w'.heap[k]? = w.heap[k]?
theorem ExtB.refl (b : Nat) (w : World) : ExtB b w w := ⟨rfl, rfl, rfl, Nat.le_refl _, fun _ _ _ => rfl⟩
theorem Ext.toB {w w' : World} (h : Ext w w') (b : Nat) : ExtB b w w' := ⟨Below.os h, Below.tape h, Below.output h, h.sz, fun k hk _ => Below.block h k hk⟩
theorem ExtB.trans {b : Nat} {x y z : World} (h : ExtB b x y) (k : ExtB b y z) : ExtB b x z :=
  ⟨k.os.trans h.os, k.tape.trans h.tape, k.output.trans h.output, Nat.le_trans h.size k.size, fun i hi hb => (k.block i (Nat.lt_of_lt_of_le hi h.size) hb).trans (h.block i hi hb)⟩
theorem ExtB.alloc {b : Nat} {x y : World} (h : ExtB b x y) (o : Obj) : ExtB b x (y.alloc o) := h.trans (((Ext.refl y).alloc o).toB b)
theorem ExtB.drew {b : Nat} {x y : World} (h : ExtB b x y) : ExtB b x y.drew := h.trans (((Ext.refl y).drew).toB b)
theorem ExtB.setCell {b : Nat} {x y : World} (h : ExtB b x y) (o : Nat) (v : Value) : ExtB b x (y.setCell ⟨b, o, none⟩ v) :=
  h.trans ⟨rfl, rfl, rfl, by simp [World.setCell], fun k _ hb => Below.heap_setCell _ _ _ _ hb⟩
theorem ExtB.setNew {b : Nat} {x y : World} (h : ExtB b x y) {a : Addr} (ha : x.heap.size ≤ a.block) (v : Value) : ExtB b x (y.setCell a v) :=
  ⟨h.os, h.tape, h.output, by simpa [World.setCell] using h.size, fun k hk hb => (Below.heap_setCell _ _ _ _ (by omega)).trans (h.block k hk hb)⟩
theorem Blk.extB {w w' : World} {c b : Nat} {C : Array Value} {t : TypeId} (h : Blk w c C t) (e : ExtB b w w') (ne : c ≠ b) : Blk w' c C t := (e.block c h.lt ne).trans h
/-- a block of one's own may be written -/
theorem Ext.own {x y z : World} {b : Nat} (h : Ext x y) (e : ExtB b y z) (hb : x.heap.size ≤ b) : Ext x z :=
  ⟨e.os.trans (Below.os h), e.tape.trans (Below.tape h), e.output.trans (Below.output h), Nat.le_trans h.sz e.size, fun k hk => (e.block k (Nat.lt_of_lt_of_le hk h.sz) (by omega)).trans (Below.block h k hk)⟩

/-- '[]byte(s)': a new row that holds the string's bytes. -/
theorem conv_bytes {P : Program} (w : World) (src dst e : TypeId) (s : ByteArray) (hs : P.underlying src = some .string) (hd : P.underlying dst = some (.slice e)) (he : P.underlying e = some (.int .u8)) :
    ∃ c w', (convert src dst (.string s)).run P w = .ok (.slice (some ⟨w.heap.size, 0, none⟩) s.size c) w' ∧ Ext w w' ∧ w'.heap.size = w.heap.size + 1 ∧
      s.size ≤ c ∧ ∀ j (h : j < s.data.toList.length), w'.cell? ⟨w.heap.size, 0 + j, none⟩ = some (.int .u8 (s.data.toList[j].toNat : Int)) := by
  refine ⟨_, _, Lib.run_convert_string_bytes w src dst e s hs hd he, ?_, Lib.bytesWorld_size _ _ _, ?_, ?_⟩
  · exact ⟨rfl, rfl, rfl, by rw [Lib.bytesWorld_size]; omega, fun k hk => Lib.bytesWorld_at_old _ _ _ _ hk⟩
  · exact grownCap_ge _ _ _ _
  · intro j h
    have hj : j < s.size := by show j < s.data.size; rw [← Array.length_toList]; exact h
    rw [Nat.zero_add, Lib.bytesWorld_cell _ _ _ _ hj]
    congr 3
    rw [List.getD_eq_getElem?_getD, List.getElem?_eq_getElem h, Option.getD_some]
end Go.Proofs.Ytnlmbmbalmkiiaa

/- Decimal digits, plainly. -/
namespace Go.Proofs.Ytnlmbmbalmkiiaa
open Go.RowKit
set_option linter.unusedVariables false
set_option linter.unusedSimpArgs false

theorem data_len (s : ByteArray) : s.data.toList.length = s.size := Array.length_toList
theorem data_get (s : ByteArray) (k : Nat) (h : k < s.size) : s.data.toList[k]'(by rw [data_len]; exact h) = s[k] := by
  rw [Array.getElem_toList]; rfl

theorem data_getD (s : ByteArray) (k : Nat) (h : k < s.size) : s.data.toList.getD k 0 = s[k] := by
  rw [List.getD_eq_getElem?_getD, List.getElem?_eq_getElem (by rw [data_len]; exact h), Option.getD_some, data_get s k h]
def isDig (b : UInt8) : Bool := decide (48 ≤ (b.toNat : Int)) && decide ((b.toNat : Int) ≤ 57)
def dval (l : List UInt8) : Int := l.foldl (fun n b => 10 * n + ((b.toNat : Int) - 48)) 0
def digLead (s : ByteArray) : Bool := decide (s.size = 0) || (decide (1 < s.size) && decide ((s.data.toList.getD 0 0).toNat = 48))
def digErr (s : ByteArray) : Int :=
  if digLead s = true then 10 else if s.data.toList.all isDig = false then 10 else if 18446744073709551616 ≤ dval s.data.toList then 11 else 0
def digNum (s : ByteArray) : Int := if digErr s = 0 then dval s.data.toList else 0

theorem digLead_yes {s : ByteArray} (h : 0 < s.size) (hl : digLead s = true) : 1 < s.size ∧ s[0].toNat = 48 := by
  unfold digLead at hl
  rw [data_getD s 0 h] at hl
  simp only [Bool.or_eq_true, decide_eq_true_eq, Bool.and_eq_true] at hl
  omega
theorem digLead_no {s : ByteArray} (h : 0 < s.size) (hl : ¬ digLead s = true) : s.size ≤ 1 ∨ ¬ s[0].toNat = 48 := by
  unfold digLead at hl
  rw [data_getD s 0 h] at hl
  simp only [Bool.or_eq_true, decide_eq_true_eq, Bool.and_eq_true] at hl
  omega
theorem dval_snoc (l : List UInt8) (b : UInt8) : dval (l ++ [b]) = 10 * dval l + ((b.toNat : Int) - 48) := by simp [dval]
theorem take_snoc' (s : ByteArray) (k : Nat) (h : k < s.size) : s.data.toList.take (k + 1) = s.data.toList.take k ++ [s[k]] := by
  rw [List.take_succ_eq_append_getElem (by rw [data_len]; exact h), data_get s k h]
theorem dval_nonneg {l : List UInt8} (h : l.all isDig = true) : 0 ≤ dval l := by
  have key : ∀ (l : List UInt8) (n : Int), 0 ≤ n → l.all isDig = true → 0 ≤ l.foldl (fun n b => 10 * n + ((b.toNat : Int) - 48)) n := by
    intro l
    induction l with
    | nil => intro n hn _; exact hn
    | cons b r ih =>
      intro n hn h
      simp only [List.all_cons, Bool.and_eq_true] at h
      simp only [List.foldl_cons]
      have hb := h.1
      unfold isDig at hb
      simp at hb
      exact ih _ (by omega) h.2
  exact key l 0 (by omega) h
theorem isDig_iff (b : UInt8) : isDig b = true ↔ 48 ≤ (b.toNat : Int) ∧ (b.toNat : Int) ≤ 57 := by simp [isDig]

/-- what a reader of digits knows behind k of them: n as it stands, and whether it went beyond -/
def DigRel (s : ByteArray) (k : Nat) (n : Int) (big : Bool) : Prop :=
  k ≤ s.size ∧ (s.data.toList.take k).all isDig = true ∧ big = decide (18446744073709551616 ≤ dval (s.data.toList.take k)) ∧ 0 ≤ n ∧ n < 18446744073709551616 ∧ (big = false → n = dval (s.data.toList.take k))
theorem digRel_start (s : ByteArray) : DigRel s 0 0 false := ⟨by omega, by simp, by simp [dval], by omega, by omega, fun _ => by simp [dval]⟩
theorem digRel_step {s : ByteArray} {k : Nat} {n : Int} {big : Bool} (h : k < s.size) (R : DigRel s k n big) {d : Int} (hd : d = (s[k].toNat : Int) - 48) (h0 : 0 ≤ d) (h9 : d < 10) :
    DigRel s (k + 1) (IntKind.u64.wrap (IntKind.u64.wrap (n * 10) + d)) (big || decide ((18446744073709551615 - d) / 10 < n)) := by
  obtain ⟨r1, r2, r3, r4, r5, r6⟩ := R
  have hk := take_snoc' s k h
  have hdig : isDig s[k] = true := (isDig_iff _).2 (by omega)
  have hall : (s.data.toList.take (k + 1)).all isDig = true := by rw [hk, List.all_append, r2]; simp [hdig]
  have hv : dval (s.data.toList.take (k + 1)) = 10 * dval (s.data.toList.take k) + d := by rw [hk, dval_snoc, hd]
  have hn := dval_nonneg r2
  refine ⟨by omega, hall, ?_, by rw [wrap_u64]; omega, by rw [wrap_u64]; omega, ?_⟩
  · rw [hv]
    cases hb : big
    · have := r6 hb
      rw [Bool.false_or]
      congr 1
      rw [← this]
      apply propext
      constructor <;> intro q <;> omega
    · rw [hb] at r3
      have := of_decide_eq_true r3.symm
      rw [Bool.true_or]
      symm
      apply decide_eq_true
      omega
  · intro hb
    rw [Bool.or_eq_false_iff] at hb
    have e := r6 hb.1
    have lt := of_decide_eq_false hb.2
    rw [hv, wrap_u64, wrap_u64, e]
    omega
theorem digRel_end {s : ByteArray} {k : Nat} {n : Int} {big : Bool} (h : k = s.size) (R : DigRel s k n big) (hl : digLead s = false) :
    digErr s = (if big then 11 else 0) ∧ digNum s = (if big then 0 else n) := by
  obtain ⟨r1, r2, r3, r4, r5, r6⟩ := R
  have ht : s.data.toList.take k = s.data.toList := List.take_of_length_le (by rw [data_len]; omega)
  rw [ht] at r2 r3 r6
  have he : digErr s = (if big then 11 else 0) := by
    unfold digErr
    rw [hl, r2]
    simp only [Bool.false_eq_true, if_false, Bool.true_eq_false]
    cases big
    · rw [if_neg (of_decide_eq_false r3.symm)]; rfl
    · rw [if_pos (of_decide_eq_true r3.symm)]; rfl
  refine ⟨he, ?_⟩
  unfold digNum
  rw [he]
  cases big
  · simp [r6 rfl]
  · simp
theorem digErr_bad {s : ByteArray} {k : Nat} (h : k < s.size) (hb : isDig s[k] = false) : digErr s = 10 := by
  have : s.data.toList.all isDig = false := by
    rw [List.all_eq_false]
    refine ⟨s[k], ?_, by simp [hb]⟩
    rw [← data_get s k h]
    exact List.getElem_mem _
  unfold digErr
  rw [this]
  simp
theorem digNum_err {s : ByteArray} (h : digErr s ≠ 0) : digNum s = 0 := if_neg h
theorem digErr_lead {s : ByteArray} (h : digLead s = true) : digErr s = 10 := if_pos h

/-! printing -/
def pdigF : Nat → Nat → List UInt8
  | 0, _ => []
  | f + 1, n => if n < 10 then [UInt8.ofNat (48 + n)] else pdigF f (n / 10) ++ [UInt8.ofNat (48 + n % 10)]
def pdig (n : Nat) : List UInt8 := pdigF 20 n
def digStr (n : Int) : ByteArray := ⟨(pdig n.toNat).toArray⟩

theorem pdigF_fuel : ∀ (f n : Nat), n < 10 ^ (f + 1) → pdigF (f + 2) n = pdigF (f + 1) n
  | 0, n, h => by
    have : n < 10 := by simpa using h
    simp [pdigF, this]
  | f + 1, n, h => by
    have h' : n / 10 < 10 ^ (f + 1) := by
      rw [Nat.div_lt_iff_lt_mul (by omega)]
      rw [Nat.pow_succ] at h
      exact h
    conv => lhs; unfold pdigF
    conv => rhs; unfold pdigF
    rw [pdigF_fuel f (n / 10) h']
theorem pdig_eq (n : Nat) (h : n < 100000000000000000000) : pdig n = if n < 10 then [UInt8.ofNat (48 + n)] else pdig (n / 10) ++ [UInt8.ofNat (48 + n % 10)] := by
  have e := pdigF_fuel 18 (n / 10) (by omega)
  unfold pdig
  conv => lhs; unfold pdigF
  rw [← e]
/-- the digits that are still to come, and those that are there -/
def pcat (n : Nat) (D : List UInt8) : List UInt8 := if n = 0 then D else pdig n ++ D
theorem pdig_step (n : Nat) (D : List UInt8) (h : n < 100000000000000000000) : pdig n ++ D = pcat (n / 10) (UInt8.ofNat (48 + n % 10) :: D) := by
  rw [pdig_eq n h]
  unfold pcat
  by_cases hn : n < 10
  · rw [if_pos hn, if_pos (by omega), Nat.mod_eq_of_lt hn]; rfl
  · rw [if_neg hn, if_neg (by omega)]; simp
end Go.Proofs.Ytnlmbmbalmkiiaa

/- Walks: packages wide and num; the references 01 and 02. -/
namespace Go.Proofs.Ytnlmbmbalmkiiaa
open Go.RowKit
set_option linter.unusedVariables false
set_option linter.unusedSimpArgs false

theorem wide_parts (n : Int) (w : World) :
    Calls Try.prog 81 #[.int .u64 n] w fun e w' => e = .returned (.agg #[.int .u64 (bits BinOp.and IntKind.u64 n 4294967295), .int .u64 (n / 4294967296)]) ∧ Ext w w' := by
  go_enter Try.func81, Try.ntmps81
  go_wp2
  exact bodyPost_ret (v := .agg #[.int .u64 (bits BinOp.and IntKind.u64 n 4294967295), .int .u64 (n / 4294967296)]) (by simp [results, Try.results81, go_sem]) rfl ⟨rfl, (by repeat (first | with_reducible exact Ext.refl _ | with_reducible assumption | with_reducible refine Ext.alloc ?_ _ | with_reducible refine Ext.drew ?_ | (with_reducible refine Ext.setCell ?_ (by first | exact Nat.le_refl _ | (dsimp only; omega) | (simp; done) | (simp; omega)) _) | with_reducible refine Ext.trans ?_ (by with_reducible assumption)))⟩

set_option maxHeartbeats 400000 in
theorem wide_Mul (a b : Int) (w : World) (ha0 : 0 ≤ a) (ha1 : a < 18446744073709551616) (hb0 : 0 ≤ b) (hb1 : b < 18446744073709551616)  :
    Calls Try.prog 54 #[.int .u64 a, .int .u64 b] w fun e w' => e = .returned (.tuple #[.int .u64 (a * b / 18446744073709551616), .int .u64 (a * b % 18446744073709551616)]) ∧ Ext w w' := by
  obtain ⟨h1, h2⟩ := mul_halves a b ha0 ha1 hb0 hb1
  have H1 := Lib.hid h1
  have H2 := Lib.hid h2
  clear h1 h2
  go_enter Try.func54, Try.ntmps54
  go_wp2_with (go_at_call 81; refine (wide_parts _ _).mono ?_; rintro e w' ⟨rfl, hb⟩)
  rw [H1.out, H2.out]
  go_ret2
  exact ⟨rfl, (by repeat (first | with_reducible exact Ext.refl _ | with_reducible assumption | with_reducible refine Ext.alloc ?_ _ | with_reducible refine Ext.drew ?_ | (with_reducible refine Ext.setCell ?_ (by first | exact Nat.le_refl _ | (dsimp only; omega) | (simp; done) | (simp; omega)) _) | with_reducible refine Ext.trans ?_ (by with_reducible assumption)))⟩

/-- the product, or the end -/
def satMul (a b : Int) : Int := if a * b < 18446744073709551616 then a * b else 18446744073709551615
theorem satMul_lt {a b : Int} (h : a * b < 18446744073709551616) : satMul a b = a * b := if_pos h
theorem satMul_ge {a b : Int} (h : ¬ a * b < 18446744073709551616) : satMul a b = 18446744073709551615 := if_neg h

theorem num_Mul (a b : Int) (w : World) (ha0 : 0 ≤ a) (ha1 : a < 18446744073709551616) (hb0 : 0 ≤ b) (hb1 : b < 18446744073709551616)  :
    Calls Try.prog 32 #[.int .u64 a, .int .u64 b] w fun e w' => e = .returned (.int .u64 (satMul a b)) ∧ Ext w w' := by
  have hp : 0 ≤ a * b := Int.mul_nonneg ha0 hb0
  by_cases h : a * b < 18446744073709551616
  · have h1 : (a * b / 18446744073709551616 != 0) = false := by rw [bne_eq_false_iff_eq]; omega
    have h2 := Lib.hid (show a * b % 18446744073709551616 = a * b by omega)
    have h3 := Lib.hid h
    clear h
    go_enter Try.func32, Try.ntmps32
    go_wp2_with (go_at_call 54; refine (wide_Mul _ _ _ ha0 ha1 hb0 hb1).mono ?_; rintro e w' ⟨rfl, hb⟩)
    go_ret
    exact ⟨ret_int (by rw [satMul_lt h3.out, h2.out]), (by repeat (first | with_reducible exact Ext.refl _ | with_reducible assumption | with_reducible refine Ext.alloc ?_ _ | with_reducible refine Ext.drew ?_ | (with_reducible refine Ext.setCell ?_ (by first | exact Nat.le_refl _ | (dsimp only; omega) | (simp; done) | (simp; omega)) _) | with_reducible refine Ext.trans ?_ (by with_reducible assumption)))⟩
  · have h1 : (a * b / 18446744073709551616 != 0) = true := by rw [bne_iff_ne]; omega
    have h3 := Lib.hid h
    clear h
    go_enter Try.func32, Try.ntmps32
    go_wp2_with (go_at_call 54; refine (wide_Mul _ _ _ ha0 ha1 hb0 hb1).mono ?_; rintro e w' ⟨rfl, hb⟩)
    go_ret
    exact ⟨ret_int (by rw [satMul_ge (Int.not_lt.2 h3.out)]), (by repeat (first | with_reducible exact Ext.refl _ | with_reducible assumption | with_reducible refine Ext.alloc ?_ _ | with_reducible refine Ext.drew ?_ | (with_reducible refine Ext.setCell ?_ (by first | exact Nat.le_refl _ | (dsimp only; omega) | (simp; done) | (simp; omega)) _) | with_reducible refine Ext.trans ?_ (by with_reducible assumption)))⟩

end Go.Proofs.Ytnlmbmbalmkiiaa

/- Walks: package key; the reference 09. -/
namespace Go.Proofs.Ytnlmbmbalmkiiaa
open Go.RowKit
set_option linter.unusedVariables false
set_option linter.unusedSimpArgs false

/-- a byte that no key has -/
def badB (n : Int) : Bool := decide (n < 33) || decide (126 < n)

theorem key_bad (n : Int) (w : World) :
    Calls Try.prog 47 #[.int .u8 n] w fun e w' => e = .returned (.bool (badB n)) ∧ w = w' := by
  by_cases h : n < 33
  · have H := Lib.hid (show badB n = true by simp [badB, h])
    go_enter Try.func47, Try.ntmps47
    go_wp2
    go_ret
    exact ⟨ret_bool H.out.symm, rfl⟩
  · have H := Lib.hid (show badB n = decide (126 < n) by simp [badB, h])
    go_enter Try.func47, Try.ntmps47
    go_wp2
    go_ret
    exact ⟨ret_bool H.out.symm, rfl⟩

/-- no bad byte -/
def noBad (l : List UInt8) : Bool := l.all fun b => !badB b.toNat
theorem noBad_take {l : List UInt8} {k : Nat} (h : k < l.length) (hk : noBad (l.take k) = true) (hb : badB (l[k].toNat : Int) = false) : noBad (l.take (k + 1)) = true := by
  unfold noBad at *
  rw [List.take_succ_eq_append_getElem h, List.all_append, hk]
  simp [hb]
theorem noBad_bad {l : List UInt8} {k : Nat} (h : k < l.length) (hb : badB (l[k].toNat : Int) = true) : noBad l = false := by
  unfold noBad
  rw [List.all_eq_false]
  exact ⟨l[k], List.getElem_mem h, by simp [hb]⟩
def IdxPost (l : List UInt8) (e : Ending) : Prop := ∃ r : Int, e = .returned (.int .i64 r) ∧ decide (0 ≤ r) = !noBad l

theorem key_index (b o c : Nat) (l : List UInt8) (w : World) (hlen : l.length ≤ maxLen) (hc : ∀ j (h : j < l.length), w.cell? ⟨b, o + j, none⟩ = some (.int .u8 (l[j].toNat : Int))) :
    Calls Try.prog 66 #[.slice (some ⟨b, o, none⟩) l.length c, .func (.func 47) #[] #[]] w fun e w' => IdxPost l e ∧ w = w' := by
  unfold maxLen at hlen
  have HC := Lib.hid hc
  clear hc
  go_enter Try.func66, Try.ntmps66
  go_wp2
  go_loop [5, 8] (fun x i => ∃ k : Nat, k ≤ l.length ∧ i = .int .i64 k ∧ noBad (l.take k) = true) (fun _ i => l.length - (intOf i).toNat)
  case atStart => exact ⟨0, by omega, rfl, rfl⟩
  case round =>
    obtain ⟨k, hk, rfl, R⟩ := hrel
    have HR := Lib.hid R
    clear R
    by_cases hlt : k < l.length
    · have hcell := HC.out k hlt
      cases hb : badB (l[k].toNat : Int)
      · have HB := Lib.hid hb
        clear hb
        go_wp2_with (go_at_call 47; refine (key_bad _ _).mono ?_; rw [HB.out]; rintro e w' ⟨rfl, rfl⟩)
        go_round
        case rel => exact ⟨k + 1, by omega, by go_num, noBad_take hlt HR.out HB.out⟩
        case measure => simp [intOf]; omega
      · have HB := Lib.hid hb
        clear hb
        go_wp2_with (go_at_call 47; refine (key_bad _ _).mono ?_; rw [HB.out]; rintro e w' ⟨rfl, rfl⟩)
        go_ret
        exact ⟨⟨_, rfl, by rw [noBad_bad hlt HB.out]; simp⟩, rfl⟩
    · go_wp2
      go_ret
      exact ⟨⟨_, rfl, by
        have e := HR.out
        rw [List.take_of_length_le (by omega)] at e
        rw [e]; rfl⟩, rfl⟩

theorem key_contains (b o c n : Nat) (l : List UInt8) (w : World) (hn : l.length = n) (hlen : n ≤ maxLen) (hc : ∀ j (h : j < l.length), w.cell? ⟨b, o + j, none⟩ = some (.int .u8 (l[j].toNat : Int))) :
    Calls Try.prog 48 #[.slice (some ⟨b, o, none⟩) n c, .func (.func 47) #[] #[]] w fun e w' => e = .returned (.bool !noBad l) ∧ w = w' := by
  subst hn
  have HC := Lib.hid hc
  clear hc
  go_enter Try.func48, Try.ntmps48
  go_wp2_with fail
  refine (key_index b o c l w hlen HC.out).mono ?_
  rintro e w' ⟨⟨r, rfl, hr⟩, rfl⟩
  have HRr := Lib.hid hr
  clear hr
  go_wp2
  go_ret
  exact ⟨ret_bool HRr.out, rfl⟩

/-- may it be a key? -/
def keyOk (s : ByteArray) : Bool := decide (0 < s.size) && decide (s.size ≤ 128) && noBad s.data.toList

set_option maxHeartbeats 400000 in
set_option maxRecDepth 100000 in
theorem key_Right (s : ByteArray) (w : World) (hm : s.size ≤ maxLen) :
    Calls Try.prog 26 #[.string s] w fun e w' => e = .returned (.bool (keyOk s)) ∧ Ext w w' := by
  by_cases h1 : s.size = 0
  · have H := Lib.hid (show keyOk s = false by simp [keyOk, h1])
    have h1' : decide (0 < s.size) = false := by simp [h1]
    go_enter Try.func26, Try.ntmps26
    go_wp2_with fail
    go_ret
    exact ⟨ret_bool H.out.symm, (by repeat (first | with_reducible exact Ext.refl _ | with_reducible assumption | with_reducible refine Ext.alloc ?_ _ | with_reducible refine Ext.drew ?_ | (with_reducible refine Ext.setCell ?_ (by first | exact Nat.le_refl _ | (dsimp only; omega) | (simp; done) | (simp; omega)) _) | with_reducible refine Ext.trans ?_ (by with_reducible assumption)))⟩
  by_cases h2 : s.size ≤ 128
  · have H := Lib.hid (show keyOk s = noBad s.data.toList by simp [keyOk, h2]; omega)
    have h1' : decide (0 < s.size) = true := by simp; omega
    have h2' : decide (s.size ≤ 128) = true := by simp; omega
    obtain ⟨c, w1, hrun, hext, hsz, hcap, hcells⟩ := conv_bytes (P := Try.prog) w 9 23 5 s Try.underlying9 Try.underlying23 Try.underlying5
    have HC := Lib.hid hcells
    clear hcells hsz
    have hlen : s.data.toList.length = s.size := Array.length_toList
    have HL := Lib.hid hlen
    clear hlen
    go_enter Try.func26, Try.ntmps26
    go_wp2_with fail
    refine (key_contains _ _ _ _ _ _ HL.out hm HC.out).mono ?_
    rintro e w' ⟨rfl, rfl⟩
    go_wp2
    go_ret
    exact ⟨ret_bool (by rw [H.out]), (by repeat (first | with_reducible exact Ext.refl _ | with_reducible assumption | with_reducible refine Ext.alloc ?_ _ | with_reducible refine Ext.drew ?_ | (with_reducible refine Ext.setCell ?_ (by first | exact Nat.le_refl _ | (dsimp only; omega) | (simp; done) | (simp; omega)) _) | with_reducible refine Ext.trans ?_ (by with_reducible assumption)))⟩
  · have H := Lib.hid (show keyOk s = false by simp [keyOk, h2])
    have h1' : decide (0 < s.size) = true := by simp; omega
    have h2' : decide (s.size ≤ 128) = false := by simp; omega
    go_enter Try.func26, Try.ntmps26
    go_wp2_with fail
    go_ret
    exact ⟨ret_bool H.out.symm, (by repeat (first | with_reducible exact Ext.refl _ | with_reducible assumption | with_reducible refine Ext.alloc ?_ _ | with_reducible refine Ext.drew ?_ | (with_reducible refine Ext.setCell ?_ (by first | exact Nat.le_refl _ | (dsimp only; omega) | (simp; done) | (simp; omega)) _) | with_reducible refine Ext.trans ?_ (by with_reducible assumption)))⟩

end Go.Proofs.Ytnlmbmbalmkiiaa

/- Maps: what the operations do to a block that is a map, whatever its elements. -/
namespace Go.Proofs.Ytnlmbmbalmkiiaa
open Go.RowKit
set_option linter.unusedVariables false
set_option linter.unusedSimpArgs false

section
variable {P : Program} {t k e : TypeId} {d : TypeDesc}

theorem map_new_at (w : World) (o : Obj) : (w.alloc o).heap[w.heap.size]? = some o := (MapKept.heap_alloc w o).1

theorem set_new (w : World) (o o' : Obj) : ({ w.alloc o with heap := (w.alloc o).heap.setIfInBounds w.heap.size o' } : World) = w.alloc o' := by
  show ({ w with heap := (w.heap.push o).setIfInBounds w.heap.size o' } : World) = { w with heap := w.heap.push o' }
  congr 1
  apply Array.ext
  · simp
  · intro i h1 h2
    simp only [Array.size_setIfInBounds, Array.size_push] at h1
    rw [Array.getElem_setIfInBounds (by simpa using h1)]
    by_cases h : w.heap.size = i
    · subst h; simp
    · simp [h, Array.getElem_push, show i < w.heap.size by omega]

/-- a store of a new key into a map that stands at the world's end -/
theorem run_update_new (ht : P.underlying t = some (.map k e)) (hk : P.underlying k = some d) {key : Value} (hkey : MapKept.IsKey d key) {es : Array MapEntry} {c : Nat} (hnew : Instr.findNow d key es.toList 0 = some none) (w : World) (v : Value) :
    (Instr.mapUpdate t (.map (some w.heap.size)) key v).run P (w.alloc (.map es c)) = .ok () (w.alloc (.map (es.push ⟨key, v, c⟩) (c + 1))) := by
  have hb := map_new_at w (.map es c)
  simp [Instr.mapUpdate, run_underlying ht, MapKept.run_getObj_map hb, MapKept.run_checkKey hk hkey, MapKept.run_findKey hk hnew, MapKept.run_setObj_map _ hb, Result.andThen]
  exact set_new _ _ _

theorem run_lookup_yes (ht : P.underlying t = some (.map k e)) (hk : P.underlying k = some d) {key : Value} (hkey : MapKept.IsKey d key) {es : Array MapEntry} {c : Nat} {w : World} {b i : Nat} {v : Value}
    (hb : w.heap[b]? = some (.map es c)) (hf : Instr.findNow d key es.toList 0 = some (some (i, v))) :
    (Instr.lookup t (.map (some b)) key true).run P w = .ok (.tuple #[v, .bool true]) w ∧ (Instr.lookup t (.map (some b)) key false).run P w = .ok v w := by
  constructor <;> simp [Instr.lookup, run_underlying ht, MapKept.run_getObj_map hb, MapKept.run_checkKey hk hkey, MapKept.run_findKey hk hf, Result.andThen]

theorem run_lookup_no (ht : P.underlying t = some (.map k e)) (hk : P.underlying k = some d) {key : Value} (hkey : MapKept.IsKey d key) {es : Array MapEntry} {c : Nat} {w : World} {b : Nat} {z : Value}
    (hb : w.heap[b]? = some (.map es c)) (hz : (zeroValue e).run P w = .ok z w) (hf : Instr.findNow d key es.toList 0 = some none) :
    (Instr.lookup t (.map (some b)) key true).run P w = .ok (.tuple #[z, .bool false]) w ∧ (Instr.lookup t (.map (some b)) key false).run P w = .ok z w := by
  constructor <;> simp [Instr.lookup, run_underlying ht, MapKept.run_getObj_map hb, MapKept.run_checkKey hk hkey, MapKept.run_findKey hk hf, Result.andThen, hz]
end
end Go.Proofs.Ytnlmbmbalmkiiaa
