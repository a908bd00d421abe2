/- Plain lemmas on integers, bits and 128-bit products: no program in sight. A world that holds all that another one held, and new blocks besides. Walks: packages wide and num; the references 01 and 02. The tree of prefixes, plainly. Plain sums that stop at their ends, and the three kernels, as functions on integers: no program in sight. -/
import Derived.WalkKit
import Derived.WalkSpells
import Derived.WalkLawsBesides
import Derived.ProofKit
import Derived.Lib.Hide
import Derived.Laws.EntriesVeiled
import Derived.Lib.ConvBytes
import Derived.Test.YtknlojlcahgnoaaGreatProg

namespace Go.Proofs.YtknlojlcahgnoaaGreat
open Go.RowKit

theorem wrap_u64 (n : Int) : IntKind.u64.wrap n = n % 18446744073709551616 := by
  simp [IntKind.wrap, IntKind.signed, IntKind.bits]
theorem wraps_u64 (n : Int) (h₀ : 0 ≤ n) (h₁ : n < 2 ^ 64) : IntKind.u64.wrap n = n := by rw [wrap_u64]; omega
theorem and_mask32 (a : Int) (h0 : 0 ≤ a) (h1 : a < 18446744073709551616) : bits .and .u64 a 4294967295 = a % 4294967296 :=
  bits_mask .u64 64 (by decide) wraps_u64 32 (by decide) a h0 h1
theorem or_join32 (x y : Int) (hx : 0 ≤ x) (hx' : x % 4294967296 = 0) (hx2 : x < 18446744073709551616) (hy : 0 ≤ y) (hy' : y < 4294967296) :
    bits .or .u64 x y = x + y :=
  bits_join .u64 64 (by decide) wraps_u64 32 x y hx hx' hx2 hy hy' (by omega)

theorem prod_lt (x y : Int) (hx : 0 ≤ x) (hy : 0 ≤ y) (hx' : x ≤ 4294967295) (hy' : y ≤ 4294967295) : 0 ≤ x * y ∧ x * y ≤ 18446744065119617025 := by
  refine ⟨Int.mul_nonneg hx hy, ?_⟩
  have := Int.mul_le_mul hx' hy' hy (by omega : (0:Int) ≤ 4294967295)
  omega
theorem prod_split (x1 x0 y1 y0 : Int) : (x1 * 4294967296 + x0) * (y1 * 4294967296 + y0) = (x1 * y1) * 18446744073709551616 + (x0 * y1) * 4294967296 + (x1 * y0) * 4294967296 + x0 * y0 := by
  simp only [Int.add_mul, Int.mul_add]
  have e1 : x1 * 4294967296 * (y1 * 4294967296) = (x1 * y1) * 18446744073709551616 := by
    rw [Int.mul_assoc, Int.mul_left_comm 4294967296 y1, ← Int.mul_assoc]; simp only [Int.reduceMul]
  have e2 : x1 * 4294967296 * y0 = (x1 * y0) * 4294967296 := by rw [Int.mul_right_comm]
  have e3 : x0 * (y1 * 4294967296) = (x0 * y1) * 4294967296 := by rw [Int.mul_assoc]
  omega

/-- THE PRODUCT OF 128 BITS by halves, in the walk's own spelling. -/
theorem mul_halves (a b : Int) (ha0 : 0 ≤ a) (ha1 : a < 18446744073709551616) (hb0 : 0 ≤ b) (hb1 : b < 18446744073709551616) :
    (IntKind.u64.wrap (IntKind.u64.wrap (IntKind.u64.wrap (a / 4294967296 * (b / 4294967296)) +
        IntKind.u64.wrap (IntKind.u64.wrap (a / 4294967296 * bits BinOp.and IntKind.u64 b 4294967295) +
          IntKind.u64.wrap (bits BinOp.and IntKind.u64 a 4294967295 * bits BinOp.and IntKind.u64 b 4294967295) / 4294967296) / 4294967296) +
      IntKind.u64.wrap (IntKind.u64.wrap (bits BinOp.and IntKind.u64 a 4294967295 * (b / 4294967296)) +
        bits BinOp.and IntKind.u64 (IntKind.u64.wrap (IntKind.u64.wrap (a / 4294967296 * bits BinOp.and IntKind.u64 b 4294967295) +
          IntKind.u64.wrap (bits BinOp.and IntKind.u64 a 4294967295 * bits BinOp.and IntKind.u64 b 4294967295) / 4294967296)) 4294967295) / 4294967296))
      = a * b / 18446744073709551616 ∧
    bits BinOp.or IntKind.u64 (IntKind.u64.wrap (IntKind.u64.wrap (IntKind.u64.wrap (bits BinOp.and IntKind.u64 a 4294967295 * (b / 4294967296)) +
        bits BinOp.and IntKind.u64 (IntKind.u64.wrap (IntKind.u64.wrap (a / 4294967296 * bits BinOp.and IntKind.u64 b 4294967295) +
          IntKind.u64.wrap (bits BinOp.and IntKind.u64 a 4294967295 * bits BinOp.and IntKind.u64 b 4294967295) / 4294967296)) 4294967295) * 4294967296))
      (bits BinOp.and IntKind.u64 (IntKind.u64.wrap (bits BinOp.and IntKind.u64 a 4294967295 * bits BinOp.and IntKind.u64 b 4294967295)) 4294967295)
      = a * b % 18446744073709551616 := by
  rw [and_mask32 a ha0 ha1, and_mask32 b hb0 hb1]
  have hab : a * b = (a / 4294967296 * (b / 4294967296)) * 18446744073709551616 + (a % 4294967296 * (b / 4294967296)) * 4294967296 +
      (a / 4294967296 * (b % 4294967296)) * 4294967296 + a % 4294967296 * (b % 4294967296) := by
    have := prod_split (a / 4294967296) (a % 4294967296) (b / 4294967296) (b % 4294967296)
    rw [← this]; congr 1 <;> omega
  obtain ⟨l1, u1⟩ := prod_lt (a / 4294967296) (b / 4294967296) (by omega) (by omega) (by omega) (by omega)
  obtain ⟨l2, u2⟩ := prod_lt (a % 4294967296) (b / 4294967296) (by omega) (by omega) (by omega) (by omega)
  obtain ⟨l3, u3⟩ := prod_lt (a / 4294967296) (b % 4294967296) (by omega) (by omega) (by omega) (by omega)
  obtain ⟨l4, u4⟩ := prod_lt (a % 4294967296) (b % 4294967296) (by omega) (by omega) (by omega) (by omega)
  rw [hab]
  generalize a / 4294967296 * (b / 4294967296) = p11 at *
  generalize a % 4294967296 * (b / 4294967296) = p01 at *
  generalize a / 4294967296 * (b % 4294967296) = p10 at *
  generalize a % 4294967296 * (b % 4294967296) = p00 at *
  simp only [wrap_u64]
  rw [and_mask32 _ (by omega) (by omega), and_mask32 _ (by omega) (by omega), or_join32 _ _ (by omega) (by omega) (by omega) (by omega) (by omega)]
  constructor <;> omega

/-- THE PRODUCT BIT BY BIT: of b the bits from k on are done. -/
def MulRel (a b : Int) (k : Nat) (h l : Int) : Prop := h * 18446744073709551616 + l = a * (b / 2 ^ k) ∧ 0 ≤ l ∧ l < 18446744073709551616 ∧ 0 ≤ h

theorem mulRel_start (a b : Int) (hb0 : 0 ≤ b) (hb1 : b < 18446744073709551616) : MulRel a b 64 0 0 := by
  have : b / 2 ^ 64 = 0 := by omega
  exact ⟨by rw [this]; simp, by omega, by omega, by omega⟩

theorem half_half (b : Int) (k : Nat) (hk : 1 ≤ k) : b / 2 ^ k = b / 2 ^ (k - 1) / 2 := by
  obtain ⟨j, rfl⟩ : ∃ j, k = j + 1 := ⟨k - 1, by omega⟩
  rw [Nat.add_sub_cancel, Int.pow_succ, ← Int.ediv_ediv_of_nonneg (Int.pow_nonneg (by omega))]

theorem part_le (b : Int) (k : Nat) (hb0 : 0 ≤ b) : 0 ≤ b / 2 ^ k ∧ b / 2 ^ k ≤ b :=
  ⟨Int.ediv_nonneg hb0 (Int.pow_nonneg (by omega)), Int.ediv_le_self _ hb0⟩

theorem mulRel_parts {a b : Int} {k : Nat} {h l : Int} (ha0 : 0 ≤ a) (ha1 : a < 18446744073709551616) (hb0 : 0 ≤ b) (hb1 : b < 18446744073709551616) (hk : 1 ≤ k) (R : MulRel a b k h l) :
    ∃ t m : Int, t = h * 18446744073709551616 + l ∧ a * (b / 2 ^ (k - 1)) = 2 * t + m ∧ 0 ≤ a * (b / 2 ^ (k - 1)) ∧ a * (b / 2 ^ (k - 1)) < 340282366920938463463374607431768211456 ∧
      ((((b / 2 ^ (k - 1)).tmod 2 == 1) = true ∧ m = a) ∨ (((b / 2 ^ (k - 1)).tmod 2 == 1) = false ∧ m = 0)) := by
  obtain ⟨h0, h1, h2, h3⟩ := R
  rw [half_half b k hk] at h0
  obtain ⟨hB0, hB1⟩ := part_le b (k - 1) hb0
  generalize b / 2 ^ (k - 1) = B at *
  have hm : B.tmod 2 = B % 2 := Int.tmod_eq_emod_of_nonneg hB0
  have hup : a * B ≤ 18446744073709551615 * 18446744073709551615 := Int.mul_le_mul (by omega) (by omega) hB0 (by omega)
  have hlo : 0 ≤ a * B := Int.mul_nonneg ha0 hB0
  refine ⟨_, a * (B % 2), rfl, ?_, hlo, by omega, ?_⟩
  · rw [h0]
    have e : B = 2 * (B / 2) + B % 2 := by omega
    conv => lhs; rw [e]
    rw [Int.mul_add, Int.mul_left_comm]
  · rw [hm]
    rcases (by omega : B % 2 = 0 ∨ B % 2 = 1) with e | e <;> rw [e] <;> simp

theorem mulRel_zero {a b : Int} {k : Nat} {h l : Int} (ha0 : 0 ≤ a) (ha1 : a < 18446744073709551616) (hb0 : 0 ≤ b) (hb1 : b < 18446744073709551616) (hk : 1 ≤ k) (R : MulRel a b k h l)
    (hbit : ((b / 2 ^ (k - 1)).tmod 2 == 1) = false) :
    MulRel a b (k - 1) (IntKind.u64.wrap (IntKind.u64.wrap (h * 2) + l / 9223372036854775808)) (IntKind.u64.wrap (l * 2)) := by
  obtain ⟨t, m, ht, he, h0, h1, hc⟩ := mulRel_parts ha0 ha1 hb0 hb1 hk R
  obtain ⟨-, r1, r2, r3⟩ := R
  rcases hc with ⟨hc, -⟩ | ⟨-, rfl⟩
  · rw [hbit] at hc; cases hc
  simp only [wrap_u64]
  refine ⟨?_, by omega, by omega, by omega⟩
  rw [he] at h0 h1 ⊢
  omega

theorem mulRel_one {a b : Int} {k : Nat} {h l : Int} (ha0 : 0 ≤ a) (ha1 : a < 18446744073709551616) (hb0 : 0 ≤ b) (hb1 : b < 18446744073709551616) (hk : 1 ≤ k) (R : MulRel a b k h l)
    (hbit : ((b / 2 ^ (k - 1)).tmod 2 == 1) = true) (hcarry : ¬ IntKind.u64.wrap (IntKind.u64.wrap (l * 2) + a) < IntKind.u64.wrap (l * 2)) :
    MulRel a b (k - 1) (IntKind.u64.wrap (IntKind.u64.wrap (h * 2) + l / 9223372036854775808)) (IntKind.u64.wrap (IntKind.u64.wrap (l * 2) + a)) := by
  obtain ⟨t, m, ht, he, h0, h1, hc⟩ := mulRel_parts ha0 ha1 hb0 hb1 hk R
  obtain ⟨-, r1, r2, r3⟩ := R
  rcases hc with ⟨-, rfl⟩ | ⟨hc, -⟩
  rotate_left
  · rw [hbit] at hc; cases hc
  simp only [wrap_u64] at hcarry ⊢
  refine ⟨?_, by omega, by omega, by omega⟩
  rw [he] at h0 h1 ⊢
  omega

theorem mulRel_carry {a b : Int} {k : Nat} {h l : Int} (ha0 : 0 ≤ a) (ha1 : a < 18446744073709551616) (hb0 : 0 ≤ b) (hb1 : b < 18446744073709551616) (hk : 1 ≤ k) (R : MulRel a b k h l)
    (hbit : ((b / 2 ^ (k - 1)).tmod 2 == 1) = true) (hcarry : IntKind.u64.wrap (IntKind.u64.wrap (l * 2) + a) < IntKind.u64.wrap (l * 2)) :
    MulRel a b (k - 1) (IntKind.u64.wrap (IntKind.u64.wrap (IntKind.u64.wrap (h * 2) + l / 9223372036854775808) + 1)) (IntKind.u64.wrap (IntKind.u64.wrap (l * 2) + a)) := by
  obtain ⟨t, m, ht, he, h0, h1, hc⟩ := mulRel_parts ha0 ha1 hb0 hb1 hk R
  obtain ⟨-, r1, r2, r3⟩ := R
  rcases hc with ⟨-, rfl⟩ | ⟨hc, -⟩
  rotate_left
  · rw [hbit] at hc; cases hc
  simp only [wrap_u64] at hcarry ⊢
  refine ⟨?_, by omega, by omega, by omega⟩
  rw [he] at h0 h1 ⊢
  omega

theorem mulRel_end {a b h l : Int} (R : MulRel a b 0 h l) : h = a * b / 18446744073709551616 ∧ l = a * b % 18446744073709551616 := by
  obtain ⟨h0, h1, h2, h3⟩ := R
  have : a * (b / 2 ^ 0) = a * b := by simp
  rw [this] at h0
  constructor <;> omega
end Go.Proofs.YtknlojlcahgnoaaGreat

namespace Go.Proofs.YtknlojlcahgnoaaGreat
open Go.RowKit

/-- what was there is as it was; there may be new blocks -/
def Ext (w w' : World) : Prop := Below w.heap.size w w'

theorem Ext.refl (w : World) : Ext w w := Below.refl _ _
theorem Ext.trans {a b c : World} (h : Ext a b) (k : Ext b c) : Ext a c := Below.trans h (Below.mono k h.size)
theorem Ext.alloc {a b : World} (h : Ext a b) (o : Obj) : Ext a (b.alloc o) := Below.alloc h h.size o
theorem Ext.drew {a b : World} (h : Ext a b) : Ext a b.drew := Below.drew h
theorem Ext.sz {a b : World} (h : Ext a b) : a.heap.size ≤ b.heap.size := h.size
theorem Ext.setCell {a b : World} (h : Ext a b) {p : Addr} (hp : a.heap.size ≤ p.block) (u : Value) : Ext a (b.setCell p u) := Below.setCell h hp u
theorem Ext.cells {W w1 : World} (hb : Ext W w1) : (∀ b o, b < W.heap.size → w1.cell? ⟨b, o, none⟩ = W.cell? ⟨b, o, none⟩) ∧ (∀ b o, b < W.heap.size → w1.frozen? ⟨b, o, none⟩ = W.frozen? ⟨b, o, none⟩) :=
  ⟨fun b o h => Below.cell hb (p := ⟨b, o, none⟩) h, fun b o h => Below.frozen hb (p := ⟨b, o, none⟩) h⟩
theorem Ext.cell {W w1 : World} (hb : Ext W w1) {b o : Nat} (h : b < W.heap.size) : w1.cell? ⟨b, o, none⟩ = W.cell? ⟨b, o, none⟩ := hb.cells.1 b o h
theorem Ext.block {W w1 : World} (hb : Ext W w1) {b : Nat} (h : b < W.heap.size) : w1.heap[b]? = W.heap[b]? := Below.block hb b h

theorem ret_int {k : IntKind} {a b : Int} (h : a = b) : Ending.returned (.int k a) = .returned (.int k b) := by rw [h]
theorem val_int {k : IntKind} {a b : Int} (h : a = b) : Value.int k a = .int k b := by rw [h]
theorem val_bool {a b : Bool} (h : a = b) : Value.bool a = .bool b := by rw [h]
theorem ret_str {a b : ByteArray} (h : a = b) : Ending.returned (.string a) = .returned (.string b) := by rw [h]
theorem ret_2 {a b c d : Value} (h : a = c) (h' : b = d) : Ending.returned (.tuple #[a, b]) = .returned (.tuple #[c, d]) := by rw [h, h']
theorem ret_bool {a b : Bool} (h : a = b) : Ending.returned (.bool a) = .returned (.bool b) := by rw [h]

theorem Ext.keep {w w' : World} (h : Ext w w') {a : Addr} {v : Value} (c : w.cell? a = some v) : w'.cell? a = some v := by
  have hlt : a.block < w.heap.size := by
    unfold World.cell? at c
    rcases Nat.lt_or_ge a.block w.heap.size with h | h
    · exact h
    · rw [Array.getElem?_eq_none h] at c; cases c
  rw [Below.cell h hlt]; exact c
theorem cell_lt {w : World} {b o : Nat} {v : Value} (c : w.cell? ⟨b, o, none⟩ = some v) : b < w.heap.size := by
  unfold World.cell? at c
  rcases Nat.lt_or_ge b w.heap.size with h | h
  · exact h
  · simp [Array.getElem?_eq_none h] at c

/-- a scope in which the run jumps back to one label: the passes first; the first of them by the same law -/
theorem wp_scope_jumps2 {P : Program} {a : Act} {w : World} {Q : Exit → Act → World → Prop} {c rest : Code} (l : Nat) (J : Act → World → Prop) (μ : Act → World → Nat) (hf : findLabel c l = some (Code.skip.seq rest))
    (pass : ∀ a w, J a w → rest.wp P (Exit.jump l (fun a' w' => J a' w' ∧ μ a' w' < μ a w) Q) a w)
    (first : (∀ a w, J a w → rest.wp P (Exit.jump l J Q) a w) → c.wp P (Exit.jump l J Q) a w) : (Code.scope c).wp P Q a w :=
  wp_scope_jumps l J μ hf (first fun a w h => Code.wp_mono (fun e a' w' q => by
    cases e with
    | goto l' => exact ⟨q.1, q.2.1⟩
    | _ => exact q) (pass a w h)) fun a w h => wp_seq (wp_skip (pass a w h))

/-- block b holds just these cells, and may be written -/
def Blk (w : World) (b : Nat) (C : Array Value) (t : TypeId) : Prop := w.heap[b]? = some (.cells C t)
theorem Blk.lt {w : World} {b : Nat} {C : Array Value} {t : TypeId} (h : Blk w b C t) : b < w.heap.size := lt_of_block h
theorem Blk.new (w : World) (C : Array Value) (t : TypeId) : Blk (w.alloc (.cells C t)) w.heap.size C t := (MapKept.heap_alloc w _).1
theorem Blk.new' (w : World) (C : Array Value) (t : TypeId) {b : Nat} (hb : b = w.heap.size) : Blk (w.alloc (.cells C t)) b C t := by subst hb; exact Blk.new w C t
theorem Blk.alloc {w : World} {b : Nat} {C : Array Value} {t : TypeId} (h : Blk w b C t) (o : Obj) : Blk (w.alloc o) b C t := ((MapKept.heap_alloc w o).2 b h.lt).trans h
theorem Blk.drew {w : World} {b : Nat} {C : Array Value} {t : TypeId} (h : Blk w b C t) : Blk w.drew b C t := h
theorem Blk.ext {w w' : World} {b : Nat} {C : Array Value} {t : TypeId} (h : Blk w b C t) (e : Ext w w') : Blk w' b C t := (e.block h.lt).trans h
theorem Blk.cell {w : World} {b : Nat} {C : Array Value} {t : TypeId} (h : Blk w b C t) (o : Nat) : w.cell? ⟨b, o, none⟩ = C[o]? := by simp [World.cell?, show w.heap[b]? = _ from h]
theorem Blk.free {w : World} {b : Nat} {C : Array Value} {t : TypeId} (h : Blk w b C t) (o : Nat) : w.frozen? ⟨b, o, none⟩ = false := by simp [World.frozen?, show w.heap[b]? = _ from h]
theorem Blk.set {w : World} {b : Nat} {C : Array Value} {t : TypeId} (h : Blk w b C t) (o : Nat) (v : Value) : Blk (w.setCell ⟨b, o, none⟩ v) b (C.setIfInBounds o v) t := by
  have hlt := h.lt
  have h' : w.heap[b] = .cells C t := by
    have := (Array.getElem?_eq_some_iff.1 (show w.heap[b]? = some (.cells C t) from h)).2
    exact this
  show (w.heap.modify b _)[b]? = _
  rw [Array.getElem?_eq_getElem (by simpa using hlt), Array.getElem_modify_self, h']
  simp
theorem Blk.other {w : World} {b : Nat} {C : Array Value} {t : TypeId} (h : Blk w b C t) {a : Addr} (ne : b ≠ a.block) (v : Value) : Blk (w.setCell a v) b C t := by
  show (w.setCell a v).heap[b]? = _
  rw [Below.heap_setCell _ _ _ _ ne]; exact h

theorem Blk.ne {w : World} {b c : Nat} {C D : Array Value} {t u : TypeId} (h : Blk w b C t) (k : Blk w c D u) (hs : C.size ≠ D.size) : b ≠ c := fun e => by
  subst e
  have := (show w.heap[b]? = some (.cells C t) from h).symm.trans (show w.heap[b]? = some (.cells D u) from k)
  simp at this
  exact hs (by rw [this.1])

/-- what was there is as it was but for block b; there may be new blocks -/
structure ExtB (b : Nat) (w w' : World) : Prop where
  os : w'.os = w.os
  tape : w'.tape = w.tape
  output : w'.output = w.output
  size : w.heap.size ≤ w'.heap.size
  block : ∀ k, k < w.heap.size → k ≠ b → w'.heap[k]? = w.heap[k]?
theorem ExtB.refl (b : Nat) (w : World) : ExtB b w w := ⟨rfl, rfl, rfl, Nat.le_refl _, fun _ _ _ => rfl⟩
theorem Ext.toB {w w' : World} (h : Ext w w') (b : Nat) : ExtB b w w' := ⟨Below.os h, Below.tape h, Below.output h, h.sz, fun k hk _ => Below.block h k hk⟩
theorem ExtB.trans {b : Nat} {x y z : World} (h : ExtB b x y) (k : ExtB b y z) : ExtB b x z :=
  ⟨k.os.trans h.os, k.tape.trans h.tape, k.output.trans h.output, Nat.le_trans h.size k.size, fun i hi hb => (k.block i (Nat.lt_of_lt_of_le hi h.size) hb).trans (h.block i hi hb)⟩
theorem ExtB.alloc {b : Nat} {x y : World} (h : ExtB b x y) (o : Obj) : ExtB b x (y.alloc o) := h.trans (((Ext.refl y).alloc o).toB b)
theorem ExtB.drew {b : Nat} {x y : World} (h : ExtB b x y) : ExtB b x y.drew := h.trans (((Ext.refl y).drew).toB b)
theorem ExtB.setCell {b : Nat} {x y : World} (h : ExtB b x y) (o : Nat) (v : Value) : ExtB b x (y.setCell ⟨b, o, none⟩ v) :=
  h.trans ⟨rfl, rfl, rfl, by simp [World.setCell], fun k _ hb => Below.heap_setCell _ _ _ _ hb⟩
theorem Blk.extB {w w' : World} {c b : Nat} {C : Array Value} {t : TypeId} (h : Blk w c C t) (e : ExtB b w w') (ne : c ≠ b) : Blk w' c C t := (e.block c h.lt ne).trans h
/-- a block of one's own may be written -/
theorem Ext.own {x y z : World} {b : Nat} (h : Ext x y) (e : ExtB b y z) (hb : x.heap.size ≤ b) : Ext x z :=
  ⟨e.os.trans (Below.os h), e.tape.trans (Below.tape h), e.output.trans (Below.output h), Nat.le_trans h.sz e.size, fun k hk => (e.block k (Nat.lt_of_lt_of_le hk h.sz) (by omega)).trans (Below.block h k hk)⟩

/-- '[]byte(s)': a new row that holds the string's bytes. -/
theorem conv_bytes {P : Program} (w : World) (src dst e : TypeId) (s : ByteArray) (hs : P.underlying src = some .string) (hd : P.underlying dst = some (.slice e)) (he : P.underlying e = some (.int .u8)) :
    ∃ c w', (convert src dst (.string s)).run P w = .ok (.slice (some ⟨w.heap.size, 0, none⟩) s.size c) w' ∧ Ext w w' ∧ w'.heap.size = w.heap.size + 1 ∧
      s.size ≤ c ∧ ∀ j (h : j < s.data.toList.length), w'.cell? ⟨w.heap.size, 0 + j, none⟩ = some (.int .u8 (s.data.toList[j].toNat : Int)) := by
  refine ⟨_, _, Lib.run_convert_string_bytes w src dst e s hs hd he, ?_, Lib.bytesWorld_size _ _ _, ?_, ?_⟩
  · exact ⟨rfl, rfl, rfl, by rw [Lib.bytesWorld_size]; omega, fun k hk => Lib.bytesWorld_at_old _ _ _ _ hk⟩
  · exact grownCap_ge _ _ _ _
  · intro j h
    have hj : j < s.size := by show j < s.data.size; rw [← Array.length_toList]; exact h
    rw [Nat.zero_add, Lib.bytesWorld_cell _ _ _ _ hj]
    congr 3
    rw [List.getD_eq_getElem?_getD, List.getElem?_eq_getElem h, Option.getD_some]
end Go.Proofs.YtknlojlcahgnoaaGreat

namespace Go.Proofs.YtknlojlcahgnoaaGreat
open Go.RowKit
set_option linter.unusedVariables false
set_option linter.unusedSimpArgs false

theorem wide_parts (n : Int) (w : World) :
    Calls Tryz.prog 198 #[.int .u64 n] w fun e w' => e = .returned (.agg #[.int .u64 (bits BinOp.and IntKind.u64 n 4294967295), .int .u64 (n / 4294967296)]) ∧ Ext w w' := by
  go_enter Tryz.func198, Tryz.ntmps198
  go_wp2
  exact bodyPost_ret (v := .agg #[.int .u64 (bits BinOp.and IntKind.u64 n 4294967295), .int .u64 (n / 4294967296)]) (by simp [results, Tryz.results198, go_sem]) rfl ⟨rfl, (by repeat (first | with_reducible exact Ext.refl _ | with_reducible assumption | with_reducible refine Ext.alloc ?_ _ | with_reducible refine Ext.drew ?_ | (with_reducible refine Ext.setCell ?_ (by first | exact Nat.le_refl _ | (dsimp only; omega) | (simp; done) | (simp; omega)) _) | with_reducible refine Ext.trans ?_ (by with_reducible assumption)))⟩

set_option maxHeartbeats 400000 in
theorem wide_Mul (a b : Int) (w : World) (ha0 : 0 ≤ a) (ha1 : a < 18446744073709551616) (hb0 : 0 ≤ b) (hb1 : b < 18446744073709551616)  :
    Calls Tryz.prog 154 #[.int .u64 a, .int .u64 b] w fun e w' => e = .returned (.tuple #[.int .u64 (a * b / 18446744073709551616), .int .u64 (a * b % 18446744073709551616)]) ∧ Ext w w' := by
  obtain ⟨h1, h2⟩ := mul_halves a b ha0 ha1 hb0 hb1
  have H1 := Lib.hid h1
  have H2 := Lib.hid h2
  clear h1 h2
  go_enter Tryz.func154, Tryz.ntmps154
  go_wp2_with (go_at_call 198; refine (wide_parts _ _).mono ?_; rintro e w' ⟨rfl, hb⟩)
  rw [H1.out, H2.out]
  go_ret2
  exact ⟨rfl, (by repeat (first | with_reducible exact Ext.refl _ | with_reducible assumption | with_reducible refine Ext.alloc ?_ _ | with_reducible refine Ext.drew ?_ | (with_reducible refine Ext.setCell ?_ (by first | exact Nat.le_refl _ | (dsimp only; omega) | (simp; done) | (simp; omega)) _) | with_reducible refine Ext.trans ?_ (by with_reducible assumption)))⟩

/-- the product, or the end -/
def satMul (a b : Int) : Int := if a * b < 18446744073709551616 then a * b else 18446744073709551615
theorem satMul_lt {a b : Int} (h : a * b < 18446744073709551616) : satMul a b = a * b := if_pos h
theorem satMul_ge {a b : Int} (h : ¬ a * b < 18446744073709551616) : satMul a b = 18446744073709551615 := if_neg h

theorem num_Mul (a b : Int) (w : World) (ha0 : 0 ≤ a) (ha1 : a < 18446744073709551616) (hb0 : 0 ≤ b) (hb1 : b < 18446744073709551616)  :
    Calls Tryz.prog 105 #[.int .u64 a, .int .u64 b] w fun e w' => e = .returned (.int .u64 (satMul a b)) ∧ Ext w w' := by
  have hp : 0 ≤ a * b := Int.mul_nonneg ha0 hb0
  by_cases h : a * b < 18446744073709551616
  · have h1 : (a * b / 18446744073709551616 != 0) = false := by rw [bne_eq_false_iff_eq]; omega
    have h2 := Lib.hid (show a * b % 18446744073709551616 = a * b by omega)
    have h3 := Lib.hid h
    clear h
    go_enter Tryz.func105, Tryz.ntmps105
    go_wp2_with (go_at_call 154; refine (wide_Mul _ _ _ ha0 ha1 hb0 hb1).mono ?_; rintro e w' ⟨rfl, hb⟩)
    go_ret
    exact ⟨ret_int (by rw [satMul_lt h3.out, h2.out]), (by repeat (first | with_reducible exact Ext.refl _ | with_reducible assumption | with_reducible refine Ext.alloc ?_ _ | with_reducible refine Ext.drew ?_ | (with_reducible refine Ext.setCell ?_ (by first | exact Nat.le_refl _ | (dsimp only; omega) | (simp; done) | (simp; omega)) _) | with_reducible refine Ext.trans ?_ (by with_reducible assumption)))⟩
  · have h1 : (a * b / 18446744073709551616 != 0) = true := by rw [bne_iff_ne]; omega
    have h3 := Lib.hid h
    clear h
    go_enter Tryz.func105, Tryz.ntmps105
    go_wp2_with (go_at_call 154; refine (wide_Mul _ _ _ ha0 ha1 hb0 hb1).mono ?_; rintro e w' ⟨rfl, hb⟩)
    go_ret
    exact ⟨ret_int (by rw [satMul_ge (Int.not_lt.2 h3.out)]), (by repeat (first | with_reducible exact Ext.refl _ | with_reducible assumption | with_reducible refine Ext.alloc ?_ _ | with_reducible refine Ext.drew ?_ | (with_reducible refine Ext.setCell ?_ (by first | exact Nat.le_refl _ | (dsimp only; omega) | (simp; done) | (simp; omega)) _) | with_reducible refine Ext.trans ?_ (by with_reducible assumption)))⟩

set_option maxHeartbeats 400000 in
theorem ref01_Mul (a b : Int) (w : World) (ha0 : 0 ≤ a) (ha1 : a < 18446744073709551616) (hb0 : 0 ≤ b) (hb1 : b < 18446744073709551616)  :
    Calls Tryz.prog 191 #[.int .u64 a, .int .u64 b] w fun e w' => e = .returned (.tuple #[.int .u64 (a * b / 18446744073709551616), .int .u64 (a * b % 18446744073709551616)]) ∧ w = w' := by
  go_enter Tryz.func191, Tryz.ntmps191
  go_wp2
  go_loop [6, 7, 8] (fun h l i => ∃ k : Nat, k ≤ 64 ∧ i = .int .i64 ((k : Int) - 1) ∧ ∃ hv lv, h = .int .u64 hv ∧ l = .int .u64 lv ∧ MulRel a b k hv lv) (fun _ _ i => (intOf i + 1).toNat)
  case atStart => exact ⟨64, by omega, by simp, 0, 0, rfl, rfl, mulRel_start a b hb0 hb1⟩
  case round =>
    obtain ⟨k, hk, rfl, hv, lv, rfl, rfl, R⟩ := hrel
    by_cases hlt : 1 ≤ k
    · go_wp2
      all_goals
        go_round
        case rel =>
          have hstep : ((k : Int) - 1 - 1) = ((k - 1 : Nat) : Int) - 1 := by omega
          refine ⟨k - 1, by omega, by rw [hstep], _, _, rfl, rfl, ?_⟩
          first
            | (have hbit : ((b / 2 ^ (k - 1)).tmod 2 == 1) = false := by with_reducible assumption
               with_reducible exact mulRel_zero ha0 ha1 hb0 hb1 hlt R hbit)
            | (have hbit : ((b / 2 ^ (k - 1)).tmod 2 == 1) = true := by with_reducible assumption
               have hc : IntKind.u64.wrap (IntKind.u64.wrap (lv * 2) + a) < IntKind.u64.wrap (lv * 2) := by with_reducible assumption
               with_reducible exact mulRel_carry ha0 ha1 hb0 hb1 hlt R hbit hc)
            | (have hbit : ((b / 2 ^ (k - 1)).tmod 2 == 1) = true := by with_reducible assumption
               have hc : IntKind.u64.wrap (lv * 2) ≤ IntKind.u64.wrap (IntKind.u64.wrap (lv * 2) + a) := by with_reducible assumption
               with_reducible exact mulRel_one ha0 ha1 hb0 hb1 hlt R hbit (Int.not_lt.2 hc))
        case measure => simp [intOf]; omega
    · go_wp2
      go_ret2
      obtain rfl : k = 0 := by omega
      obtain ⟨e1, e2⟩ := mulRel_end R
      exact ⟨ret_2 (val_int e1) (val_int e2), rfl⟩
theorem ref02_Mul (a b : Int) (w : World) (ha0 : 0 ≤ a) (ha1 : a < 18446744073709551616) (hb0 : 0 ≤ b) (hb1 : b < 18446744073709551616)  :
    Calls Tryz.prog 138 #[.int .u64 a, .int .u64 b] w fun e w' => e = .returned (.int .u64 (satMul a b)) ∧ w = w' := by
  have hp : 0 ≤ a * b := Int.mul_nonneg ha0 hb0
  by_cases h : a * b < 18446744073709551616
  · have h1 : ¬ 0 < a * b / 18446744073709551616 := by omega
    have h2 := Lib.hid (show a * b % 18446744073709551616 = a * b by omega)
    have h3 := Lib.hid h
    clear h
    go_enter Tryz.func138, Tryz.ntmps138
    go_wp2_with (go_at_call 191; refine (ref01_Mul _ _ _ ha0 ha1 hb0 hb1).mono ?_; rintro e w' ⟨rfl, rfl⟩)
    go_ret
    exact ⟨ret_int (by rw [satMul_lt h3.out, h2.out]), rfl⟩
  · have h1 : 0 < a * b / 18446744073709551616 := by omega
    have h3 := Lib.hid h
    clear h
    go_enter Tryz.func138, Tryz.ntmps138
    go_wp2_with (go_at_call 191; refine (ref01_Mul _ _ _ ha0 ha1 hb0 hb1).mono ?_; rintro e w' ⟨rfl, rfl⟩)
    go_ret
    exact ⟨ret_int (by rw [satMul_ge (Int.not_lt.2 h3.out)]), rfl⟩
end Go.Proofs.YtknlojlcahgnoaaGreat

namespace Go.Proofs.YtknlojlcahgnoaaGreat
set_option linter.unusedVariables false
set_option linter.unusedSimpArgs false

/-- a rule -/
structure Rl where
  p : ByteArray
  e : Int
  b : Int
  k : Int
/-- a node: its block, its map's, the bytes that lead to it, how many of them lead to its parent, its rule (and where it lies), and what goes on -/
structure Nd where
  a : Nat
  mb : Nat
  path : List UInt8
  plen : Nat
  rule : Option (Nat × Rl)
  kids : List (UInt8 × Nat × Nat)
  c : Nat

/-- a set of nodes -/
def NSet := Nd → Prop
instance nset_mem : Membership Nd NSet := ⟨fun s x => s x⟩

structure Trie (root : Nat) (ns : NSet) : Prop where
  inj : ∀ m ∈ ns, ∀ m' ∈ ns, m.a = m'.a → m = m'
  kid : ∀ n ∈ ns, ∀ x ∈ n.kids, ∃ m ∈ ns, m.a = x.2.1 ∧ m.plen = n.path.length ∧ n.path <+: m.path ∧ m.path[m.plen]? = some x.1
  keys : ∀ n ∈ ns, (n.kids.map (·.1)).Nodup
  par : ∀ m ∈ ns, m.path ≠ [] → ∃ n ∈ ns, ∃ x ∈ n.kids, x.2.1 = m.a
  top : ∀ m ∈ ns, m.path = [] → m.a = root
  root : ∃ r ∈ ns, r.a = root ∧ r.path = [] ∧ r.plen = 0
  map : ∀ m ∈ ns, ∀ m' ∈ ns, m.mb = m'.mb → m = m'
  nz : ∀ m ∈ ns, m.path ≠ [] → m.plen < m.path.length

section
variable {root : Nat} {ns : NSet}
/-- a node's parent, whole -/
theorem Trie.up (h : Trie root ns) {x : Nd} (hx : x ∈ ns) (hne : x.path ≠ []) : ∃ p ∈ ns, ∃ k ∈ p.kids, k.2.1 = x.a ∧ x.plen = p.path.length ∧ p.path <+: x.path ∧ x.path[p.path.length]? = some k.1 ∧ p.path.length < x.path.length := by
  obtain ⟨p, hp, k, hk, e⟩ := h.par x hx hne
  obtain ⟨m, hm, e1, e2, e3, e4⟩ := h.kid p hp k hk
  obtain rfl := h.inj m hm x hx (e1.trans e)
  rw [e2] at e4
  refine ⟨p, hp, k, hk, e, e2, e3, e4, ?_⟩
  rcases Nat.lt_or_ge p.path.length m.path.length with q | q
  · exact q
  · rw [List.getElem?_eq_none q] at e4; cases e4
end
end Go.Proofs.YtknlojlcahgnoaaGreat

namespace Go.Proofs.YtknlojlcahgnoaaGreat

def satAdd (a b : Int) : Int := if a + b < 18446744073709551616 then a + b else 18446744073709551615
def satSub (a b : Int) : Int := if b ≤ a then a - b else 0
def fitsB (a b c : Int) : Bool := decide (a + b ≤ c)
theorem satAdd_u (a b : Int) (ha : 0 ≤ a) (hb : 0 ≤ b) : 0 ≤ satAdd a b ∧ satAdd a b < 18446744073709551616 := by unfold satAdd; split <;> omega
theorem satSub_u (a b : Int) (ha : 0 ≤ a) (ha1 : a < 18446744073709551616) (hb : 0 ≤ b) : 0 ≤ satSub a b ∧ satSub a b ≤ a := by unfold satSub; split <;> omega
/-- how full a state is -/
def kFill (k a b now cap : Int) : Int :=
  if k = 1 then satSub a now else if k = 2 then cap - min (satAdd a (satSub now b)) cap else if k = 3 then satSub a (satSub now b) else 0
/-- a state that is so full: its two numbers -/
def kOfA (k now cap fill : Int) : Int := if k = 1 then satAdd now fill else if k = 2 then satSub cap fill else if k = 3 then fill else 0
def kOfB (k now : Int) : Int := if k = 1 then 0 else if k = 2 then now else if k = 3 then now else 0
/-- may it come in -/
def kOk (k a b now cap x : Int) : Bool :=
  if k = 1 then fitsB (max a now - now) x cap else if k = 2 then decide (x ≤ min (satAdd a (satSub now b)) cap) else if k = 3 then fitsB (satSub a (satSub now b)) x cap else false
theorem kFill_u (k a b now cap : Int) (ha0 : 0 ≤ a) (ha1 : a < 18446744073709551616) (hb0 : 0 ≤ b) (hn0 : 0 ≤ now) (hn1 : now < 18446744073709551616) (hc0 : 0 ≤ cap) (hc1 : cap < 18446744073709551616) :
    0 ≤ kFill k a b now cap ∧ kFill k a b now cap < 18446744073709551616 := by
  have h1 := satSub_u a now ha0 ha1 hn0
  have h2 := satSub_u now b hn0 hn1 hb0
  have h3 := satAdd_u a (satSub now b) ha0 h2.1
  have h4 := satSub_u a (satSub now b) ha0 ha1 h2.1
  unfold kFill
  repeat' split
  all_goals omega
end Go.Proofs.YtknlojlcahgnoaaGreat
