/- Plain lemmas on integers, bits and 128-bit products: no program in sight. -/
import Derived.WalkKit
namespace Go.Proofs.YtnlmbmbalmkiiaaGreat
open Go.RowKit

theorem wrap_u64 (n : Int) : IntKind.u64.wrap n = n % 18446744073709551616 := by
  simp [IntKind.wrap, IntKind.signed, IntKind.bits]
theorem wraps_u64 (n : Int) (h₀ : 0 ≤ n) (h₁ : n < 2 ^ 64) : IntKind.u64.wrap n = n := by rw [wrap_u64]; omega
theorem and_mask32 (a : Int) (h0 : 0 ≤ a) (h1 : a < 18446744073709551616) : bits .and .u64 a 4294967295 = a % 4294967296 :=
  bits_mask .u64 64 (by decide) wraps_u64 32 (by decide) a h0 h1
theorem or_join32 (x y : Int) (hx : 0 ≤ x) (hx' : x % 4294967296 = 0) (hx2 : x < 18446744073709551616) (hy : 0 ≤ y) (hy' : y < 4294967296) :
    bits .or .u64 x y = x + y :=
  bits_join .u64 64 (by decide) wraps_u64 32 x y hx hx' hx2 hy hy' (by omega)

theorem prod_lt (x y : Int) (hx : 0 ≤ x) (hy : 0 ≤ y) (hx' : x ≤ 4294967295) (hy' : y ≤ 4294967295) : 0 ≤ x * y ∧ x * y ≤ 18446744065119617025 := by
  refine ⟨Int.mul_nonneg hx hy, ?_⟩
  have := Int.mul_le_mul hx' hy' hy (by omega : (0:Int) ≤ 4294967295)
  omega
theorem prod_split (x1 x0 y1 y0 : Int) : (x1 * 4294967296 + x0) * (y1 * 4294967296 + y0) = (x1 * y1) * 18446744073709551616 + (x0 * y1) * 4294967296 + (x1 * y0) * 4294967296 + x0 * y0 := by
  simp only [Int.add_mul, Int.mul_add]
  have e1 : x1 * 4294967296 * (y1 * 4294967296) = (x1 * y1) * 18446744073709551616 := by
    rw [Int.mul_assoc, Int.mul_left_comm 4294967296 y1, ← Int.mul_assoc]; simp only [Int.reduceMul]
  have e2 : x1 * 4294967296 * y0 = (x1 * y0) * 4294967296 := by rw [Int.mul_right_comm]
  have e3 : x0 * (y1 * 4294967296) = (x0 * y1) * 4294967296 := by rw [Int.mul_assoc]
  omega

/-- THE PRODUCT OF 128 BITS by halves, in the walk's own spelling. -/
theorem mul_halves (a b : Int) (ha0 : 0 ≤ a) (ha1 : a < 18446744073709551616) (hb0 : 0 ≤ b) (hb1 : b < 18446744073709551616) :
    (IntKind.u64.wrap (IntKind.u64.wrap (IntKind.u64.wrap (a / 4294967296 * (b / 4294967296)) +
        IntKind.u64.wrap (IntKind.u64.wrap (a / 4294967296 * bits BinOp.and IntKind.u64 b 4294967295) +
          IntKind.u64.wrap (bits BinOp.and IntKind.u64 a 4294967295 * bits BinOp.and IntKind.u64 b 4294967295) / 4294967296) / 4294967296) +
      IntKind.u64.wrap (IntKind.u64.wrap (bits BinOp.and IntKind.u64 a 4294967295 * (b / 4294967296)) +
        bits BinOp.and IntKind.u64 (IntKind.u64.wrap (IntKind.u64.wrap (a / 4294967296 * bits BinOp.and IntKind.u64 b 4294967295) +
          IntKind.u64.wrap (bits BinOp.and IntKind.u64 a 4294967295 * bits BinOp.and IntKind.u64 b 4294967295) / 4294967296)) 4294967295) / 4294967296))
      = a * b / 18446744073709551616 ∧
    bits BinOp.or IntKind.u64 (IntKind.u64.wrap (IntKind.u64.wrap (IntKind.u64.wrap (bits BinOp.and IntKind.u64 a 4294967295 * (b / 4294967296)) +
        bits BinOp.and IntKind.u64 (IntKind.u64.wrap (IntKind.u64.wrap (a / 4294967296 * bits BinOp.and IntKind.u64 b 4294967295) +
          IntKind.u64.wrap (bits BinOp.and IntKind.u64 a 4294967295 * bits BinOp.and IntKind.u64 b 4294967295) / 4294967296)) 4294967295) * 4294967296))
      (bits BinOp.and IntKind.u64 (IntKind.u64.wrap (bits BinOp.and IntKind.u64 a 4294967295 * bits BinOp.and IntKind.u64 b 4294967295)) 4294967295)
      = a * b % 18446744073709551616 := by
  rw [and_mask32 a ha0 ha1, and_mask32 b hb0 hb1]
  have hab : a * b = (a / 4294967296 * (b / 4294967296)) * 18446744073709551616 + (a % 4294967296 * (b / 4294967296)) * 4294967296 +
      (a / 4294967296 * (b % 4294967296)) * 4294967296 + a % 4294967296 * (b % 4294967296) := by
    have := prod_split (a / 4294967296) (a % 4294967296) (b / 4294967296) (b % 4294967296)
    rw [← this]; congr 1 <;> omega
  obtain ⟨l1, u1⟩ := prod_lt (a / 4294967296) (b / 4294967296) (by omega) (by omega) (by omega) (by omega)
  obtain ⟨l2, u2⟩ := prod_lt (a % 4294967296) (b / 4294967296) (by omega) (by omega) (by omega) (by omega)
  obtain ⟨l3, u3⟩ := prod_lt (a / 4294967296) (b % 4294967296) (by omega) (by omega) (by omega) (by omega)
  obtain ⟨l4, u4⟩ := prod_lt (a % 4294967296) (b % 4294967296) (by omega) (by omega) (by omega) (by omega)
  rw [hab]
  generalize a / 4294967296 * (b / 4294967296) = p11 at *
  generalize a % 4294967296 * (b / 4294967296) = p01 at *
  generalize a / 4294967296 * (b % 4294967296) = p10 at *
  generalize a % 4294967296 * (b % 4294967296) = p00 at *
  simp only [wrap_u64]
  rw [and_mask32 _ (by omega) (by omega), and_mask32 _ (by omega) (by omega), or_join32 _ _ (by omega) (by omega) (by omega) (by omega) (by omega)]
  constructor <;> omega

/-- THE PRODUCT BIT BY BIT: of b the bits from k on are done. -/
def MulRel (a b : Int) (k : Nat) (h l : Int) : Prop := h * 18446744073709551616 + l = a * (b / 2 ^ k) ∧ 0 ≤ l ∧ l < 18446744073709551616 ∧ 0 ≤ h

theorem mulRel_start (a b : Int) (hb0 : 0 ≤ b) (hb1 : b < 18446744073709551616) : MulRel a b 64 0 0 := by
  have : b / 2 ^ 64 = 0 := by omega
  exact ⟨by rw [this]; simp, by omega, by omega, by omega⟩

theorem half_half (b : Int) (k : Nat) (hk : 1 ≤ k) : b / 2 ^ k = b / 2 ^ (k - 1) / 2 := by
  obtain ⟨j, rfl⟩ : ∃ j, k = j + 1 := ⟨k - 1, by omega⟩
  rw [Nat.add_sub_cancel, Int.pow_succ, ← Int.ediv_ediv_of_nonneg (Int.pow_nonneg (by omega))]

theorem part_le (b : Int) (k : Nat) (hb0 : 0 ≤ b) : 0 ≤ b / 2 ^ k ∧ b / 2 ^ k ≤ b :=
  ⟨Int.ediv_nonneg hb0 (Int.pow_nonneg (by omega)), Int.ediv_le_self _ hb0⟩

theorem mulRel_parts {a b : Int} {k : Nat} {h l : Int} (ha0 : 0 ≤ a) (ha1 : a < 18446744073709551616) (hb0 : 0 ≤ b) (hb1 : b < 18446744073709551616) (hk : 1 ≤ k) (R : MulRel a b k h l) :
    ∃ t m : Int, t = h * 18446744073709551616 + l ∧ a * (b / 2 ^ (k - 1)) = 2 * t + m ∧ 0 ≤ a * (b / 2 ^ (k - 1)) ∧ a * (b / 2 ^ (k - 1)) < 340282366920938463463374607431768211456 ∧
      ((((b / 2 ^ (k - 1)).tmod 2 == 1) = true ∧ m = a) ∨ (((b / 2 ^ (k - 1)).tmod 2 == 1) = false ∧ m = 0)) := by
  obtain ⟨h0, h1, h2, h3⟩ := R
  rw [half_half b k hk] at h0
  obtain ⟨hB0, hB1⟩ := part_le b (k - 1) hb0
  generalize b / 2 ^ (k - 1) = B at *
  have hm : B.tmod 2 = B % 2 := Int.tmod_eq_emod_of_nonneg hB0
  have hup : a * B ≤ 18446744073709551615 * 18446744073709551615 := Int.mul_le_mul (by omega) (by omega) hB0 (by omega)
  have hlo : 0 ≤ a * B := Int.mul_nonneg ha0 hB0
  refine ⟨_, a * (B % 2), rfl, ?_, hlo, by omega, ?_⟩
  · rw [h0]
    have e : B = 2 * (B / 2) + B % 2 := by omega
    conv => lhs; rw [e]
    rw [Int.mul_add, Int.mul_left_comm]
  · rw [hm]
    rcases (by omega : B % 2 = 0 ∨ B % 2 = 1) with e | e <;> rw [e] <;> simp

theorem mulRel_zero {a b : Int} {k : Nat} {h l : Int} (ha0 : 0 ≤ a) (ha1 : a < 18446744073709551616) (hb0 : 0 ≤ b) (hb1 : b < 18446744073709551616) (hk : 1 ≤ k) (R : MulRel a b k h l)
    (hbit : ((b / 2 ^ (k - 1)).tmod 2 == 1) = false) :
    MulRel a b (k - 1) (IntKind.u64.wrap (IntKind.u64.wrap (h * 2) + l / 9223372036854775808)) (IntKind.u64.wrap (l * 2)) := by
  obtain ⟨t, m, ht, he, h0, h1, hc⟩ := mulRel_parts ha0 ha1 hb0 hb1 hk R
  obtain ⟨-, r1, r2, r3⟩ := R
  rcases hc with ⟨hc, -⟩ | ⟨-, rfl⟩
  · rw [hbit] at hc; cases hc
  simp only [wrap_u64]
  refine ⟨?_, by omega, by omega, by omega⟩
  rw [he] at h0 h1 ⊢
  omega

theorem mulRel_one {a b : Int} {k : Nat} {h l : Int} (ha0 : 0 ≤ a) (ha1 : a < 18446744073709551616) (hb0 : 0 ≤ b) (hb1 : b < 18446744073709551616) (hk : 1 ≤ k) (R : MulRel a b k h l)
    (hbit : ((b / 2 ^ (k - 1)).tmod 2 == 1) = true) (hcarry : ¬ IntKind.u64.wrap (IntKind.u64.wrap (l * 2) + a) < IntKind.u64.wrap (l * 2)) :
    MulRel a b (k - 1) (IntKind.u64.wrap (IntKind.u64.wrap (h * 2) + l / 9223372036854775808)) (IntKind.u64.wrap (IntKind.u64.wrap (l * 2) + a)) := by
  obtain ⟨t, m, ht, he, h0, h1, hc⟩ := mulRel_parts ha0 ha1 hb0 hb1 hk R
  obtain ⟨-, r1, r2, r3⟩ := R
  rcases hc with ⟨-, rfl⟩ | ⟨hc, -⟩
  rotate_left
  · rw [hbit] at hc; cases hc
  simp only [wrap_u64] at hcarry ⊢
  refine ⟨?_, by omega, by omega, by omega⟩
  rw [he] at h0 h1 ⊢
  omega

theorem mulRel_carry {a b : Int} {k : Nat} {h l : Int} (ha0 : 0 ≤ a) (ha1 : a < 18446744073709551616) (hb0 : 0 ≤ b) (hb1 : b < 18446744073709551616) (hk : 1 ≤ k) (R : MulRel a b k h l)
    (hbit : ((b / 2 ^ (k - 1)).tmod 2 == 1) = true) (hcarry : IntKind.u64.wrap (IntKind.u64.wrap (l * 2) + a) < IntKind.u64.wrap (l * 2)) :
    MulRel a b (k - 1) (IntKind.u64.wrap (IntKind.u64.wrap (IntKind.u64.wrap (h * 2) + l / 9223372036854775808) + 1)) (IntKind.u64.wrap (IntKind.u64.wrap (l * 2) + a)) := by
  obtain ⟨t, m, ht, he, h0, h1, hc⟩ := mulRel_parts ha0 ha1 hb0 hb1 hk R
  obtain ⟨-, r1, r2, r3⟩ := R
  rcases hc with ⟨-, rfl⟩ | ⟨hc, -⟩
  rotate_left
  · rw [hbit] at hc; cases hc
  simp only [wrap_u64] at hcarry ⊢
  refine ⟨?_, by omega, by omega, by omega⟩
  rw [he] at h0 h1 ⊢
  omega

theorem mulRel_end {a b h l : Int} (R : MulRel a b 0 h l) : h = a * b / 18446744073709551616 ∧ l = a * b % 18446744073709551616 := by
  obtain ⟨h0, h1, h2, h3⟩ := R
  have : a * (b / 2 ^ 0) = a * b := by simp
  rw [this] at h0
  constructor <;> omega
end Go.Proofs.YtnlmbmbalmkiiaaGreat
