/-
  What the walks lean on: bits of 64-bit words as sums and remainders; worlds that only grow; the library's contracts in the walk's spelling.
-/
import Derived.Test.YtjlmchbpdkojeaaShelf
import Derived.Test.YtjlmchbpdkojeaaPlainA
import Derived.WalkKit
import Derived.WalkSpells
import Derived.WalkLawsBesides
import Derived.BigQuiet
import Derived.Deep.QuietTactic
import Derived.Deep.RegionHeld3
import Derived.Deep.DeepFit
import Derived.Lib.Hide
namespace Go.Proofs.Ytjlmchbpdkojeaa
open Go.RowKit Go.Shelf

/-! ### Words of 64 bits -/
theorem wraps_u64 (n : Int) (h₀ : 0 ≤ n) (h₁ : n < 2 ^ 64) : IntKind.u64.wrap n = n := by rw [IntKind.wrap_u64]; omega
theorem wraps_u32 (n : Int) (h₀ : 0 ≤ n) (h₁ : n < 2 ^ 32) : IntKind.u32.wrap n = n := by rw [IntKind.wrap_u32]; omega

section
variable (x y : Int)
theorem and_2047 (h₀ : 0 ≤ x) (h₁ : x < 18446744073709551616) : bits .and .u64 x 2047 = x % 2048 := bits_mask .u64 64 (by decide) wraps_u64 11 (by decide) x h₀ (by omega)
theorem and_f (h₀ : 0 ≤ x) (h₁ : x < 18446744073709551616) : bits .and .u64 x 4503599627370495 = x % 4503599627370496 := bits_mask .u64 64 (by decide) wraps_u64 52 (by decide) x h₀ (by omega)
theorem and_1 (h₀ : 0 ≤ x) (h₁ : x < 18446744073709551616) : bits .and .u64 x 1 = x % 2 := bits_mask .u64 64 (by decide) wraps_u64 1 (by decide) x h₀ (by omega)
theorem and_pow (i : Nat) (hi : i ≤ 64) (h₀ : 0 ≤ x) (h₁ : x < 18446744073709551616) : bits .and .u64 x (2 ^ i - 1) = x % 2 ^ i := bits_mask .u64 64 (by decide) wraps_u64 i (by omega) x h₀ (by omega)
theorem or_one (h₀ : 0 ≤ y) (h₁ : y < 4503599627370496) : bits .or .u64 4503599627370496 y = 4503599627370496 + y :=
  bits_join .u64 64 (by decide) wraps_u64 52 4503599627370496 y (by decide) (by decide) (by decide) h₀ (by omega) (by omega)
theorem bits_or_comm (k : IntKind) (a b : Int) : bits .or k a b = bits .or k b a := by unfold bits; simp only [BitVec.or_comm]
theorem or_sign (h₀ : 0 ≤ x) (h₁ : x < 9223372036854775808) : bits .or .u64 x 9223372036854775808 = x + 9223372036854775808 := by
  rw [bits_or_comm, bits_join .u64 64 (by decide) wraps_u64 63 9223372036854775808 x (by decide) (by decide) (by decide) h₀ (by omega) (by omega)]; omega
theorem or_join (i : Nat) (hx₀ : 0 ≤ x) (hx : x % 2 ^ i = 0) (hx₁ : x < 18446744073709551616) (hy₀ : 0 ≤ y) (hy : y < 2 ^ i) (hy₁ : y < 18446744073709551616) : bits .or .u64 x y = x + y :=
  bits_join .u64 64 (by decide) wraps_u64 i x y hx₀ hx (by omega) hy₀ hy (by omega)
theorem xor_sign (h₀ : 0 ≤ x) (h₁ : x < 18446744073709551616) : bits .xor .u64 x 9223372036854775808 = (x + 9223372036854775808) % 18446744073709551616 := by
  obtain ⟨a, rfl⟩ := Int.eq_ofNat_of_zero_le h₀
  have e := bits_xor_u64_nat a 9223372036854775808 (by omega) (by decide)
  have e2 : a ^^^ 9223372036854775808 = (a + 9223372036854775808) % 18446744073709551616 := by
    have hp : (9223372036854775808 : Nat) = 2 ^ 63 := by decide
    have hq : (18446744073709551616 : Nat) = 2 ^ 64 := by decide
    have ha : a < 2 ^ 64 := by omega
    rw [hp, hq]
    apply Nat.eq_of_testBit_eq
    intro i
    rw [Nat.testBit_xor, Nat.testBit_mod_two_pow, Nat.add_comm, Nat.testBit_two_pow]
    rcases Nat.lt_trichotomy i 63 with h | h | h
    · rw [Nat.testBit_two_pow_add_gt h]
      have h1 : decide (63 = i) = false := by simp; omega
      have h2 : decide (i < 64) = true := by simp; omega
      rw [h1, h2]; simp
    · subst h
      rw [Nat.testBit_two_pow_add_eq]
      simp
    · have h1 : decide (63 = i) = false := by simp; omega
      have h2 : decide (i < 64) = false := by simp; omega
      have h3 : a.testBit i = false := Nat.testBit_lt_two_pow (Nat.lt_of_lt_of_le ha (Nat.pow_le_pow_right (by omega) (by omega)))
      rw [h1, h2, h3]; simp
  rw [e2] at e
  have e3 : ((9223372036854775808 : Nat) : Int) = 9223372036854775808 := rfl
  rw [e3] at e
  rw [e]
  omega
theorem andNot_sign (h₀ : 0 ≤ x) (h₁ : x < 18446744073709551616) : bits .andNot .u64 x 9223372036854775808 = x % 9223372036854775808 := by
  have h := bits_mask .u64 64 (by decide) wraps_u64 63 (by decide) x h₀ (by omega)
  have e : bits .andNot .u64 x 9223372036854775808 = bits .and .u64 x (2 ^ 63 - 1) := by
    unfold bits
    have : ~~~(BitVec.ofInt IntKind.u64.bits 9223372036854775808) = BitVec.ofInt IntKind.u64.bits (2 ^ 63 - 1) := by decide
    simp only [this]
  rw [e, h]; rfl
end

/-! ### The library's contracts, over Int -/
theorem add64 (x y c : Int) (hx : 0 ≤ x) (hy : 0 ≤ y) (hc0 : 0 ≤ c) (hc : c ≤ 1) (w : World) : (callFunc 84 #[.int .u64 x, .int .u64 y, .int .u64 c]).run Try.prog w =
    .ok (.value (.tuple #[.int .u64 ((x + y + c) % 18446744073709551616), .int .u64 ((x + y + c) / 18446744073709551616)])) w := by
  obtain ⟨x, rfl⟩ := Int.eq_ofNat_of_zero_le hx
  obtain ⟨y, rfl⟩ := Int.eq_ofNat_of_zero_le hy
  obtain ⟨c, rfl⟩ := Int.eq_ofNat_of_zero_le hc0
  refine (Any7.bits_Add64 Try.lays25 x y c (by omega) w).trans ?_
  congr 5 <;> omega
/-- The borrow. -/
def bor (x y : Int) : Int := if x < y then 1 else 0
theorem bor_01 (x y : Int) : bor x y = 0 ∨ bor x y = 1 := by unfold bor; split <;> simp
theorem bor_ge (x y : Int) : 0 ≤ bor x y := by have := bor_01 x y; omega
theorem bor_le (x y : Int) : bor x y ≤ 1 := by have := bor_01 x y; omega
theorem sub64 (x y b : Int) (hx : 0 ≤ x) (hy : 0 ≤ y) (hy' : y < 18446744073709551616) (hb0 : 0 ≤ b) (hb : b ≤ 1) (w : World) : (callFunc 85 #[.int .u64 x, .int .u64 y, .int .u64 b]).run Try.prog w =
    .ok (.value (.tuple #[.int .u64 ((x - y - b) % 18446744073709551616), .int .u64 (bor x (y + b))])) w := by
  obtain ⟨x, rfl⟩ := Int.eq_ofNat_of_zero_le hx
  obtain ⟨y, rfl⟩ := Int.eq_ofNat_of_zero_le hy
  obtain ⟨b, rfl⟩ := Int.eq_ofNat_of_zero_le hb0
  have e1 : (((x + 18446744073709551616 - y - b) % 18446744073709551616 : Nat) : Int) = ((x : Int) - y - b) % 18446744073709551616 := by omega
  have e2 : ((if x < y + b then 1 else 0 : Nat) : Int) = bor (x : Int) (y + b) := by unfold bor; split <;> split <;> omega
  rw [← e1, ← e2]
  exact Any7.bits_Sub64 Try.lays26 x y b (by omega) w
theorem add64_0 (x y : Int) (hx : 0 ≤ x) (hy : 0 ≤ y) (w : World) : (callFunc 84 #[.int .u64 x, .int .u64 y, .int .u64 0]).run Try.prog w =
    .ok (.value (.tuple #[.int .u64 ((x + y) % 18446744073709551616), .int .u64 ((x + y) / 18446744073709551616)])) w := by
  simpa using add64 x y 0 hx hy (Int.le_refl 0) (by decide) w
theorem sub64_0 (x y : Int) (hx : 0 ≤ x) (hy : 0 ≤ y) (hy' : y < 18446744073709551616) (w : World) : (callFunc 85 #[.int .u64 x, .int .u64 y, .int .u64 0]).run Try.prog w =
    .ok (.value (.tuple #[.int .u64 ((x - y) % 18446744073709551616), .int .u64 (bor x y)])) w := by
  simpa using sub64 x y 0 hx hy hy' (Int.le_refl 0) (by decide) w
theorem bl_half (n : Nat) (h : n ≠ 0) : Pl.bl n = 1 + Pl.bl (n / 2) := by
  have h2 := Pl.lt_two_bl (n / 2)
  by_cases h0 : n / 2 = 0
  · have : n = 1 := by omega
    subst this; decide
  · have h1 := Pl.two_bl_le h0
    have h3 := Pl.bl_pos h0
    have e : Pl.bl (n / 2) = Pl.bl (n / 2) - 1 + 1 := by omega
    have h4 : 2 ^ Pl.bl (n / 2) ≤ n := by
      rw [e, Nat.pow_succ 2]; omega
    have := Pl.bl_eq h4 (by rw [Nat.pow_succ 2]; omega)
    omega
theorem bitLen_eq (n : Nat) (h : n < 18446744073709551616) : Lib.bitLen n = Pl.bl n := by
  induction n using Nat.strongRecOn with
  | ind n ih =>
    by_cases h0 : n = 0
    · subst h0; decide
    · rw [Lib.bitLen_half n h0 h, bl_half n h0, ih (n / 2) (by omega) (by omega)]
theorem len64 (x : Int) (w : World) (h0 : 0 ≤ x) (h1 : x < 18446744073709551616) :
    Calls Try.prog 79 #[.int .u64 x] w fun e w' => e = .returned (.int .i64 (Pl.bl x.toNat)) ∧ w = w' :=
  (Try.bits_Len64 x w h0 (by omega)).mono fun _ _ ⟨he, hw⟩ => ⟨by rw [he, bitLen_eq _ (by omega)], hw.symm⟩
end Go.Proofs.Ytjlmchbpdkojeaa
