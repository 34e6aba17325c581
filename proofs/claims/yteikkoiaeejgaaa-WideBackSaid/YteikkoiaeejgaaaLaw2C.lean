/-
  What WideBack's calls answer, one after the other, in the words of the numbers that came in.
-/
import Derived.Test.YteikkoiaeejgaaaLaw2
namespace Go.Proofs.Yteikkoiaeejgaaa
open Go.RowKit Go.Shelf

theorem wd_hl {h l : Int} (_hh : Wd h) (hl : Wd l) : hiOf (num h l) = h ∧ loOf (num h l) = l := ⟨hi_num hl.1 hl.2, lo_num hl.1 hl.2⟩
theorem wd_mod (x : Int) : Wd (hiOf (x % bit128)) ∧ Wd (loOf (x % bit128)) := by
  have h0 : 0 ≤ x % bit128 := Int.emod_nonneg _ (by decide)
  have h1 : x % bit128 < bit128 := Int.emod_lt_of_pos _ (by decide)
  unfold bit128 at h0 h1 ⊢
  exact ⟨Wd.hi h0 h1, Wd.lo _⟩

/-- A sum less the one number is the other one; it goes below just where the sum went over. -/
theorem sub_back (ah al bh bl : Int) (w : World) (hah : Wd ah) (hal : Wd al) (hbh : Wd bh) (hbl : Wd bl) :
    Calls Try.prog 12 #[.agg #[.int .u64 (hiOf ((num ah al + num bh bl) % bit128)), .int .u64 (loOf ((num ah al + num bh bl) % bit128))], .agg #[.int .u64 bh, .int .u64 bl]] w fun e w' =>
      e = .returned (.tuple #[.agg #[.int .u64 ah, .int .u64 al], .bool (decide (bit128 ≤ num ah al + num bh bl))]) ∧ Below w.heap.size w w' := by
  obtain ⟨m1, m2⟩ := wd_mod (num ah al + num bh bl)
  obtain ⟨a0, a1⟩ := num_bd hah hal
  obtain ⟨b0, b1⟩ := num_bd hbh hbl
  obtain ⟨e1, e2⟩ := wd_hl hah hal
  refine (wsub_any _ _ _ _ w m1 m2 hbh hbl).mono fun e w' ⟨he, hb⟩ => ⟨?_, hb⟩
  rw [he, num_parts]
  have k1 : ((num ah al + num bh bl) % bit128 - num bh bl) % bit128 = num ah al := by unfold bit128; omega
  have k2 : decide ((num ah al + num bh bl) % bit128 < num bh bl) = decide (bit128 ≤ num ah al + num bh bl) := by rw [decide_eq_decide]; unfold bit128; omega
  rw [k1, k2, e1, e2]

/-- A quotient times the divisor stays within two words. -/
theorem times_back (h l b : Nat) (w : World) (hh : h < 18446744073709551616) (hl : l < 18446744073709551616) (hb : 0 < b) (hb1 : b < 18446744073709551616) :
    Calls Try.prog 31 #[.agg #[.int .u64 (hiOf (((h * 18446744073709551616 + l) / b : Nat) : Int)), .int .u64 (loOf (((h * 18446744073709551616 + l) / b : Nat) : Int))], .int .u64 b] w fun e w' =>
      e = .returned (.agg #[.int .u64 0, .int .u64 (hiOf (((h * 18446744073709551616 + l) / b * b : Nat) : Int)), .int .u64 (loOf (((h * 18446744073709551616 + l) / b * b : Nat) : Int))]) ∧ Below w.heap.size w w' := by
  have hA : h * 18446744073709551616 + l < 340282366920938463463374607431768211456 := by omega
  have hq := Nat.div_le_self (h * 18446744073709551616 + l) b
  have hm := Nat.div_mul_le_self (h * 18446744073709551616 + l) b
  generalize h * 18446744073709551616 + l = A at *
  have e0 : ((A / b * b : Nat) : Int) = ((A / b : Nat) : Int) * (b : Int) := by simp
  generalize A / b = q at *
  have e1 : 0 ≤ (q : Int) * b ∧ (q : Int) * b < 340282366920938463463374607431768211456 := by rw [← e0]; omega
  refine (times_any _ _ _ w (Wd.hi (by omega) (by omega)) (Wd.lo _) ⟨by omega, by omega⟩).mono fun e w' ⟨he, hb⟩ => ⟨?_, hb⟩
  rw [he, num_parts, e0]
  have k1 : hiOf (hiOf ((q : Int) * b)) = 0 := by unfold hiOf; omega
  have k2 : loOf (hiOf ((q : Int) * b)) = hiOf ((q : Int) * b) := by unfold loOf hiOf; omega
  rw [k1, k2]
/-- The quotient times the divisor, and what is left, is the number. -/
theorem add_back (h l b : Nat) (w : World) (hh : h < 18446744073709551616) (hl : l < 18446744073709551616) (hb : 0 < b) (hb1 : b < 18446744073709551616) :
    Calls Try.prog 10 #[.agg #[.int .u64 (hiOf (((h * 18446744073709551616 + l) / b * b : Nat) : Int)), .int .u64 (loOf (((h * 18446744073709551616 + l) / b * b : Nat) : Int))], .agg #[.int .u64 0, .int .u64 (((h * 18446744073709551616 + l) % b : Nat) : Int)]] w fun e w' =>
      e = .returned (.tuple #[.agg #[.int .u64 h, .int .u64 l], .bool false]) ∧ Below w.heap.size w w' := by
  have hA : h * 18446744073709551616 + l < 340282366920938463463374607431768211456 := by omega
  have hm := Nat.div_mul_le_self (h * 18446744073709551616 + l) b
  have hr := Nat.mod_lt (h * 18446744073709551616 + l) hb
  have hd : (h * 18446744073709551616 + l) / b * b + (h * 18446744073709551616 + l) % b = h * 18446744073709551616 + l := by rw [Nat.mul_comm]; exact Nat.div_add_mod _ _
  generalize (h * 18446744073709551616 + l) / b * b = P at *
  generalize (h * 18446744073709551616 + l) % b = r at *
  refine (wadd_any _ _ _ _ w (Wd.hi (by omega) (by omega)) (Wd.lo _) ⟨by omega, by omega⟩ ⟨by omega, by omega⟩).mono fun e w' ⟨he, hb⟩ => ⟨?_, hb⟩
  rw [he, num_parts]
  have k1 : ((P : Int) + num 0 (r : Int)) = num (h : Int) (l : Int) := by unfold num; omega
  have k2 : num (h : Int) (l : Int) % bit128 = num (h : Int) (l : Int) := by unfold num bit128; omega
  have k3 : decide (bit128 ≤ num (h : Int) (l : Int)) = false := by simp; unfold num bit128; omega
  rw [k1, k2, k3, hi_num (by omega) (by omega), lo_num (by omega) (by omega)]

/-- What is shifted up by k places, as a product, and dropped by k, is as it was. -/
theorem drop_back (h l : Int) (k : Nat) (w : World) (hh : Wd h) (hl : Wd l) (hk : k < 64) :
    Calls Try.prog 32 #[.agg #[.int .u64 (hiOf (hiOf (num h l * 2 ^ k))), .int .u64 (loOf (hiOf (num h l * 2 ^ k))), .int .u64 (loOf (num h l * 2 ^ k))], .int .i64 k] w fun e w' =>
      e = .returned (.tuple #[.agg #[.int .u64 0, .int .u64 h, .int .u64 l], .bool false]) ∧ Below w.heap.size w w' := by
  obtain ⟨a0, a1⟩ := num_bd hh hl
  obtain ⟨e1, e2⟩ := wd_hl hh hl
  have hP := pow_pos' k
  have hP2 : (2 : Int) ^ k ≤ 18446744073709551616 := by
    have := Nat.pow_le_pow_right (n := 2) (by omega) (show k ≤ 64 by omega)
    have e : ((2 ^ k : Nat) : Int) ≤ ((2 ^ 64 : Nat) : Int) := by omega
    simpa using e
  have hX0 : 0 ≤ num h l * 2 ^ k := Int.mul_nonneg a0 (Int.le_of_lt hP)
  have hX1 : num h l * 2 ^ k < 6277101735386680763835789423207666416102355444464034512896 := by
    have := Int.mul_le_mul (show num h l ≤ 340282366920938463463374607431768211455 by omega) hP2 (Int.le_of_lt hP) (by decide)
    omega
  have d1 : num h l * 2 ^ k / 2 ^ k = num h l := Int.mul_ediv_cancel _ (Int.ne_of_gt hP)
  have d2 : num h l * 2 ^ k % 2 ^ k = 0 := Int.mul_emod_left _ _
  generalize hX : num h l * 2 ^ k = X at *
  have w1 : Wd (hiOf (hiOf X)) := by unfold Wd hiOf; omega
  refine (drop_any _ _ _ (k : Int) w w1 (Wd.lo _) (Wd.lo _) (by omega)).mono fun e w' ⟨he, hb⟩ => ⟨?_, hb⟩
  have k0 : num3 (hiOf (hiOf X)) (loOf (hiOf X)) (loOf X) = X := by unfold num3; rw [num_parts, num_parts]
  have k1 : hiOf (hiOf (num h l)) = 0 := by rw [e1]; unfold hiOf; obtain ⟨p, q⟩ := hh; omega
  have k2 : loOf (hiOf (num h l)) = h := by rw [e1]; unfold loOf; obtain ⟨p, q⟩ := hh; omega
  rw [he, k0, Int.toNat_natCast, d1, d2, k1, k2, e2]
  rfl
/-- Where nothing goes over the end, a shift up and down again leaves the number. -/
theorem shl_back (h l : Int) (k : Nat) (hh : Wd h) (hl : Wd l) (hk : (Pl.bl (num h l).toNat : Int) + k ≤ 128) : num h l * 2 ^ k % bit128 = num h l * 2 ^ k ∧ 0 ≤ num h l * 2 ^ k ∧ num h l * 2 ^ k < bit128 := by
  obtain ⟨a0, a1⟩ := num_bd hh hl
  obtain ⟨N, hN⟩ : ∃ N : Nat, num h l = N := ⟨(num h l).toNat, by omega⟩
  rw [hN] at hk ⊢
  rw [Int.toNat_natCast] at hk
  have hP := Nat.two_pow_pos k
  have h2 := Pl.lt_two_bl N
  have h3 : N * 2 ^ k < 2 ^ 128 := by
    have := (Nat.mul_lt_mul_right hP).2 h2
    rw [← Nat.pow_add] at this
    exact Nat.lt_of_lt_of_le this (Nat.pow_le_pow_right (by omega) (by omega))
  have e : (N : Int) * 2 ^ k = ((N * 2 ^ k : Nat) : Int) := by simp
  have p : (2 : Nat) ^ 128 = 340282366920938463463374607431768211456 := by decide
  rw [e]
  generalize N * 2 ^ k = X at *
  unfold bit128
  omega
theorem shr_back (h l : Int) (k : Nat) (w : World) (hh : Wd h) (hl : Wd l) (hk : (Pl.bl (num h l).toNat : Int) + k ≤ 128) (hk1 : k < 64) :
    Calls Try.prog 22 #[.agg #[.int .u64 (hiOf (num h l * 2 ^ k % bit128)), .int .u64 (loOf (num h l * 2 ^ k % bit128))], .int .i64 k] w fun e w' =>
      e = .returned (.tuple #[.agg #[.int .u64 h, .int .u64 l], .bool false]) ∧ Below w.heap.size w w' := by
  obtain ⟨s1, s2, s3⟩ := shl_back h l k hh hl hk
  obtain ⟨e1, e2⟩ := wd_hl hh hl
  have hP := pow_pos' k
  have d1 : num h l * 2 ^ k / 2 ^ k = num h l := Int.mul_ediv_cancel _ (Int.ne_of_gt hP)
  have d2 : num h l * 2 ^ k % 2 ^ k = 0 := Int.mul_emod_left _ _
  rw [s1]
  generalize num h l * 2 ^ k = X at *
  unfold bit128 at s3
  refine (shr_any _ _ (k : Int) w (Wd.hi s2 s3) (Wd.lo _) (by omega)).mono fun e w' ⟨he, hb⟩ => ⟨?_, hb⟩
  rw [he, num_parts, Int.toNat_natCast, d1, d2, e1, e2]
  rfl
end Go.Proofs.Yteikkoiaeejgaaa
