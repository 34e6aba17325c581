/-
  FloatNexts, FloatOrders: the walks.
-/
import Derived.Test.YtlndpbjolgjloaaLaw3
import Derived.Test.YtlndpbjolgjloaaPlainB
namespace Go.Proofs.Ytlndpbjolgjloaa
open Go.RowKit Go.Shelf

theorem kd_pos {X : Int} (h0 : 0 ≤ X) (h1 : X < 9223372036854775808) : kd X = if X = 0 then 0 else if X < 4503599627370496 then 1 else if X < 9218868437227405312 then 2 else if X = 9218868437227405312 then 3 else 4 := by
  unfold kd; (repeat' split) <;> omega
theorem kd_high {x : Int} (_h0 : 9223372036854775808 ≤ x) (_h1 : x < 18446744073709551616) : kd x = kd (x - 9223372036854775808) := by
  unfold kd
  have e1 : (x - 9223372036854775808) / 4503599627370496 % 2048 = x / 4503599627370496 % 2048 := by omega
  have e2 : (x - 9223372036854775808) % 4503599627370496 = x % 4503599627370496 := by omega
  rw [e1, e2]
theorem neg_lo {x : Int} (h0 : 0 ≤ x) (h1 : x ≤ 9218868437227405312) : negI x = x + 9223372036854775808 := by
  unfold negI
  rw [kd_pos h0 (by omega)]
  (repeat' split) <;> omega
theorem neg_hi {x : Int} (h0 : 9223372036854775808 ≤ x) (h1 : x ≤ 18442240474082181120) : negI x = x - 9223372036854775808 := by
  unfold negI
  rw [kd_high h0 (by omega), kd_pos (by omega) (by omega)]
  (repeat' split) <;> omega
theorem next_lo {x : Int} (h0 : 0 < x) (h1 : x < 9218868437227405312) : nextI x = x + 1 := by
  unfold nextI
  rw [kd_pos (by omega) (by omega)]
  (repeat' split) <;> omega
theorem next_hi {x : Int} (h0 : 9223372036854775808 < x) (h1 : x ≤ 18442240474082181120) : nextI x = x - 1 := by
  unfold nextI
  rw [kd_high (by omega) (by omega), kd_pos (by omega) (by omega)]
  (repeat' split) <;> omega
theorem prev_lo {x : Int} (h0 : 0 < x) (h1 : x ≤ 9218868437227405312) : prevI x = x - 1 := by
  unfold prevI
  rw [neg_lo (x := x) (by omega) h1, next_hi (x := x + 9223372036854775808) (by omega) (by omega), neg_hi (x := x + 9223372036854775808 - 1) (by omega) (by omega)]; omega
theorem prev_hi {x : Int} (h0 : 9223372036854775808 < x) (h1 : x < 18442240474082181120) : prevI x = x + 1 := by
  unfold prevI
  rw [neg_hi (x := x) (by omega) (by omega), next_lo (x := x - 9223372036854775808) (by omega) (by omega), neg_lo (x := x - 9223372036854775808 + 1) (by omega) (by omega)]; omega

/-- The parts of a finite number's bits. -/
theorem parts_lo {X : Int} (h0 : 0 ≤ X) (h1 : X < 9218868437227405312) : ∃ J t : Nat, X = ((J * 2 ^ 52 + t : Nat) : Int) ∧ mant X = t ∧ expo X = (J : Int) - 1074 ∧ t < 2 ^ 53 ∧ (J = 0 ∨ 2 ^ 52 ≤ t) ∧ J ≤ 2045 ∧ (0 < X → 0 < t) ∧ J * 2 ^ 52 + t < Pl.INF := by
  have e52 : (2 : Nat) ^ 52 = 4503599627370496 := by decide
  have e53 : (2 : Nat) ^ 53 = 9007199254740992 := by decide
  have hk := kd_pos h0 (show X < 9223372036854775808 by omega)
  by_cases hs : X < 4503599627370496
  · refine ⟨0, X.toNat, by omega, ?_, ?_, by omega, .inl rfl, by omega, by omega, by rw [Pl.INF_eq]; omega⟩
    · unfold mant; rw [if_pos (by rw [hk]; (repeat' split) <;> omega)]; omega
    · unfold expo; rw [if_pos (by rw [hk]; (repeat' split) <;> omega)]; rfl
  · have hk2 : kd X = 2 := by rw [hk]; (repeat' split) <;> omega
    refine ⟨(X / 4503599627370496 - 1).toNat, (4503599627370496 + X % 4503599627370496).toNat, by omega, ?_, ?_, by omega, .inr (by omega), by omega, by omega, by rw [Pl.INF_eq]; omega⟩
    · unfold mant; rw [hk2]; simp; omega
    · unfold expo; rw [hk2]; simp; omega
theorem mant_high {x : Int} (h0 : 9223372036854775808 ≤ x) (h1 : x < 18446744073709551616) : mant x = mant (x - 9223372036854775808) ∧ expo x = expo (x - 9223372036854775808) := by
  unfold mant expo
  rw [kd_high h0 h1]
  have e1 : (x - 9223372036854775808) / 4503599627370496 % 2048 = x / 4503599627370496 % 2048 := by omega
  have e2 : (x - 9223372036854775808) % 4503599627370496 = x % 4503599627370496 := by omega
  rw [e1, e2]
  exact ⟨rfl, rfl⟩
theorem num_zero (m : Int) : num 0 m = m := by unfold num; omega

/-- An exact number is joined to itself. -/
theorem join_exact {J t : Nat} (ht : t ≤ 2 ^ 53) (h : J = 0 ∨ 2 ^ 52 ≤ t) (hR : J * 2 ^ 52 + t ≤ Pl.INF) : Pl.mag t ((J : Int) - 1074) false = J * 2 ^ 52 + t := by
  refine Pl.mag_of_V hR ?_
  have s1 : Pl.sc ((J : Int) - 1074) = J + 1 := by unfold Pl.sc; omega
  have s2 : Pl.sd ((J : Int) - 1074) = 0 := by unfold Pl.sd; omega
  rw [s1, s2, Pl.V_at ht h, Nat.pow_succ 2 J]
  generalize 2 ^ J = P
  have : (2 : Nat) ^ 0 = 1 := rfl
  rw [this, Nat.mul_one, Nat.mul_comm P 2, Nat.mul_left_comm]
theorem quarter {y t : Nat} (h : y < t) : (y + (y + 1)) * 2 ≤ 4 * t - 1 := by omega
/-- A quarter less, and a little more, is joined to the number. -/
theorem join_below {J t : Nat} (ht : t < 2 ^ 53) (h : J = 0 ∨ 2 ^ 52 ≤ t) (t0 : 0 < t) (hR : J * 2 ^ 52 + t ≤ Pl.INF) : Pl.mag (4 * t - 1) ((J : Int) - 1074 - 2) true = J * 2 ^ 52 + t := by
  have p53 : (2 : Nat) ^ 53 = 9007199254740992 := by decide
  have p52 : (2 : Nat) ^ 52 = 4503599627370496 := by decide
  have hu : (J : Int) - 1074 - 2 < Pl.un (4 * t - 1) ((J : Int) - 1074 - 2) := by
    unfold Pl.un
    rcases h with h | h
    · omega
    · have := Pl.lt_bl_of_le (n := 4 * t - 1) (k := 53) (by omega)
      omega
  refine Pl.mag_stick (by omega) hu hR fun y hy => ?_
  clear hy hR hu
  have hV := Pl.V_at (j := J) (t := t) (by omega) h
  rcases Nat.eq_zero_or_pos J with hJ | hJ
  · subst hJ
    have s1 : Pl.sc ((0 : Nat) - 1074 - 2) = 0 := by decide
    have s2 : Pl.sd ((0 : Nat) - 1074 - 2) = 1 := by decide
    rw [s1, s2, Nat.zero_mul, Nat.zero_add, Nat.pow_zero, Nat.pow_one, Nat.mul_one]
    have e0 : ∀ z : Nat, z ≤ 9007199254740992 → Pl.V z = z := fun z hz => by
      have := Pl.V_at (j := 0) (t := z) (by omega) (.inl rfl)
      simpa using this
    rw [Nat.zero_mul, Nat.zero_add, Nat.pow_zero, Nat.mul_one] at hV
    constructor
    · intro g
      unfold Pl.mid
      have hy1 : y + 1 ≤ 9007199254740992 := by omega
      rw [e0 y (by omega), e0 (y + 1) hy1]
      exact quarter (by omega)
    · intro g
      rcases Nat.lt_or_ge y t with q | q
      · exact q
      · have := Pl.lt_mid q; rw [hV] at this; omega
  · obtain ⟨I, rfl⟩ : ∃ I, J = I + 1 := ⟨J - 1, by omega⟩
    have s1 : Pl.sc (((I + 1 : Nat) : Int) - 1074 - 2) = I := by unfold Pl.sc; omega
    have s2 : Pl.sd (((I + 1 : Nat) : Int) - 1074 - 2) = 0 := by unfold Pl.sd; omega
    rw [s1, s2, Nat.pow_zero, Nat.mul_one]
    have hV2 : Pl.V ((I + 1) * 2 ^ 52 + t) = 2 * (t * 2 ^ I) := by rw [hV, Nat.pow_succ 2 I, ← Nat.mul_assoc]; omega
    have hP := Nat.two_pow_pos I
    have hlow : Pl.V ((I + 1) * 2 ^ 52 + t - 1) + 2 * (t * 2 ^ I) ≤ (4 * t - 1) * 2 ^ I := by
      by_cases hb : t = 2 ^ 52
      · have e1 : (I + 1) * 2 ^ 52 + t - 1 = I * 2 ^ 52 + (2 ^ 53 - 1) := by omega
        rw [e1, Pl.V_at (by omega) (.inr (by omega)), hb]
        generalize 2 ^ I = P
        omega
      · have e1 : (I + 1) * 2 ^ 52 + t - 1 = (I + 1) * 2 ^ 52 + (t - 1) := by omega
        rw [e1, Pl.V_at (by omega) (.inr (by omega)), Nat.pow_succ 2 I]
        generalize 2 ^ I = P
        have e2 : (t - 1) * (P * 2) + 2 * (t * P) = (4 * t - 2) * P := by
          obtain ⟨s, rfl⟩ : ∃ s, t = s + 1 := ⟨t - 1, by omega⟩
          have : 4 * (s + 1) - 2 = 4 * s + 2 := by omega
          rw [this, Nat.add_sub_cancel]; grind
        rw [e2]
        exact Nat.mul_le_mul_right _ (by omega)
    constructor
    · intro g
      have g1 := Pl.V_le (show y ≤ (I + 1) * 2 ^ 52 + t - 1 by omega)
      have g2 := Pl.V_le (show y + 1 ≤ (I + 1) * 2 ^ 52 + t from g)
      rw [hV2] at g2
      unfold Pl.mid
      omega
    · intro g
      rcases Nat.lt_or_ge y ((I + 1) * 2 ^ 52 + t) with q | q
      · exact q
      · have := Pl.lt_mid q
        rw [hV2] at this
        have e3 : (4 * t - 1) * 2 ^ I ≤ 4 * t * 2 ^ I := Nat.mul_le_mul_right _ (by omega)
        have e4 : 4 * t * 2 ^ I = 2 * (2 * (t * 2 ^ I)) := by rw [Nat.mul_assoc]; omega
        omega

end Go.Proofs.Ytlndpbjolgjloaa
