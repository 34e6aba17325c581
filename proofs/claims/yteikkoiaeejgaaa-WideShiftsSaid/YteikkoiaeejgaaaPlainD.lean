/-
  Plain numbers: a quotient of two words by one, digit by digit of 32 bits (Knuth's step). Nothing of the program stands here.
-/
namespace Go.Proofs.Yteikkoiaeejgaaa.Pl

/-- What is known of a step: the divisor Y = D1 * B + D0, normalized; the number W = U * B + u with U below Y. -/
structure KSet (B Y D1 D0 U u : Nat) : Prop where
  y : Y = D1 * B + D0
  d0 : D0 < B
  d1 : D1 < B
  norm : B ≤ 2 * D1
  u : u < B
  lt : U < Y
/-- At the loop's head: a digit that is not too small, and what it leaves of U. -/
structure KAt (B Y D1 U u q r : Nat) : Prop where
  eq : q * D1 + r = U
  r : r < B
  low : (U * B + u) / Y ≤ q
  high : q ≤ B + 1

variable {B Y D1 D0 U u q r : Nat}
theorem KSet.dpos (h : KSet B Y D1 D0 U u) : 0 < D1 := by have := h.norm; have := h.d0; omega
theorem KSet.ypos (h : KSet B Y D1 D0 U u) : 0 < Y := by have := h.lt; omega
theorem KSet.digit (h : KSet B Y D1 D0 U u) : (U * B + u) / Y < B := by
  rw [Nat.div_lt_iff_lt_mul h.ypos]
  have := Nat.mul_le_mul_right B (show U + 1 ≤ Y from h.lt)
  have hu := h.u
  rw [Nat.add_mul] at this
  rw [Nat.mul_comm B Y]; omega
theorem KSet.start (h : KSet B Y D1 D0 U u) : KAt B Y D1 U u (U / D1) (U - U / D1 * D1) ∧ U / D1 * D1 ≤ U := by
  have hd := h.dpos
  have e := Nat.div_add_mod U D1
  have hm := Nat.mod_lt U hd
  have e2 : U / D1 * D1 = D1 * (U / D1) := Nat.mul_comm _ _
  refine ⟨⟨by omega, by have := h.d1; omega, ?_, ?_⟩, by omega⟩
  · rw [Nat.le_div_iff_mul_le hd]
    rcases Nat.lt_or_ge U ((U * B + u) / Y * D1) with g | g
    · exfalso
      have h1 := Nat.div_mul_le_self (U * B + u) Y
      have h2 := Nat.mul_le_mul_right B (show U + 1 ≤ (U * B + u) / Y * D1 from g)
      have h3 : (U * B + u) / Y * Y = (U * B + u) / Y * D1 * B + (U * B + u) / Y * D0 := by
        rw [h.y, Nat.mul_add, ← Nat.mul_assoc]
      have hu := h.u
      rw [Nat.add_mul] at h2
      omega
    · exact g
  · have h1 := h.lt
    have h2 := h.y
    have h3 := h.norm
    have h4 := h.d0
    have : U / D1 < B + 2 := by
      rw [Nat.div_lt_iff_lt_mul hd, Nat.add_mul, Nat.mul_comm B D1]; omega
    omega
theorem KAt.cmp (h : KSet B Y D1 D0 U u) (k : KAt B Y D1 U u q r) : B * r + u < q * D0 ↔ (U * B + u) / Y < q := by
  have e : q * Y = q * D1 * B + q * D0 := by rw [h.y, Nat.mul_add, ← Nat.mul_assoc]
  have e2 : U * B = q * D1 * B + B * r := by rw [← k.eq, Nat.add_mul, Nat.mul_comm r B]
  rw [Nat.div_lt_iff_lt_mul h.ypos, e, e2]
  omega
theorem KAt.yes (h : KSet B Y D1 D0 U u) (k : KAt B Y D1 U u q r) (ht : B ≤ q ∨ B * r + u < q * D0) : (U * B + u) / Y + 1 ≤ q := by
  rcases ht with g | g
  · have := h.digit; omega
  · exact (k.cmp h).1 g
theorem KAt.no (h : KSet B Y D1 D0 U u) (k : KAt B Y D1 U u q r) (ht : ¬ B * r + u < q * D0) : q = (U * B + u) / Y := by
  have := k.low
  have := mt (k.cmp h).2 ht
  omega
theorem KAt.dec (k : KAt B Y D1 U u q r) (hq : (U * B + u) / Y + 1 ≤ q) (hr : r + D1 < B) : KAt B Y D1 U u (q - 1) (r + D1) := by
  have e := k.eq
  have hq1 : 1 ≤ q := Nat.le_trans (Nat.le_add_left 1 _) hq
  obtain ⟨p, rfl⟩ : ∃ p, q = p + 1 := ⟨q - 1, by omega⟩
  rw [Nat.add_mul] at e
  exact ⟨by rw [Nat.add_sub_cancel]; omega, hr, by omega, by have := k.high; omega⟩
theorem KAt.brk (h : KSet B Y D1 D0 U u) (k : KAt B Y D1 U u q r) (hq : (U * B + u) / Y + 1 ≤ q) (hr : B ≤ r + D1) : q - 1 = (U * B + u) / Y := by
  have e := k.eq
  have hh := k.high
  have hq1 : 1 ≤ q := Nat.le_trans (Nat.le_add_left 1 _) hq
  obtain ⟨p, rfl⟩ : ∃ p, q = p + 1 := ⟨q - 1, by omega⟩
  rw [Nat.add_sub_cancel]
  have h1 : p ≤ (U * B + u) / Y := by
    rw [Nat.le_div_iff_mul_le h.ypos, h.y, Nat.mul_add, ← Nat.mul_assoc]
    rw [Nat.add_mul] at e
    have e2 : U = p * D1 + (r + D1) := by omega
    have h2 := Nat.mul_le_mul_right B hr
    have h3 := Nat.mul_le_mul (show p ≤ B by omega) (Nat.le_of_lt h.d0)
    rw [e2, Nat.add_mul (p * D1)]
    omega
  omega
theorem KAt.small (h : KSet B Y D1 D0 U u) (k : KAt B Y D1 U u q r) (hq : q < B) : q * D0 < B * B ∧ B * r + u < B * B := by
  have h1 := Nat.mul_lt_mul_of_lt_of_le hq (Nat.le_of_lt h.d0) (show 0 < B by omega)
  have h2 := Nat.mul_le_mul_left B (show r + 1 ≤ B from k.r)
  have := h.u
  rw [Nat.mul_add] at h2
  exact ⟨h1, by omega⟩

/-- Two digits make the quotient; what is left, shifted back, is what is left. -/
theorem two_digits {N y B P Y U u1 u0 : Nat} (hy : Y = y * P) (hP : 0 < P) (hN : N * P = (U * B + u1) * B + u0) (y0 : 0 < Y) :
    (U * B + u1) / Y * B + ((U * B + u1) % Y * B + u0) / Y = N / y ∧ ((U * B + u1) % Y * B + u0) % Y / P = N % y ∧ ((U * B + u1) % Y < Y) := by
  have e1 := Nat.div_add_mod (U * B + u1) Y
  generalize hQ : (U * B + u1) / Y = Q at *
  generalize hR : (U * B + u1) % Y = R at *
  have hRY : R < Y := by rw [← hR]; exact Nat.mod_lt _ y0
  have e2 := Nat.div_add_mod (R * B + u0) Y
  have hV := Nat.mod_lt (R * B + u0) y0
  generalize (R * B + u0) / Y = Q0 at *
  generalize (R * B + u0) % Y = V at *
  have key : N * P = Y * (Q * B + Q0) + V := by
    rw [hN, ← e1, Nat.add_mul, Nat.mul_add, ← Nat.mul_assoc]; omega
  have d1 : N * P / Y = N / y := by rw [hy]; exact Nat.mul_div_mul_right _ _ hP
  have d2 : N * P % Y = N % y * P := by rw [hy]; exact Nat.mul_mod_mul_right _ _ _
  have q1 : N * P / Y = Q * B + Q0 := by rw [key, Nat.mul_add_div y0, Nat.div_eq_of_lt hV]; rfl
  have q2 : N * P % Y = V := by rw [key, Nat.mul_add_mod, Nat.mod_eq_of_lt hV]
  refine ⟨by rw [← q1, d1], ?_, hRY⟩
  rw [← q2, d2, Nat.mul_div_cancel _ hP]
end Go.Proofs.Yteikkoiaeejgaaa.Pl
