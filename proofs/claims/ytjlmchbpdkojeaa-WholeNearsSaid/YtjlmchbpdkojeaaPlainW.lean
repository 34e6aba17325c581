/-
  Plain numbers: what shifts of two and three words come to. Nothing of the program stands here.
-/
namespace Go.Proofs.Ytjlmchbpdkojeaa.Pl

theorem shl_hi_nat (h l P Q : Nat) (hP : 0 < P) (hQ : 0 < Q) (hl : l < P * Q) :
    ((h * (P * Q) + l) * P) % (P * Q * (P * Q)) / (P * Q) = (h * P) % (P * Q) + l / Q := by
  have hB : 0 < P * Q := Nat.mul_pos hP hQ
  rw [Nat.mod_mul_right_div_self]
  have e1 : (h * (P * Q) + l) * P = l * P + (P * Q) * (h * P) := by grind
  rw [e1, Nat.add_mul_div_left _ _ hB]
  have e2 : l * P / (P * Q) = l / Q := by rw [Nat.mul_comm l P]; exact Nat.mul_div_mul_left _ _ hP
  rw [e2]
  have hlq : l / Q < P := (Nat.div_lt_iff_lt_mul hQ).2 hl
  have e3 : h * P % (P * Q) = P * (h % Q) := by rw [Nat.mul_comm h P]; exact Nat.mul_mod_mul_left _ _ _
  have hhr := Nat.mod_lt h hQ
  have e4 : P * (h % Q) + l / Q < P * Q := by
    have := Nat.mul_le_mul_left P (show h % Q + 1 ≤ Q from hhr)
    rw [Nat.mul_add] at this; omega
  rw [e3, Nat.add_comm (l / Q), Nat.add_mod, e3]
  have hlB : l / Q < P * Q := by omega
  rw [Nat.mod_eq_of_lt hlB, Nat.mod_eq_of_lt e4]

theorem shl_lo_nat (h l P Q : Nat) : ((h * (P * Q) + l) * P) % (P * Q * (P * Q)) % (P * Q) = l * P % (P * Q) := by
  rw [Nat.mod_mul_right_mod]
  have e1 : (h * (P * Q) + l) * P = l * P + (P * Q) * (h * P) := by grind
  rw [e1, Nat.add_mul_mod_self_left]

/-- One step of a shift down: two words. -/
theorem shr_nat (h l P Q : Nat) (hP : 0 < P) : (h * (P * Q) + l) / P = h / P * (P * Q) + ((h * Q) % (P * Q) + l / P) := by
  have e1 : h * (P * Q) + l = l + P * (h * Q) := by grind
  rw [e1, Nat.add_mul_div_left _ _ hP]
  have e2 : h * Q % (P * Q) = (h % P) * Q := Nat.mul_mod_mul_right _ _ _
  rw [e2]
  have e3 : h * Q = h / P * (P * Q) + (h % P) * Q := by
    have := Nat.div_add_mod h P
    calc h * Q = (P * (h / P) + h % P) * Q := by rw [this]
      _ = _ := by grind
  omega
theorem shr_low (h l P Q : Nat) : (h * (P * Q) + l) % P = l % P := by
  have e1 : h * (P * Q) + l = l + P * (h * Q) := by grind
  rw [e1, Nat.add_mul_mod_self_left]

def b64 : Nat := 18446744073709551616
theorem pow_split {n : Nat} (h : n ≤ 64) : 2 ^ n * 2 ^ (64 - n) = 18446744073709551616 := by
  rw [← Nat.pow_add]
  have : n + (64 - n) = 64 := by omega
  rw [this]

end Go.Proofs.Ytjlmchbpdkojeaa.Pl
