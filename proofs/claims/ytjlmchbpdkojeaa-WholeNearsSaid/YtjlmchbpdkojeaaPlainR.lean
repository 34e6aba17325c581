/-
  Plain numbers: the whole root of a natural. Nothing of the program stands here.
-/
namespace Go.Proofs.Ytjlmchbpdkojeaa.Pl

def rtGo : Nat → Nat → Nat → Nat
  | 0, _, r => r
  | j + 1, A, r => if (r + 2 ^ j) * (r + 2 ^ j) ≤ A then rtGo j A (r + 2 ^ j) else rtGo j A r
/-- The greatest natural whose square is not above A. -/
def rt (A : Nat) : Nat := rtGo (A + 1) A 0

theorem rtGo_spec : ∀ (j A r : Nat), r * r ≤ A → A < (r + 2 ^ j) * (r + 2 ^ j) → rtGo j A r * rtGo j A r ≤ A ∧ A < (rtGo j A r + 1) * (rtGo j A r + 1)
  | 0, A, r, h1, h2 => ⟨h1, by simpa [rtGo] using h2⟩
  | j + 1, A, r, h1, h2 => by
    unfold rtGo
    have e : r + 2 ^ (j + 1) = r + 2 ^ j + 2 ^ j := by rw [Nat.pow_succ]; omega
    split
    · exact rtGo_spec j A _ (by assumption) (by rw [← e]; exact h2)
    · exact rtGo_spec j A r h1 (by omega)

theorem rt_spec (A : Nat) : rt A * rt A ≤ A ∧ A < (rt A + 1) * (rt A + 1) := by
  unfold rt
  refine rtGo_spec _ A 0 (by omega) ?_
  have h : A + 1 < 2 ^ (A + 1) := Nat.lt_two_pow_self
  have := Nat.mul_le_mul (show A + 1 ≤ 0 + 2 ^ (A + 1) by omega) (show 1 ≤ 0 + 2 ^ (A + 1) by omega)
  omega

theorem rt_unique {A r : Nat} (h1 : r * r ≤ A) (h2 : A < (r + 1) * (r + 1)) : r = rt A := by
  obtain ⟨k1, k2⟩ := rt_spec A
  rcases Nat.lt_trichotomy r (rt A) with g | g | g
  · have := Nat.mul_le_mul (show r + 1 ≤ rt A from g) (show r + 1 ≤ rt A from g); omega
  · exact g
  · have := Nat.mul_le_mul (show rt A + 1 ≤ r from g) (show rt A + 1 ≤ r from g); omega
theorem rt_sq (n : Nat) : rt (n * n) = n := (rt_unique (Nat.le_refl _) (Nat.mul_lt_mul_of_lt_of_le (by omega) (by omega) (by omega))).symm

end Go.Proofs.Ytjlmchbpdkojeaa.Pl
