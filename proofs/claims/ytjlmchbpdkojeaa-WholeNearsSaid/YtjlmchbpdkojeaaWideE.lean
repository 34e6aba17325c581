/-
  More walks of package wide: Root.
-/
import Derived.Test.YtjlmchbpdkojeaaWideD
import Derived.Test.YtjlmchbpdkojeaaPlainR
namespace Go.Proofs.Ytjlmchbpdkojeaa
open Go.RowKit Go.Shelf

/-- Half of 2^j; nothing at 0. -/
def half (j : Nat) : Int := if j = 0 then 0 else 2 ^ (j - 1)
/-- Behind some rounds of Root: j bits are still to be found. -/
structure RootAt (A : Int) (j : Nat) (r b : Int) : Prop where
  le : j ≤ 64
  b : b = half j
  r0 : 0 ≤ r
  dvd : r % 2 ^ j = 0
  top : r + 2 ^ j ≤ 18446744073709551616
  low : r * r ≤ A
  high : A < (r + 2 ^ j) * (r + 2 ^ j)

theorem rootAt_start {A : Int} (h0 : 0 ≤ A) (h1 : A < 340282366920938463463374607431768211456) : RootAt A 64 0 9223372036854775808 :=
  ⟨by omega, by decide, by decide, by decide, by decide, by omega, by
    have : ((0 : Int) + 2 ^ 64) * (0 + 2 ^ 64) = 340282366920938463463374607431768211456 := by decide
    omega⟩
theorem RootAt.facts {A : Int} {j : Nat} {r b : Int} (d : RootAt A j r b) : 0 ≤ r ∧ r < 18446744073709551616 ∧ 0 ≤ b ∧ b ≤ 9223372036854775808 ∧ (b = 0 → j = 0) ∧ (0 < b → bits .or .u64 r b = r + b ∧ r + b < 18446744073709551616) := by
  obtain ⟨le, hb, r0, dvd, top, low, high⟩ := d
  have hp := pow_pos' j
  have hr : r < 18446744073709551616 := by omega
  cases j with
  | zero => simp [half] at hb; subst hb; exact ⟨r0, hr, by decide, by decide, fun _ => rfl, fun h => absurd h (by decide)⟩
  | succ j =>
    have e : (2 : Int) ^ (j + 1) = 2 ^ j * 2 := Int.pow_succ 2 j
    have hb' : b = 2 ^ j := by rw [hb]; simp [half]
    have hp' := pow_pos' j
    rw [e, ← hb'] at dvd top
    rw [← hb'] at hp'
    refine ⟨r0, hr, by omega, by omega, by omega, fun _ => ⟨?_, by omega⟩⟩
    refine or_join r b (j + 1) r0 ?_ hr (by omega) ?_ (by omega)
    · rw [e, ← hb']; exact dvd
    · rw [e, ← hb']; omega
theorem half_succ (j : Nat) (hj : j + 1 ≤ 64) : half (j + 1) / 2 = half j := by
  cases j with
  | zero => decide
  | succ j =>
    simp only [half, Nat.add_one_ne_zero, if_false, Nat.add_sub_cancel]
    rw [Int.pow_succ]; omega
theorem RootAt.yes {A : Int} {j : Nat} {r b : Int} (d : RootAt A j r b) (hb0 : 0 < b) (h : (r + b) * (r + b) ≤ A) : ∃ k, RootAt A k (r + b) (b / 2) := by
  obtain ⟨le, hb, r0, dvd, top, low, high⟩ := d
  cases j with
  | zero => simp [half] at hb; omega
  | succ j =>
    have e : (2 : Int) ^ (j + 1) = 2 ^ j * 2 := Int.pow_succ 2 j
    have hb' : b = 2 ^ j := by rw [hb]; simp [half]
    have e2 : r + b + 2 ^ j = r + 2 ^ (j + 1) := by omega
    refine ⟨j, by omega, by rw [hb]; exact half_succ j le, by omega, ?_, by rw [e2]; exact top, h, by rw [e2]; exact high⟩
    rw [hb', Int.add_emod_right]
    have : r % 2 ^ j = (r % (2 ^ j * 2)) % 2 ^ j := (Int.emod_emod_of_dvd r ⟨2, rfl⟩).symm
    rw [this, ← e, dvd, Int.zero_emod]
theorem RootAt.no {A : Int} {j : Nat} {r b : Int} (d : RootAt A j r b) (hb0 : 0 < b) (h : A < (r + b) * (r + b)) : ∃ k, RootAt A k r (b / 2) := by
  obtain ⟨le, hb, r0, dvd, top, low, high⟩ := d
  cases j with
  | zero => simp [half] at hb; omega
  | succ j =>
    have e : (2 : Int) ^ (j + 1) = 2 ^ j * 2 := Int.pow_succ 2 j
    have hb' : b = 2 ^ j := by rw [hb]; simp [half]
    have hp' := pow_pos' j
    refine ⟨j, by omega, by rw [hb]; exact half_succ j le, r0, ?_, by omega, low, by rw [← hb']; exact h⟩
    have : r % 2 ^ j = (r % (2 ^ j * 2)) % 2 ^ j := (Int.emod_emod_of_dvd r ⟨2, rfl⟩).symm
    rw [this, ← e, dvd, Int.zero_emod]
theorem RootAt.done {A : Int} {r : Int} {j : Nat} (d : RootAt A j r 0) : r = (Pl.rt A.toNat : Int) := by
  obtain ⟨hr, _, _, _, hj, _⟩ := d.facts
  obtain ⟨le, hb, r0, dvd, top, low, high⟩ := d
  have := hj rfl
  subst this
  obtain ⟨r, rfl⟩ := Int.eq_ofNat_of_zero_le r0
  have hA : 0 ≤ A := Int.le_trans (Int.mul_nonneg r0 r0) low
  obtain ⟨A, rfl⟩ := Int.eq_ofNat_of_zero_le hA
  have h1 : r * r ≤ A := by exact_mod_cast low
  have h2 : A < (r + 1) * (r + 1) := by
    have : (A : Int) < ((r : Int) + 1) * (r + 1) := by simpa using high
    exact_mod_cast this
  rw [Pl.rt_unique h1 h2]; rfl
theorem cmp_le {x A : Int} (h : x ≤ A) : cmpI x A ≤ 0 := by unfold cmpI; (repeat' split) <;> omega
theorem cmp_gt {x A : Int} (h : A < x) : ¬ cmpI x A ≤ 0 := by unfold cmpI; (repeat' split) <;> omega

theorem ret_ib {k : IntKind} {a c : Int} {b d : Bool} (h1 : a = c) (h2 : b = d) : Ending.returned (.tuple #[.int k a, .bool b]) = .returned (.tuple #[.int k c, .bool d]) := by rw [h1, h2]

end Go.Proofs.Ytjlmchbpdkojeaa
