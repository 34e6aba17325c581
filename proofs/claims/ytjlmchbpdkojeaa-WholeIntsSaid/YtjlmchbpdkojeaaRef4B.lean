/-
  The reference of chapter 4: Add, Sub, Mul.
-/
import Derived.Test.YtjlmchbpdkojeaaRef4
import Derived.Test.YtjlmchbpdkojeaaRef3U
import Derived.Test.YtjlmchbpdkojeaaArithA
namespace Go.Proofs.Ytjlmchbpdkojeaa
open Go.RowKit Go.Shelf

theorem fn_lt (x : Int) {K : Nat} (hK : 2098 ≤ K) : fn x < 2 ^ K := by
  have h1 := mant_bd (x := x)
  have h2 := expo_bd (x := x)
  unfold fn
  have h3 : (mant x).toNat < 2 ^ 53 := by omega
  have h4 : 2 ^ (expo x + 1074).toNat ≤ 2 ^ (K - 53) := Nat.pow_le_pow_right (by omega) (by omega)
  have h5 := Nat.mul_lt_mul_of_lt_of_le h3 h4 (Nat.two_pow_pos _)
  rw [← Nat.pow_add] at h5
  have e : 53 + (K - 53) = K := by omega
  rwa [e] at h5
theorem sumN_lt {s t : Bool} {N M K : Nat} (hN : N < 2 ^ K) (hM : M < 2 ^ K) : sumN s t N M < 2 ^ (K + 1) := by
  have : 2 ^ (K + 1) = 2 ^ K + 2 ^ K := by rw [Nat.pow_succ]; omega
  unfold sumN
  generalize 2 ^ K = X at *
  (repeat' split) <;> omega
theorem limb_bd {N k d : Nat} (h : N < 2 ^ k) (hk : k ≤ 32 * d) : N < Pl.B32 ^ d := by
  rw [Pl.B32_pow]
  exact Nat.lt_of_lt_of_le h (Nat.pow_le_pow_right (by omega) hk)
theorem NatV.len {w : World} {A : Option Addr} {n c N : Nat} (h : NatV w (.slice A n c) N) : n = (Pl.limbs N).length := by
  obtain ⟨A', n', c', e, _, _, hl⟩ := h
  injection e with e1 e2 e3
  subst e1 e2 e3
  exact hl.len.symm
theorem limbs_len_zero {N : Nat} : (Pl.limbs N).length = 0 ↔ N = 0 := by
  constructor
  · intro h; exact Pl.limbs_nil (List.eq_nil_of_length_eq_zero h)
  · intro h; rw [h, Pl.limbs_zero]; rfl
theorem fn_limbs (x : Int) : fn x < Pl.B32 ^ 70 := by
  obtain ⟨K, hK⟩ : ∃ K : Nat, K = 2098 := ⟨_, rfl⟩
  exact limb_bd (fn_lt x (K := K) (by omega)) (by omega)
theorem sum_limbs (s t : Bool) (x y : Int) : sumN s t (fn x) (fn y) < Pl.B32 ^ 70 := by
  obtain ⟨K, hK⟩ : ∃ K : Nat, K = 2098 := ⟨_, rfl⟩
  exact limb_bd (sumN_lt (fn_lt x (K := K) (by omega)) (fn_lt y (K := K) (by omega))) (by omega)
theorem zero_word {x : Int} (hx : Wd x) (h : kd x = 0) : x = 0 ∨ x = 9223372036854775808 := by
  obtain ⟨h0, h1⟩ := hx
  unfold kd at h
  (repeat' split at h) <;> omega

end Go.Proofs.Ytjlmchbpdkojeaa
