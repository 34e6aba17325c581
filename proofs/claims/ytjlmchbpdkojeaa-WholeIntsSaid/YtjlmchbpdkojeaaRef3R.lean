/-
  The reference of chapter 3: Up, low, from.
-/
import Derived.Test.YtjlmchbpdkojeaaRef1D
namespace Go.Proofs.Ytjlmchbpdkojeaa
open Go.RowKit Go.Shelf

/-- Is there a bit below the n-th? -/
def lowB (N n : Nat) : Bool := decide (N % 2 ^ n ≠ 0)
theorem low_step {N k : Nat} (h : N % 2 ^ k = 0) (hb : bitB N k = false) : N % 2 ^ (k + 1) = 0 := by
  unfold bitB at hb
  have hb : ¬ N / 2 ^ k % 2 = 1 := by simpa using hb
  rw [Nat.pow_succ, Nat.mod_mul]
  have : N / 2 ^ k % 2 = 0 := by omega
  rw [h, this]; simp
theorem low_yes {N k n : Nat} (h : k < n) (hb : bitB N k = true) : lowB N n = true := by
  unfold bitB at hb
  have hb : N / 2 ^ k % 2 = 1 := by simpa using hb
  unfold lowB
  simp only [decide_eq_true_eq]
  intro h0
  obtain ⟨c, rfl⟩ := Nat.dvd_of_mod_eq_zero h0
  obtain ⟨d, rfl⟩ : ∃ d, n = k + 1 + d := ⟨n - k - 1, by omega⟩
  have e : 2 ^ (k + 1 + d) * c = 2 ^ k * (2 * (2 ^ d * c)) := by rw [Nat.pow_add, Nat.pow_succ]; simp only [Nat.mul_assoc]
  rw [e, Nat.mul_div_cancel_left _ (Nat.two_pow_pos k)] at hb
  omega
theorem low_no {N k n d : Nat} (h : N % 2 ^ k = 0) (hN : N < Pl.B32 ^ d) (hk : n ≤ k ∨ 32 * d ≤ k) : lowB N n = false := by
  unfold lowB
  simp only [decide_eq_false_iff_not, Decidable.not_not]
  rcases hk with hk | hk
  · obtain ⟨c, rfl⟩ := Nat.dvd_of_mod_eq_zero h
    obtain ⟨j, rfl⟩ : ∃ j, k = n + j := ⟨k - n, by omega⟩
    rw [Nat.pow_add, Nat.mul_assoc]
    exact Nat.mul_mod_right _ _
  · rw [Pl.B32_pow] at hN
    have : N < 2 ^ k := Nat.lt_of_lt_of_le hN (Nat.pow_le_pow_right (by omega) hk)
    rw [Nat.mod_eq_of_lt this] at h
    subst h; simp

set_option maxHeartbeats 1000000 in
theorem rlow_any (A : Option Addr) (n c k : Nat) (l : List Nat) (w : World) (hl : Lim w A n l) (hn : n ≤ 1048576) :
    Calls Try.prog 68 #[.slice A n c, .int .i64 k] w fun e w' => e = .returned (.bool (lowB (Pl.val l) k)) ∧ w = w' := by
  obtain ⟨N, hN⟩ : ∃ N, Pl.val l = N := ⟨_, rfl⟩
  have hlt : N < Pl.B32 ^ n := by have := Pl.val_lt hl.fit; rw [hl.len, hN] at this; exact this
  have HV : ∀ i : Nat, i < 4611686018427387904 → Calls Try.prog 64 #[.slice A n c, .int .i64 i] w fun e w' => e = .returned (.bool (bitB N i)) ∧ w = w' := fun i hi => by
    rw [← hN]; exact bit_any A n c i l w hl hi
  rw [hN]
  have HL := Lib.hid hlt
  clear hlt hl hN
  have HVV := Lib.hid HV
  clear HV
  go_enter Try.func68, Try.ntmps68
  go_wp2
  go_loop [5] (fun iv => ∃ i : Nat, iv = .int .i64 i ∧ i ≤ k ∧ i ≤ 32 * n ∧ N % 2 ^ i = 0) (fun iv => k - (intOf iv).toNat)
  case atStart => exact ⟨0, rfl, Nat.zero_le _, Nat.zero_le _, by rw [Nat.pow_zero]; exact Nat.mod_one _⟩
  case round =>
    obtain ⟨i, rfl, hik, hin, hz⟩ := hrel
    have HZ := Lib.hid hz
    clear hz
    by_cases h1 : i < k
    · by_cases h2 : i < 32 * n
      · cases hb : bitB N i
        · go_wp2_with (go_at_call 64; refine (HVV.out i (by omega)).mono ?_; rw [hb]; rintro e w' ⟨rfl, rfl⟩)
          go_round
          case rel => exact ⟨i + 1, by go_num, by omega, by omega, low_step HZ.out hb⟩
          case measure => simp [intOf]; omega
        · go_wp2_with (go_at_call 64; refine (HVV.out i (by omega)).mono ?_; rw [hb]; rintro e w' ⟨rfl, rfl⟩)
          go_ret
          exact ⟨retB (low_yes h1 hb).symm, rfl⟩
      · go_wp2
        go_ret
        exact ⟨retB (low_no HZ.out HL.out (.inr (by omega))).symm, rfl⟩
    · go_wp2
      go_ret
      exact ⟨retB (low_no HZ.out HL.out (.inl (by omega))).symm, rfl⟩
theorem rlow_v {w : World} {v : Value} {N d : Nat} (k : Nat) (h : SliceV w v N d) (hd : d ≤ 1048576) : Calls Try.prog 68 #[v, .int .i64 k] w fun e w' => e = .returned (.bool (lowB N k)) ∧ w = w' := by
  obtain ⟨A, n, c, l, rfl, h1, h2, hl, rfl, hd'⟩ := h
  exact rlow_any A n c k l w hl (by omega)

/-- 64 bits from the n-th on. -/
def fromN (N n : Nat) : Nat := N / 2 ^ n % 18446744073709551616
/-- Behind some rounds of from: the bits down to the j-th. -/
def FromAt (N n j v : Nat) : Prop := j ≤ 64 ∧ v = N / 2 ^ (n + j) % 2 ^ (64 - j)
theorem FromAt.start (N n : Nat) : FromAt N n 64 0 := ⟨Nat.le_refl _, by rw [Nat.sub_self, Nat.pow_zero, Nat.mod_one]⟩
theorem FromAt.lt {N n j v : Nat} (h : FromAt N n (j + 1) v) : v < 9223372036854775808 := by
  obtain ⟨h1, rfl⟩ := h
  have := Nat.mod_lt (N / 2 ^ (n + (j + 1))) (Nat.two_pow_pos (64 - (j + 1)))
  have h2 : 2 ^ (64 - (j + 1)) ≤ 2 ^ 63 := Nat.pow_le_pow_right (by omega) (by omega)
  omega
theorem FromAt.step {N n j v : Nat} (h : FromAt N n (j + 1) v) : FromAt N n j (2 * v + b01 (bitB N (n + j))) := by
  obtain ⟨h1, rfl⟩ := h
  refine ⟨by omega, ?_⟩
  have e1 : N / 2 ^ (n + (j + 1)) = N / 2 ^ (n + j) / 2 := by rw [← Nat.add_assoc, Nat.pow_succ, Nat.div_div_eq_div_mul]
  have e2 : 2 ^ (64 - j) = 2 * 2 ^ (64 - (j + 1)) := by
    have : 64 - j = 64 - (j + 1) + 1 := by omega
    rw [this, Nat.pow_succ, Nat.mul_comm]
  rw [e1, e2, Nat.mod_mul]
  unfold bitB b01
  generalize N / 2 ^ (n + j) = M
  generalize M / 2 % 2 ^ (64 - (j + 1)) = R
  by_cases hb : M % 2 = 1
  · simp [hb]; omega
  · have : M % 2 = 0 := by omega
    simp [this]
theorem FromAt.done {N n v : Nat} (h : FromAt N n 0 v) : v = fromN N n := by
  obtain ⟨_, rfl⟩ := h; rfl

set_option maxHeartbeats 1000000 in
theorem from_v {w : World} {v : Value} {N d : Nat} (k : Nat) (h : SliceV w v N d) (hk : k < 2305843009213693952) : Calls Try.prog 67 #[v, .int .i64 k] w fun e w' => e = .returned (.int .u64 (fromN N k : Nat)) ∧ w = w' := by
  have H := Lib.hid h
  clear h
  go_enter Try.func67, Try.ntmps67
  go_wp2
  go_loop [5, 6] (fun rv iv => ∃ j r : Nat, iv = .int .i64 ((j : Int) - 1) ∧ rv = .int .u64 r ∧ j ≤ 64 ∧ FromAt N k j r) (fun _ iv => (intOf iv + 1).toNat)
  case atStart => exact ⟨64, 0, rfl, rfl, Nat.le_refl _, FromAt.start N k⟩
  case round =>
    obtain ⟨j, r, rfl, rfl, hj, hat⟩ := hrel
    have HA := Lib.hid hat
    clear hat
    rcases Nat.eq_zero_or_pos j with h0 | h0
    · subst h0
      go_wp2
      go_ret
      exact ⟨retI (by rw [HA.out.done]), rfl⟩
    · obtain ⟨i, rfl⟩ : ∃ i, j = i + 1 := ⟨j - 1, by omega⟩
      have hr := HA.out.lt
      have HS := Lib.hid HA.out.step
      cases hb : bitB N (k + i)
      all_goals
        have HS2 := HS.out
        rw [hb] at HS2
        have HS3 := Lib.hid HS2
        clear HS2
        go_wp2_with (go_at_call 64; refine (bit_v (k + i) H.out (by omega)).mono ?_; rw [hb]; rintro e w' ⟨rfl, rfl⟩)
        go_round
        case rel => exact ⟨i, _, by go_num, by go_num, by omega, HS3.out⟩
        case measure => simp [intOf]
end Go.Proofs.Ytjlmchbpdkojeaa
