/-
  FloatBack: the walk.
-/
import Derived.Test.YtlndpbjolgjloaaLaw3B
import Derived.Test.YtlndpbjolgjloaaFloatF
import Derived.Test.YtlndpbjolgjloaaRef2
namespace Go.Proofs.Ytlndpbjolgjloaa
open Go.RowKit Go.Shelf

theorem mag_scale (N c : Nat) (e : Int) : Pl.mag (N * 2 ^ c) (e - c) false = Pl.mag N e false := by
  refine (Pl.mag_exact (N * 2 ^ c) (e - c)).unique ((Pl.mag_exact N e).congr (fun M => ?_) (fun M => ?_))
  all_goals
    obtain ⟨d, h1, h2⟩ : ∃ d, c + Pl.sc (e - c) = Pl.sc e + d ∧ Pl.sd (e - c) = Pl.sd e + d := ⟨Pl.sd (e - c) - Pl.sd e, by unfold Pl.sc Pl.sd; omega, by unfold Pl.sd; omega⟩
    rw [Nat.mul_assoc, ← Nat.pow_add, h1, h2, Nat.pow_add, Nat.pow_add, ← Nat.mul_assoc, ← Nat.mul_assoc]
    generalize M * 2 ^ Pl.sd e = a
    generalize N * 2 ^ Pl.sc e = b
    have hd := Nat.two_pow_pos d
  · exact (Nat.mul_lt_mul_right hd).symm
  · constructor
    · intro h; rw [h]
    · intro h; exact Nat.eq_of_mul_eq_mul_right hd h
/-- The bits of a finite number are joined of its parts. -/
theorem back_bits {x : Int} (hx : Wd x) (hk : kd x ≤ 2) : fbits (sgn x) (mant x).toNat (expo x) false = x := by
  obtain ⟨h0, h1⟩ := hx
  by_cases hs : x < 9223372036854775808
  · have hb : x < 9218868437227405312 := by
      rw [kd_pos h0 hs] at hk
      (repeat' split at hk) <;> omega
    obtain ⟨J, t, hX, hm, he, ht, hJ, _, _, hlt⟩ := parts_lo h0 hb
    have := join_exact (Nat.le_of_lt ht) hJ (Nat.le_of_lt hlt)
    have hsg : sgn x = false := by unfold sgn; simp; omega
    rw [hsg, hm, he]
    unfold fbits sb
    rw [Int.toNat_natCast, this, hX]; simp
  · have hk2 := kd_high (x := x) (by omega) h1
    rw [hk2] at hk
    have hb : x - 9223372036854775808 < 9218868437227405312 := by
      rw [kd_pos (by omega) (by omega)] at hk
      (repeat' split at hk) <;> omega
    obtain ⟨m1, m2⟩ := mant_high (x := x) (by omega) h1
    obtain ⟨J, t, hX, hm, he, ht, hJ, _, _, hlt⟩ := parts_lo (X := x - 9223372036854775808) (by omega) hb
    have := join_exact (Nat.le_of_lt ht) hJ (Nat.le_of_lt hlt)
    have hsg : sgn x = true := by unfold sgn; simp; omega
    rw [hsg, m1, m2, hm, he]
    unfold fbits sb
    rw [Int.toNat_natCast, this]
    simp
    clear hlt this
    omega
theorem mant_bd' {x : Int} : 0 ≤ mant x ∧ mant x ≤ 9007199254740991 := by unfold mant; (repeat' split) <;> omega
theorem expo_bd' {x : Int} : -1074 ≤ expo x ∧ expo x ≤ 971 := by unfold expo kd; (repeat' split) <;> omega
theorem val4 (a b c d : Nat) : Pl.val [a, b, c, d] = a + 4294967296 * b + 18446744073709551616 * c + 79228162514264337593543950336 * d := by
  simp only [Pl.val, Pl.B32]; omega

set_option maxRecDepth 100000 in
set_option maxHeartbeats 4000000 in
theorem back_walk (x : Int) (w : World) (hx : Wd x) : Calls Try.prog 8 #[.int .u64 x] w fun e w' => e = .returned (.bool true) ∧ Below w.heap.size w w' := by
  by_cases hk : kd x ≤ 2
  · have hk3 : decide (3 ≤ kd x) = false := by simp; omega
    have hb := back_bits hx hk
    obtain ⟨a0, a1⟩ := mant_bd' (x := x)
    obtain ⟨b0, b1⟩ := expo_bd' (x := x)
    obtain ⟨m, hm⟩ : ∃ m : Nat, mant x = m := ⟨(mant x).toNat, by omega⟩
    obtain ⟨E, hE⟩ : ∃ E, expo x = E := ⟨_, rfl⟩
    obtain ⟨S, hS⟩ : ∃ S, sgn x = S := ⟨_, rfl⟩
    obtain ⟨K, hK⟩ : ∃ K, kd x = K := ⟨_, rfl⟩
    have hS2 : decide (9223372036854775808 ≤ x) = S := by rw [← hS]; rfl
    rw [hm, Int.toNat_natCast, hE, hS] at hb
    rw [hm] at a0 a1
    rw [hE] at b0 b1
    rw [hK] at hk3
    have J1 : fbits S (num 0 (m : Int)).toNat E false = x := by rw [num_zero, Int.toNat_natCast]; exact hb
    have J2 : fbits S (num (m : Int) 0).toNat (E - 64) false = x := by
      have e1 : (num (m : Int) 0).toNat = m * 2 ^ 64 := by
        have : (2 : Nat) ^ 64 = 18446744073709551616 := by decide
        rw [this]; unfold num; omega
      rw [e1]
      have := mag_scale m 64 E
      unfold fbits at hb ⊢
      rw [← hb]
      congr 2
    have J3 : fbits S (m * 4294967296) (E - 32) false = x := by
      have := mag_scale m 32 E
      have e2 : (2 : Nat) ^ 32 = 4294967296 := by decide
      rw [e2] at this
      unfold fbits at hb ⊢
      rw [← hb]
      congr 2
    have hf : Pl.Fit [0, m % 4294967296, m / 4294967296, 0] := by
      intro y hy
      simp only [List.mem_cons, List.not_mem_nil, or_false] at hy
      unfold Pl.B32
      omega
    have hv : Pl.val [0, m % 4294967296, m / 4294967296, 0] = m * 4294967296 := by rw [val4]; omega
    have H1 := Lib.hid J1
    have H2 := Lib.hid J2
    have H3 := Lib.hid J3
    have HM := Lib.hid hm
    have HE := Lib.hid hE
    have HS := Lib.hid hS
    have HK := Lib.hid hK
    have HF := Lib.hid hf
    have HV := Lib.hid hv
    have wz : Wd 0 := ⟨by decide, by decide⟩
    have wm : Wd (m : Int) := ⟨by omega, by omega⟩
    clear J1 J2 J3 hm hE hS hK hf hv hb hk
    go_enter Try.func8, Try.ntmps8
    go_wp2_with (first
      | (go_at_call 9; refine (shown3_any _).mono ?_; rintro r w1 ⟨rfl, hB⟩)
      | (go_at_call 16; refine (split_any x _ hx).mono ?_; rw [HM.out, HE.out, HS.out]; rintro r w' ⟨rfl, rfl⟩)
      | (go_at_call 13; refine (kind_any x _ hx).mono ?_; rw [HK.out]; rintro r w' ⟨rfl, rfl⟩)
      | (go_at_call 10; refine (join_any S _ _ _ _ _ (by assumption) (by assumption) (by omega) (by omega)).mono ?_; (first | rw [H1.out] | rw [H2.out]); rintro r w2 ⟨rfl, hb2⟩; replace hB := below_step hB hb2; clear hb2)
      | (go_at_call 28; refine (fround_any S false (E - 32) _ (slice_block _ _ 4 _ _ HF.out rfl (by simp [lv]) (by omega)) (by omega) (by omega) (by omega)).mono ?_; rw [HV.out, H3.out]; rintro r w3 ⟨rfl, hb3⟩))
    go_ret
    exact ⟨ret_bool (by first | rfl | simp), below_step hB (below_trans' (hb3.mono (by simp)) ((Below.refl _ _).alloc (Nat.le_refl _) _))⟩
  · have hk3 : decide (3 ≤ kd x) = true := by simp; omega
    have hm : mant x = 0 := by unfold mant; rw [if_neg (by omega), if_neg (by omega)]
    have hE : expo x = 0 := by unfold expo; rw [if_neg (by omega), if_neg (by omega)]
    obtain ⟨S, hS⟩ : ∃ S, sgn x = S := ⟨_, rfl⟩
    obtain ⟨K, hK⟩ : ∃ K, kd x = K := ⟨_, rfl⟩
    rw [hK] at hk3
    have HM := Lib.hid hm
    have HE := Lib.hid hE
    have HS := Lib.hid hS
    have HK := Lib.hid hK
    clear hm hE hS hK hk
    go_enter Try.func8, Try.ntmps8
    go_wp2_with (first
      | (go_at_call 9; refine (shown3_any _).mono ?_; rintro r w1 ⟨rfl, hB⟩)
      | (go_at_call 16; refine (split_any x _ hx).mono ?_; rw [HM.out, HE.out, HS.out]; rintro r w' ⟨rfl, rfl⟩)
      | (go_at_call 13; refine (kind_any x _ hx).mono ?_; rw [HK.out]; rintro r w' ⟨rfl, rfl⟩))
    go_ret
    exact ⟨ret_bool (by first | rfl | simp), hB⟩
end Go.Proofs.Ytlndpbjolgjloaa
