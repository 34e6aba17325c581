/-
  The walk of math/bits.Div64.
-/
import Derived.Test.YteikkoiaeejgaaaWideF
import Derived.Test.YteikkoiaeejgaaaPlainD
import Derived.Deep.DeepCutAuto
import Derived.Deep.CutBlock
namespace Go.Proofs.Yteikkoiaeejgaaa
open Go.RowKit Go.Shelf

theorem lead64 (x : Int) (w : World) (h0 : 0 ≤ x) (h1 : x < 18446744073709551616) :
    Calls Try.prog 49 #[.int .u64 x] w fun e w' => e = .returned (.int .i64 (64 - (Pl.bl x.toNat : Int))) ∧ w = w' :=
  (Try.bits_LeadingZeros64 x w h0 (by omega)).mono fun _ _ ⟨he, hw⟩ => ⟨by rw [he, bitLen_eq _ (by omega)], hw.symm⟩
theorem and_32 (x : Int) (h₀ : 0 ≤ x) (h₁ : x < 18446744073709551616) : bits .and .u64 x 4294967295 = x % 4294967296 := bits_mask .u64 64 (by decide) wraps_u64 32 (by decide) x h₀ (by omega)
theorem ret_two64 {a b c d : Int} (h1 : a = c) (h2 : b = d) : Ending.returned (.tuple #[.int .u64 a, .int .u64 b]) = .returned (.tuple #[.int .u64 c, .int .u64 d]) := by rw [h1, h2]

set_option maxHeartbeats 1000000 in
theorem div64_low (lo y : Nat) (w : World) (hy : 0 < y) (hy1 : y < 18446744073709551616) (hlo : lo < 18446744073709551616) :
    Calls Try.prog 44 #[.int .u64 0, .int .u64 lo, .int .u64 y] w fun e w' => e = .returned (.tuple #[.int .u64 ((lo / y : Nat) : Int), .int .u64 ((lo % y : Nat) : Int)]) ∧ Below w.heap.size w w' := by
  have h1 : ((y : Int) == 0) = false := by simp; omega
  have h2 : decide ((y : Int) ≤ 0) = false := by simp; omega
  have hy0 : (0 : Int) < y := by omega
  go_enter Try.func44, Try.ntmps44
  go_wp2
  go_quiet (fail)
  go_wp2
  go_ret2
  have e1 : ((lo / y : Nat) : Int) = (lo : Int) / y := by simp
  have e2 := Nat.div_le_self lo y
  have e3 : IntKind.u64.wrap ((lo : Int) / y) = ((lo / y : Nat) : Int) := by
    rw [← e1]
    generalize lo / y = q at *
    rw [IntKind.wrap_u64]; omega
  exact ⟨ret_two64 e3 (by simp), below_drewN (Below.refl _ _) _⟩

/-- What is left of a digit's step, reckoned in words. -/
theorem left64 {U u Q Y V : Nat} (h : U * 4294967296 + u = Q * Y + V) (hV : V < 18446744073709551616) :
    IntKind.u64.wrap (IntKind.u64.wrap (IntKind.u64.wrap ((U : Int) * 4294967296) + (u : Int)) - IntKind.u64.wrap ((Q : Int) * (Y : Int))) = (V : Int) := by
  have e : (Q : Int) * (Y : Int) = ((Q * Y : Nat) : Int) := by simp
  rw [e]
  generalize Q * Y = c at *
  simp only [IntKind.wrap_u64]
  omega
theorem wrap_bd (x : Int) : 0 ≤ IntKind.u64.wrap x ∧ IntKind.u64.wrap x < 18446744073709551616 := by rw [IntKind.wrap_u64]; omega
theorem vi64 {a b : Int} (h : a = b) : Value.int .u64 a = Value.int .u64 b := by rw [h]
/-- The letters of Div64: the divisor and the number, shifted up so that the divisor's highest bit is set. -/
theorem div64_set {hi lo y : Nat} (hy : hi < y) (hy1 : y < 18446744073709551616) (hlo : lo < 18446744073709551616) (hh : 0 < hi) :
    ∃ s Y D1 D0 U U10 u1 u0 : Nat, (64 - (Pl.bl y : Int) = s) ∧ s ≤ 63 ∧ Y = y * 2 ^ s ∧ Y < 18446744073709551616 ∧ Y = D1 * 4294967296 + D0 ∧ D0 < 4294967296 ∧ D1 < 4294967296 ∧ 4294967296 ≤ 2 * D1 ∧
      U < Y ∧ U10 < 18446744073709551616 ∧ U10 = u1 * 4294967296 + u0 ∧ u1 < 4294967296 ∧ u0 < 4294967296 ∧ (hi * 18446744073709551616 + lo) * 2 ^ s = (U * 4294967296 + u1) * 4294967296 + u0 ∧
      bits .or .u64 (IntKind.u64.wrap ((hi : Int) * 2 ^ s)) ((lo : Int) / 2 ^ (64 - s)) = (U : Int) ∧ IntKind.u64.wrap ((lo : Int) * 2 ^ s) = (U10 : Int) ∧ IntKind.u64.wrap ((y : Int) * 2 ^ s) = (Y : Int) := by
  have hy0 : y ≠ 0 := by omega
  have hb1 := Pl.two_bl_le hy0
  have hb2 := Pl.lt_two_bl y
  have hb3 := Pl.bl_pos hy0
  have hb4 : Pl.bl y ≤ 64 := Pl.bl_le_of_lt (by
    have : (2 : Nat) ^ 64 = 18446744073709551616 := by decide
    omega)
  obtain ⟨s, hs⟩ : ∃ s, 64 - Pl.bl y = s := ⟨_, rfl⟩
  have hP := Nat.two_pow_pos s
  have p64 : (2 : Nat) ^ 64 = 18446744073709551616 := by decide
  have p63 : (2 : Nat) ^ 63 = 9223372036854775808 := by decide
  have y1 : y * 2 ^ s < 18446744073709551616 := by
    have := (Nat.mul_lt_mul_right hP).2 hb2
    rw [← Nat.pow_add] at this
    have e : Pl.bl y + s = 64 := by omega
    rw [e, p64] at this; exact this
  have y2 : 9223372036854775808 ≤ y * 2 ^ s := by
    have := Nat.mul_le_mul_right (2 ^ s) hb1
    rw [← Nat.pow_add] at this
    have e : Pl.bl y - 1 + s = 63 := by omega
    rw [e, p63] at this; exact this
  have hn : (hi * 18446744073709551616 + lo) * 2 ^ s < (y * 2 ^ s) * 18446744073709551616 := by
    rw [Nat.mul_right_comm]
    exact (Nat.mul_lt_mul_right hP).2 (by omega)
  have g1 := shl_hi (hi : Int) (lo : Int) s (by omega) ⟨by omega, by omega⟩ ⟨by omega, by omega⟩
  have g2 := shl_lo (hi : Int) (lo : Int) s (by omega) ⟨by omega, by omega⟩ ⟨by omega, by omega⟩
  have e1 : num (hi : Int) (lo : Int) * 2 ^ s = (((hi * 18446744073709551616 + lo) * 2 ^ s : Nat) : Int) := by unfold num; simp
  have e3 : (y : Int) * 2 ^ s = ((y * 2 ^ s : Nat) : Int) := by simp
  rw [e1] at g1 g2
  obtain ⟨M, hM⟩ : ∃ M, (hi * 18446744073709551616 + lo) * 2 ^ s = M := ⟨_, rfl⟩
  rw [hM] at hn g1 g2
  obtain ⟨Y, hY⟩ : ∃ Y, y * 2 ^ s = Y := ⟨_, rfl⟩
  rw [hY] at y1 y2 hn e3
  have eN : M = (M / 18446744073709551616 * 4294967296 + M % 18446744073709551616 / 4294967296) * 4294967296 + M % 18446744073709551616 % 4294967296 := by rw [Nat.add_mul, Nat.mul_assoc]; omega
  refine ⟨s, Y, Y / 4294967296, Y % 4294967296, M / 18446744073709551616, M % 18446744073709551616, M % 18446744073709551616 / 4294967296, M % 18446744073709551616 % 4294967296, by omega, by omega, hY.symm, y1, by omega, by omega, by omega, by omega, by omega, by omega, by omega, by omega, by omega, hM.trans eN, ?_, ?_, by rw [e3, IntKind.wrap_u64]; omega⟩
  · rw [g1]; unfold hiOf bit128; omega
  · rw [g2]; unfold loOf bit128; omega

set_option maxRecDepth 100000 in
set_option maxHeartbeats 4000000 in
theorem div64_high (hi lo y : Nat) (w : World) (hy : hi < y) (hy1 : y < 18446744073709551616) (hlo : lo < 18446744073709551616) (hh : 0 < hi) :
    Calls Try.prog 44 #[.int .u64 hi, .int .u64 lo, .int .u64 y] w fun e w' => e = .returned (.tuple #[.int .u64 (((hi * 18446744073709551616 + lo) / y : Nat) : Int), .int .u64 (((hi * 18446744073709551616 + lo) % y : Nat) : Int)]) ∧ Below w.heap.size w w' := by
  obtain ⟨s, Y, D1, D0, U, U10, u1, u0, hs, hs1, hY, hY1, hYD, hD0, hD1, hnorm, hU, hU10, hU10e, hu1, hu0, hN, r1, r2, r3⟩ := div64_set hy hy1 hlo hh
  have ks : Pl.KSet 4294967296 Y D1 D0 U u1 := ⟨hYD, hD0, hD1, hnorm, hu1, hU⟩
  obtain ⟨k0, k0'⟩ := ks.start
  have hq0b := k0.high
  have r4 : (Y : Int) / 4294967296 = D1 := by omega
  have r5 : bits .and .u64 (Y : Int) 4294967295 = D0 := by rw [and_32 _ (by omega) (by omega)]; omega
  have r6 : (U10 : Int) / 4294967296 = u1 := by omega
  have r7 : bits .and .u64 (U10 : Int) 4294967295 = u0 := by rw [and_32 _ (by omega) (by omega)]; omega
  have r8 : (U : Int) / (D1 : Int) = ((U / D1 : Nat) : Int) := by simp
  have r9 : ((U / D1 : Nat) : Int) * (D1 : Int) = ((U / D1 * D1 : Nat) : Int) := by simp
  obtain ⟨q0, hq0⟩ : ∃ q0, U / D1 = q0 := ⟨_, rfl⟩
  obtain ⟨P0, hP0⟩ : ∃ P0, U / D1 * D1 = P0 := ⟨_, rfl⟩
  rw [hP0] at r9 k0 k0'
  rw [hq0] at r8 r9 k0 hq0b
  have r10 : (U : Int) - (P0 : Int) = ((U - P0 : Nat) : Int) := by omega
  obtain ⟨r0, hr0⟩ : ∃ r0, U - P0 = r0 := ⟨_, rfl⟩
  rw [hr0] at r10 k0
  have H1 : ((y : Int) == 0) = false := by simp; omega
  have H2 : decide ((y : Int) ≤ (hi : Int)) = false := by simp; omega
  have H2' : decide (y ≤ hi) = false := by simp; omega
  have H3 : ((hi : Int) == 0) = false := by simp; omega
  have H3' : decide (hi = 0) = false := by simp; omega
  have HS := Lib.hid hs
  have K0 := Lib.hid k0
  have KS := Lib.hid ks
  have HY := Lib.hid hY
  have HN := Lib.hid hN
  have hd1 : 0 < D1 := ks.dpos
  have hd2 : (0 : Int) < D1 := by omega
  clear hs k0 ks hY hN hq0 hP0 hr0 hYD hU10e
  go_enter Try.func44, Try.ntmps44
  go_upto_block 0 with (go_at_call 49; refine (lead64 (y : Int) _ (by omega) (by omega)).mono ?_; rw [Int.toNat_natCast, HS.out]; rintro r w' ⟨rfl, rfl⟩)
  obtain ⟨Q1, hQ1⟩ : ∃ Q1, (U * 4294967296 + u1) / Y = Q1 := ⟨_, rfl⟩
  have HQ := Lib.hid hQ1
  clear hQ1
  go_cut [15, 16] (fun qv _ wx => qv = .int .u64 Q1 ∧ wx = w)
  case first =>
    go_wp2
    go_loop [15, 16] (fun qv rv => ∃ q r : Nat, qv = .int .u64 q ∧ rv = .int .u64 r ∧ Pl.KAt 4294967296 Y D1 U u1 q r) (fun qv _ => (intOf qv).toNat)
    case atStart => exact ⟨q0, r0, rfl, rfl, K0.out⟩
    case round =>
      obtain ⟨q, r, rfl, rfl, hk⟩ := hrel
      have hr0 := hk.r
      have hq9 := hk.high
      have HK := Lib.hid hk
      clear hk
      by_cases c1 : 4294967296 ≤ q
      · have c2 : decide (4294967296 ≤ (q : Int)) = true := by simp; omega
        have hq := HK.out.yes KS.out (.inl c1)
        clear c1
        have hq1 : 1 ≤ q := Nat.le_trans (Nat.le_add_left 1 _) hq
        obtain ⟨p, hp⟩ : ∃ p, q - 1 = p := ⟨_, rfl⟩
        have hqp : (q : Int) - 1 = (p : Int) := by omega
        by_cases hr : r + D1 < 4294967296
        · have hrd : decide (4294967296 ≤ (r : Int) + (D1 : Int)) = false := by simp; omega
          have KD := Lib.hid (HK.out.dec hq hr)
          rw [hp] at KD
          clear hp
          go_wp2
          go_round
          case rel => exact ⟨p, r + D1, by go_num, by go_num, KD.out⟩
          case measure => simp [intOf]; omega
        · have hrd : decide (4294967296 ≤ (r : Int) + (D1 : Int)) = true := by simp; omega
          have KB := Lib.hid ((HK.out.brk KS.out hq (by omega)).trans HQ.out)
          rw [hp] at KB
          clear hp
          go_wp2
          go_meet
          exact ⟨vi64 (by rw [← KB.out]), rfl⟩
      · have c2 : decide (4294967296 ≤ (q : Int)) = false := by simp; omega
        obtain ⟨b1, b2⟩ := HK.out.small KS.out (by omega)
        have s1 : (q : Int) * (D0 : Int) = ((q * D0 : Nat) : Int) := by simp
        have s2 : 4294967296 * (r : Int) = ((4294967296 * r : Nat) : Int) := by simp
        have hc := HK.out.cmp KS.out
        by_cases c3 : 4294967296 * r + u1 < q * D0
        · have hq := HK.out.yes KS.out (.inr c3)
          clear hc
          obtain ⟨P, hP⟩ : ∃ P, q * D0 = P := ⟨_, rfl⟩
          obtain ⟨R, hR⟩ : ∃ R, 4294967296 * r = R := ⟨_, rfl⟩
          rw [hP] at s1 c3 b1
          rw [hR] at s2 c3 b2
          clear hP hR
          have c4 : decide ((R : Int) + (u1 : Int) < (P : Int)) = true := by simp; omega
          clear c1
          have hq1 : 1 ≤ q := Nat.le_trans (Nat.le_add_left 1 _) hq
          obtain ⟨p, hp⟩ : ∃ p, q - 1 = p := ⟨_, rfl⟩
          have hqp : (q : Int) - 1 = (p : Int) := by omega
          by_cases hr : r + D1 < 4294967296
          · have hrd : decide (4294967296 ≤ (r : Int) + (D1 : Int)) = false := by simp; omega
            have KD := Lib.hid (HK.out.dec hq hr)
            rw [hp] at KD
            clear hp
            go_wp2
            go_round
            case rel => exact ⟨p, r + D1, by go_num, by go_num, KD.out⟩
            case measure => simp [intOf]; omega
          · have hrd : decide (4294967296 ≤ (r : Int) + (D1 : Int)) = true := by simp; omega
            have KB := Lib.hid ((HK.out.brk KS.out hq (by omega)).trans HQ.out)
            rw [hp] at KB
            clear hp
            go_wp2
            go_meet
            exact ⟨vi64 (by rw [← KB.out]), rfl⟩
        · have KN := Lib.hid ((HK.out.no KS.out c3).trans HQ.out)
          clear hc
          obtain ⟨P, hP⟩ : ∃ P, q * D0 = P := ⟨_, rfl⟩
          obtain ⟨R, hR⟩ : ∃ R, 4294967296 * r = R := ⟨_, rfl⟩
          rw [hP] at s1 c3 b1
          rw [hR] at s2 c3 b2
          clear hP hR
          have c4 : decide ((R : Int) + (u1 : Int) < (P : Int)) = false := by simp; omega
          go_wp2
          go_meet
          exact ⟨vi64 (by rw [← KN.out]), rfl⟩
  case rest =>
    obtain ⟨rfl, rfl⟩ := hcut
    have hV := Nat.mod_lt (U * 4294967296 + u1) KS.out.ypos
    have hdm := Nat.div_add_mod (U * 4294967296 + u1) Y
    rw [HQ.out, Nat.mul_comm Y Q1] at hdm
    obtain ⟨V, hVe⟩ : ∃ V, (U * 4294967296 + u1) % Y = V := ⟨_, rfl⟩
    rw [hVe] at hV hdm
    have t1 := left64 hdm.symm (by omega)
    have HV := Lib.hid hVe
    clear hVe hdm
    obtain ⟨X1, hX1⟩ : ∃ X1, IntKind.u64.wrap ((U : Int) * 4294967296) = X1 := ⟨_, rfl⟩
    rw [hX1] at t1
    obtain ⟨X2, hX2⟩ : ∃ X2, IntKind.u64.wrap (X1 + (u1 : Int)) = X2 := ⟨_, rfl⟩
    rw [hX2] at t1
    obtain ⟨X3, hX3⟩ : ∃ X3, IntKind.u64.wrap ((Q1 : Int) * (Y : Int)) = X3 := ⟨_, rfl⟩
    rw [hX3] at t1
    have ks : Pl.KSet 4294967296 Y D1 D0 V u0 := ⟨KS.out.y, hD0, hD1, hnorm, hu0, hV⟩
    obtain ⟨k0, k1'⟩ := ks.start
    have hq1b := k0.high
    have r18 : (V : Int) / (D1 : Int) = ((V / D1 : Nat) : Int) := by simp
    have r19 : ((V / D1 : Nat) : Int) * (D1 : Int) = ((V / D1 * D1 : Nat) : Int) := by simp
    obtain ⟨q2, hq2⟩ : ∃ q2, V / D1 = q2 := ⟨_, rfl⟩
    obtain ⟨P2, hP2⟩ : ∃ P2, V / D1 * D1 = P2 := ⟨_, rfl⟩
    rw [hP2] at r19 k0 k1'
    rw [hq2] at r18 r19 k0 hq1b
    have r20 : (V : Int) - (P2 : Int) = ((V - P2 : Nat) : Int) := by omega
    obtain ⟨r2', hr2⟩ : ∃ r2', V - P2 = r2' := ⟨_, rfl⟩
    rw [hr2] at r20 k0
    have K2 := Lib.hid k0
    have HQ1 := Lib.hid HQ.out
    have KS1 := Lib.hid KS.out
    clear k0 hq2 hP2 hr2 r8 r9 r10 KS HQ K0
    have KS := Lib.hid ks
    clear ks
    obtain ⟨Q2, hQ2⟩ : ∃ Q2, (V * 4294967296 + u0) / Y = Q2 := ⟨_, rfl⟩
    have HQ := Lib.hid hQ2
    clear hQ2
    go_upto_block 2 with (fail)
    go_cut [18, 16] (fun qv _ wx => qv = .int .u64 Q2 ∧ wx = wc)
    case first =>
      go_wp2
      go_loop [18, 16] (fun qv rv => ∃ q r : Nat, qv = .int .u64 q ∧ rv = .int .u64 r ∧ Pl.KAt 4294967296 Y D1 V u0 q r) (fun qv _ => (intOf qv).toNat)
      case atStart => exact ⟨q2, r2', rfl, rfl, K2.out⟩
      case round =>
        obtain ⟨q, r, rfl, rfl, hk⟩ := hrel
        have hr0 := hk.r
        have hq9 := hk.high
        have HK := Lib.hid hk
        clear hk
        by_cases c1 : 4294967296 ≤ q
        · have c2 : decide (4294967296 ≤ (q : Int)) = true := by simp; omega
          have hq := HK.out.yes KS.out (.inl c1)
          clear c1
          have hq1 : 1 ≤ q := Nat.le_trans (Nat.le_add_left 1 _) hq
          obtain ⟨p, hp⟩ : ∃ p, q - 1 = p := ⟨_, rfl⟩
          have hqp : (q : Int) - 1 = (p : Int) := by omega
          by_cases hr : r + D1 < 4294967296
          · have hrd : decide (4294967296 ≤ (r : Int) + (D1 : Int)) = false := by simp; omega
            have KD := Lib.hid (HK.out.dec hq hr)
            rw [hp] at KD
            clear hp
            go_wp2
            go_round
            case rel => exact ⟨p, r + D1, by go_num, by go_num, KD.out⟩
            case measure => simp [intOf]; omega
          · have hrd : decide (4294967296 ≤ (r : Int) + (D1 : Int)) = true := by simp; omega
            have KB := Lib.hid ((HK.out.brk KS.out hq (by omega)).trans HQ.out)
            rw [hp] at KB
            clear hp
            go_wp2
            go_meet
            exact ⟨vi64 (by rw [← KB.out]), rfl⟩
        · have c2 : decide (4294967296 ≤ (q : Int)) = false := by simp; omega
          obtain ⟨b1, b2⟩ := HK.out.small KS.out (by omega)
          have s1 : (q : Int) * (D0 : Int) = ((q * D0 : Nat) : Int) := by simp
          have s2 : 4294967296 * (r : Int) = ((4294967296 * r : Nat) : Int) := by simp
          have hc := HK.out.cmp KS.out
          by_cases c3 : 4294967296 * r + u0 < q * D0
          · have hq := HK.out.yes KS.out (.inr c3)
            clear hc
            obtain ⟨P, hP⟩ : ∃ P, q * D0 = P := ⟨_, rfl⟩
            obtain ⟨R, hR⟩ : ∃ R, 4294967296 * r = R := ⟨_, rfl⟩
            rw [hP] at s1 c3 b1
            rw [hR] at s2 c3 b2
            clear hP hR
            have c4 : decide ((R : Int) + (u0 : Int) < (P : Int)) = true := by simp; omega
            clear c1
            have hq1 : 1 ≤ q := Nat.le_trans (Nat.le_add_left 1 _) hq
            obtain ⟨p, hp⟩ : ∃ p, q - 1 = p := ⟨_, rfl⟩
            have hqp : (q : Int) - 1 = (p : Int) := by omega
            by_cases hr : r + D1 < 4294967296
            · have hrd : decide (4294967296 ≤ (r : Int) + (D1 : Int)) = false := by simp; omega
              have KD := Lib.hid (HK.out.dec hq hr)
              rw [hp] at KD
              clear hp
              go_wp2
              go_round
              case rel => exact ⟨p, r + D1, by go_num, by go_num, KD.out⟩
              case measure => simp [intOf]; omega
            · have hrd : decide (4294967296 ≤ (r : Int) + (D1 : Int)) = true := by simp; omega
              have KB := Lib.hid ((HK.out.brk KS.out hq (by omega)).trans HQ.out)
              rw [hp] at KB
              clear hp
              go_wp2
              go_meet
              exact ⟨vi64 (by rw [← KB.out]), rfl⟩
          · have KN := Lib.hid ((HK.out.no KS.out c3).trans HQ.out)
            clear hc
            obtain ⟨P, hP⟩ : ∃ P, q * D0 = P := ⟨_, rfl⟩
            obtain ⟨R, hR⟩ : ∃ R, 4294967296 * r = R := ⟨_, rfl⟩
            rw [hP] at s1 c3 b1
            rw [hR] at s2 c3 b2
            clear hP hR
            have c4 : decide ((R : Int) + (u0 : Int) < (P : Int)) = false := by simp; omega
            go_wp2
            go_meet
            exact ⟨vi64 (by rw [← KN.out]), rfl⟩
    case rest =>
      obtain ⟨rfl, rfl⟩ := hcut
      have hq1 : Q1 < 4294967296 := by rw [← HQ1.out]; exact KS1.out.digit
      have hq2 : Q2 < 4294967296 := by rw [← HQ.out]; exact KS.out.digit
      obtain ⟨fin1, fin2, _⟩ := Pl.two_digits (P := 2 ^ s) HY.out (Nat.two_pow_pos s) HN.out KS.out.ypos
      have hW := Nat.mod_lt (V * 4294967296 + u0) KS.out.ypos
      have hdm := Nat.div_add_mod (V * 4294967296 + u0) Y
      rw [HQ.out, Nat.mul_comm Y Q2] at hdm
      rw [HQ1.out, HV.out, HQ.out] at fin1
      rw [HV.out] at fin2
      obtain ⟨W, hWe⟩ : ∃ W, (V * 4294967296 + u0) % Y = W := ⟨_, rfl⟩
      rw [hWe] at hW hdm fin2
      have t2 := left64 hdm.symm (by omega)
      clear hWe hdm
      obtain ⟨X4, hX4⟩ : ∃ X4, IntKind.u64.wrap ((V : Int) * 4294967296) = X4 := ⟨_, rfl⟩
      rw [hX4] at t2
      obtain ⟨X5, hX5⟩ : ∃ X5, IntKind.u64.wrap (X4 + (u0 : Int)) = X5 := ⟨_, rfl⟩
      rw [hX5] at t2
      obtain ⟨X6, hX6⟩ : ∃ X6, IntKind.u64.wrap ((Q2 : Int) * (Y : Int)) = X6 := ⟨_, rfl⟩
      rw [hX6] at t2
      obtain ⟨Z, hZ⟩ : ∃ Z, Q1 * 4294967296 = Z := ⟨_, rfl⟩
      have t3 : IntKind.u64.wrap ((Q1 : Int) * 4294967296) = (Z : Int) := by rw [IntKind.wrap_u64]; omega
      have hZ1 : Z + Q2 < 18446744073709551616 := by omega
      rw [hZ] at fin1
      have F1 := Lib.hid fin1
      have F2 := Lib.hid fin2
      have e2 : (W : Int) / 2 ^ s = ((W / 2 ^ s : Nat) : Int) := by simp
      have E2 := Lib.hid e2
      clear fin1 fin2 hZ r18 r19 r20 e2
      go_wp2
      go_ret2
      exact ⟨ret_two64 (by rw [← F1.out]; simp) (by rw [← F2.out, ← E2.out]), Below.refl _ _⟩
theorem div64_any (hi lo y : Nat) (w : World) (hy : hi < y) (hy1 : y < 18446744073709551616) (hlo : lo < 18446744073709551616) :
    Calls Try.prog 44 #[.int .u64 hi, .int .u64 lo, .int .u64 y] w fun e w' => e = .returned (.tuple #[.int .u64 (((hi * 18446744073709551616 + lo) / y : Nat) : Int), .int .u64 (((hi * 18446744073709551616 + lo) % y : Nat) : Int)]) ∧ Below w.heap.size w w' := by
  rcases Nat.eq_zero_or_pos hi with h | h
  · subst h
    have := div64_low lo y w hy hy1 hlo
    rw [Nat.zero_mul, Nat.zero_add]
    exact this
  · exact div64_high hi lo y w hy hy1 hlo h
end Go.Proofs.Yteikkoiaeejgaaa
