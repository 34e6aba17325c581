/-
  The reference of chapter 2: Shl, Shr, Root; what the law's own functions nat and is answer.
-/
import Derived.Test.YteikkoiaeejgaaaRef2B
namespace Go.Proofs.Yteikkoiaeejgaaa
open Go.RowKit Go.Shelf

set_option maxRecDepth 100000 in
set_option maxHeartbeats 2000000 in
theorem shr2_v {w : World} {v : Value} {N d : Nat} (n : Int) (k : Nat) (h : SliceV w v N d) (hd : d ≤ 20) (hk : max n 0 = k) (n1 : n < 9223372036854775808) : Calls Try.prog 23 #[v, .int .i64 n] w (RetNatB (shrQ N k) (lostB N k) w) := by
  have H := Lib.hid h
  clear h
  by_cases h0 : n < 0
  · obtain rfl : k = 0 := by omega
    clear hk
    go_enter Try.func23, Try.ntmps23
    go_wp2_with fail
    (with_reducible refine (shr1_v 0 0 H.out hd rfl (by decide)).mono ?_)
    rintro e w1 ⟨v1, rfl, hv1, hb1⟩
    go_wp2
    go_ret2
    exact ⟨v1, rfl, hv1, hb1⟩
  · have HN := Lib.hid (show n = (k : Int) by omega)
    clear hk
    go_enter Try.func23, Try.ntmps23
    go_wp2_with fail
    (with_reducible refine (shr1_v n k H.out hd HN.out n1).mono ?_)
    rintro e w1 ⟨v1, rfl, hv1, hb1⟩
    go_wp2
    go_ret2
    exact ⟨v1, rfl, hv1, hb1⟩

def shlQ (N k : Nat) : Nat := N * 2 ^ k % E128
theorem shlQ_far {N k : Nat} (hk : 127 < k) : shlQ N k = 0 := by
  unfold shlQ
  obtain ⟨j, rfl⟩ : ∃ j, k = 128 + j := ⟨k - 128, by omega⟩
  have : N * 2 ^ (128 + j) = E128 * (N * 2 ^ j) := by rw [Nat.pow_add]; unfold E128; grind
  rw [this, Nat.mul_mod_right]
theorem limbs_low {M : Nat} (h : 4 < (Pl.limbs M).length) : Pl.val ((Pl.limbs M).take 4) = M % E128 := by
  have e := Pl.val_take_drop (Pl.limbs M) 4 (by omega)
  rw [Pl.val_limbs] at e
  have h1 := Pl.val_lt ((Pl.fit_limbs M).take 4)
  rw [List.length_take, Nat.min_eq_left (by omega)] at h1
  have e4 : Pl.B32 ^ 4 = E128 := by decide
  rw [e4] at e h1
  generalize Pl.val ((Pl.limbs M).take 4) = x at *
  generalize Pl.val ((Pl.limbs M).drop 4) = y at *
  unfold E128 at *
  omega

theorem shl1_0 {w : World} {v : Value} {N d : Nat} (h : SliceV w v N d) (hd : d ≤ 20) : Calls Try.prog 43 #[v, .int .i64 0] w (RetNatE (N * 2 ^ 0) w) := shl1_v 0 h hd (by omega)
theorem nat2_0 (h l : Nat) (w : World) (hh : h < 18446744073709551616) (hl : l < 18446744073709551616) : Calls Try.prog 17 #[.int .u64 0, .int .u64 h, .int .u64 l] w (RetNat (h * 18446744073709551616 + l) w) := by
  have := nat2_any 0 h l w (by decide) hh hl
  rw [Nat.zero_mul, Nat.zero_add] at this
  exact this
theorem nat2_00 (l : Nat) (w : World) (hl : l < 18446744073709551616) : Calls Try.prog 17 #[.int .u64 0, .int .u64 0, .int .u64 l] w (RetNat l w) := by
  have := nat2_0 0 l w (by decide) hl
  rw [Nat.zero_mul, Nat.zero_add] at this
  exact this
set_option maxRecDepth 100000 in
set_option maxHeartbeats 2000000 in
theorem shl2_mid {w : World} {v : Value} {N d : Nat} (n : Int) (k : Nat) (h : SliceV w v N d) (hd : d ≤ 20) (hk : max n 0 = k) (hn : k ≤ 127) : Calls Try.prog 25 #[v, .int .i64 n] w (RetNat (shlQ N k) w) := by
  have H := Lib.hid h
  obtain ⟨M, hM⟩ : ∃ M, N * 2 ^ k = M := ⟨_, rfl⟩
  have hQ : shlQ N k = M % E128 := by unfold shlQ; rw [hM]
  rw [hQ]
  obtain ⟨p, hp⟩ : ∃ p, (Pl.limbs M).length = p := ⟨_, rfl⟩
  have hMB : M < Pl.B32 ^ (d + 3 + 1) := by
    rw [← hM]
    have := up_bound' (q := 3) (k := k - 96) (r := 31) h.lt (by omega) (by omega)
    by_cases hk96 : 96 ≤ k
    · have e : 32 * 3 + (k - 96) = k := by omega
      rwa [e] at this
    · refine Nat.lt_of_le_of_lt (Nat.mul_le_mul_left _ (Nat.pow_le_pow_right (by omega) ?_)) this
      omega
  have hpl := Pl.limbs_len_le hMB
  rw [hp] at hpl
  have HM := Lib.hid hM
  have HP := Lib.hid hp
  have HMB := Lib.hid hMB
  by_cases h4 : 4 < p
  · have HL := Lib.hid (limbs_low (M := M) (by rw [hp]; exact h4))
    have h4i : (4 : Int) < (p : Int) := by omega
    clear h hM hp hMB hQ
    by_cases h0 : n < 0
    · obtain rfl : k = 0 := by omega
      clear hk
      go_enter Try.func25, Try.ntmps25
      go_wp2_with fail
      (with_reducible refine (shl1_0 H.out hd).mono ?_)
      rw [HM.out]
      rintro e w1 ⟨v1, rfl, ⟨A1, n1, c1, rfl, h1, h2, hl1⟩, hb1⟩
      obtain rfl : n1 = p := hl1.len.symm.trans HP.out
      have HT := Lib.hid (hl1.take (show 4 ≤ n1 by omega))
      have hc4 : 4 ≤ c1 := by omega
      have H2 := Lib.hid h2
      have hb := Lib.hid hb1
      unfold maxLen at h2
      clear hl1 hb1
      go_wp2_with fail
      (with_reducible refine (trim_any A1 4 c1 _ _ HT.out (by omega) H2.out (by omega)).mono ?_)
      rw [HL.out]
      rintro e w2 ⟨v2, rfl, hv2, hb2⟩
      go_wp2
      go_ret
      exact ⟨v2, rfl, hv2, hb.out.trans (hb2.mono hb.out.size)⟩
    · obtain rfl : n = (k : Int) := by omega
      have hk127 : ¬ (127 : Int) < (k : Int) := by omega
      clear hk h0
      go_enter Try.func25, Try.ntmps25
      go_wp2_with fail
      (with_reducible refine (shl1_v k H.out hd (by omega)).mono ?_)
      rw [HM.out]
      rintro e w1 ⟨v1, rfl, ⟨A1, n1, c1, rfl, h1, h2, hl1⟩, hb1⟩
      obtain rfl : n1 = p := hl1.len.symm.trans HP.out
      have HT := Lib.hid (hl1.take (show 4 ≤ n1 by omega))
      have hc4 : 4 ≤ c1 := by omega
      have H2 := Lib.hid h2
      have hb := Lib.hid hb1
      unfold maxLen at h2
      clear hl1 hb1
      go_wp2_with fail
      (with_reducible refine (trim_any A1 4 c1 _ _ HT.out (by omega) H2.out (by omega)).mono ?_)
      rw [HL.out]
      rintro e w2 ⟨v2, rfl, hv2, hb2⟩
      go_wp2
      go_ret
      exact ⟨v2, rfl, hv2, hb.out.trans (hb2.mono hb.out.size)⟩
  · have hME : M % E128 = M := by
      have := Pl.lt_of_limbs_len (n := M) (k := 4) (by omega)
      exact Nat.mod_eq_of_lt (by have e4 : Pl.B32 ^ 4 = E128 := by decide
                                 rw [← e4]; exact this)
    rw [hME]
    have h4i : ¬ (4 : Int) < (p : Int) := by omega
    clear h hM hp hMB hQ hME
    by_cases h0 : n < 0
    · obtain rfl : k = 0 := by omega
      clear hk
      go_enter Try.func25, Try.ntmps25
      go_wp2_with fail
      (with_reducible refine (shl1_0 H.out hd).mono ?_)
      rw [HM.out]
      rintro e w1 ⟨v1, rfl, hv1, hb1⟩
      have HT := Lib.hid (hv1.slice HMB.out)
      obtain ⟨A1, n1, c1, rfl, h1, h2, hl1⟩ := hv1
      obtain rfl : n1 = p := hl1.len.symm.trans HP.out
      have hb := Lib.hid hb1
      clear hl1 hb1
      go_wp2_with fail
      (with_reducible refine (trim_v HT.out (by omega)).mono ?_)
      rintro e w2 ⟨v2, rfl, hv2, hb2⟩
      go_wp2
      go_ret
      exact ⟨v2, rfl, hv2, hb.out.trans (hb2.mono hb.out.size)⟩
    · obtain rfl : n = (k : Int) := by omega
      have hk127 : ¬ (127 : Int) < (k : Int) := by omega
      clear hk h0
      go_enter Try.func25, Try.ntmps25
      go_wp2_with fail
      (with_reducible refine (shl1_v k H.out hd (by omega)).mono ?_)
      rw [HM.out]
      rintro e w1 ⟨v1, rfl, hv1, hb1⟩
      have HT := Lib.hid (hv1.slice HMB.out)
      obtain ⟨A1, n1, c1, rfl, h1, h2, hl1⟩ := hv1
      obtain rfl : n1 = p := hl1.len.symm.trans HP.out
      have hb := Lib.hid hb1
      clear hl1 hb1
      go_wp2_with fail
      (with_reducible refine (trim_v HT.out (by omega)).mono ?_)
      rintro e w2 ⟨v2, rfl, hv2, hb2⟩
      go_wp2
      go_ret
      exact ⟨v2, rfl, hv2, hb.out.trans (hb2.mono hb.out.size)⟩
theorem shl2_v {w : World} {v : Value} {N d : Nat} (n : Int) (k : Nat) (h : SliceV w v N d) (hd : d ≤ 20) (hk : max n 0 = k) : Calls Try.prog 25 #[v, .int .i64 n] w (RetNat (shlQ N k) w) := by
  by_cases hn : k ≤ 127
  · exact shl2_mid n k h hd hk hn
  · rw [shlQ_far (by omega)]
    have hn1 : 127 < n := by omega
    have hn0 : ¬ n < 0 := by omega
    clear hk hn
    go_enter Try.func25, Try.ntmps25
    go_wp2
    go_ret
    exact ⟨_, rfl, NatV.nil _, Below.refl _ _⟩

/-- Ahead of a round of Root. -/
structure RAt (N j r : Nat) : Prop where
  lo : r * r ≤ N
  hi : N < (r + 2 ^ j) * (r + 2 ^ j)
  top : r + 2 ^ j ≤ 18446744073709551616
theorem RAt.start {N : Nat} (h : N < E128) : RAt N 64 0 := ⟨by omega, by unfold E128 at h; omega, by decide⟩
theorem RAt.bd {N j r : Nat} (h : RAt N (j + 1) r) : r + 2 ^ j < 18446744073709551616 ∧ r + 2 ^ j + 2 ^ j ≤ 18446744073709551616 := by
  have h1 := h.top
  rw [Nat.pow_succ] at h1
  have := Nat.two_pow_pos j
  omega
theorem RAt.yes {N j r : Nat} (h : RAt N (j + 1) r) (hle : (r + 2 ^ j) * (r + 2 ^ j) ≤ N) : RAt N j (r + 2 ^ j) := ⟨hle, by
  have h1 := h.hi
  have e : r + 2 ^ (j + 1) = r + 2 ^ j + 2 ^ j := by rw [Nat.pow_succ]; omega
  rwa [e] at h1, h.bd.2⟩
theorem RAt.no {N j r : Nat} (h : RAt N (j + 1) r) (hlt : N < (r + 2 ^ j) * (r + 2 ^ j)) : RAt N j r := ⟨h.lo, hlt, by have := h.bd; omega⟩
theorem RAt.done {N r : Nat} (h : RAt N 0 r) : r = Pl.rt N := Pl.rt_unique h.lo (by have := h.hi; rwa [Nat.pow_zero] at this)
theorem cmp_le' {a b : Nat} (h : a ≤ b) : cmpI (a : Int) b ≤ 0 := by unfold cmpI; (repeat' split) <;> omega

set_option maxRecDepth 100000 in
set_option maxHeartbeats 4000000 in
theorem root2_v {w : World} {v : Value} {N d : Nat} (h : SliceV w v N d) (hd : d ≤ 100) (hN : N < E128) : Calls Try.prog 30 #[v] w fun e w' => e = .returned (.int .u64 (Pl.rt N : Nat)) ∧ Below w.heap.size w w' := by
  have H := Lib.hid h
  have HN := Lib.hid hN
  clear h hN
  go_enter Try.func30, Try.ntmps30
  go_wp2
  go_loopw [3, 4] (fun rv iv wr => ∃ j r : Nat, iv = .int .i64 ((j : Int) - 1) ∧ rv = .int .u64 r ∧ j ≤ 64 ∧ RAt N j r ∧ Below w.heap.size w wr) (fun _ iv _ => (intOf iv + 1).toNat)
  case atStart => exact ⟨64, 0, rfl, rfl, Nat.le_refl _, RAt.start HN.out, Below.refl _ _⟩
  case round =>
    obtain ⟨j, r, rfl, rfl, hj, hat, hB⟩ := hrel
    have HA := Lib.hid hat
    have HB := Lib.hid hB
    clear hat hB
    rcases Nat.eq_zero_or_pos j with h0 | h0
    · subst h0
      have HD := Lib.hid HA.out.done
      go_wp2
      go_ret
      exact ⟨retI (by rw [← HD.out]), HB.out⟩
    · obtain ⟨i, rfl⟩ : ∃ i, j = i + 1 := ⟨j - 1, by omega⟩
      obtain ⟨hb1, hb2⟩ := HA.out.bd
      obtain ⟨P, hP⟩ : ∃ P, 2 ^ i = P := ⟨_, rfl⟩
      have hPi : (2 : Int) ^ i = (P : Int) := by rw [← hP]; simp
      have k1 : IntKind.u64.wrap (P : Int) = (P : Int) := wraps_u64 _ (by omega) (by omega)
      rw [hP] at hb1 hb2
      obtain ⟨t, ht⟩ : ∃ t, r + P = t := ⟨_, rfl⟩
      have htI : (r : Int) + (P : Int) = (t : Int) := by omega
      have htb : t < 18446744073709551616 := by omega
      have htbI : (t : Int) < 18446744073709551616 := by omega
      have k2 : IntKind.u64.wrap (t : Int) = (t : Int) := wraps_u64 _ (by omega) (by omega)
      obtain ⟨X, hX⟩ : ∃ X, t * t = X := ⟨_, rfl⟩
      obtain ⟨C, hC⟩ : ∃ C, cmpI (X : Int) (N : Nat) = C := ⟨_, rfl⟩
      have hXB : X < Pl.B32 ^ 5 := by
        rw [← hX]
        have := Nat.mul_le_mul (show t ≤ 18446744073709551615 by omega) (show t ≤ 18446744073709551615 by omega)
        have e5 : Pl.B32 ^ 5 = 1461501637330902918203684832716283019655932542976 := by decide
        omega
      have htB : t < Pl.B32 ^ 5 := by
        have e5 : Pl.B32 ^ 5 = 1461501637330902918203684832716283019655932542976 := by decide
        omega
      have HTB := Lib.hid htB
      have HXB := Lib.hid hXB
      have HTT := Lib.hid htb
      have HX := Lib.hid hX
      have HC := Lib.hid hC
      have HP := Lib.hid hP
      have HT := Lib.hid ht
      by_cases hle : X ≤ N
      · have hC0 : C ≤ 0 := by rw [← hC]; exact cmp_le' hle
        have HS := Lib.hid (HA.out.yes (by rw [hP, ht, hX]; exact hle))
        clear hP hX hC ht htb hXB htB hle hb1 hb2
        go_wp2_with fail
        (with_reducible refine (nat2_00 t _ HTT.out).mono ?_)
        rintro e w1 ⟨v1, rfl, hv1, hb1⟩
        have HV1 := Lib.hid (hv1.slice (d := d + 5) (Nat.lt_of_lt_of_le HTB.out (Nat.pow_le_pow_right Pl.B32_pos (by omega))))
        have HB1 := Lib.hid (HB.out.trans (hb1.mono HB.out.size))
        clear hv1 hb1
        go_wp2_with fail
        (with_reducible refine (times1_v HV1.out HV1.out (by omega)).mono ?_)
        rw [HX.out]
        rintro e w2 ⟨v2, rfl, hv2, hb2⟩
        have HV2 := Lib.hid (hv2.slice (d := d + 5) (Nat.lt_of_lt_of_le HXB.out (Nat.pow_le_pow_right Pl.B32_pos (by omega))))
        have HB2 := Lib.hid (HB1.out.trans (hb2.mono HB1.out.size))
        have HA2 := Lib.hid (((H.out.below HB2.out)).more (show d ≤ d + 5 by omega))
        clear hv2 hb2
        go_wp2_with fail
        (with_reducible refine (rcmp_v HV2.out HA2.out (by omega)).mono ?_)
        rw [HC.out]
        rintro e w3 ⟨rfl, hb3⟩
        go_wp2
        go_roundw
        case rel => exact ⟨i, t, by go_num, rfl, by omega, by have := HS.out; rw [HP.out, HT.out] at this; exact this, HB2.out.trans (hb3.mono HB2.out.size)⟩
        case measure => simp [intOf]
      · have hC0 : ¬ C ≤ 0 := by rw [← hC, cmp_gt' (by omega)]; omega
        have HS := Lib.hid (HA.out.no (by rw [hP, ht, hX]; omega))
        clear hP hX hC ht htb hXB htB hle hb1 hb2
        go_wp2_with fail
        (with_reducible refine (nat2_00 t _ HTT.out).mono ?_)
        rintro e w1 ⟨v1, rfl, hv1, hb1⟩
        have HV1 := Lib.hid (hv1.slice (d := d + 5) (Nat.lt_of_lt_of_le HTB.out (Nat.pow_le_pow_right Pl.B32_pos (by omega))))
        have HB1 := Lib.hid (HB.out.trans (hb1.mono HB.out.size))
        clear hv1 hb1
        go_wp2_with fail
        (with_reducible refine (times1_v HV1.out HV1.out (by omega)).mono ?_)
        rw [HX.out]
        rintro e w2 ⟨v2, rfl, hv2, hb2⟩
        have HV2 := Lib.hid (hv2.slice (d := d + 5) (Nat.lt_of_lt_of_le HXB.out (Nat.pow_le_pow_right Pl.B32_pos (by omega))))
        have HB2 := Lib.hid (HB1.out.trans (hb2.mono HB1.out.size))
        have HA2 := Lib.hid (((H.out.below HB2.out)).more (show d ≤ d + 5 by omega))
        clear hv2 hb2
        go_wp2_with fail
        (with_reducible refine (rcmp_v HV2.out HA2.out (by omega)).mono ?_)
        rw [HC.out]
        rintro e w3 ⟨rfl, hb3⟩
        have hCC : decide (C ≤ 0) = false := by simp; omega
        clear hC0
        go_wp2
        go_roundw
        case rel => exact ⟨i, r, by go_num, rfl, by omega, HS.out, HB2.out.trans (hb3.mono HB2.out.size)⟩
        case measure => simp [intOf]

end Go.Proofs.Yteikkoiaeejgaaa
