/-
  The reference of chapter 4: Add, Sub, Mul.
-/
import Derived.Test.YtgioliopoepaoaaRef4
import Derived.Test.YtgioliopoepaoaaRef3U
import Derived.Test.YtgioliopoepaoaaArithA
namespace Go.Proofs.Ytgioliopoepaoaa
open Go.RowKit Go.Shelf

set_option maxHeartbeats 400000 in
theorem rzero_any (b : Bool) (w : World) : Calls Try.prog 26 #[.bool b] w fun e w' => e = .returned (.int .u64 (sb b)) ∧ w = w' := by
  cases b
  all_goals
    go_enter Try.func26, Try.ntmps26
    go_wp2
    go_ret
    exact ⟨rfl, rfl⟩
theorem fn_lt (x : Int) {K : Nat} (hK : 2098 ≤ K) : fn x < 2 ^ K := by
  have h1 := mant_bd (x := x)
  have h2 := expo_bd (x := x)
  unfold fn
  have h3 : (mant x).toNat < 2 ^ 53 := by omega
  have h4 : 2 ^ (expo x + 1074).toNat ≤ 2 ^ (K - 53) := Nat.pow_le_pow_right (by omega) (by omega)
  have h5 := Nat.mul_lt_mul_of_lt_of_le h3 h4 (Nat.two_pow_pos _)
  rw [← Nat.pow_add] at h5
  have e : 53 + (K - 53) = K := by omega
  rwa [e] at h5
theorem sumN_lt {s t : Bool} {N M K : Nat} (hN : N < 2 ^ K) (hM : M < 2 ^ K) : sumN s t N M < 2 ^ (K + 1) := by
  have : 2 ^ (K + 1) = 2 ^ K + 2 ^ K := by rw [Nat.pow_succ]; omega
  unfold sumN
  generalize 2 ^ K = X at *
  (repeat' split) <;> omega
theorem limb_bd {N k d : Nat} (h : N < 2 ^ k) (hk : k ≤ 32 * d) : N < Pl.B32 ^ d := by
  rw [Pl.B32_pow]
  exact Nat.lt_of_lt_of_le h (Nat.pow_le_pow_right (by omega) hk)
theorem NatV.len {w : World} {A : Option Addr} {n c N : Nat} (h : NatV w (.slice A n c) N) : n = (Pl.limbs N).length := by
  obtain ⟨A', n', c', e, _, _, hl⟩ := h
  injection e with e1 e2 e3
  subst e1 e2 e3
  exact hl.len.symm
theorem limbs_len_zero {N : Nat} : (Pl.limbs N).length = 0 ↔ N = 0 := by
  constructor
  · intro h; exact Pl.limbs_nil (List.eq_nil_of_length_eq_zero h)
  · intro h; rw [h, Pl.limbs_zero]; rfl
theorem fn_limbs (x : Int) : fn x < Pl.B32 ^ 70 := by
  obtain ⟨K, hK⟩ : ∃ K : Nat, K = 2098 := ⟨_, rfl⟩
  exact limb_bd (fn_lt x (K := K) (by omega)) (by omega)
theorem sum_limbs (s t : Bool) (x y : Int) : sumN s t (fn x) (fn y) < Pl.B32 ^ 70 := by
  obtain ⟨K, hK⟩ : ∃ K : Nat, K = 2098 := ⟨_, rfl⟩
  exact limb_bd (sumN_lt (fn_lt x (K := K) (by omega)) (fn_lt y (K := K) (by omega))) (by omega)
theorem zero_word {x : Int} (hx : Wd x) (h : kd x = 0) : x = 0 ∨ x = 9223372036854775808 := by
  obtain ⟨h0, h1⟩ := hx
  unfold kd at h
  (repeat' split at h) <;> omega

set_option maxRecDepth 100000 in
set_option maxHeartbeats 4000000 in
theorem radd_kinds (a b : Int) (w : World) (ha : Wd a) (hb : Wd b) (h : kd a = 4 ∨ kd b = 4 ∨ kd a = 3 ∨ kd b = 3 ∨ (kd a = 0 ∧ kd b = 0)) : Calls Try.prog 12 #[.int .u64 a, .int .u64 b] w fun e w' => e = .returned (.int .u64 (addI a b)) ∧ Below w.heap.size w w' := by
  have KA := fun v => rkind_any a v ha
  have KB := fun v => rkind_any b v hb
  obtain ⟨ka, hka⟩ : ∃ ka, kd a = ka := ⟨_, rfl⟩
  obtain ⟨kb, hkb⟩ : ∃ kb, kd b = kb := ⟨_, rfl⟩
  obtain ⟨F, hF⟩ : ∃ F, addI a b = F := ⟨_, rfl⟩
  rw [hF]
  unfold addI at hF
  rw [hka, hkb] at hF h
  rw [hka] at KA
  rw [hkb] at KB
  replace KA := Lib.hid KA
  replace KB := Lib.hid KB
  by_cases a4 : ka = 4
  · rw [if_pos (by omega)] at hF
    subst a4 hF
    clear hka hkb h
    go_enter Try.func12, Try.ntmps12
    go_wp2_with (first | (go_at_call_of 21 (Value.int IntKind.u64 a); (with_reducible refine (KA.out _).mono ?_); rintro e w' ⟨rfl, rfl⟩) | (go_at_call_of 21 (Value.int IntKind.u64 b); (with_reducible refine (KB.out _).mono ?_); rintro e w' ⟨rfl, rfl⟩))
    go_ret
    exact ⟨rfl, Bel.re _⟩
  · have a4' : (ka == 4) = false := by simpa using a4
    by_cases b4 : kb = 4
    · rw [if_pos (by omega)] at hF
      subst b4 hF
      clear hka hkb h a4
      go_enter Try.func12, Try.ntmps12
      go_wp2_with (first | (go_at_call_of 21 (Value.int IntKind.u64 a); (with_reducible refine (KA.out _).mono ?_); rintro e w' ⟨rfl, rfl⟩) | (go_at_call_of 21 (Value.int IntKind.u64 b); (with_reducible refine (KB.out _).mono ?_); rintro e w' ⟨rfl, rfl⟩))
      go_ret
      exact ⟨rfl, Bel.re _⟩
    · have b4' : (kb == 4) = false := by simpa using b4
      rw [if_neg (by omega)] at hF
      by_cases a3 : ka = 3
      · subst a3
        rw [if_pos rfl] at hF
        by_cases b3 : kb = 3
        · subst b3
          by_cases hab : a = b
          · rw [if_neg (by simp [hab])] at hF
            subst hF
            have hab' : (a == b) = true := by simpa using hab
            have hab2 : (a != b) = false := by simpa using hab
            clear hka hkb h a4 b4 hab
            go_enter Try.func12, Try.ntmps12
            go_wp2_with (first | (go_at_call_of 21 (Value.int IntKind.u64 a); (with_reducible refine (KA.out _).mono ?_); rintro e w' ⟨rfl, rfl⟩) | (go_at_call_of 21 (Value.int IntKind.u64 b); (with_reducible refine (KB.out _).mono ?_); rintro e w' ⟨rfl, rfl⟩))
            go_ret
            exact ⟨rfl, Bel.re _⟩
          · rw [if_pos ⟨rfl, hab⟩] at hF
            subst hF
            have hab' : (a == b) = false := by simpa using hab
            have hab2 : (a != b) = true := by simpa using hab
            clear hka hkb h a4 b4 hab
            go_enter Try.func12, Try.ntmps12
            go_wp2_with (first | (go_at_call_of 21 (Value.int IntKind.u64 a); (with_reducible refine (KA.out _).mono ?_); rintro e w' ⟨rfl, rfl⟩) | (go_at_call_of 21 (Value.int IntKind.u64 b); (with_reducible refine (KB.out _).mono ?_); rintro e w' ⟨rfl, rfl⟩))
            go_ret
            exact ⟨rfl, Bel.re _⟩
        · rw [if_neg (by omega)] at hF
          subst hF
          have b3' : (kb == 3) = false := by simpa using b3
          clear hka hkb h a4 b4 b3
          go_enter Try.func12, Try.ntmps12
          go_wp2_with (first | (go_at_call_of 21 (Value.int IntKind.u64 a); (with_reducible refine (KA.out _).mono ?_); rintro e w' ⟨rfl, rfl⟩) | (go_at_call_of 21 (Value.int IntKind.u64 b); (with_reducible refine (KB.out _).mono ?_); rintro e w' ⟨rfl, rfl⟩))
          go_ret
          exact ⟨rfl, Bel.re _⟩
      · have a3' : (ka == 3) = false := by simpa using a3
        rw [if_neg a3] at hF
        by_cases b3 : kb = 3
        · rw [if_pos b3] at hF
          subst b3 hF
          clear hka hkb h a4 b4 a3
          go_enter Try.func12, Try.ntmps12
          go_wp2_with (first | (go_at_call_of 21 (Value.int IntKind.u64 a); (with_reducible refine (KA.out _).mono ?_); rintro e w' ⟨rfl, rfl⟩) | (go_at_call_of 21 (Value.int IntKind.u64 b); (with_reducible refine (KB.out _).mono ?_); rintro e w' ⟨rfl, rfl⟩))
          go_ret
          exact ⟨rfl, Bel.re _⟩
        · have h00 : ka = 0 ∧ kb = 0 := by omega
          rw [if_neg b3, if_pos h00] at hF
          obtain ⟨rfl, rfl⟩ := h00
          have SA := fun v => ris_any a v
          have SB := fun v => ris_any b v
          have hv : sb (sgn a && sgn b) = F := by
            rw [← hF]
            rcases zero_word ha hka with rfl | rfl <;> rcases zero_word hb hkb with rfl | rfl <;> decide
          obtain ⟨sa, hsa⟩ : ∃ sa, sgn a = sa := ⟨_, rfl⟩
          obtain ⟨sbb, hsb⟩ : ∃ sbb, sgn b = sbb := ⟨_, rfl⟩
          rw [hsa] at SA hv
          rw [hsb] at SB hv
          replace SA := Lib.hid SA
          replace SB := Lib.hid SB
          have HV := Lib.hid hv
          clear hka hkb h a4 b4 a3 b3 a4' b4' a3' hF hsa hsb hv
          cases sa <;> cases sbb
          all_goals
            go_enter Try.func12, Try.ntmps12
            go_wp2_with (first | (go_at_call_of 21 (Value.int IntKind.u64 a); (with_reducible refine (KA.out _).mono ?_); rintro e w' ⟨rfl, rfl⟩) | (go_at_call_of 21 (Value.int IntKind.u64 b); (with_reducible refine (KB.out _).mono ?_); rintro e w' ⟨rfl, rfl⟩) | (go_at_call_of 27 (Value.int IntKind.u64 a); (with_reducible refine (SA.out _).mono ?_); rintro e w' ⟨rfl, rfl⟩) | (go_at_call_of 27 (Value.int IntKind.u64 b); (with_reducible refine (SB.out _).mono ?_); rintro e w' ⟨rfl, rfl⟩) | (go_at_call 26; (with_reducible refine (rzero_any _ _).mono ?_); rintro e w' ⟨rfl, rfl⟩))
            go_ret
            exact ⟨by rw [← HV.out]; rfl, Bel.re _⟩

set_option maxRecDepth 100000 in
set_option maxHeartbeats 4000000 in
theorem radd_fin (a b : Int) (w : World) (ha : Wd a) (hb : Wd b) (h1 : kd a ≤ 2) (h2 : kd b ≤ 2) (h3 : kd a ≠ 0 ∨ kd b ≠ 0) : Calls Try.prog 12 #[.int .u64 a, .int .u64 b] w fun e w' => e = .returned (.int .u64 (addI a b)) ∧ Below w.heap.size w w' := by
  have KA := fun v => rkind_any a v ha
  have KB := fun v => rkind_any b v hb
  have XA := fun v => exact_any a v ha
  have XB := fun v => exact_any b v hb
  have hI : addI a b = rnd (sg (sgn a) (fn a) + sg (sgn b) (fn b)) := by unfold addI; rw [if_neg (by omega), if_neg (by omega), if_neg (by omega), if_neg (by omega)]
  rw [rnd_sum] at hI
  have bA := fn_limbs a
  have bB := fn_limbs b
  have bS := sum_limbs (sgn a) (sgn b) a b
  have hkb := kd_bd a
  have hkb' := kd_bd b
  obtain ⟨ka, hka⟩ : ∃ ka, kd a = ka := ⟨_, rfl⟩
  obtain ⟨kb, hkb⟩ : ∃ kb, kd b = kb := ⟨_, rfl⟩
  obtain ⟨F, hF⟩ : ∃ F, addI a b = F := ⟨_, rfl⟩
  obtain ⟨sa, hsa⟩ : ∃ sa, sgn a = sa := ⟨_, rfl⟩
  obtain ⟨st, hst⟩ : ∃ st, sgn b = st := ⟨_, rfl⟩
  obtain ⟨NA, hNA⟩ : ∃ NA, fn a = NA := ⟨_, rfl⟩
  obtain ⟨NB, hNB⟩ : ∃ NB, fn b = NB := ⟨_, rfl⟩
  rw [hF] at hI ⊢
  rw [hsa, hst, hNA, hNB] at hI bS
  rw [hNA] at bA
  rw [hNB] at bB
  rw [hsa, hNA] at XA
  rw [hst, hNB] at XB
  rw [hka] at KA h1 h3
  rw [hkb] at KB h2 h3
  obtain ⟨S, hS⟩ : ∃ S, sumN sa st NA NB = S := ⟨_, rfl⟩
  obtain ⟨ss, hss⟩ : ∃ ss, sumS sa st NA NB = ss := ⟨_, rfl⟩
  have CP := fun (v : World) (x y : Value) (hx : SliceV v x NA 70) (hy : SliceV v y NB 70) => plusS_any sa st hx hy (by omega)
  rw [hS, hss] at CP hI
  rw [hS] at bS
  have CR := fun (v : World) (x : Value) (hx : SliceV v x S 70) => round_any ss false (-1074) v hx (by omega) (by omega)
  have a4 : (ka == 4) = false := by simp; omega
  have a3 : (ka == 3) = false := by simp; omega
  have b4 : (kb == 4) = false := by simp; omega
  have b3 : (kb == 3) = false := by simp; omega
  have FA := Lib.hid bA
  have FB := Lib.hid bB
  have FSg := Lib.hid bS
  have HI := Lib.hid hI
  have H3 := Lib.hid h3
  replace KA := Lib.hid KA
  replace KB := Lib.hid KB
  replace XA := Lib.hid XA
  replace XB := Lib.hid XB
  replace CP := Lib.hid CP
  replace CR := Lib.hid CR
  clear ha hb hka hkb hkb' hF hsa hst hNA hNB hS hss hI bA bB bS h1 h2 h3
  by_cases a0 : ka = 0
  all_goals
    first
    | (have b0 : (kb == 0) = false := by have := H3.out; simp; omega
       subst a0)
    | (have a0' : (ka == 0) = false := by simpa using a0
       clear a0)
    go_enter Try.func12, Try.ntmps12
    go_wp2_with (first | (go_at_call_of 21 (Value.int IntKind.u64 a); (with_reducible refine (KA.out _).mono ?_); rintro e w' ⟨rfl, rfl⟩) | (go_at_call_of 21 (Value.int IntKind.u64 b); (with_reducible refine (KB.out _).mono ?_); rintro e w' ⟨rfl, rfl⟩) | fail)
    (with_reducible refine (XA.out _).mono ?_)
    rintro e w1 ⟨v1, rfl, hv1, hb1⟩
    obtain ⟨A1, n1, c1, rfl, hA⟩ := id hv1
    clear hA
    have T_x := Lib.hid (hv1.slice FA.out)
    clear hv1
    go_wp2_with fail
    (with_reducible refine (XB.out _).mono ?_)
    rintro e w2 ⟨v2, rfl, hv2, hb2⟩
    obtain ⟨A2, n2, c2, rfl, hA⟩ := id hv2
    clear hA
    have T_y := Lib.hid (hv2.slice FB.out)
    have T_x2 := Lib.hid (T_x.out.below hb2)
    have hB := Bel.st hb1 hb2
    clear hv2 hb1 hb2 T_x
    go_wp2_with fail
    (with_reducible refine (CP.out _ _ _ T_x2.out T_y.out).mono ?_)
    rintro e w3 ⟨v3, rfl, hv3, hb3⟩
    obtain ⟨A3, n3, c3, rfl, hA⟩ := id hv3
    clear hA
    replace hB := Bel.st hB hb3
    have hlen := hv3.len
    have T_s := Lib.hid (hv3.slice FSg.out)
    clear hv3 hb3
    by_cases hS0 : S = 0
    · have hn : n3 = 0 := by rw [hlen, limbs_len_zero]; exact hS0
      have HF0 := HI.out
      rw [if_pos hS0] at HF0
      subst hn
      have HF := Lib.hid HF0
      clear hlen hS0 HF0
      go_wp2_with fail
      go_ret
      exact ⟨retI HF.out.symm, Bel.al hB _⟩
    · have hn : ((n3 : Int) == 0) = false := by
        have : n3 ≠ 0 := fun g => hS0 (limbs_len_zero.1 (by rw [← hlen]; exact g))
        simp; omega
      have HF0 := HI.out
      rw [if_neg hS0] at HF0
      have HF := Lib.hid HF0
      clear hlen hS0 HF0
      go_wp2_with fail
      (with_reducible refine (CR.out _ _ (T_s.out.alloc _)).mono ?_)
      rintro e w4 ⟨rfl, hb4⟩
      go_wp2_with fail
      go_ret
      exact ⟨retI HF.out.symm, Bel.st (Bel.al hB _) hb4⟩
theorem radd_any (a b : Int) (w : World) (ha : Wd a) (hb : Wd b) : Calls Try.prog 12 #[.int .u64 a, .int .u64 b] w fun e w' => e = .returned (.int .u64 (addI a b)) ∧ Below w.heap.size w w' := by
  have h1 := kd_bd a
  have h2 := kd_bd b
  by_cases h : kd a = 4 ∨ kd b = 4 ∨ kd a = 3 ∨ kd b = 3 ∨ (kd a = 0 ∧ kd b = 0)
  · exact radd_kinds a b w ha hb h
  · exact radd_fin a b w ha hb (by omega) (by omega) (by omega)
set_option maxHeartbeats 1000000 in
theorem rsub_any (a b : Int) (w : World) (ha : Wd a) (hb : Wd b) : Calls Try.prog 14 #[.int .u64 a, .int .u64 b] w fun e w' => e = .returned (.int .u64 (subI a b)) ∧ Below w.heap.size w w' := by
  have CN := Lib.hid (fun v => rneg_any b v hb)
  have CA := Lib.hid (fun v => radd_any a (negI b) v ha (wd_neg hb))
  unfold subI
  clear ha hb
  go_enter Try.func14, Try.ntmps14
  go_wp2_with (first | (go_at_call 19; (with_reducible refine (CN.out _).mono ?_); rintro e w1 ⟨rfl, rfl⟩) | (go_at_call 12; (with_reducible refine (CA.out _).mono ?_); rintro e w2 ⟨rfl, hb2⟩))
  go_ret
  exact ⟨rfl, hb2⟩
end Go.Proofs.Ytgioliopoepaoaa
