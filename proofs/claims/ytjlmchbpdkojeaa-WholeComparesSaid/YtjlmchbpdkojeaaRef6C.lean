/-
  The reference of chapter 6: Is; WholeCompares: the walk.
-/
import Derived.Test.YtjlmchbpdkojeaaRef6B
import Derived.Test.YtjlmchbpdkojeaaLaw6
namespace Go.Proofs.Ytjlmchbpdkojeaa
open Go.RowKit Go.Shelf

theorem mod_two (m H : Nat) : m % (2 * H) = m % H + H * (m / H % 2) := by
  rw [Nat.mul_comm 2 H, Nat.mod_mul]
theorem pX_eq (x : Int) : pX x = !((spW x).h || (spW x).r) := by
  unfold pX spW
  by_cases h : 0 ≤ expo x
  · rw [if_pos h, if_pos h]; rfl
  · rw [if_neg h, if_neg h]
    show _ = !(hB _ _ || rB _ _)
    unfold hB rB
    obtain ⟨j, hj⟩ : ∃ j : Nat, (-expo x).toNat = j + 1 := ⟨(-expo x).toNat - 1, by omega⟩
    rw [hj, Nat.add_sub_cancel, Nat.pow_succ', mod_two]
    have h0 : 0 < 2 ^ j := Nat.pow_pos (by decide)
    obtain ⟨H, hH⟩ : ∃ H, 2 ^ j = H := ⟨_, rfl⟩
    rw [hH] at h0 ⊢
    obtain ⟨m, hm⟩ : ∃ m, (mant x).toNat = m := ⟨_, rfl⟩
    rw [hm]
    obtain ⟨b, hb⟩ : ∃ b, m / H % 2 = b := ⟨_, rfl⟩
    obtain ⟨l, hl⟩ : ∃ l, m % H = l := ⟨_, rfl⟩
    have hb2 : b < 2 := by omega
    rw [hb, hl]
    by_cases g : b = 1
    · subst g; simp; omega
    · obtain rfl : b = 0 := by omega
      simp
set_option maxHeartbeats 2000000 in
theorem ris6_any (x : Int) (w : World) (hx : Wd x) : Calls Try.prog 15 #[.int .u64 x] w fun e w' => e = .returned (.bool (isW x)) ∧ Below w.heap.size w w' := by
  have CK := fun v => rkind_any x v hx
  have CP := fun v => parts6_any x v hx
  unfold isW
  rw [← pX_eq]
  obtain ⟨k, hk⟩ : ∃ k, kd x = k := ⟨_, rfl⟩
  rw [hk] at CK ⊢
  obtain ⟨q, hq⟩ : ∃ q, pQ x = q := ⟨_, rfl⟩
  obtain ⟨h, hh⟩ : ∃ h, pH x = h := ⟨_, rfl⟩
  obtain ⟨b, hb⟩ : ∃ b, pX x = b := ⟨_, rfl⟩
  rw [hq, hh, hb] at CP
  rw [hb]
  replace CK := Lib.hid CK
  replace CP := Lib.hid CP
  clear hk hx hq hh hb
  by_cases g : 3 ≤ k
  · have hd : decide (k < 3) = false := by simp; omega
    rw [hd]
    go_enter Try.func15, Try.ntmps15
    go_wp2_with fail
    (with_reducible refine (CK.out _).mono ?_)
    rintro e w' ⟨rfl, rfl⟩
    go_wp2_with fail
    go_ret
    exact ⟨rfl, Bel.re _⟩
  · have hd : decide (k < 3) = true := by simp; omega
    have hd2 : decide (3 ≤ k) = false := by simp; omega
    rw [hd]
    clear g
    go_enter Try.func15, Try.ntmps15
    go_wp2_with fail
    (with_reducible refine (CK.out _).mono ?_)
    rintro e w' ⟨rfl, rfl⟩
    go_wp2_with fail
    (with_reducible refine (CP.out _).mono ?_)
    rintro e w1 ⟨v1, rfl, hv1, hb1⟩
    obtain ⟨A1, n1, c1, rfl, hA⟩ := id hv1
    clear hA
    go_wp2_with fail
    go_ret
    exact ⟨retB (by simp), hb1⟩
set_option maxRecDepth 100000 in
set_option maxHeartbeats 4000000 in
theorem compares6_walk (a b : Int) (w : World) (ha : Wd a) (hb : Wd b) : Calls Try.prog 3 #[.int .u64 a, .int .u64 b] w fun e w' => e = .returned (.bool true) ∧ Below w.heap.size w w' := by
  have C1 := fun v => wcmp_any a b v ha hb
  have C2 := fun v => rcmp6_any a b v ha hb
  have S1 := fun v => sign_any a v ha
  have S2 := fun v => rsign6_any a v ha
  have I1 := fun v => wis_any a v ha
  have I2 := fun v => ris6_any a v ha
  have N1 := fun v => wmin_any a b v ha hb
  have N2 := fun v => rmin6_any a b v ha hb
  have X1 := fun v => wmax_any a b v ha hb
  have X2 := fun v => rmax6_any a b v ha hb
  obtain ⟨n, hn⟩ : ∃ n, cmpV a b = n := ⟨_, rfl⟩
  obtain ⟨o, ho⟩ : ∃ o, cmpOk a b = o := ⟨_, rfl⟩
  obtain ⟨s, hs⟩ : ∃ s, signI a = s := ⟨_, rfl⟩
  obtain ⟨i, hi⟩ : ∃ i, isW a = i := ⟨_, rfl⟩
  obtain ⟨m, hm⟩ : ∃ m, minI a b = m := ⟨_, rfl⟩
  obtain ⟨x, hx⟩ : ∃ x, maxI a b = x := ⟨_, rfl⟩
  rw [hn, ho] at C1 C2
  rw [hs] at S1 S2
  rw [hi] at I1 I2
  rw [hm] at N1 N2
  rw [hx] at X1 X2
  replace C1 := Lib.hid C1
  replace C2 := Lib.hid C2
  replace S1 := Lib.hid S1
  replace S2 := Lib.hid S2
  replace I1 := Lib.hid I1
  replace I2 := Lib.hid I2
  replace N1 := Lib.hid N1
  replace N2 := Lib.hid N2
  replace X1 := Lib.hid X1
  replace X2 := Lib.hid X2
  clear hn ho hs hi hm hx ha hb
  have hB := Bel.re w
  go_enter Try.func3, Try.ntmps3
  go_wp2_with (first
    | (go_at_call 9; (with_reducible refine (shown6_any _).mono ?_); rintro e w1 ⟨rfl, hb⟩; replace hB := Bel.st hB hb; clear hb)
    | (go_at_call 10; (with_reducible refine (C1.out _).mono ?_); rintro e w' ⟨rfl, rfl⟩)
    | (go_at_call 11; (with_reducible refine (C2.out _).mono ?_); rintro e w' ⟨rfl, rfl⟩)
    | (go_at_call 12; (with_reducible refine (S1.out _).mono ?_); rintro e w' ⟨rfl, rfl⟩)
    | (go_at_call 13; (with_reducible refine (S2.out _).mono ?_); rintro e w' ⟨rfl, rfl⟩)
    | (go_at_call 14; (with_reducible refine (I1.out _).mono ?_); rintro e w1 ⟨rfl, hb⟩; replace hB := Bel.st hB hb; clear hb)
    | (go_at_call 15; (with_reducible refine (I2.out _).mono ?_); rintro e w1 ⟨rfl, hb⟩; replace hB := Bel.st hB hb; clear hb)
    | (go_at_call 16; (with_reducible refine (N1.out _).mono ?_); rintro e w' ⟨rfl, rfl⟩)
    | (go_at_call 17; (with_reducible refine (N2.out _).mono ?_); rintro e w' ⟨rfl, rfl⟩)
    | (go_at_call 18; (with_reducible refine (X1.out _).mono ?_); rintro e w' ⟨rfl, rfl⟩)
    | (go_at_call 19; (with_reducible refine (X2.out _).mono ?_); rintro e w' ⟨rfl, rfl⟩))
  go_ret
  exact ⟨retB (by simp), hB⟩
end Go.Proofs.Ytjlmchbpdkojeaa
