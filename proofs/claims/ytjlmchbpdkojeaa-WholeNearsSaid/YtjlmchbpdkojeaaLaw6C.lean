/-
  WholeBack: what it says of the numbers; the walk.
-/
import Derived.Test.YtjlmchbpdkojeaaLaw6
namespace Go.Proofs.Ytjlmchbpdkojeaa
open Go.RowKit Go.Shelf

theorem V_1074 {N : Nat} (h : N ≤ 2 ^ 53) : ∃ R, Pl.V R = N * 2 ^ 1074 ∧ R < Pl.INF := by
  obtain ⟨T, hT⟩ : ∃ T : Nat, 1074 = T := ⟨_, rfl⟩
  rw [hT]
  obtain ⟨R, hR⟩ : ∃ R, Pl.V R = N * 2 ^ T := by
    by_cases h1 : N < 2 ^ 53
    · exact V_rep T N h1
    · obtain ⟨R, hR⟩ := V_rep (T + 1) (2 ^ 52) (by decide)
      refine ⟨R, ?_⟩
      rw [hR, show N = 2 ^ 53 by omega, ← Nat.pow_add, ← Nat.pow_add]
      congr 1
      omega
  refine ⟨R, hR, ?_⟩
  refine Pl.V_lt_iff.1 ?_
  rw [hR]
  have h1 : N * 2 ^ T ≤ 2 ^ 53 * 2 ^ T := Nat.mul_le_mul_right _ h
  have h2 : (2 : Nat) ^ 53 * 2 ^ T < Pl.V Pl.INF := by rw [← hT]; decide +kernel
  exact Nat.lt_of_le_of_lt h1 h2
theorem from_parts {N : Nat} (s : Bool) (h : N ≤ 2 ^ 53) : kd (fbits s N 0 false) ≤ 2 ∧ sgn (fbits s N 0 false) = s ∧ fn (fbits s N 0 false) = N * 2 ^ 1074 := by
  obtain ⟨R, hR, hR2⟩ := V_1074 h
  obtain ⟨T, hT⟩ : ∃ T : Nat, 1074 = T := ⟨_, rfl⟩
  rw [hT] at hR ⊢
  have hm : Pl.mag N 0 false = R := by
    have e := mag_scale N T (-1074)
    rw [show (-1074 : Int) + (T : Nat) = 0 by omega, ← hR, mag_V (by omega)] at e
    exact e.symm
  have hw := wd_fbits s N 0 false
  have hx : fbits s N 0 false = sb s + (R : Int) := by unfold fbits; rw [hm]
  rw [hx] at hw ⊢
  have hI : Pl.INF = 9218868437227405312 := by decide
  rw [hI] at hR2
  have hs : sgn (sb s + (R : Int)) = s := by
    unfold sgn sb
    cases s
    · simp; omega
    · simp; omega
  have hlow : (sb s + (R : Int)) % 9223372036854775808 = R := by
    unfold sb; split <;> omega
  have hk : kd (sb s + (R : Int)) ≤ 2 := by
    have : (sb s + (R : Int)) / 4503599627370496 % 2048 ≠ 2047 := by
      unfold sb; split <;> omega
    unfold kd
    rw [if_neg this]
    (repeat' split) <;> omega
  refine ⟨hk, hs, ?_⟩
  rw [← V_fn hw hk, hlow, Int.toNat_natCast, hR]
theorem natW_down (x : Int) : natW x 2 = fn x / 2 ^ 1074 := by
  have hb := expo_bd (x := x)
  obtain ⟨T, hT⟩ : ∃ T : Nat, 1074 = T := ⟨_, rfl⟩
  rw [hT]
  unfold natW fn
  by_cases h : 0 ≤ expo x
  · rw [if_pos h]
    obtain ⟨j, hj⟩ := Int.eq_ofNat_of_zero_le h
    rw [hj, Int.toNat_natCast, show ((j : Int) + 1074).toNat = j + T by omega, Nat.pow_add, ← Nat.mul_assoc, Nat.mul_div_cancel _ (Nat.two_pow_pos T)]
  · rw [if_neg h]
    unfold roundW spW
    rw [if_neg h]
    have hm : ∀ s p r q, moreW 2 s p r q = false := fun s p r q => by unfold moreW; simp
    simp only [hm]
    obtain ⟨k, hk⟩ : ∃ k : Nat, (-expo x).toNat = k := ⟨_, rfl⟩
    have hk2 : (expo x + 1074).toNat = T - k := by omega
    rw [hk, hk2]
    have e : (2 : Nat) ^ T = 2 ^ k * 2 ^ (T - k) := by rw [← Nat.pow_add]; congr 1; omega
    rw [e, Nat.mul_div_mul_right _ _ (Nat.pow_pos (by decide))]
    rfl
theorem to_from {v : Int} (h0 : -9007199254740992 ≤ v) (h1 : v ≤ 9007199254740992) : toI (fromI v) 2 = v ∧ toE (fromI v) 2 = 0 := by
  have hN : v.natAbs ≤ 2 ^ 53 := by omega
  obtain ⟨hk, hs, hf⟩ := from_parts (decide (v < 0)) hN
  have hn : natW (fromI v) 2 = v.natAbs := by
    rw [natW_down]
    show fn (fbits _ _ 0 false) / _ = _
    rw [hf]
    obtain ⟨T, hT⟩ : ∃ T : Nat, 1074 = T := ⟨_, rfl⟩
    rw [hT]
    exact Nat.mul_div_cancel _ (Nat.two_pow_pos T)
  have hk3 : ¬ 3 ≤ kd (fromI v) := by show ¬ 3 ≤ kd (fbits _ _ 0 false); omega
  have hs' : sgn (fromI v) = decide (v < 0) := hs
  unfold toI toE
  have hw : ¬ ((2 : Int) < 0 ∨ (5 : Int) < 2) := by decide
  rw [if_neg hw, if_neg hk3, if_neg hw, if_neg hk3, hn, hs']
  unfold toV toX
  by_cases hv : v < 0
  · have hd : decide (v < 0) = true := by simpa using hv
    rw [hd, if_pos ⟨rfl, by omega⟩, if_pos ⟨rfl, by omega⟩]
    exact ⟨by omega, rfl⟩
  · have hd : decide (v < 0) = false := by simpa using hv
    rw [hd, if_neg (by simp), if_pos ⟨rfl, by omega⟩, if_neg (by simp), if_pos ⟨rfl, by omega⟩]
    exact ⟨by omega, rfl⟩
theorem whole_nat {x way : Int} (hx : Wd x) (h : kd x ≤ 2) (h0 : 0 ≤ way) (h5 : way ≤ 5) : wholeI x way = fbits (sgn x) (natW x way) 0 false := by
  unfold wholeI natW
  rw [if_neg (by omega), if_neg (by omega), if_neg (by omega)]
  by_cases g : 0 ≤ expo x
  · rw [if_pos g, if_pos g]
    have e := fbits_scale (sgn x) (mant x).toNat (expo x).toNat 0
    rw [show (0 : Int) + ((expo x).toNat : Int) = expo x by omega, fbits_parts hx h] at e
    exact e.symm
  · rw [if_neg g, if_neg g]
theorem to_zero {x way : Int} (h : toE x way ≠ 0) : toI x way = 0 := by
  unfold toE toI at *
  by_cases h1 : way < 0 ∨ 5 < way
  · rw [if_pos h1]
  · rw [if_neg h1] at h ⊢
    by_cases h2 : 3 ≤ kd x
    · rw [if_pos h2]
    · rw [if_neg h2] at h ⊢
      unfold toX at h
      unfold toV
      by_cases h3 : sgn x = true ∧ natW x way ≤ 9223372036854775808
      · rw [if_pos h3] at h; exact absurd rfl h
      · rw [if_neg h3] at h ⊢
        by_cases h4 : sgn x = false ∧ natW x way < 9223372036854775808
        · rw [if_pos h4] at h; exact absurd rfl h
        · rw [if_neg h4]
theorem to_bd (x way : Int) : -9223372036854775808 ≤ toI x way ∧ toI x way < 9223372036854775808 := by
  unfold toI toV
  (repeat' split) <;> omega
theorem from_to {x way : Int} (hx : Wd x) (h0 : 0 ≤ way) (h5 : way ≤ 5) (h : toE x way = 0) : fromI (toI x way) = wholeI x way ∨ (fromI (toI x way) = 0 ∧ wholeI x way = 9223372036854775808) := by
  have hw : ¬ (way < 0 ∨ 5 < way) := by omega
  have hk : kd x ≤ 2 := by
    unfold toE at h
    rw [if_neg hw] at h
    by_cases g : 3 ≤ kd x
    · rw [if_pos g] at h; omega
    · omega
  rw [whole_nat hx hk h0 h5]
  unfold toE at h
  unfold toI
  rw [if_neg hw, if_neg (by omega)] at h ⊢
  obtain ⟨N, hN⟩ : ∃ N, natW x way = N := ⟨_, rfl⟩
  obtain ⟨s, hs⟩ : ∃ s, sgn x = s := ⟨_, rfl⟩
  rw [hN, hs] at h ⊢
  have hv : toV s N = sg s N := by
    unfold toX at h
    unfold toV sg
    cases s
    · by_cases g : N < 9223372036854775808
      · rw [if_neg (by simp), if_pos ⟨rfl, g⟩]; rfl
      · rw [if_neg (by simp), if_neg (by simp; omega)] at h; omega
    · by_cases g : N ≤ 9223372036854775808
      · rw [if_pos ⟨rfl, g⟩]; rfl
      · rw [if_neg (by simp; omega), if_neg (by simp)] at h; omega
  rw [hv]
  unfold fromI
  rw [sg_abs]
  by_cases hz : N = 0
  · subst hz
    rw [sg_zero]
    have e : ∀ b, fbits b 0 0 false = sb b := fun b => by unfold fbits; rw [mag_zero]; simp
    rw [e, e]
    cases s
    · exact .inl rfl
    · exact .inr ⟨rfl, rfl⟩
  · rw [sg_sign hz]
    exact .inl rfl

set_option maxRecDepth 100000 in
set_option maxHeartbeats 4000000 in
theorem back6_walk (v x : Int) (w : World) (v0 : -9223372036854775808 ≤ v) (v1 : v < 9223372036854775808) (hx : Wd x) : Calls Try.prog 7 #[.int .i64 v, .int .u64 x] w fun e w' => e = .returned (.bool true) ∧ Below w.heap.size w w' := by
  obtain ⟨d, hd⟩ : ∃ d, v / 1024 = d := ⟨_, rfl⟩
  have hd0 : -9007199254740992 ≤ d := by omega
  have hd1 : d ≤ 9007199254740992 := by omega
  have CF := Lib.hid (fun u => from6_any d u (by omega) (by omega))
  have CT := fun u => to6_any (fromI d) 2 u (wd_fbits _ _ _ _)
  rw [(to_from hd0 hd1).1, (to_from hd0 hd1).2] at CT
  replace CT := Lib.hid CT
  have CX := fun u => to6_any x 0 u hx
  have CW := fun u => whole_any x 0 u hx
  have CZ := fun u => from6_any (toI x 0) u (to_bd x 0).1 (to_bd x 0).2
  have hz := fun g => to_zero (x := x) (way := 0) g
  have hf := fun g => from_to (x := x) (way := 0) hx (by decide) (by decide) g
  have hw0 : wholeE 0 = 0 := by decide
  rw [hw0] at CW
  obtain ⟨m, hm⟩ : ∃ m, toI x 0 = m := ⟨_, rfl⟩
  obtain ⟨f, hfe⟩ : ∃ f, toE x 0 = f := ⟨_, rfl⟩
  obtain ⟨y, hy⟩ : ∃ y, wholeI x 0 = y := ⟨_, rfl⟩
  obtain ⟨z, hzz⟩ : ∃ z, fromI m = z := ⟨_, rfl⟩
  rw [hm, hfe] at CX hz
  rw [hfe, hm, hzz, hy] at hf
  rw [hm, hzz] at CZ
  rw [hy] at CW
  replace CX := Lib.hid CX
  replace CW := Lib.hid CW
  replace CZ := Lib.hid CZ
  have HD := Lib.hid hd
  obtain ⟨g, hg⟩ : ∃ g, fromI d = g := ⟨_, rfl⟩
  rw [hg] at CF CT
  clear hm hfe hy hzz hg hd hd0 hd1 hw0 hx v0 v1
  by_cases hf0 : f = 0
  · subst hf0
    have hor := hf rfl
    clear hz hf
    go_enter Try.func7, Try.ntmps7
    go_wp2_with fail
    (with_reducible refine (shown6_any _).mono ?_)
    rintro e w1 ⟨rfl, hB⟩
    go_wp2_with fail
    rw [HD.out]
    (with_reducible refine (CF.out _).mono ?_)
    rintro e w2 ⟨rfl, hb⟩
    replace hB := Bel.st hB hb
    clear hb
    go_wp2_with fail
    (with_reducible refine (CT.out _).mono ?_)
    rintro e w3 ⟨rfl, hb⟩
    replace hB := Bel.st hB hb
    clear hb
    go_wp2_with fail
    (with_reducible refine (CX.out _).mono ?_)
    rintro e w4 ⟨rfl, hb⟩
    replace hB := Bel.st hB hb
    clear hb
    go_wp2_with fail
    (with_reducible refine (CW.out _).mono ?_)
    rintro e w5 ⟨rfl, hb⟩
    replace hB := Bel.st hB hb
    clear hb
    go_wp2_with fail
    (with_reducible refine (CZ.out _).mono ?_)
    rintro e w6 ⟨rfl, hb⟩
    replace hB := Bel.st hB hb
    clear hb
    rcases hor with rfl | ⟨rfl, rfl⟩
    · go_wp2_with fail
      go_ret
      exact ⟨rfl, hB⟩
    · go_wp2_with fail
      go_ret
      exact ⟨rfl, hB⟩
  · have hm0 := hz hf0
    subst hm0
    have hfd : (f == 0) = false := by simpa using hf0
    clear hz hf
    go_enter Try.func7, Try.ntmps7
    go_wp2_with fail
    (with_reducible refine (shown6_any _).mono ?_)
    rintro e w1 ⟨rfl, hB⟩
    go_wp2_with fail
    rw [HD.out]
    (with_reducible refine (CF.out _).mono ?_)
    rintro e w2 ⟨rfl, hb⟩
    replace hB := Bel.st hB hb
    clear hb
    go_wp2_with fail
    (with_reducible refine (CT.out _).mono ?_)
    rintro e w3 ⟨rfl, hb⟩
    replace hB := Bel.st hB hb
    clear hb
    go_wp2_with fail
    (with_reducible refine (CX.out _).mono ?_)
    rintro e w4 ⟨rfl, hb⟩
    replace hB := Bel.st hB hb
    clear hb
    go_wp2_with fail
    go_ret
    exact ⟨rfl, hB⟩
end Go.Proofs.Ytjlmchbpdkojeaa
