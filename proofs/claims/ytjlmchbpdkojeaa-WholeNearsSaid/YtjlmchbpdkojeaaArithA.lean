/-
  The walks of arith.Add, Sub, Mul.
-/
import Derived.Test.YtjlmchbpdkojeaaArithS
namespace Go.Proofs.Ytjlmchbpdkojeaa
open Go.RowKit Go.Shelf

set_option maxHeartbeats 1000000 in
theorem asum_half (a b : Int) (w : World) (ha : Wd a) (hb : Wd b) (x y : Int) (hx : kd x ≤ 2) (_hy : kd y ≤ 2) (hpos : fn x ≠ 0 ∨ fn y ≠ 0) (hle : expo y ≤ expo x)
    (hxy : (x = a ∧ y = b) ∨ (x = b ∧ y = a ∧ expo a < expo b)) :
    Calls Try.prog 72 #[.int .u64 a, .int .u64 b] w fun r w' => r = .returned (.int .u64 (rnd (sg (sgn x) (fn x) + sg (sgn y) (fn y)))) ∧ Below w.heap.size w w' := by
  obtain ⟨mx, hmx⟩ : ∃ mx : Nat, mant x = mx := ⟨(mant x).toNat, by have := mant_bd (x := x); omega⟩
  obtain ⟨my, hmy⟩ : ∃ my : Nat, mant y = my := ⟨(mant y).toNat, by have := mant_bd (x := y); omega⟩
  have bx := mant_bd (x := x)
  have bby := mant_bd (x := y)
  rw [hmx] at bx
  rw [hmy] at bby
  have fx : fn x = mx * 2 ^ (expo x + 1074).toNat := by unfold fn; rw [hmx, Int.toNat_natCast]
  have fy : fn y = my * 2 ^ (expo y + 1074).toNat := by unfold fn; rw [hmy, Int.toNat_natCast]
  have hlow := kd_low hx
  rw [hmx] at hlow
  rw [fx, fy] at hpos
  rw [fx, fy]
  obtain ⟨U, c, q, low, j, X, e, H⟩ := SumSet.mk' (sx := sgn x) (sy := sgn y) hle expo_bd expo_bd (by omega) (by omega) (fun h => by have := hlow h; omega) hpos rfl
  have hsw : (expo b ≤ expo a ∧ sgn a = sgn x ∧ mant a = mx ∧ expo a = expo x ∧ sgn b = sgn y ∧ mant b = my ∧ expo b = expo y) ∨ (expo a < expo b ∧ sgn b = sgn x ∧ mant b = mx ∧ expo b = expo x ∧ sgn a = sgn y ∧ mant a = my ∧ expo a = expo y) := by
    rcases hxy with ⟨rfl, rfl⟩ | ⟨rfl, rfl, h⟩
    · exact .inl ⟨hle, rfl, hmx, rfl, rfl, hmy, rfl⟩
    · exact .inr ⟨h, rfl, hmx, rfl, rfl, hmy, rfl⟩
  by_cases hs : sgn x = sgn y
  · rw [← hs] at hsw H ⊢
    exact sum_same (sgn x) mx my w ha hb hsw H
  · by_cases h0 : low = 0
    · rcases Nat.lt_trichotomy X q with g | g | g
      · exact sum_lt (sgn x) (sgn y) mx my w ha hb hsw H hs h0 g
      · exact sum_eq (sgn x) (sgn y) mx my w ha hb hsw H hs h0 g
      · exact sum_gt (sgn x) (sgn y) mx my w ha hb hsw H hs h0 g
    · exact sum_more (sgn x) (sgn y) mx my w ha hb hsw H hs h0
theorem asum_any (a b : Int) (w : World) (ha : Wd a) (hb : Wd b) (ka : kd a ≤ 2) (kb : kd b ≤ 2) (hpos : fn a ≠ 0 ∨ fn b ≠ 0) :
    Calls Try.prog 72 #[.int .u64 a, .int .u64 b] w fun r w' => r = .returned (.int .u64 (rnd (sg (sgn a) (fn a) + sg (sgn b) (fn b)))) ∧ Below w.heap.size w w' := by
  by_cases h : expo b ≤ expo a
  · exact asum_half a b w ha hb a b ka kb hpos h (.inl ⟨rfl, rfl⟩)
  · rw [Int.add_comm]
    exact asum_half a b w ha hb b a kb ka hpos.symm (by omega) (.inr ⟨rfl, rfl, by omega⟩)
theorem fn_pos {x : Int} (h : kd x ≤ 2) (h0 : kd x ≠ 0) (hx : Wd x) : fn x ≠ 0 := by
  have hm : mant x ≠ 0 := by
    unfold mant
    unfold kd at *
    obtain ⟨h1, h2⟩ := hx
    (repeat' split) <;> (repeat' split at *) <;> omega
  have := mant_bd (x := x)
  unfold fn
  have p := Nat.two_pow_pos (expo x + 1074).toNat
  intro g
  rcases Nat.mul_eq_zero.1 g with k | k <;> omega
theorem fn_zero {x : Int} (h : kd x = 0) : fn x = 0 := by
  unfold fn mant
  have : x % 4503599627370496 = 0 := by unfold kd at h; (repeat' split at h) <;> omega
  rw [if_pos (by omega), this]; simp

theorem addC_cases (a b : Int) : (addC a b = 1 ∧ (kd a = 4 ∨ kd b = 4)) ∨ (addC a b = 2 ∧ kd a = 3 ∧ kd b ≤ 2) ∨ (addC a b = 3 ∧ kd a ≤ 2 ∧ kd b = 3) ∨ (addC a b = 4 ∧ ((kd a = 3 ∧ kd b = 3) ∨ (kd a = 0 ∧ kd b = 0))) ∨ (addC a b = 0 ∧ kd a ≤ 2 ∧ kd b ≤ 2 ∧ (kd a ≠ 0 ∨ kd b ≠ 0)) := by
  have h1 := kd_bd a
  have h2 := kd_bd b
  unfold addC addT kc
  generalize kd a = k at *
  generalize kd b = l at *
  obtain rfl | rfl | rfl | rfl | rfl : k = 0 ∨ k = 1 ∨ k = 2 ∨ k = 3 ∨ k = 4 := by omega
  all_goals
    obtain rfl | rfl | rfl | rfl | rfl : l = 0 ∨ l = 1 ∨ l = 2 ∨ l = 3 ∨ l = 4 := by omega
  all_goals simp
theorem mulC_cases (a b : Int) : (mulC a b = 1 ∧ (kd a = 4 ∨ kd b = 4 ∨ (kd a = 3 ∧ kd b = 0) ∨ (kd a = 0 ∧ kd b = 3))) ∨ (mulC a b = 5 ∧ ¬ (kd a = 4 ∨ kd b = 4 ∨ (kd a = 3 ∧ kd b = 0) ∨ (kd a = 0 ∧ kd b = 3)) ∧ (kd a = 3 ∨ kd b = 3)) ∨ ((mulC a b = 0 ∨ mulC a b = 6) ∧ kd a ≤ 2 ∧ kd b ≤ 2) := by
  have h1 := kd_bd a
  have h2 := kd_bd b
  unfold mulC mulT kc
  generalize kd a = k at *
  generalize kd b = l at *
  obtain rfl | rfl | rfl | rfl | rfl : k = 0 ∨ k = 1 ∨ k = 2 ∨ k = 3 ∨ k = 4 := by omega
  all_goals
    obtain rfl | rfl | rfl | rfl | rfl : l = 0 ∨ l = 1 ∨ l = 2 ∨ l = 3 ∨ l = 4 := by omega
  all_goals simp

set_option maxRecDepth 100000 in
set_option maxHeartbeats 4000000 in
theorem aadd_any (a b : Int) (w : World) (ha : Wd a) (hb : Wd b) : Calls Try.prog 45 #[.int .u64 a, .int .u64 b] w fun e w' => e = .returned (.int .u64 (addI a b)) ∧ Below w.heap.size w w' := by
  have CA := fun v => adds_any a b v ha hb
  have CK := fun v => kind_any a v ha
  rcases addC_cases a b with ⟨hc, h⟩ | ⟨hc, h, h'⟩ | ⟨hc, h, h'⟩ | ⟨hc, h⟩ | ⟨hc, h1, h2, h3⟩
  · have hI : addI a b = NAN := by unfold addI; rw [if_pos h]
    rw [hc] at CA
    rw [hI]
    replace CA := Lib.hid CA
    clear CK ha hb hc h hI
    go_enter Try.func45, Try.ntmps45
    go_wp2_with (go_at_call 71; (with_reducible refine (CA.out _).mono ?_); rintro e w1 ⟨rfl, hb1⟩)
    go_ret
    exact ⟨rfl, hb1⟩
  · have hI : addI a b = a := by unfold addI; rw [if_neg (by omega), if_pos h, if_neg (by omega)]
    rw [hc] at CA
    rw [hI]
    replace CA := Lib.hid CA
    clear CK ha hb hc h h' hI
    go_enter Try.func45, Try.ntmps45
    go_wp2_with (go_at_call 71; (with_reducible refine (CA.out _).mono ?_); rintro e w1 ⟨rfl, hb1⟩)
    go_ret
    exact ⟨rfl, hb1⟩
  · have hI : addI a b = b := by unfold addI; rw [if_neg (by omega), if_neg (by omega), if_pos h']
    rw [hc] at CA
    rw [hI]
    replace CA := Lib.hid CA
    clear CK ha hb hc h h' hI
    go_enter Try.func45, Try.ntmps45
    go_wp2_with (go_at_call 71; (with_reducible refine (CA.out _).mono ?_); rintro e w1 ⟨rfl, hb1⟩)
    go_ret
    exact ⟨rfl, hb1⟩
  · rw [hc] at CA
    replace CA := Lib.hid CA
    by_cases hab : a = b
    · have hI : addI a b = a := by
        unfold addI
        rcases h with h | h
        · rw [if_neg (by omega), if_pos h.1, if_neg (by simp [hab])]
        · rw [if_neg (by omega), if_neg (by omega), if_neg (by omega), if_pos h, if_pos hab]
      rw [hI]
      have hab' : (a == b) = true := by simpa using hab
      clear CK ha hb hc h hI hab
      go_enter Try.func45, Try.ntmps45
      go_wp2_with (go_at_call 71; (with_reducible refine (CA.out _).mono ?_); rintro e w1 ⟨rfl, hb1⟩)
      go_ret
      exact ⟨rfl, hb1⟩
    · have hab' : (a == b) = false := by simpa using hab
      rcases h with h | h
      · have hI : addI a b = NAN := by unfold addI; rw [if_neg (by omega), if_pos h.1, if_pos ⟨h.2, hab⟩]
        rw [h.1] at CK
        rw [hI]
        replace CK := Lib.hid CK
        clear ha hb hc h hI hab
        go_enter Try.func45, Try.ntmps45
        go_wp2_with (first | (go_at_call 71; (with_reducible refine (CA.out _).mono ?_); rintro e w1 ⟨rfl, hb1⟩) | (go_at_call 29; (with_reducible refine (CK.out _).mono ?_); rintro e w2 ⟨rfl, rfl⟩))
        go_ret
        exact ⟨rfl, hb1⟩
      · have hI : addI a b = 0 := by unfold addI; rw [if_neg (by omega), if_neg (by omega), if_neg (by omega), if_pos h, if_neg hab]
        rw [h.1] at CK
        rw [hI]
        replace CK := Lib.hid CK
        clear ha hb hc h hI hab
        go_enter Try.func45, Try.ntmps45
        go_wp2_with (first | (go_at_call 71; (with_reducible refine (CA.out _).mono ?_); rintro e w1 ⟨rfl, hb1⟩) | (go_at_call 29; (with_reducible refine (CK.out _).mono ?_); rintro e w2 ⟨rfl, rfl⟩))
        go_ret
        exact ⟨rfl, hb1⟩
  · have hI : addI a b = rnd (sg (sgn a) (fn a) + sg (sgn b) (fn b)) := by unfold addI; rw [if_neg (by omega), if_neg (by omega), if_neg (by omega), if_neg (by omega)]
    have CS := fun v => asum_any a b v ha hb h1 h2 (by rcases h3 with g | g; exact .inl (fn_pos h1 g ha); exact .inr (fn_pos h2 g hb))
    rw [← hI] at CS
    obtain ⟨F, hF⟩ : ∃ F, addI a b = F := ⟨_, rfl⟩
    rw [hF] at CS ⊢
    rw [hc] at CA
    replace CA := Lib.hid CA
    replace CS := Lib.hid CS
    clear CK ha hb hc h1 h2 h3 hI hF
    go_enter Try.func45, Try.ntmps45
    go_wp2_with (first | (go_at_call 71; (with_reducible refine (CA.out _).mono ?_); rintro e w1 ⟨rfl, hb1⟩) | (go_at_call 72; (with_reducible refine (CS.out _).mono ?_); rintro e w2 ⟨rfl, hb2⟩))
    go_ret
    exact ⟨rfl, Bel.st hb1 hb2⟩
set_option maxHeartbeats 1000000 in
theorem asub_any (a b : Int) (w : World) (ha : Wd a) (hb : Wd b) : Calls Try.prog 28 #[.int .u64 a, .int .u64 b] w fun e w' => e = .returned (.int .u64 (subI a b)) ∧ Below w.heap.size w w' := by
  have CN := Lib.hid (fun v => neg_any b v hb)
  have CA := Lib.hid (fun v => aadd_any a (negI b) v ha (wd_neg hb))
  unfold subI
  clear ha hb
  go_enter Try.func28, Try.ntmps28
  go_wp2_with (first | (go_at_call 46; (with_reducible refine (CN.out _).mono ?_); rintro e w1 ⟨rfl, rfl⟩) | (go_at_call 45; (with_reducible refine (CA.out _).mono ?_); rintro e w2 ⟨rfl, hb2⟩))
  go_ret
  exact ⟨rfl, hb2⟩

theorem top_bit {x : Int} (hx : Wd x) : x / 9223372036854775808 = if sgn x then 1 else 0 := by
  obtain ⟨h0, h1⟩ := hx
  unfold sgn
  by_cases h : 9223372036854775808 ≤ x
  · rw [decide_eq_true h, if_pos rfl]; omega
  · rw [decide_eq_false h, if_neg (by simp)]; omega
end Go.Proofs.Ytjlmchbpdkojeaa
