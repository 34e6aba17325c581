/-
  M5E: the texts ArithA, Ref4, Ref4B, Ref4C, Root, RootB, RootC, RootD in one (a claim has at most 60 files).
-/
import Derived.Test.YtmjaoeafompclaaM5B
import Derived.Test.YtmjaoeafompclaaM5C
import Derived.Test.YtmjaoeafompclaaM5D

namespace Go.Proofs.Ytmjaoeafompclaa
open Go.RowKit Go.Shelf

set_option maxHeartbeats 1000000 in
theorem asum_half (a b : Int) (w : World) (ha : Wd a) (hb : Wd b) (x y : Int) (hx : kd x ≤ 2) (_hy : kd y ≤ 2) (hpos : fn x ≠ 0 ∨ fn y ≠ 0) (hle : expo y ≤ expo x)
    (hxy : (x = a ∧ y = b) ∨ (x = b ∧ y = a ∧ expo a < expo b)) :
    Calls Try.prog 63 #[.int .u64 a, .int .u64 b] w fun r w' => r = .returned (.int .u64 (rnd (sg (sgn x) (fn x) + sg (sgn y) (fn y)))) ∧ Below w.heap.size w w' := by
  obtain ⟨mx, hmx⟩ : ∃ mx : Nat, mant x = mx := ⟨(mant x).toNat, by have := mant_bd (x := x); omega⟩
  obtain ⟨my, hmy⟩ : ∃ my : Nat, mant y = my := ⟨(mant y).toNat, by have := mant_bd (x := y); omega⟩
  have bx := mant_bd (x := x)
  have bby := mant_bd (x := y)
  rw [hmx] at bx
  rw [hmy] at bby
  have fx : fn x = mx * 2 ^ (expo x + 1074).toNat := by unfold fn; rw [hmx, Int.toNat_natCast]
  have fy : fn y = my * 2 ^ (expo y + 1074).toNat := by unfold fn; rw [hmy, Int.toNat_natCast]
  have hlow := kd_low hx
  rw [hmx] at hlow
  rw [fx, fy] at hpos
  rw [fx, fy]
  obtain ⟨U, c, q, low, j, X, e, H⟩ := SumSet.mk' (sx := sgn x) (sy := sgn y) hle expo_bd expo_bd (by omega) (by omega) (fun h => by have := hlow h; omega) hpos rfl
  have hsw : (expo b ≤ expo a ∧ sgn a = sgn x ∧ mant a = mx ∧ expo a = expo x ∧ sgn b = sgn y ∧ mant b = my ∧ expo b = expo y) ∨ (expo a < expo b ∧ sgn b = sgn x ∧ mant b = mx ∧ expo b = expo x ∧ sgn a = sgn y ∧ mant a = my ∧ expo a = expo y) := by
    rcases hxy with ⟨rfl, rfl⟩ | ⟨rfl, rfl, h⟩
    · exact .inl ⟨hle, rfl, hmx, rfl, rfl, hmy, rfl⟩
    · exact .inr ⟨h, rfl, hmx, rfl, rfl, hmy, rfl⟩
  by_cases hs : sgn x = sgn y
  · rw [← hs] at hsw H ⊢
    exact sum_same (sgn x) mx my w ha hb hsw H
  · by_cases h0 : low = 0
    · rcases Nat.lt_trichotomy X q with g | g | g
      · exact sum_lt (sgn x) (sgn y) mx my w ha hb hsw H hs h0 g
      · exact sum_eq (sgn x) (sgn y) mx my w ha hb hsw H hs h0 g
      · exact sum_gt (sgn x) (sgn y) mx my w ha hb hsw H hs h0 g
    · exact sum_more (sgn x) (sgn y) mx my w ha hb hsw H hs h0
theorem asum_any (a b : Int) (w : World) (ha : Wd a) (hb : Wd b) (ka : kd a ≤ 2) (kb : kd b ≤ 2) (hpos : fn a ≠ 0 ∨ fn b ≠ 0) :
    Calls Try.prog 63 #[.int .u64 a, .int .u64 b] w fun r w' => r = .returned (.int .u64 (rnd (sg (sgn a) (fn a) + sg (sgn b) (fn b)))) ∧ Below w.heap.size w w' := by
  by_cases h : expo b ≤ expo a
  · exact asum_half a b w ha hb a b ka kb hpos h (.inl ⟨rfl, rfl⟩)
  · rw [Int.add_comm]
    exact asum_half a b w ha hb b a kb ka hpos.symm (by omega) (.inr ⟨rfl, rfl, by omega⟩)
theorem fn_pos {x : Int} (h : kd x ≤ 2) (h0 : kd x ≠ 0) (hx : Wd x) : fn x ≠ 0 := by
  have hm : mant x ≠ 0 := by
    unfold mant
    unfold kd at *
    obtain ⟨h1, h2⟩ := hx
    (repeat' split) <;> (repeat' split at *) <;> omega
  have := mant_bd (x := x)
  unfold fn
  have p := Nat.two_pow_pos (expo x + 1074).toNat
  intro g
  rcases Nat.mul_eq_zero.1 g with k | k <;> omega
theorem fn_zero {x : Int} (h : kd x = 0) : fn x = 0 := by
  unfold fn mant
  have : x % 4503599627370496 = 0 := by unfold kd at h; (repeat' split at h) <;> omega
  rw [if_pos (by omega), this]; simp

theorem addC_cases (a b : Int) : (addC a b = 1 ∧ (kd a = 4 ∨ kd b = 4)) ∨ (addC a b = 2 ∧ kd a = 3 ∧ kd b ≤ 2) ∨ (addC a b = 3 ∧ kd a ≤ 2 ∧ kd b = 3) ∨ (addC a b = 4 ∧ ((kd a = 3 ∧ kd b = 3) ∨ (kd a = 0 ∧ kd b = 0))) ∨ (addC a b = 0 ∧ kd a ≤ 2 ∧ kd b ≤ 2 ∧ (kd a ≠ 0 ∨ kd b ≠ 0)) := by
  have h1 := kd_bd a
  have h2 := kd_bd b
  unfold addC addT kc
  generalize kd a = k at *
  generalize kd b = l at *
  obtain rfl | rfl | rfl | rfl | rfl : k = 0 ∨ k = 1 ∨ k = 2 ∨ k = 3 ∨ k = 4 := by omega
  all_goals
    obtain rfl | rfl | rfl | rfl | rfl : l = 0 ∨ l = 1 ∨ l = 2 ∨ l = 3 ∨ l = 4 := by omega
  all_goals simp
theorem mulC_cases (a b : Int) : (mulC a b = 1 ∧ (kd a = 4 ∨ kd b = 4 ∨ (kd a = 3 ∧ kd b = 0) ∨ (kd a = 0 ∧ kd b = 3))) ∨ (mulC a b = 5 ∧ ¬ (kd a = 4 ∨ kd b = 4 ∨ (kd a = 3 ∧ kd b = 0) ∨ (kd a = 0 ∧ kd b = 3)) ∧ (kd a = 3 ∨ kd b = 3)) ∨ ((mulC a b = 0 ∨ mulC a b = 6) ∧ kd a ≤ 2 ∧ kd b ≤ 2) := by
  have h1 := kd_bd a
  have h2 := kd_bd b
  unfold mulC mulT kc
  generalize kd a = k at *
  generalize kd b = l at *
  obtain rfl | rfl | rfl | rfl | rfl : k = 0 ∨ k = 1 ∨ k = 2 ∨ k = 3 ∨ k = 4 := by omega
  all_goals
    obtain rfl | rfl | rfl | rfl | rfl : l = 0 ∨ l = 1 ∨ l = 2 ∨ l = 3 ∨ l = 4 := by omega
  all_goals simp

set_option maxRecDepth 100000 in
set_option maxHeartbeats 4000000 in
theorem aadd_any (a b : Int) (w : World) (ha : Wd a) (hb : Wd b) : Calls Try.prog 25 #[.int .u64 a, .int .u64 b] w fun e w' => e = .returned (.int .u64 (addI a b)) ∧ Below w.heap.size w w' := by
  have CA := fun v => adds_any a b v ha hb
  have CK := fun v => kind_any a v ha
  rcases addC_cases a b with ⟨hc, h⟩ | ⟨hc, h, h'⟩ | ⟨hc, h, h'⟩ | ⟨hc, h⟩ | ⟨hc, h1, h2, h3⟩
  · have hI : addI a b = NAN := by unfold addI; rw [if_pos h]
    rw [hc] at CA
    rw [hI]
    replace CA := Lib.hid CA
    clear CK ha hb hc h hI
    go_enter Try.func25, Try.ntmps25
    go_wp2_with (go_at_call 61; (with_reducible refine (CA.out _).mono ?_); rintro e w1 ⟨rfl, hb1⟩)
    go_ret
    exact ⟨rfl, hb1⟩
  · have hI : addI a b = a := by unfold addI; rw [if_neg (by omega), if_pos h, if_neg (by omega)]
    rw [hc] at CA
    rw [hI]
    replace CA := Lib.hid CA
    clear CK ha hb hc h h' hI
    go_enter Try.func25, Try.ntmps25
    go_wp2_with (go_at_call 61; (with_reducible refine (CA.out _).mono ?_); rintro e w1 ⟨rfl, hb1⟩)
    go_ret
    exact ⟨rfl, hb1⟩
  · have hI : addI a b = b := by unfold addI; rw [if_neg (by omega), if_neg (by omega), if_pos h']
    rw [hc] at CA
    rw [hI]
    replace CA := Lib.hid CA
    clear CK ha hb hc h h' hI
    go_enter Try.func25, Try.ntmps25
    go_wp2_with (go_at_call 61; (with_reducible refine (CA.out _).mono ?_); rintro e w1 ⟨rfl, hb1⟩)
    go_ret
    exact ⟨rfl, hb1⟩
  · rw [hc] at CA
    replace CA := Lib.hid CA
    by_cases hab : a = b
    · have hI : addI a b = a := by
        unfold addI
        rcases h with h | h
        · rw [if_neg (by omega), if_pos h.1, if_neg (by simp [hab])]
        · rw [if_neg (by omega), if_neg (by omega), if_neg (by omega), if_pos h, if_pos hab]
      rw [hI]
      have hab' : (a == b) = true := by simpa using hab
      clear CK ha hb hc h hI hab
      go_enter Try.func25, Try.ntmps25
      go_wp2_with (go_at_call 61; (with_reducible refine (CA.out _).mono ?_); rintro e w1 ⟨rfl, hb1⟩)
      go_ret
      exact ⟨rfl, hb1⟩
    · have hab' : (a == b) = false := by simpa using hab
      rcases h with h | h
      · have hI : addI a b = NAN := by unfold addI; rw [if_neg (by omega), if_pos h.1, if_pos ⟨h.2, hab⟩]
        rw [h.1] at CK
        rw [hI]
        replace CK := Lib.hid CK
        clear ha hb hc h hI hab
        go_enter Try.func25, Try.ntmps25
        go_wp2_with (first | (go_at_call 61; (with_reducible refine (CA.out _).mono ?_); rintro e w1 ⟨rfl, hb1⟩) | (go_at_call 62; (with_reducible refine (CK.out _).mono ?_); rintro e w2 ⟨rfl, rfl⟩))
        go_ret
        exact ⟨rfl, hb1⟩
      · have hI : addI a b = 0 := by unfold addI; rw [if_neg (by omega), if_neg (by omega), if_neg (by omega), if_pos h, if_neg hab]
        rw [h.1] at CK
        rw [hI]
        replace CK := Lib.hid CK
        clear ha hb hc h hI hab
        go_enter Try.func25, Try.ntmps25
        go_wp2_with (first | (go_at_call 61; (with_reducible refine (CA.out _).mono ?_); rintro e w1 ⟨rfl, hb1⟩) | (go_at_call 62; (with_reducible refine (CK.out _).mono ?_); rintro e w2 ⟨rfl, rfl⟩))
        go_ret
        exact ⟨rfl, hb1⟩
  · have hI : addI a b = rnd (sg (sgn a) (fn a) + sg (sgn b) (fn b)) := by unfold addI; rw [if_neg (by omega), if_neg (by omega), if_neg (by omega), if_neg (by omega)]
    have CS := fun v => asum_any a b v ha hb h1 h2 (by rcases h3 with g | g; exact .inl (fn_pos h1 g ha); exact .inr (fn_pos h2 g hb))
    rw [← hI] at CS
    obtain ⟨F, hF⟩ : ∃ F, addI a b = F := ⟨_, rfl⟩
    rw [hF] at CS ⊢
    rw [hc] at CA
    replace CA := Lib.hid CA
    replace CS := Lib.hid CS
    clear CK ha hb hc h1 h2 h3 hI hF
    go_enter Try.func25, Try.ntmps25
    go_wp2_with (first | (go_at_call 61; (with_reducible refine (CA.out _).mono ?_); rintro e w1 ⟨rfl, hb1⟩) | (go_at_call 63; (with_reducible refine (CS.out _).mono ?_); rintro e w2 ⟨rfl, hb2⟩))
    go_ret
    exact ⟨rfl, Bel.st hb1 hb2⟩
theorem top_bit {x : Int} (hx : Wd x) : x / 9223372036854775808 = if sgn x then 1 else 0 := by
  obtain ⟨h0, h1⟩ := hx
  unfold sgn
  by_cases h : 9223372036854775808 ≤ x
  · rw [decide_eq_true h, if_pos rfl]; omega
  · rw [decide_eq_false h, if_neg (by simp)]; omega
set_option maxRecDepth 100000 in
set_option maxHeartbeats 4000000 in
theorem amul_any (a b : Int) (w : World) (ha : Wd a) (hb : Wd b) : Calls Try.prog 26 #[.int .u64 a, .int .u64 b] w fun e w' => e = .returned (.int .u64 (mulI a b)) ∧ Below w.heap.size w w' := by
  have CM := fun v => muls_any a b v ha hb
  have ta := top_bit ha
  have tb := top_bit hb
  obtain ⟨c, hc⟩ : ∃ c, mulC a b = c := ⟨_, rfl⟩
  obtain ⟨F, hF⟩ : ∃ F, mulI a b = F := ⟨_, rfl⟩
  rw [hF]
  have hcs := mulC_cases a b
  rw [hc] at CM hcs
  rcases hcs with ⟨rfl, h⟩ | ⟨rfl, h, h'⟩ | ⟨hc6, h1, h2⟩
  · have hI : F = NAN := by rw [← hF]; unfold mulI; rw [if_pos h]
    subst hI
    replace CM := Lib.hid CM
    clear ha hb hc h hF
    cases hsa : sgn a <;> cases hsb : sgn b
    all_goals
      rw [hsa] at ta
      rw [hsb] at tb
      simp only [if_true, Bool.false_eq_true, if_false] at ta tb
      clear hsa hsb
      go_enter Try.func26, Try.ntmps26
      go_wp2_with (go_at_call 64; (with_reducible refine (CM.out _).mono ?_); rintro e w1 ⟨rfl, hb1⟩)
      go_ret
      exact ⟨rfl, hb1⟩
  · have hI : F = sb (sgn a != sgn b) + INFI := by rw [← hF]; unfold mulI; rw [if_neg h, if_pos h']
    subst hI
    replace CM := Lib.hid CM
    clear ha hb hc h h' hF
    cases hsa : sgn a <;> cases hsb : sgn b
    all_goals
      rw [hsa] at ta
      rw [hsb] at tb
      simp only [if_true, Bool.false_eq_true, if_false] at ta tb
      clear hsa hsb
      go_enter Try.func26, Try.ntmps26
      go_wp2_with (go_at_call 64; (with_reducible refine (CM.out _).mono ?_); rintro e w1 ⟨rfl, hb1⟩)
      go_ret
      exact ⟨rfl, hb1⟩
  · have hI : F = fbits (sgn a != sgn b) (mant a * mant b).toNat (expo a + expo b) false := by rw [← hF]; unfold mulI; rw [if_neg (by omega), if_neg (by omega)]
    have bma := mant_bd (x := a)
    have bmb := mant_bd (x := b)
    have bea := expo_bd (x := a)
    have beb := expo_bd (x := b)
    have CA := fun v => split_any a v ha
    have CB := fun v => split_any b v hb
    obtain ⟨m, hm⟩ : ∃ m : Nat, mant a = m := ⟨(mant a).toNat, by omega⟩
    obtain ⟨n, hn⟩ : ∃ n : Nat, mant b = n := ⟨(mant b).toNat, by omega⟩
    obtain ⟨ea, hea⟩ : ∃ ea, expo a = ea := ⟨_, rfl⟩
    obtain ⟨eb, heb⟩ : ∃ eb, expo b = eb := ⟨_, rfl⟩
    rw [hm, hn, hea, heb] at hI
    rw [hm, hea] at CA
    rw [hn, heb] at CB
    rw [hm] at bma
    rw [hn] at bmb
    rw [hea] at bea
    rw [heb] at beb
    have hP : ((m : Int) * (n : Int)).toNat = m * n := by
      have : (m : Int) * (n : Int) = ((m * n : Nat) : Int) := by simp
      rw [this, Int.toNat_natCast]
    have hPI : (m : Int) * (n : Int) = ((m * n : Nat) : Int) := by simp
    have hPb : m * n ≤ 9007199254740991 * 9007199254740991 := Nat.mul_le_mul (by omega) (by omega)
    rw [hP] at hI
    have CW := fun v => wmul_any (m : Int) (n : Int) v ⟨by omega, by omega⟩ ⟨by omega, by omega⟩
    rw [hPI] at CW
    have CJ := fun v => join_nat (sgn a != sgn b) (m * n) (ea + eb) false v (by omega) (by omega) (by omega)
    rw [← hI] at CJ
    obtain ⟨ng, hng⟩ : ∃ ng, (sgn a != sgn b) = ng := ⟨_, rfl⟩
    rw [hng] at CJ
    obtain ⟨P, hP'⟩ : ∃ P, m * n = P := ⟨_, rfl⟩
    rw [hP'] at CW CJ
    obtain ⟨PH, hPH⟩ : ∃ PH, hiOf (P : Int) = PH := ⟨_, rfl⟩
    obtain ⟨PL, hPL⟩ : ∃ PL, loOf (P : Int) = PL := ⟨_, rfl⟩
    rw [hPH, hPL] at CW CJ
    have hE : IntKind.i64.wrap (ea + eb) = ea + eb := by rw [IntKind.wrap_i64]; omega
    have HC := Lib.hid hc6
    clear ha hb hc hF hI hP hPI hPb hP' hPH hPL hm hn hea heb hc6 h1 h2
    have H0 : (c == 1) = false := by have := HC.out; simp; omega
    have H5 : (c == 5) = false := by have := HC.out; simp; omega
    cases hsa : sgn a <;> cases hsb : sgn b <;> cases ng
    all_goals
      rw [hsa] at ta CA hng
      rw [hsb] at tb CB hng
    all_goals try (exact absurd hng (by decide))
    all_goals
      simp only [if_true, Bool.false_eq_true, if_false] at ta tb
      have CA1 := Lib.hid CA
      have CB1 := Lib.hid CB
      have CW1 := Lib.hid CW
      have CJ1 := Lib.hid CJ
      have CM1 := Lib.hid CM
      clear CA CB CW CJ CM hsa hsb hng
      go_enter Try.func26, Try.ntmps26
      go_wp2_with fail
      (with_reducible refine (CM1.out _).mono ?_)
      rintro e w1 ⟨rfl, hb1⟩
      go_wp2_with fail
      (with_reducible refine (CA1.out _).mono ?_)
      rintro e w' ⟨rfl, rfl⟩
      go_wp2_with fail
      (with_reducible refine (CB1.out _).mono ?_)
      rintro e w' ⟨rfl, rfl⟩
      go_wp2_with fail
      (with_reducible refine (CW1.out _).mono ?_)
      rintro e w2 ⟨rfl, hb2⟩
      go_wp2_with fail
      (with_reducible refine (CJ1.out _).mono ?_)
      rintro e w3 ⟨rfl, hb3⟩
      go_wp2_with fail
      go_ret
      exact ⟨rfl, Bel.st (Bel.st hb1 hb2) hb3⟩
end Go.Proofs.Ytmjaoeafompclaa

namespace Go.Proofs.Ytmjaoeafompclaa
open Go.RowKit Go.Shelf

theorem stored2 {W : World} {n i j k G : Nat} {u x y : Value} (h : W.cell? ⟨n, i, none⟩ = some u) (hne : G ≠ n) : ((W.setCell ⟨G, j, none⟩ x).setCell ⟨G, k, none⟩ y).cell? ⟨n, i, none⟩ = some u := by
  rw [World.cell?_setCell_other _ _ _ _ (fun e => hne (congrArg Addr.block e)), World.cell?_setCell_other _ _ _ _ (fun e => hne (congrArg Addr.block e))]
  exact h
theorem val2 (a b : Nat) : Pl.val [a, b] = a + 4294967296 * b := by simp only [Pl.val, Pl.B32]; omega
set_option maxHeartbeats 1000000 in
theorem of_any (v : Nat) (w : World) (hv : v < 18446744073709551616) : Calls Try.prog 74 #[.int .u64 v] w (RetNat v w) := by
  have HF := Lib.hid (show Pl.Fit [v % 4294967296, v / 4294967296] by
    intro x hx
    simp only [List.mem_cons, List.not_mem_nil, or_false] at hx
    unfold Pl.B32
    omega)
  have HV := Lib.hid (show Pl.val [v % 4294967296, v / 4294967296] = v by rw [val2]; omega)
  go_enter Try.func74, Try.ntmps74
  go_wp2_with (go_at_call 73; refine (trim_v (slice_block w _ 2 _ _ HF.out rfl (by simp [lv]) (by omega)) (by omega)).mono ?_; rw [HV.out]; rintro e w2 ⟨v2, rfl, hv2, hb2⟩)
  go_ret
  exact ⟨v2, rfl, hv2, below_trans1 (hb2.mono (by simp)) ((Below.refl _ _).alloc (Nat.le_refl _) _)⟩
theorem rnat_any (v : Nat) (w : World) (hv : v < 18446744073709551616) : Calls Try.prog 42 #[.int .u64 v] w (RetNat v w) := by
  have HV := Lib.hid hv
  clear hv
  go_enter Try.func42, Try.ntmps42
  go_wp2_with (go_at_call 74; refine (of_any v _ HV.out).mono ?_; rintro e w2 ⟨v2, rfl, hv2, hb2⟩)
  go_ret
  exact ⟨v2, rfl, hv2, hb2⟩
theorem b32_2 : Pl.B32 ^ 2 = 18446744073709551616 := by decide

/-- What answers a natural with a sign. -/
def RetS (s : Bool) (N : Nat) (w : World) (e : Ending) (w' : World) : Prop := ∃ v, e = .returned (.agg #[.bool s, v]) ∧ NatV w' v N ∧ Below w.heap.size w w'

set_option maxRecDepth 100000 in
set_option maxHeartbeats 2000000 in
theorem exact_any (x : Int) (w : World) (hx : Wd x) : Calls Try.prog 56 #[.int .u64 x] w (RetS (sgn x) (fn x) w) := by
  obtain ⟨m0, m1⟩ := mant_bd (x := x)
  obtain ⟨e0, e1⟩ := expo_bd (x := x)
  have CS := fun v => rsplit_any x v hx
  obtain ⟨m, hm⟩ : ∃ m : Nat, mant x = m := ⟨(mant x).toNat, by omega⟩
  obtain ⟨u, hu⟩ : ∃ u : Nat, expo x + 1074 = u := ⟨(expo x + 1074).toNat, by omega⟩
  obtain ⟨ee, he⟩ : ∃ ee, expo x = ee := ⟨_, rfl⟩
  obtain ⟨s, hs⟩ : ∃ s, sgn x = s := ⟨_, rfl⟩
  have hf : fn x = m * 2 ^ u := by unfold fn; rw [hm, hu, Int.toNat_natCast, Int.toNat_natCast]
  rw [hf, hs]
  rw [hm] at CS m1
  rw [he] at CS hu e0 e1
  rw [hs] at CS
  obtain ⟨X, hX⟩ : ∃ X, m * 2 ^ u = X := ⟨_, rfl⟩
  rw [hX]
  have CN := fun v => rnat_any m v (by omega)
  have CU := fun (v : World) (y : Value) (h : SliceV v y m 2) => up_vF u h (by omega) (by omega)
  rw [hX] at CU
  have FM := Lib.hid (show m < Pl.B32 ^ 2 by rw [b32_2]; omega)
  have hw : IntKind.i64.wrap (u : Int) = (u : Int) := by rw [IntKind.wrap_i64]; omega
  replace CS := Lib.hid CS
  replace CN := Lib.hid CN
  replace CU := Lib.hid CU
  clear hm he hs hf hX m0 hx
  go_enter Try.func56, Try.ntmps56
  go_wp2_with fail
  (with_reducible refine (CS.out _).mono ?_)
  rintro e w' ⟨rfl, rfl⟩
  go_wp2_with fail
  (with_reducible refine (CN.out _).mono ?_)
  rintro e w1 ⟨v1, rfl, hv1, hb1⟩
  have T_r := (HdV.new w _ _ _).below hb1
  have hB := Bel.st (Bel.al (Bel.re w) _) hb1
  have HV := Lib.hid (hv1.slice FM.out)
  clear hb1 hv1
  go_wp2_with fail
  (with_reducible refine (CU.out _ _ HV.out).mono ?_)
  rintro e w2 ⟨v2, rfl, hv2, hb2, hf2⟩
  obtain ⟨A2, n2, c2, rfl, hA⟩ := id hv2
  clear hA
  have hlt := T_r.lt
  replace T_r := T_r.below hb2
  replace hB := Bel.st hB hb2
  clear hb2
  obtain ⟨zr, cr0, cr1, fr0, fr1⟩ := T_r
  go_wp2_with fail
  refine bodyPost_ret (v := .agg #[.bool s, .slice A2 n2 c2]) (by simp [results, Try.results56, go_sem, cr0, cr1]) rfl ⟨_, rfl, (hv2.stored hf2 hlt).stored hf2 hlt, (hB.setCell (Nat.le_refl _) _).setCell (Nat.le_refl _) _⟩
set_option maxRecDepth 100000 in
set_option maxHeartbeats 4000000 in
theorem plusS_same (s : Bool) {x y : Value} {N M d : Nat} {w : World} (hx : SliceV w x N d) (hy : SliceV w y M d) (hd : d ≤ 90000) :
    Calls Try.prog 57 #[.agg #[.bool s, x], .agg #[.bool s, y]] w (RetS s (N + M) w) := by
  obtain ⟨A1, n1, c1, l1, rfl, hx'⟩ := id hx
  obtain ⟨A2, n2, c2, l2, rfl, hy'⟩ := id hy
  clear hx' hy'
  obtain ⟨R, hR⟩ : ∃ R, (N + M) = R := ⟨_, rfl⟩
  rw [hR]
  have CP := fun (v : World) (h1 : SliceV v (.slice A1 n1 c1) N d) (h2 : SliceV v (.slice A2 n2 c2) M d) => plus_fresh h1 h2 (by omega)
  rw [hR] at CP
  replace CP := Lib.hid CP
  have T_x := Lib.hid hx
  have T_y := Lib.hid hy
  clear hR hx hy
  go_enter Try.func57, Try.ntmps57
  go_wp2_with fail
  have T_a := (((HdV.new w (.bool s) (.slice A1 n1 c1) 64).alloc (.cells #[.bool s, .slice A2 n2 c2] 64)).alloc (.cells #[.bool false, .slice none 0 0] 64))
  have T_b := ((HdV.new' (w := w.alloc (.cells #[.bool s, .slice A1 n1 c1] 64)) (n := w.heap.size + 1) (u := .bool s) (v := .slice A2 n2 c2) (t := 64) rfl (by simp)).alloc (.cells #[.bool false, .slice none 0 0] 64))
  have T_r := (HdV.new' (w := (w.alloc (.cells #[.bool s, .slice A1 n1 c1] 64)).alloc (.cells #[.bool s, .slice A2 n2 c2] 64)) (n := w.heap.size + 1 + 1) (u := .bool false) (v := .slice none 0 0) (t := 64) rfl (by simp))
  have T_X := (((T_x.out.alloc (.cells #[.bool s, .slice A1 n1 c1] 64)).alloc (.cells #[.bool s, .slice A2 n2 c2] 64)).alloc (.cells #[.bool false, .slice none 0 0] 64))
  have T_Y := (((T_y.out.alloc (.cells #[.bool s, .slice A1 n1 c1] 64)).alloc (.cells #[.bool s, .slice A2 n2 c2] 64)).alloc (.cells #[.bool false, .slice none 0 0] 64))
  have hB := (Bel.al (Bel.al (Bel.al (Bel.re w) (.cells #[.bool s, .slice A1 n1 c1] 64)) (.cells #[.bool s, .slice A2 n2 c2] 64)) (.cells #[.bool false, .slice none 0 0] 64))
  generalize World.alloc (World.alloc (World.alloc w _) _) _ = w1 at T_a T_b T_r T_X T_Y hB ⊢
  obtain ⟨za, ca0, ca1, fa0, fa1⟩ := id T_a
  obtain ⟨zb, cb0, cb1, fb0, fb1⟩ := id T_b
  obtain ⟨zr, cr0, cr1, fr0, fr1⟩ := id T_r
  clear fa0 fa1 fb0 fb1
  go_region_held3 (fun w' => w'.cell? ⟨w.heap.size, 0, none⟩ = some (.bool s) ∧ w'.cell? ⟨w.heap.size, 1, none⟩ = some (.slice A1 n1 c1) ∧ w'.cell? ⟨w.heap.size + 1, 0, none⟩ = some (.bool s) ∧ w'.cell? ⟨w.heap.size + 1, 1, none⟩ = some (.slice A2 n2 c2) ∧ w.heap.size + 1 + 1 < w'.heap.size) ((repeat' apply And.intro) <;> (first | assumption | exact T_a.c0 | exact T_a.c1 | exact T_b.c0 | exact T_b.c1 | exact T_r.lt | exact stored2 (by assumption) (by omega) | (go_keep; done) | omega | (simp; omega))) (first | (go_at_call 87; (with_reducible refine (CP.out _ T_X.drew T_Y.drew).mono ?_); rintro e w2 ⟨v2, rfl, hv2, hb2, hf2⟩; obtain ⟨A3, n3, c3, rfl, hA⟩ := id hv2; clear hA; replace T_a := T_a.drew.below hb2; replace T_b := T_b.drew.below hb2; replace T_r := T_r.drew.below hb2; replace hB := Bel.st (Bel.dr hB) hb2; obtain ⟨z1, ca0', ca1', fa0', fa1'⟩ := id T_a; obtain ⟨z2, cb0', cb1', fb0', fb1'⟩ := id T_b; obtain ⟨z3, cr0', cr1', fr0', fr1'⟩ := id T_r))
  all_goals go_wp2
  refine bodyPost_ret (v := .agg #[.bool s, .slice A3 n3 c3]) (by simp [results, Try.results57, go_sem, cr0', cr1']) rfl ⟨_, rfl, (hv2.stored hf2 zr).stored hf2 zr, (hB.setCell (by simp; omega) _).setCell (by simp; omega) _⟩
set_option maxRecDepth 100000 in
set_option maxHeartbeats 4000000 in
theorem plusS_ge (s t : Bool) {x y : Value} {N M d : Nat} {w : World} (hx : SliceV w x N d) (hy : SliceV w y M d) (hd : d ≤ 90000) (hst : (s == t) = false) (hle : M ≤ N) :
    Calls Try.prog 57 #[.agg #[.bool s, x], .agg #[.bool t, y]] w (RetS s (N - M) w) := by
  obtain ⟨A1, n1, c1, l1, rfl, hx'⟩ := id hx
  obtain ⟨A2, n2, c2, l2, rfl, hy'⟩ := id hy
  clear hx' hy'
  obtain ⟨R, hR⟩ : ∃ R, (N - M) = R := ⟨_, rfl⟩
  rw [hR]
  have CP := fun (v : World) (h1 : SliceV v (.slice A1 n1 c1) N d) (h2 : SliceV v (.slice A2 n2 c2) M d) => less_fresh h1 h2 (by omega) hle
  rw [hR] at CP
  replace CP := Lib.hid CP
  obtain ⟨C, hC⟩ : ∃ C, cmpI (N : Int) (M : Int) = C := ⟨_, rfl⟩
  have hC0 : decide (0 ≤ C) = true := by rw [← hC]; simpa using cmp_ge' hle
  have CC := fun (v : World) (h1 : SliceV v (.slice A1 n1 c1) N d) (h2 : SliceV v (.slice A2 n2 c2) M d) => rcmp_v h1 h2 (by omega)
  rw [hC] at CC
  replace CC := Lib.hid CC
  clear hC hle
  have T_x := Lib.hid hx
  have T_y := Lib.hid hy
  clear hR hx hy
  go_enter Try.func57, Try.ntmps57
  go_wp2_with fail
  (with_reducible refine (CC.out _ (((T_x.out.alloc _).alloc _).alloc _) (((T_y.out.alloc _).alloc _).alloc _)).mono ?_)
  rintro e w1 ⟨rfl, hb1⟩
  have T_a := (((HdV.new w (.bool s) (.slice A1 n1 c1) _).alloc _).alloc _).below hb1
  have T_b := ((HdV.new' (w := w.alloc _) (n := w.heap.size + 1) (u := .bool t) (v := .slice A2 n2 c2) rfl (by simp)).alloc _).below hb1
  have T_r := (HdV.new' (w := (w.alloc _).alloc _) (n := w.heap.size + 1 + 1) (u := .bool false) (v := .slice none 0 0) rfl (by simp)).below hb1
  have T_X := (((T_x.out.alloc _).alloc _).alloc _).below hb1
  have T_Y := (((T_y.out.alloc _).alloc _).alloc _).below hb1
  have hB := Bel.st (Bel.al (Bel.al (Bel.al (Bel.re w) _) _) _) hb1
  clear hb1
  obtain ⟨za, ca0, ca1, fa0, fa1⟩ := id T_a
  obtain ⟨zb, cb0, cb1, fb0, fb1⟩ := id T_b
  obtain ⟨zr, cr0, cr1, fr0, fr1⟩ := id T_r
  clear fa0 fa1 fb0 fb1
  go_wp2_with fail
  go_region_held3 (fun w' => w'.cell? ⟨w.heap.size, 0, none⟩ = some (.bool s) ∧ w'.cell? ⟨w.heap.size, 1, none⟩ = some (.slice A1 n1 c1) ∧ w'.cell? ⟨w.heap.size + 1, 0, none⟩ = some (.bool t) ∧ w'.cell? ⟨w.heap.size + 1, 1, none⟩ = some (.slice A2 n2 c2) ∧ w.heap.size + 1 + 1 < w'.heap.size) ((repeat' apply And.intro) <;> (first | assumption | exact T_a.c0 | exact T_a.c1 | exact T_b.c0 | exact T_b.c1 | exact T_r.lt | exact stored2 (by assumption) (by omega) | (go_keep; done) | omega | (simp; omega))) (first | (go_at_call 72; (with_reducible refine (CP.out _ T_X.drew T_Y.drew).mono ?_); rintro e w2 ⟨v2, rfl, hv2, hb2, hf2⟩; obtain ⟨A3, n3, c3, rfl, hA⟩ := id hv2; clear hA; replace T_a := T_a.drew.below hb2; replace T_b := T_b.drew.below hb2; replace T_r := T_r.drew.below hb2; replace hB := Bel.st (Bel.dr hB) hb2; obtain ⟨z1, ca0', ca1', fa0', fa1'⟩ := id T_a; obtain ⟨z2, cb0', cb1', fb0', fb1'⟩ := id T_b; obtain ⟨z3, cr0', cr1', fr0', fr1'⟩ := id T_r))
  all_goals go_wp2
  refine bodyPost_ret (v := .agg #[.bool s, .slice A3 n3 c3]) (by simp [results, Try.results57, go_sem, cr0', cr1']) rfl ⟨_, rfl, (hv2.stored hf2 zr).stored hf2 zr, (hB.setCell (by simp; omega) _).setCell (by simp; omega) _⟩
set_option maxRecDepth 100000 in
set_option maxHeartbeats 4000000 in
theorem plusS_lt (s t : Bool) {x y : Value} {N M d : Nat} {w : World} (hx : SliceV w x N d) (hy : SliceV w y M d) (hd : d ≤ 90000) (hst : (s == t) = false) (hle : N < M) :
    Calls Try.prog 57 #[.agg #[.bool s, x], .agg #[.bool t, y]] w (RetS t (M - N) w) := by
  obtain ⟨A1, n1, c1, l1, rfl, hx'⟩ := id hx
  obtain ⟨A2, n2, c2, l2, rfl, hy'⟩ := id hy
  clear hx' hy'
  obtain ⟨R, hR⟩ : ∃ R, (M - N) = R := ⟨_, rfl⟩
  rw [hR]
  have CP := fun (v : World) (h1 : SliceV v (.slice A1 n1 c1) N d) (h2 : SliceV v (.slice A2 n2 c2) M d) => less_fresh h2 h1 (by omega) (Nat.le_of_lt hle)
  rw [hR] at CP
  replace CP := Lib.hid CP
  obtain ⟨C, hC⟩ : ∃ C, cmpI (N : Int) (M : Int) = C := ⟨_, rfl⟩
  have hC0 : decide (0 ≤ C) = false := by rw [← hC, cmp_lt' hle]; decide
  have CC := fun (v : World) (h1 : SliceV v (.slice A1 n1 c1) N d) (h2 : SliceV v (.slice A2 n2 c2) M d) => rcmp_v h1 h2 (by omega)
  rw [hC] at CC
  replace CC := Lib.hid CC
  clear hC hle
  have T_x := Lib.hid hx
  have T_y := Lib.hid hy
  clear hR hx hy
  go_enter Try.func57, Try.ntmps57
  go_wp2_with fail
  (with_reducible refine (CC.out _ (((T_x.out.alloc _).alloc _).alloc _) (((T_y.out.alloc _).alloc _).alloc _)).mono ?_)
  rintro e w1 ⟨rfl, hb1⟩
  have T_a := (((HdV.new w (.bool s) (.slice A1 n1 c1) _).alloc _).alloc _).below hb1
  have T_b := ((HdV.new' (w := w.alloc _) (n := w.heap.size + 1) (u := .bool t) (v := .slice A2 n2 c2) rfl (by simp)).alloc _).below hb1
  have T_r := (HdV.new' (w := (w.alloc _).alloc _) (n := w.heap.size + 1 + 1) (u := .bool false) (v := .slice none 0 0) rfl (by simp)).below hb1
  have T_X := (((T_x.out.alloc _).alloc _).alloc _).below hb1
  have T_Y := (((T_y.out.alloc _).alloc _).alloc _).below hb1
  have hB := Bel.st (Bel.al (Bel.al (Bel.al (Bel.re w) _) _) _) hb1
  clear hb1
  obtain ⟨za, ca0, ca1, fa0, fa1⟩ := id T_a
  obtain ⟨zb, cb0, cb1, fb0, fb1⟩ := id T_b
  obtain ⟨zr, cr0, cr1, fr0, fr1⟩ := id T_r
  clear fa0 fa1 fb0 fb1
  go_wp2_with fail
  go_region_held3 (fun w' => w'.cell? ⟨w.heap.size, 0, none⟩ = some (.bool s) ∧ w'.cell? ⟨w.heap.size, 1, none⟩ = some (.slice A1 n1 c1) ∧ w'.cell? ⟨w.heap.size + 1, 0, none⟩ = some (.bool t) ∧ w'.cell? ⟨w.heap.size + 1, 1, none⟩ = some (.slice A2 n2 c2) ∧ w.heap.size + 1 + 1 < w'.heap.size) ((repeat' apply And.intro) <;> (first | assumption | exact T_a.c0 | exact T_a.c1 | exact T_b.c0 | exact T_b.c1 | exact T_r.lt | exact stored2 (by assumption) (by omega) | (go_keep; done) | omega | (simp; omega))) (first | (go_at_call 72; (with_reducible refine (CP.out _ T_X.drew T_Y.drew).mono ?_); rintro e w2 ⟨v2, rfl, hv2, hb2, hf2⟩; obtain ⟨A3, n3, c3, rfl, hA⟩ := id hv2; clear hA; replace T_a := T_a.drew.below hb2; replace T_b := T_b.drew.below hb2; replace T_r := T_r.drew.below hb2; replace hB := Bel.st (Bel.dr hB) hb2; obtain ⟨z1, ca0', ca1', fa0', fa1'⟩ := id T_a; obtain ⟨z2, cb0', cb1', fb0', fb1'⟩ := id T_b; obtain ⟨z3, cr0', cr1', fr0', fr1'⟩ := id T_r))
  all_goals go_wp2
  refine bodyPost_ret (v := .agg #[.bool t, .slice A3 n3 c3]) (by simp [results, Try.results57, go_sem, cr0', cr1']) rfl ⟨_, rfl, (hv2.stored hf2 zr).stored hf2 zr, (hB.setCell (by simp; omega) _).setCell (by simp; omega) _⟩
theorem plusS_any (s t : Bool) {x y : Value} {N M d : Nat} {w : World} (hx : SliceV w x N d) (hy : SliceV w y M d) (hd : d ≤ 90000) :
    Calls Try.prog 57 #[.agg #[.bool s, x], .agg #[.bool t, y]] w (RetS (sumS s t N M) (sumN s t N M) w) := by
  by_cases h : s = t
  · subst h
    unfold sumS sumN
    rw [if_pos rfl, if_pos rfl]
    exact plusS_same s hx hy hd
  · have hb : (s == t) = false := by simpa using h
    unfold sumS sumN
    rw [if_neg h, if_neg h]
    by_cases hle : M ≤ N
    · rw [if_pos hle, if_pos hle]
      exact plusS_ge s t hx hy hd hb hle
    · rw [if_neg hle, if_neg hle]
      exact plusS_lt s t hx hy hd hb (by omega)
end Go.Proofs.Ytmjaoeafompclaa

namespace Go.Proofs.Ytmjaoeafompclaa
open Go.RowKit Go.Shelf

set_option maxHeartbeats 400000 in
theorem rzero_any (b : Bool) (w : World) : Calls Try.prog 88 #[.bool b] w fun e w' => e = .returned (.int .u64 (sb b)) ∧ w = w' := by
  cases b
  all_goals
    go_enter Try.func88, Try.ntmps88
    go_wp2
    go_ret
    exact ⟨rfl, rfl⟩
theorem fn_lt (x : Int) {K : Nat} (hK : 2098 ≤ K) : fn x < 2 ^ K := by
  have h1 := mant_bd (x := x)
  have h2 := expo_bd (x := x)
  unfold fn
  have h3 : (mant x).toNat < 2 ^ 53 := by omega
  have h4 : 2 ^ (expo x + 1074).toNat ≤ 2 ^ (K - 53) := Nat.pow_le_pow_right (by omega) (by omega)
  have h5 := Nat.mul_lt_mul_of_lt_of_le h3 h4 (Nat.two_pow_pos _)
  rw [← Nat.pow_add] at h5
  have e : 53 + (K - 53) = K := by omega
  rwa [e] at h5
theorem sumN_lt {s t : Bool} {N M K : Nat} (hN : N < 2 ^ K) (hM : M < 2 ^ K) : sumN s t N M < 2 ^ (K + 1) := by
  have : 2 ^ (K + 1) = 2 ^ K + 2 ^ K := by rw [Nat.pow_succ]; omega
  unfold sumN
  generalize 2 ^ K = X at *
  (repeat' split) <;> omega
theorem limb_bd {N k d : Nat} (h : N < 2 ^ k) (hk : k ≤ 32 * d) : N < Pl.B32 ^ d := by
  rw [Pl.B32_pow]
  exact Nat.lt_of_lt_of_le h (Nat.pow_le_pow_right (by omega) hk)
theorem NatV.len {w : World} {A : Option Addr} {n c N : Nat} (h : NatV w (.slice A n c) N) : n = (Pl.limbs N).length := by
  obtain ⟨A', n', c', e, _, _, hl⟩ := h
  injection e with e1 e2 e3
  subst e1 e2 e3
  exact hl.len.symm
theorem limbs_len_zero {N : Nat} : (Pl.limbs N).length = 0 ↔ N = 0 := by
  constructor
  · intro h; exact Pl.limbs_nil (List.eq_nil_of_length_eq_zero h)
  · intro h; rw [h, Pl.limbs_zero]; rfl
theorem fn_limbs (x : Int) : fn x < Pl.B32 ^ 70 := by
  obtain ⟨K, hK⟩ : ∃ K : Nat, K = 2098 := ⟨_, rfl⟩
  exact limb_bd (fn_lt x (K := K) (by omega)) (by omega)
theorem sum_limbs (s t : Bool) (x y : Int) : sumN s t (fn x) (fn y) < Pl.B32 ^ 70 := by
  obtain ⟨K, hK⟩ : ∃ K : Nat, K = 2098 := ⟨_, rfl⟩
  exact limb_bd (sumN_lt (fn_lt x (K := K) (by omega)) (fn_lt y (K := K) (by omega))) (by omega)
theorem zero_word {x : Int} (hx : Wd x) (h : kd x = 0) : x = 0 ∨ x = 9223372036854775808 := by
  obtain ⟨h0, h1⟩ := hx
  unfold kd at h
  (repeat' split at h) <;> omega

end Go.Proofs.Ytmjaoeafompclaa

namespace Go.Proofs.Ytmjaoeafompclaa
open Go.RowKit Go.Shelf

set_option maxRecDepth 100000 in
set_option maxHeartbeats 8000000 in
theorem rmul_kinds (a b : Int) (w : World) (ha : Wd a) (hb : Wd b) (h : kd a = 4 ∨ kd b = 4 ∨ kd a = 3 ∨ kd b = 3) : Calls Try.prog 60 #[.int .u64 a, .int .u64 b] w fun e w' => e = .returned (.int .u64 (mulI a b)) ∧ Below w.heap.size w w' := by
  have KA := fun v => rkind_any a v ha
  have KB := fun v => rkind_any b v hb
  have SA := fun v => ris_any a v
  have SB := fun v => ris_any b v
  have h1 := kd_bd a
  have h2 := kd_bd b
  obtain ⟨ka, hka⟩ : ∃ ka, kd a = ka := ⟨_, rfl⟩
  obtain ⟨kb, hkb⟩ : ∃ kb, kd b = kb := ⟨_, rfl⟩
  obtain ⟨F, hF⟩ : ∃ F, mulI a b = F := ⟨_, rfl⟩
  obtain ⟨sa, hsa⟩ : ∃ sa, sgn a = sa := ⟨_, rfl⟩
  obtain ⟨st, hst⟩ : ∃ st, sgn b = st := ⟨_, rfl⟩
  rw [hF]
  unfold mulI at hF
  rw [hka, hkb, hsa, hst] at hF
  rw [hka] at KA h h1
  rw [hkb] at KB h h2
  rw [hsa] at SA
  rw [hst] at SB
  obtain ⟨ng, hng⟩ : ∃ ng, (!(sa == st)) = ng := ⟨_, rfl⟩
  rw [show (sa != st) = !(sa == st) from rfl, hng] at hF
  replace SA := Lib.hid SA
  replace SB := Lib.hid SB
  replace KA := Lib.hid KA
  replace KB := Lib.hid KB
  have sb0 := sb_bd ng
  obtain ⟨Z, hZ⟩ : ∃ Z, sb ng = Z := ⟨_, rfl⟩
  have CZ := fun v => rzero_any ng v
  rw [hZ] at hF sb0 CZ
  replace CZ := Lib.hid CZ
  obtain ⟨sb1, sb2⟩ := sb0
  clear hka hkb hsa hst hZ ha hb
  obtain rfl | rfl | rfl | rfl | rfl : ka = 0 ∨ ka = 1 ∨ ka = 2 ∨ ka = 3 ∨ ka = 4 := by omega
  all_goals
    obtain rfl | rfl | rfl | rfl | rfl : kb = 0 ∨ kb = 1 ∨ kb = 2 ∨ kb = 3 ∨ kb = 4 := by omega
  all_goals try (exfalso; omega)
  all_goals
    clear h h1 h2
    first
    | (rw [if_pos (by omega)] at hF)
    | (rw [if_neg (by omega), if_pos (by omega)] at hF)
    have HF := Lib.hid hF.symm
    clear hF
    go_enter Try.func60, Try.ntmps60
    go_wp2_with (first | (go_at_call_of 24 (Value.int IntKind.u64 a); (with_reducible refine (KA.out _).mono ?_); rintro e w' ⟨rfl, rfl⟩) | (go_at_call_of 24 (Value.int IntKind.u64 b); (with_reducible refine (KB.out _).mono ?_); rintro e w' ⟨rfl, rfl⟩) | (go_at_call_of 35 (Value.int IntKind.u64 a); (with_reducible refine (SA.out _).mono ?_); rintro e w' ⟨rfl, rfl⟩) | (go_at_call_of 35 (Value.int IntKind.u64 b); (with_reducible refine (SB.out _).mono ?_); rintro e w' ⟨rfl, rfl⟩) | (go_at_call 88; (with_reducible refine (CZ.out _).mono ?_); rintro e w' ⟨rfl, rfl⟩))
    go_ret
    exact ⟨retI (by rw [HF.out]; rfl), Bel.re _⟩

set_option maxRecDepth 100000 in
set_option maxHeartbeats 8000000 in
theorem rmul_fin (a b : Int) (w : World) (ha : Wd a) (hb : Wd b) (h1 : kd a ≤ 2) (h2 : kd b ≤ 2) : Calls Try.prog 60 #[.int .u64 a, .int .u64 b] w fun e w' => e = .returned (.int .u64 (mulI a b)) ∧ Below w.heap.size w w' := by
  have KA := fun v => rkind_any a v ha
  have KB := fun v => rkind_any b v hb
  have SA := fun v => ris_any a v
  have SB := fun v => ris_any b v
  have CA := fun v => rsplit_any a v ha
  have CB := fun v => rsplit_any b v hb
  have hI : mulI a b = fbits (sgn a != sgn b) (mant a * mant b).toNat (expo a + expo b) false := by unfold mulI; rw [if_neg (by omega), if_neg (by omega)]
  have bma := mant_bd (x := a)
  have bmb := mant_bd (x := b)
  have bea := expo_bd (x := a)
  have beb := expo_bd (x := b)
  have g1 := kd_bd a
  have g2 := kd_bd b
  obtain ⟨ka, hka⟩ : ∃ ka, kd a = ka := ⟨_, rfl⟩
  obtain ⟨kb, hkb⟩ : ∃ kb, kd b = kb := ⟨_, rfl⟩
  obtain ⟨m, hm⟩ : ∃ m : Nat, mant a = m := ⟨(mant a).toNat, by omega⟩
  obtain ⟨n, hn⟩ : ∃ n : Nat, mant b = n := ⟨(mant b).toNat, by omega⟩
  obtain ⟨ea, hea⟩ : ∃ ea, expo a = ea := ⟨_, rfl⟩
  obtain ⟨eb, heb⟩ : ∃ eb, expo b = eb := ⟨_, rfl⟩
  obtain ⟨sa, hsa⟩ : ∃ sa, sgn a = sa := ⟨_, rfl⟩
  obtain ⟨st, hst⟩ : ∃ st, sgn b = st := ⟨_, rfl⟩
  obtain ⟨F, hF⟩ : ∃ F, mulI a b = F := ⟨_, rfl⟩
  rw [hF] at hI ⊢
  rw [hm, hn, hea, heb, hsa, hst] at hI
  rw [hm, hea, hsa] at CA
  rw [hn, heb, hst] at CB
  rw [hsa] at SA
  rw [hst] at SB
  rw [hka] at KA h1 g1
  rw [hkb] at KB h2 g2
  rw [hm] at bma
  rw [hn] at bmb
  rw [hea] at bea
  rw [heb] at beb
  have hP : ((m : Int) * (n : Int)).toNat = m * n := by
    have : (m : Int) * (n : Int) = ((m * n : Nat) : Int) := by simp
    rw [this, Int.toNat_natCast]
  have hPb : m * n ≤ 9007199254740991 * 9007199254740991 := Nat.mul_le_mul (by omega) (by omega)
  rw [hP] at hI
  obtain ⟨ng, hng⟩ : ∃ ng, (!(sa == st)) = ng := ⟨_, rfl⟩
  rw [show (sa != st) = !(sa == st) from rfl, hng] at hI
  have CNA := fun v => rnat_any m v (by omega)
  have CNB := fun v => rnat_any n v (by omega)
  have CT := fun (v : World) (x y : Value) (hx : SliceV v x m 2) (hy : SliceV v y n 2) => times1_v hx hy (by omega)
  obtain ⟨P, hP'⟩ : ∃ P, m * n = P := ⟨_, rfl⟩
  rw [hP'] at CT hI hPb
  have CR := fun (v : World) (x : Value) (hx : SliceV v x P 5) => round_any ng false (ea + eb) v hx (by omega) (by omega)
  rw [← hI] at CR
  have e5 : Pl.B32 ^ 5 = 1461501637330902918203684832716283019655932542976 := by decide
  have FM := Lib.hid (show m < Pl.B32 ^ 2 by rw [b32_2]; omega)
  have FN := Lib.hid (show n < Pl.B32 ^ 2 by rw [b32_2]; omega)
  have FP := Lib.hid (show P < Pl.B32 ^ 5 by rw [e5]; omega)
  have hE : IntKind.i64.wrap (ea + eb) = ea + eb := by rw [IntKind.wrap_i64]; omega
  have a4 : (ka == 4) = false := by simp; omega
  have a3 : (ka == 3) = false := by simp; omega
  have b4 : (kb == 4) = false := by simp; omega
  have b3 : (kb == 3) = false := by simp; omega
  replace KA := Lib.hid KA
  replace KB := Lib.hid KB
  replace SA := Lib.hid SA
  replace SB := Lib.hid SB
  replace CA := Lib.hid CA
  replace CB := Lib.hid CB
  replace CNA := Lib.hid CNA
  replace CNB := Lib.hid CNB
  replace CT := Lib.hid CT
  replace CR := Lib.hid CR
  clear ha hb hka hkb hm hn hea heb hsa hst hF hI hP hPb hP' e5 h1 h2 g1 g2
  by_cases a0 : ka = 0
  all_goals
    first
    | subst a0
    | (have a0' : (ka == 0) = false := by simpa using a0
       clear a0)
    go_enter Try.func60, Try.ntmps60
    go_wp2_with (first | (go_at_call_of 24 (Value.int IntKind.u64 a); (with_reducible refine (KA.out _).mono ?_); rintro e w' ⟨rfl, rfl⟩) | (go_at_call_of 24 (Value.int IntKind.u64 b); (with_reducible refine (KB.out _).mono ?_); rintro e w' ⟨rfl, rfl⟩) | (go_at_call_of 35 (Value.int IntKind.u64 a); (with_reducible refine (SA.out _).mono ?_); rintro e w' ⟨rfl, rfl⟩) | (go_at_call_of 35 (Value.int IntKind.u64 b); (with_reducible refine (SB.out _).mono ?_); rintro e w' ⟨rfl, rfl⟩) | (go_at_call_of 27 (Value.int IntKind.u64 a); (with_reducible refine (CA.out _).mono ?_); rintro e w' ⟨rfl, rfl⟩) | (go_at_call_of 27 (Value.int IntKind.u64 b); (with_reducible refine (CB.out _).mono ?_); rintro e w' ⟨rfl, rfl⟩) | fail)
    (with_reducible refine (CNA.out _).mono ?_)
    rintro e w1 ⟨v1, rfl, hv1, hb1⟩
    have T_x := Lib.hid (hv1.slice FM.out)
    clear hv1
    go_wp2_with fail
    (with_reducible refine (CNB.out _).mono ?_)
    rintro e w2 ⟨v2, rfl, hv2, hb2⟩
    have T_y := Lib.hid (hv2.slice FN.out)
    have T_x2 := Lib.hid (T_x.out.below hb2)
    have hB := Bel.st hb1 hb2
    clear hv2 hb1 hb2 T_x
    go_wp2_with fail
    (with_reducible refine (CT.out _ _ _ T_x2.out T_y.out).mono ?_)
    rintro e w3 ⟨v3, rfl, hv3, hb3⟩
    have T_p := Lib.hid (hv3.slice FP.out)
    replace hB := Bel.st hB hb3
    clear hv3 hb3
    go_wp2_with fail
    (with_reducible refine (CR.out _ _ T_p.out).mono ?_)
    rintro e w4 ⟨rfl, hb4⟩
    go_wp2_with fail
    go_ret
    exact ⟨rfl, Bel.st hB hb4⟩
theorem rmul_any (a b : Int) (w : World) (ha : Wd a) (hb : Wd b) : Calls Try.prog 60 #[.int .u64 a, .int .u64 b] w fun e w' => e = .returned (.int .u64 (mulI a b)) ∧ Below w.heap.size w w' := by
  have h1 := kd_bd a
  have h2 := kd_bd b
  by_cases h : kd a = 4 ∨ kd b = 4 ∨ kd a = 3 ∨ kd b = 3
  · exact rmul_kinds a b w ha hb h
  · exact rmul_fin a b w ha hb (by omega) (by omega)
end Go.Proofs.Ytmjaoeafompclaa

namespace Go.Proofs.Ytmjaoeafompclaa
open Go.RowKit Go.Shelf

theorem none5_any (x : Int) (w : World) (hx : Wd x) : Calls Try.prog 28 #[.int .u64 x] w fun e w' => e = .returned (.bool (kd x == 4)) ∧ w = w' := by
  go_enter Try.func28, Try.ntmps28
  go_wp2_with (go_at_call 62; (with_reducible refine (kind_any x _ hx).mono ?_); rintro e w' ⟨rfl, rfl⟩)
  go_ret
  exact ⟨rfl, rfl⟩
theorem endless5_any (x : Int) (w : World) (hx : Wd x) : Calls Try.prog 29 #[.int .u64 x] w fun e w' => e = .returned (.bool (kd x == 3)) ∧ w = w' := by
  go_enter Try.func29, Try.ntmps29
  go_wp2_with (go_at_call 62; (with_reducible refine (kind_any x _ hx).mono ?_); rintro e w' ⟨rfl, rfl⟩)
  go_ret
  exact ⟨rfl, rfl⟩
theorem zero5_any (x : Int) (w : World) (hx : Wd x) : Calls Try.prog 30 #[.int .u64 x] w fun e w' => e = .returned (.bool (kd x == 0)) ∧ w = w' := by
  go_enter Try.func30, Try.ntmps30
  go_wp2_with (go_at_call 62; (with_reducible refine (kind_any x _ hx).mono ?_); rintro e w' ⟨rfl, rfl⟩)
  go_ret
  exact ⟨rfl, rfl⟩
theorem with5_inf (neg : Bool) (w : World) : Calls Try.prog 31 #[.bool neg, .int .u64 9218868437227405312] w fun e w' => e = .returned (.int .u64 (sb neg + INFI)) ∧ w = w' := by
  have s1 := or_sign 9218868437227405312 (by decide) (by decide)
  cases neg
  all_goals
    go_enter Try.func31, Try.ntmps31
    go_wp2
    go_ret
    exact ⟨rfl, rfl⟩
theorem with5_zero (neg : Bool) (w : World) : Calls Try.prog 31 #[.bool neg, .int .u64 0] w fun e w' => e = .returned (.int .u64 (sb neg)) ∧ w = w' := by
  have s1 := or_sign 0 (by decide) (by decide)
  cases neg
  all_goals
    go_enter Try.func31, Try.ntmps31
    go_wp2
    go_ret
    exact ⟨rfl, rfl⟩

/-- How far the int of a number is shifted up to 53 bits. -/
def lgN (x : Int) : Nat := 53 - Pl.bl (mant x).toNat
theorem mant_pos {x : Int} (h : kd x = 1 ∨ kd x = 2) : 0 < mant x := by
  unfold mant
  rcases h with h | h
  · rw [if_pos (by omega)]
    unfold kd at h
    (repeat' split at h) <;> omega
  · rw [if_neg (by omega), if_pos h]; omega
theorem large_bd {x : Int} (h : kd x = 1 ∨ kd x = 2) : Pl.bl (mant x).toNat ≤ 53 ∧ 2 ^ 52 ≤ (mant x).toNat * 2 ^ lgN x ∧ (mant x).toNat * 2 ^ lgN x < 2 ^ 53 ∧ lgN x ≤ 52 := by
  have h0 := mant_pos h
  have h1 := mant_bd (x := x)
  have hb : Pl.bl (mant x).toNat ≤ 53 := Pl.bl_le_of_lt (by omega)
  have hp := Pl.bl_pos (n := (mant x).toNat) (by omega)
  have h2 := Pl.two_bl_le (n := (mant x).toNat) (by omega)
  have h3 := Pl.lt_two_bl (mant x).toNat
  unfold lgN
  generalize Pl.bl (mant x).toNat = b at *
  have a1 := Nat.mul_le_mul_right (2 ^ (53 - b)) h2
  have a2 := (Nat.mul_lt_mul_right (Nat.two_pow_pos (53 - b))).2 h3
  rw [← Nat.pow_add] at a1 a2
  rw [show b - 1 + (53 - b) = 52 by omega] at a1
  rw [show b + (53 - b) = 53 by omega] at a2
  exact ⟨hb, a1, a2, by omega⟩
set_option maxHeartbeats 1000000 in
theorem large5_any (x : Int) (w : World) (hx : Wd x) (h : kd x = 1 ∨ kd x = 2) : Calls Try.prog 32 #[.int .u64 x] w fun e w' => e = .returned (.tuple #[.int .u64 ((mant x).toNat * 2 ^ lgN x : Nat), .int .i64 (expo x - lgN x)]) ∧ w = w' := by
  have h0 := mant_bd (x := x)
  obtain ⟨hb, h1, h2, h3⟩ := large_bd h
  have be := expo_bd (x := x)
  have CS := fun v => split_any x v hx
  obtain ⟨m, hm⟩ : ∃ m : Nat, mant x = m := ⟨(mant x).toNat, by omega⟩
  obtain ⟨e, he⟩ : ∃ e, expo x = e := ⟨_, rfl⟩
  have hlg : lgN x = 53 - Pl.bl m := by unfold lgN; rw [hm, Int.toNat_natCast]
  rw [hm, Int.toNat_natCast] at hb h1 h2 ⊢
  obtain ⟨n, hn⟩ : ∃ n, lgN x = n := ⟨_, rfl⟩
  rw [hn] at h1 h2 h3 hlg ⊢
  rw [hm] at CS h0
  rw [he] at CS be ⊢
  have CL := fun v => len64 (m : Int) v (by omega) (by omega)
  rw [Int.toNat_natCast] at CL
  obtain ⟨b, hbb⟩ : ∃ b, Pl.bl m = b := ⟨_, rfl⟩
  rw [hbb] at CL hlg hb
  have hi : (53 : Int) - (b : Int) = (n : Int) := by omega
  obtain ⟨P, hP⟩ : ∃ P, m * 2 ^ n = P := ⟨_, rfl⟩
  rw [hP] at h2 ⊢
  have hPi : (m : Int) * 2 ^ n = (P : Int) := by rw [← hP]; simp
  have hwr : IntKind.u64.wrap (P : Int) = (P : Int) := wraps_u64 _ (by omega) (by omega)
  replace CS := Lib.hid CS
  replace CL := Lib.hid CL
  clear hm he hn hlg hbb hP h hx h1
  go_enter Try.func32, Try.ntmps32
  go_wp2_with (first | (go_at_call 49; (with_reducible refine (CS.out _).mono ?_); rintro e w' ⟨rfl, rfl⟩) | (go_at_call 59; (with_reducible refine (CL.out _).mono ?_); rintro e w' ⟨rfl, rfl⟩))
  go_ret2
  exact ⟨rfl, rfl⟩

/-- What none, endless, zero say of a number. -/
structure Kin (x : Int) (n e z : Bool) : Prop where
  n : (kd x == 4) = n
  e : (kd x == 3) = e
  z : (kd x == 0) = z
theorem kin_cases (x : Int) : (kd x = 4 ∧ Kin x true false false) ∨ (kd x = 3 ∧ Kin x false true false) ∨ (kd x = 0 ∧ Kin x false false true) ∨ ((kd x = 1 ∨ kd x = 2) ∧ Kin x false false false) := by
  have := kd_bd x
  by_cases h4 : kd x = 4
  · exact .inl ⟨h4, by simp [h4], by simp [h4], by simp [h4]⟩
  · by_cases h3 : kd x = 3
    · exact .inr (.inl ⟨h3, by simp [h3], by simp [h3], by simp [h3]⟩)
    · by_cases h0 : kd x = 0
      · exact .inr (.inr (.inl ⟨h0, by simp [h0], by simp [h0], by simp [h0]⟩))
      · exact .inr (.inr (.inr ⟨by omega, by simp [h4], by simp [h3], by simp [h0]⟩))
theorem none5_k {x : Int} {n e z : Bool} (hx : Wd x) (h : Kin x n e z) (w : World) : Calls Try.prog 28 #[.int .u64 x] w fun r w' => r = .returned (.bool n) ∧ w = w' := by
  have := none5_any x w hx
  rw [h.n] at this
  exact this
theorem endless5_k {x : Int} {n e z : Bool} (hx : Wd x) (h : Kin x n e z) (w : World) : Calls Try.prog 29 #[.int .u64 x] w fun r w' => r = .returned (.bool e) ∧ w = w' := by
  have := endless5_any x w hx
  rw [h.e] at this
  exact this
theorem zero5_k {x : Int} {n e z : Bool} (hx : Wd x) (h : Kin x n e z) (w : World) : Calls Try.prog 30 #[.int .u64 x] w fun r w' => r = .returned (.bool z) ∧ w = w' := by
  have := zero5_any x w hx
  rw [h.z] at this
  exact this
theorem sign_ne {a b : Int} (ha : Wd a) (hb : Wd b) : (a / 9223372036854775808 != b / 9223372036854775808) = (sgn a != sgn b) := by
  rw [top_bit ha, top_bit hb]
  cases sgn a <;> cases sgn b <;> rfl
end Go.Proofs.Ytmjaoeafompclaa

namespace Go.Proofs.Ytmjaoeafompclaa
open Go.RowKit Go.Shelf

theorem div_same {a b : Int} (ha : kd a = 1 ∨ kd a = 2) (hb : kd b = 1 ∨ kd b = 2) : divI a b = fbits (sgn a != sgn b) ((mant a).toNat * 2 ^ lgN a * 18446744073709551616 / ((mant b).toNat * 2 ^ lgN b)) (expo a - lgN a - (expo b - lgN b) - 64) (decide (0 < (mant a).toNat * 2 ^ lgN a * 18446744073709551616 % ((mant b).toNat * 2 ^ lgN b))) := by
  unfold divI
  rw [if_neg (by omega), if_neg (by omega), if_neg (by omega)]
  obtain ⟨_, a1, a2, a3⟩ := large_bd ha
  obtain ⟨_, b1, b2, b3⟩ := large_bd hb
  have ma := mant_pos ha
  have mb := mant_pos hb
  have ma2 := mant_bd (x := a)
  have mb2 := mant_bd (x := b)
  obtain ⟨m, hm⟩ : ∃ m, (mant a).toNat = m := ⟨_, rfl⟩
  obtain ⟨n, hn⟩ : ∃ n, (mant b).toNat = n := ⟨_, rfl⟩
  rw [hm] at a1 a2 ⊢
  rw [hn] at b1 b2 ⊢
  have m0 : 0 < m := by omega
  have n0 : 0 < n := by omega
  have n1 : n ≤ 2 ^ 53 := by omega
  generalize lgN a = i at *
  generalize lgN b = j at *
  have q1 : 2 ^ 54 ≤ m * 2 ^ 128 / n := by
    rw [Nat.le_div_iff_mul_le n0]
    have h1 : 2 ^ 54 * n ≤ 2 ^ 54 * 2 ^ 53 := Nat.mul_le_mul_left _ n1
    have h2 : 1 * 2 ^ 128 ≤ m * 2 ^ 128 := Nat.mul_le_mul_right _ m0
    exact Nat.le_trans h1 (Nat.le_trans (by decide) h2)
  have q2 : 2 ^ 54 ≤ m * 2 ^ i * 18446744073709551616 / (n * 2 ^ j) := by
    rw [Nat.le_div_iff_mul_le (by omega)]
    have h1 : 2 ^ 54 * (n * 2 ^ j) ≤ 2 ^ 54 * 2 ^ 53 := Nat.mul_le_mul_left _ (Nat.le_of_lt b2)
    have h2 : 2 ^ 52 * 18446744073709551616 ≤ m * 2 ^ i * 18446744073709551616 := Nat.mul_le_mul_right _ a1
    exact Nat.le_trans h1 (Nat.le_trans (by decide) h2)
  have e := quo_eq (e := expo a - expo b - 128) (e' := expo a - i - (expo b - j) - 64) n0 (show 0 < n * 2 ^ j by omega) q1 q2 (i + 64) 128 j 0
    (by rw [Nat.pow_add, show (18446744073709551616 : Nat) = 2 ^ 64 by decide]; grind) (by rw [Nat.pow_zero, Nat.mul_one]) (by omega)
  unfold quo at e
  unfold fbits
  rw [e]
set_option maxRecDepth 100000 in
set_option maxHeartbeats 4000000 in
theorem div5_fin (a b : Int) (w : World) (ha : Wd a) (hb : Wd b) (ka : kd a = 1 ∨ kd a = 2) (kb : kd b = 1 ∨ kd b = 2) (ia : Kin a false false false) (ib : Kin b false false false) : Calls Try.prog 13 #[.int .u64 a, .int .u64 b] w fun e w' => e = .returned (.int .u64 (divI a b)) ∧ Below w.heap.size w w' := by
  rw [div_same ka kb]
  have NA := Lib.hid (none5_k ha ia)
  have EA := Lib.hid (endless5_k ha ia)
  have ZA := Lib.hid (zero5_k ha ia)
  have NB := Lib.hid (none5_k hb ib)
  have EB := Lib.hid (endless5_k hb ib)
  have ZB := Lib.hid (zero5_k hb ib)
  have LA := fun v => large5_any a v ha ka
  have LB := fun v => large5_any b v hb kb
  have hng := sign_ne ha hb
  obtain ⟨_, a1, a2, a3⟩ := large_bd ka
  obtain ⟨_, b1, b2, b3⟩ := large_bd kb
  have ea := expo_bd (x := a)
  have eb := expo_bd (x := b)
  have a0 := ha.1
  have b0 := hb.1
  generalize (mant a).toNat * 2 ^ lgN a = MA at *
  generalize (mant b).toNat * 2 ^ lgN b = MB at *
  obtain ⟨F, hF⟩ : ∃ F, expo a - lgN a = F := ⟨_, rfl⟩
  obtain ⟨G, hG⟩ : ∃ G, expo b - lgN b = G := ⟨_, rfl⟩
  have f0 : -1126 ≤ F ∧ F ≤ 971 := by omega
  have g0 : -1126 ≤ G ∧ G ≤ 971 := by omega
  rw [hF] at LA ⊢
  rw [hG] at LB ⊢
  obtain ⟨ng, hg⟩ : ∃ ng, (sgn a != sgn b) = ng := ⟨_, rfl⟩
  rw [hg] at hng ⊢
  have CD : ∀ v : World, Calls Try.prog 33 #[.agg #[.int .u64 (MA : Int), .int .u64 0], .int .u64 (MB : Int)] v fun e w' => e = .returned (.tuple #[.agg #[.int .u64 (hiOf ((MA * 18446744073709551616 / MB : Nat) : Int)), .int .u64 (loOf ((MA * 18446744073709551616 / MB : Nat) : Int))], .int .u64 ((MA * 18446744073709551616 % MB : Nat) : Int), .int .i64 0]) ∧ Below v.heap.size v w' := by
    intro v
    have h := wdiv_any MA 0 MB v (by omega) (by decide) (by omega) (by omega)
    rw [Nat.add_zero] at h
    exact h
  have hQ : MA * 18446744073709551616 / MB < 340282366920938463463374607431768211456 := by
    refine Nat.lt_of_le_of_lt (Nat.div_le_self _ _) ?_
    exact Nat.lt_of_lt_of_le ((Nat.mul_lt_mul_right (by decide)).2 a2) (by decide)
  have hR : MA * 18446744073709551616 % MB < MB := Nat.mod_lt _ (by omega)
  generalize MA * 18446744073709551616 / MB = Q at *
  generalize MA * 18446744073709551616 % MB = R at *
  have CJ := fun v => join_nat ng Q (F - G - 64) (decide (0 < R)) v hQ (by omega) (by omega)
  generalize fbits ng Q (F - G - 64) (decide (0 < R)) = Z at *
  obtain ⟨PH, hPH⟩ : ∃ PH, hiOf (Q : Int) = PH := ⟨_, rfl⟩
  obtain ⟨PL, hPL⟩ : ∃ PL, loOf (Q : Int) = PL := ⟨_, rfl⟩
  rw [hPH, hPL] at CD CJ
  replace LA := Lib.hid LA
  replace LB := Lib.hid LB
  replace CD := Lib.hid CD
  replace CJ := Lib.hid CJ
  have HB := Bel.re w
  clear hPH hPL hg hF hG ea eb ka kb ia ib ha hb hQ
  go_enter Try.func13, Try.ntmps13
  go_wp2_with (first | (go_at_call 28; (first | (with_reducible refine (NA.out _).mono ?_) | (with_reducible refine (NB.out _).mono ?_)); rintro e w' ⟨rfl, rfl⟩) | (go_at_call 29; (first | (with_reducible refine (EA.out _).mono ?_) | (with_reducible refine (EB.out _).mono ?_)); rintro e w' ⟨rfl, rfl⟩) | (go_at_call 30; (first | (with_reducible refine (ZA.out _).mono ?_) | (with_reducible refine (ZB.out _).mono ?_)); rintro e w' ⟨rfl, rfl⟩) | (go_at_call 32; (first | (with_reducible refine (LA.out _).mono ?_) | (with_reducible refine (LB.out _).mono ?_)); rintro e w' ⟨rfl, rfl⟩) | (go_at_call 33; (with_reducible refine (CD.out _).mono ?_); rintro e w1 ⟨rfl, hb⟩; replace HB := Bel.st HB hb; have hz := hb.size; clear hb) | (go_at_call 34; (with_reducible refine (CJ.out _).mono ?_); rintro e w2 ⟨rfl, hb⟩; replace HB := Bel.st (Bel.al HB _) hb; clear hb))
  go_ret
  exact ⟨rfl, HB⟩

set_option maxRecDepth 100000 in
set_option maxHeartbeats 8000000 in
theorem div5_any (a b : Int) (w : World) (ha : Wd a) (hb : Wd b) : Calls Try.prog 13 #[.int .u64 a, .int .u64 b] w fun e w' => e = .returned (.int .u64 (divI a b)) ∧ Below w.heap.size w w' := by
  have hng := sign_ne ha hb
  have a0 := ha.1
  have b0 := hb.1
  have ba := kd_bd a
  have bb := kd_bd b
  rcases kin_cases a with ⟨ka, ia⟩ | ⟨ka, ia⟩ | ⟨ka, ia⟩ | ⟨ka, ia⟩
  · have ib : Kin b (kd b == 4) (kd b == 3) (kd b == 0) := ⟨rfl, rfl, rfl⟩
    have hI : divI a b = 9221120237041090560 := by unfold divI; rw [if_pos (by omega)]; rfl
    rw [hI]
    generalize (sgn a != sgn b) = ng at *
    have NA := Lib.hid (none5_k ha ia)
    have EA := Lib.hid (endless5_k ha ia)
    have ZA := Lib.hid (zero5_k ha ia)
    have NB := Lib.hid (none5_k hb ib)
    have EB := Lib.hid (endless5_k hb ib)
    have ZB := Lib.hid (zero5_k hb ib)
    clear hI ia ib ka ha hb ba bb
    go_enter Try.func13, Try.ntmps13
    go_wp2_with (first | (go_at_call 28; (first | (with_reducible refine (NA.out _).mono ?_) | (with_reducible refine (NB.out _).mono ?_)); rintro e w' ⟨rfl, rfl⟩) | (go_at_call 29; (first | (with_reducible refine (EA.out _).mono ?_) | (with_reducible refine (EB.out _).mono ?_)); rintro e w' ⟨rfl, rfl⟩) | (go_at_call 30; (first | (with_reducible refine (ZA.out _).mono ?_) | (with_reducible refine (ZB.out _).mono ?_)); rintro e w' ⟨rfl, rfl⟩) | (go_at_call 31; (first | (with_reducible refine (with5_inf _ _).mono ?_) | (with_reducible refine (with5_zero _ _).mono ?_)); rintro e w' ⟨rfl, rfl⟩))
    all_goals (go_ret; exact ⟨rfl, Below.refl _ _⟩)
  · rcases kin_cases b with ⟨kb, ib⟩ | ⟨kb, ib⟩ | ⟨kb, ib⟩ | ⟨kb, ib⟩
    · skip
      have hI : divI a b = 9221120237041090560 := by unfold divI; rw [if_pos (by omega)]; rfl
      rw [hI]
      generalize (sgn a != sgn b) = ng at *
      have NA := Lib.hid (none5_k ha ia)
      have EA := Lib.hid (endless5_k ha ia)
      have ZA := Lib.hid (zero5_k ha ia)
      have NB := Lib.hid (none5_k hb ib)
      have EB := Lib.hid (endless5_k hb ib)
      have ZB := Lib.hid (zero5_k hb ib)
      clear hI ia ib ka ha hb ba bb
      go_enter Try.func13, Try.ntmps13
      go_wp2_with (first | (go_at_call 28; (first | (with_reducible refine (NA.out _).mono ?_) | (with_reducible refine (NB.out _).mono ?_)); rintro e w' ⟨rfl, rfl⟩) | (go_at_call 29; (first | (with_reducible refine (EA.out _).mono ?_) | (with_reducible refine (EB.out _).mono ?_)); rintro e w' ⟨rfl, rfl⟩) | (go_at_call 30; (first | (with_reducible refine (ZA.out _).mono ?_) | (with_reducible refine (ZB.out _).mono ?_)); rintro e w' ⟨rfl, rfl⟩) | (go_at_call 31; (first | (with_reducible refine (with5_inf _ _).mono ?_) | (with_reducible refine (with5_zero _ _).mono ?_)); rintro e w' ⟨rfl, rfl⟩))
      all_goals (go_ret; exact ⟨rfl, Below.refl _ _⟩)
    · skip
      have hI : divI a b = 9221120237041090560 := by unfold divI; rw [if_pos (by omega)]; rfl
      rw [hI]
      generalize (sgn a != sgn b) = ng at *
      have NA := Lib.hid (none5_k ha ia)
      have EA := Lib.hid (endless5_k ha ia)
      have ZA := Lib.hid (zero5_k ha ia)
      have NB := Lib.hid (none5_k hb ib)
      have EB := Lib.hid (endless5_k hb ib)
      have ZB := Lib.hid (zero5_k hb ib)
      clear hI ia ib ka ha hb ba bb
      go_enter Try.func13, Try.ntmps13
      go_wp2_with (first | (go_at_call 28; (first | (with_reducible refine (NA.out _).mono ?_) | (with_reducible refine (NB.out _).mono ?_)); rintro e w' ⟨rfl, rfl⟩) | (go_at_call 29; (first | (with_reducible refine (EA.out _).mono ?_) | (with_reducible refine (EB.out _).mono ?_)); rintro e w' ⟨rfl, rfl⟩) | (go_at_call 30; (first | (with_reducible refine (ZA.out _).mono ?_) | (with_reducible refine (ZB.out _).mono ?_)); rintro e w' ⟨rfl, rfl⟩) | (go_at_call 31; (first | (with_reducible refine (with5_inf _ _).mono ?_) | (with_reducible refine (with5_zero _ _).mono ?_)); rintro e w' ⟨rfl, rfl⟩))
      all_goals (go_ret; exact ⟨rfl, Below.refl _ _⟩)
    · skip
      have hI : divI a b = (sb (sgn a != sgn b) + INFI) := by unfold divI; rw [if_neg (by omega), if_pos (by omega)]
      rw [hI]
      generalize (sgn a != sgn b) = ng at *
      have NA := Lib.hid (none5_k ha ia)
      have EA := Lib.hid (endless5_k ha ia)
      have ZA := Lib.hid (zero5_k ha ia)
      have NB := Lib.hid (none5_k hb ib)
      have EB := Lib.hid (endless5_k hb ib)
      have ZB := Lib.hid (zero5_k hb ib)
      clear hI ia ib ka ha hb ba bb
      go_enter Try.func13, Try.ntmps13
      go_wp2_with (first | (go_at_call 28; (first | (with_reducible refine (NA.out _).mono ?_) | (with_reducible refine (NB.out _).mono ?_)); rintro e w' ⟨rfl, rfl⟩) | (go_at_call 29; (first | (with_reducible refine (EA.out _).mono ?_) | (with_reducible refine (EB.out _).mono ?_)); rintro e w' ⟨rfl, rfl⟩) | (go_at_call 30; (first | (with_reducible refine (ZA.out _).mono ?_) | (with_reducible refine (ZB.out _).mono ?_)); rintro e w' ⟨rfl, rfl⟩) | (go_at_call 31; (first | (with_reducible refine (with5_inf _ _).mono ?_) | (with_reducible refine (with5_zero _ _).mono ?_)); rintro e w' ⟨rfl, rfl⟩))
      all_goals (go_ret; exact ⟨rfl, Below.refl _ _⟩)
    · skip
      have hI : divI a b = (sb (sgn a != sgn b) + INFI) := by unfold divI; rw [if_neg (by omega), if_pos (by omega)]
      rw [hI]
      generalize (sgn a != sgn b) = ng at *
      have NA := Lib.hid (none5_k ha ia)
      have EA := Lib.hid (endless5_k ha ia)
      have ZA := Lib.hid (zero5_k ha ia)
      have NB := Lib.hid (none5_k hb ib)
      have EB := Lib.hid (endless5_k hb ib)
      have ZB := Lib.hid (zero5_k hb ib)
      clear hI ia ib ka ha hb ba bb
      go_enter Try.func13, Try.ntmps13
      go_wp2_with (first | (go_at_call 28; (first | (with_reducible refine (NA.out _).mono ?_) | (with_reducible refine (NB.out _).mono ?_)); rintro e w' ⟨rfl, rfl⟩) | (go_at_call 29; (first | (with_reducible refine (EA.out _).mono ?_) | (with_reducible refine (EB.out _).mono ?_)); rintro e w' ⟨rfl, rfl⟩) | (go_at_call 30; (first | (with_reducible refine (ZA.out _).mono ?_) | (with_reducible refine (ZB.out _).mono ?_)); rintro e w' ⟨rfl, rfl⟩) | (go_at_call 31; (first | (with_reducible refine (with5_inf _ _).mono ?_) | (with_reducible refine (with5_zero _ _).mono ?_)); rintro e w' ⟨rfl, rfl⟩))
      all_goals (go_ret; exact ⟨rfl, Below.refl _ _⟩)
  · rcases kin_cases b with ⟨kb, ib⟩ | ⟨kb, ib⟩ | ⟨kb, ib⟩ | ⟨kb, ib⟩
    · skip
      have hI : divI a b = 9221120237041090560 := by unfold divI; rw [if_pos (by omega)]; rfl
      rw [hI]
      generalize (sgn a != sgn b) = ng at *
      have NA := Lib.hid (none5_k ha ia)
      have EA := Lib.hid (endless5_k ha ia)
      have ZA := Lib.hid (zero5_k ha ia)
      have NB := Lib.hid (none5_k hb ib)
      have EB := Lib.hid (endless5_k hb ib)
      have ZB := Lib.hid (zero5_k hb ib)
      clear hI ia ib ka ha hb ba bb
      go_enter Try.func13, Try.ntmps13
      go_wp2_with (first | (go_at_call 28; (first | (with_reducible refine (NA.out _).mono ?_) | (with_reducible refine (NB.out _).mono ?_)); rintro e w' ⟨rfl, rfl⟩) | (go_at_call 29; (first | (with_reducible refine (EA.out _).mono ?_) | (with_reducible refine (EB.out _).mono ?_)); rintro e w' ⟨rfl, rfl⟩) | (go_at_call 30; (first | (with_reducible refine (ZA.out _).mono ?_) | (with_reducible refine (ZB.out _).mono ?_)); rintro e w' ⟨rfl, rfl⟩) | (go_at_call 31; (first | (with_reducible refine (with5_inf _ _).mono ?_) | (with_reducible refine (with5_zero _ _).mono ?_)); rintro e w' ⟨rfl, rfl⟩))
      all_goals (go_ret; exact ⟨rfl, Below.refl _ _⟩)
    · skip
      have hI : divI a b = (sb (sgn a != sgn b)) := by unfold divI; rw [if_neg (by omega), if_neg (by omega), if_pos (by omega)]
      rw [hI]
      generalize (sgn a != sgn b) = ng at *
      have NA := Lib.hid (none5_k ha ia)
      have EA := Lib.hid (endless5_k ha ia)
      have ZA := Lib.hid (zero5_k ha ia)
      have NB := Lib.hid (none5_k hb ib)
      have EB := Lib.hid (endless5_k hb ib)
      have ZB := Lib.hid (zero5_k hb ib)
      clear hI ia ib ka ha hb ba bb
      go_enter Try.func13, Try.ntmps13
      go_wp2_with (first | (go_at_call 28; (first | (with_reducible refine (NA.out _).mono ?_) | (with_reducible refine (NB.out _).mono ?_)); rintro e w' ⟨rfl, rfl⟩) | (go_at_call 29; (first | (with_reducible refine (EA.out _).mono ?_) | (with_reducible refine (EB.out _).mono ?_)); rintro e w' ⟨rfl, rfl⟩) | (go_at_call 30; (first | (with_reducible refine (ZA.out _).mono ?_) | (with_reducible refine (ZB.out _).mono ?_)); rintro e w' ⟨rfl, rfl⟩) | (go_at_call 31; (first | (with_reducible refine (with5_inf _ _).mono ?_) | (with_reducible refine (with5_zero _ _).mono ?_)); rintro e w' ⟨rfl, rfl⟩))
      all_goals (go_ret; exact ⟨rfl, Below.refl _ _⟩)
    · skip
      have hI : divI a b = 9221120237041090560 := by unfold divI; rw [if_pos (by omega)]; rfl
      rw [hI]
      generalize (sgn a != sgn b) = ng at *
      have NA := Lib.hid (none5_k ha ia)
      have EA := Lib.hid (endless5_k ha ia)
      have ZA := Lib.hid (zero5_k ha ia)
      have NB := Lib.hid (none5_k hb ib)
      have EB := Lib.hid (endless5_k hb ib)
      have ZB := Lib.hid (zero5_k hb ib)
      clear hI ia ib ka ha hb ba bb
      go_enter Try.func13, Try.ntmps13
      go_wp2_with (first | (go_at_call 28; (first | (with_reducible refine (NA.out _).mono ?_) | (with_reducible refine (NB.out _).mono ?_)); rintro e w' ⟨rfl, rfl⟩) | (go_at_call 29; (first | (with_reducible refine (EA.out _).mono ?_) | (with_reducible refine (EB.out _).mono ?_)); rintro e w' ⟨rfl, rfl⟩) | (go_at_call 30; (first | (with_reducible refine (ZA.out _).mono ?_) | (with_reducible refine (ZB.out _).mono ?_)); rintro e w' ⟨rfl, rfl⟩) | (go_at_call 31; (first | (with_reducible refine (with5_inf _ _).mono ?_) | (with_reducible refine (with5_zero _ _).mono ?_)); rintro e w' ⟨rfl, rfl⟩))
      all_goals (go_ret; exact ⟨rfl, Below.refl _ _⟩)
    · skip
      have hI : divI a b = (sb (sgn a != sgn b)) := by unfold divI; rw [if_neg (by omega), if_neg (by omega), if_pos (by omega)]
      rw [hI]
      generalize (sgn a != sgn b) = ng at *
      have NA := Lib.hid (none5_k ha ia)
      have EA := Lib.hid (endless5_k ha ia)
      have ZA := Lib.hid (zero5_k ha ia)
      have NB := Lib.hid (none5_k hb ib)
      have EB := Lib.hid (endless5_k hb ib)
      have ZB := Lib.hid (zero5_k hb ib)
      clear hI ia ib ka ha hb ba bb
      go_enter Try.func13, Try.ntmps13
      go_wp2_with (first | (go_at_call 28; (first | (with_reducible refine (NA.out _).mono ?_) | (with_reducible refine (NB.out _).mono ?_)); rintro e w' ⟨rfl, rfl⟩) | (go_at_call 29; (first | (with_reducible refine (EA.out _).mono ?_) | (with_reducible refine (EB.out _).mono ?_)); rintro e w' ⟨rfl, rfl⟩) | (go_at_call 30; (first | (with_reducible refine (ZA.out _).mono ?_) | (with_reducible refine (ZB.out _).mono ?_)); rintro e w' ⟨rfl, rfl⟩) | (go_at_call 31; (first | (with_reducible refine (with5_inf _ _).mono ?_) | (with_reducible refine (with5_zero _ _).mono ?_)); rintro e w' ⟨rfl, rfl⟩))
      all_goals (go_ret; exact ⟨rfl, Below.refl _ _⟩)
  · rcases kin_cases b with ⟨kb, ib⟩ | ⟨kb, ib⟩ | ⟨kb, ib⟩ | ⟨kb, ib⟩
    · skip
      have hI : divI a b = 9221120237041090560 := by unfold divI; rw [if_pos (by omega)]; rfl
      rw [hI]
      generalize (sgn a != sgn b) = ng at *
      have NA := Lib.hid (none5_k ha ia)
      have EA := Lib.hid (endless5_k ha ia)
      have ZA := Lib.hid (zero5_k ha ia)
      have NB := Lib.hid (none5_k hb ib)
      have EB := Lib.hid (endless5_k hb ib)
      have ZB := Lib.hid (zero5_k hb ib)
      clear hI ia ib ka ha hb ba bb
      go_enter Try.func13, Try.ntmps13
      go_wp2_with (first | (go_at_call 28; (first | (with_reducible refine (NA.out _).mono ?_) | (with_reducible refine (NB.out _).mono ?_)); rintro e w' ⟨rfl, rfl⟩) | (go_at_call 29; (first | (with_reducible refine (EA.out _).mono ?_) | (with_reducible refine (EB.out _).mono ?_)); rintro e w' ⟨rfl, rfl⟩) | (go_at_call 30; (first | (with_reducible refine (ZA.out _).mono ?_) | (with_reducible refine (ZB.out _).mono ?_)); rintro e w' ⟨rfl, rfl⟩) | (go_at_call 31; (first | (with_reducible refine (with5_inf _ _).mono ?_) | (with_reducible refine (with5_zero _ _).mono ?_)); rintro e w' ⟨rfl, rfl⟩))
      all_goals (go_ret; exact ⟨rfl, Below.refl _ _⟩)
    · skip
      have hI : divI a b = (sb (sgn a != sgn b)) := by unfold divI; rw [if_neg (by omega), if_neg (by omega), if_pos (by omega)]
      rw [hI]
      generalize (sgn a != sgn b) = ng at *
      have NA := Lib.hid (none5_k ha ia)
      have EA := Lib.hid (endless5_k ha ia)
      have ZA := Lib.hid (zero5_k ha ia)
      have NB := Lib.hid (none5_k hb ib)
      have EB := Lib.hid (endless5_k hb ib)
      have ZB := Lib.hid (zero5_k hb ib)
      clear hI ia ib ka ha hb ba bb
      go_enter Try.func13, Try.ntmps13
      go_wp2_with (first | (go_at_call 28; (first | (with_reducible refine (NA.out _).mono ?_) | (with_reducible refine (NB.out _).mono ?_)); rintro e w' ⟨rfl, rfl⟩) | (go_at_call 29; (first | (with_reducible refine (EA.out _).mono ?_) | (with_reducible refine (EB.out _).mono ?_)); rintro e w' ⟨rfl, rfl⟩) | (go_at_call 30; (first | (with_reducible refine (ZA.out _).mono ?_) | (with_reducible refine (ZB.out _).mono ?_)); rintro e w' ⟨rfl, rfl⟩) | (go_at_call 31; (first | (with_reducible refine (with5_inf _ _).mono ?_) | (with_reducible refine (with5_zero _ _).mono ?_)); rintro e w' ⟨rfl, rfl⟩))
      all_goals (go_ret; exact ⟨rfl, Below.refl _ _⟩)
    · skip
      have hI : divI a b = (sb (sgn a != sgn b) + INFI) := by unfold divI; rw [if_neg (by omega), if_pos (by omega)]
      rw [hI]
      generalize (sgn a != sgn b) = ng at *
      have NA := Lib.hid (none5_k ha ia)
      have EA := Lib.hid (endless5_k ha ia)
      have ZA := Lib.hid (zero5_k ha ia)
      have NB := Lib.hid (none5_k hb ib)
      have EB := Lib.hid (endless5_k hb ib)
      have ZB := Lib.hid (zero5_k hb ib)
      clear hI ia ib ka ha hb ba bb
      go_enter Try.func13, Try.ntmps13
      go_wp2_with (first | (go_at_call 28; (first | (with_reducible refine (NA.out _).mono ?_) | (with_reducible refine (NB.out _).mono ?_)); rintro e w' ⟨rfl, rfl⟩) | (go_at_call 29; (first | (with_reducible refine (EA.out _).mono ?_) | (with_reducible refine (EB.out _).mono ?_)); rintro e w' ⟨rfl, rfl⟩) | (go_at_call 30; (first | (with_reducible refine (ZA.out _).mono ?_) | (with_reducible refine (ZB.out _).mono ?_)); rintro e w' ⟨rfl, rfl⟩) | (go_at_call 31; (first | (with_reducible refine (with5_inf _ _).mono ?_) | (with_reducible refine (with5_zero _ _).mono ?_)); rintro e w' ⟨rfl, rfl⟩))
      all_goals (go_ret; exact ⟨rfl, Below.refl _ _⟩)
    · exact div5_fin a b w ha hb ka kb ia ib
end Go.Proofs.Ytmjaoeafompclaa

namespace Go.Proofs.Ytmjaoeafompclaa
open Go.RowKit Go.Shelf

theorem and1_i64 (z : Int) : bits .and .i64 z 1 = z % 2 := by
  have e : BitVec.ofInt IntKind.i64.bits 1 = BitVec.ofInt 64 1 := rfl
  have e1 : BitVec.ofInt 64 1 = 1#64 := by decide
  unfold bits
  rw [e, e1]
  have h1 : ((BitVec.ofInt 64 z &&& 1#64).toNat : Int) = z % 2 := by
    rw [BitVec.toNat_and, BitVec.toNat_ofInt]
    have : (1#64).toNat = 1 := by decide
    rw [this, Nat.and_one_is_mod]
    have : (z % ((2 ^ 64 : Nat) : Int)).toNat % 2 = (z % 2).toNat := by omega
    rw [this]; omega
  show IntKind.i64.wrap ((BitVec.ofInt 64 z &&& 1#64).toNat : Int) = _
  rw [h1, IntKind.wrap_i64]; omega
theorem join_lo (neg : Bool) (r : Nat) (e : Int) (more : Bool) (v : World) (hr : r < 18446744073709551616) (e0 : -9223372036854775808 ≤ e) (e1 : e < 9223372036854775808) :
    Calls Try.prog 34 #[.bool neg, .agg #[.int .u64 0, .int .u64 (r : Int)], .int .i64 e, .bool more] v fun x w' => x = .returned (.int .u64 (fbits neg r e more)) ∧ Below v.heap.size v w' := by
  have h := join_nat neg r e more v (Nat.lt_trans hr (by decide)) e0 e1
  have h1 : hiOf (r : Int) = 0 := by unfold hiOf; omega
  have h2 : loOf (r : Int) = r := by unfold loOf; omega
  rw [h1, h2] at h
  exact h
theorem rt_lt {A K : Nat} (h : A < K * K) : Pl.rt A < K := by
  have := (Pl.rt_spec A).1
  rcases Nat.lt_or_ge (Pl.rt A) K with g | g
  · exact g
  · have := Nat.mul_le_mul g g; omega
theorem rt_ge {A K : Nat} (h : K * K ≤ A) : K ≤ Pl.rt A := by
  have := (Pl.rt_spec A).2
  rcases Nat.lt_or_ge (Pl.rt A) K with g | g
  · have := Nat.mul_le_mul (show Pl.rt A + 1 ≤ K from g) (show Pl.rt A + 1 ≤ K from g); omega
  · exact g
theorem sqrt_same {a : Int} (ha : kd a = 1 ∨ kd a = 2) (hs : ¬ 9223372036854775808 < a) {n : Nat} (hn : n = 73 ∨ n = 74) (he : (expo a - lgN a - n) % 2 = 0) : sqrtI a = fbits false (Pl.rt ((mant a).toNat * 2 ^ lgN a * 2 ^ n)) ((expo a - lgN a - n) / 2) (decide (Pl.rt ((mant a).toNat * 2 ^ lgN a * 2 ^ n) * Pl.rt ((mant a).toNat * 2 ^ lgN a * 2 ^ n) < (mant a).toNat * 2 ^ lgN a * 2 ^ n)) := by
  unfold sqrtI
  rw [if_neg (by omega), if_neg (by omega)]
  obtain ⟨_, a1, a2, a3⟩ := large_bd ha
  have ma := mant_pos ha
  obtain ⟨k, hk⟩ : ∃ k, sqK (expo a) = k := ⟨_, rfl⟩
  have hk1 : (k = 128 ∨ k = 129) ∧ (expo a - k) % 2 = 0 := by
    rw [← hk]
    unfold sqK
    split
    · exact ⟨.inl rfl, by omega⟩
    · exact ⟨.inr rfl, by omega⟩
  rw [hk]
  obtain ⟨m, hm⟩ : ∃ m, (mant a).toNat = m := ⟨_, rfl⟩
  rw [hm] at a1 a2 ⊢
  have m0 : 1 ≤ m := by omega
  generalize lgN a = i at *
  obtain ⟨hk1, hk2⟩ := hk1
  have b1 : 2 ^ 54 * 2 ^ 54 ≤ m * 2 ^ k := by
    have h2 : 1 * 2 ^ 128 ≤ m * 2 ^ k := Nat.mul_le_mul m0 (Nat.pow_le_pow_right (by decide) (by omega))
    exact Nat.le_trans (by decide) h2
  have b2 : 2 ^ 54 * 2 ^ 54 ≤ m * 2 ^ i * 2 ^ n := by
    have h2 : 2 ^ 52 * 2 ^ 73 ≤ m * 2 ^ i * 2 ^ n := Nat.mul_le_mul a1 (Nat.pow_le_pow_right (by decide) (by omega))
    exact Nat.le_trans (by decide) h2
  have e := rtm_eq (e := (expo a - k) / 2) (e' := (expo a - i - n) / 2) (rt_ge b1) (rt_ge b2) (i + n) k (by rw [Nat.pow_add]; grind) (by omega)
  unfold rtm at e
  unfold fbits
  rw [e]

set_option maxRecDepth 100000 in
set_option maxHeartbeats 4000000 in
theorem sqrt5_fin (a : Int) (w : World) (ha : Wd a) (ka : kd a = 1 ∨ kd a = 2) (hs : ¬ 9223372036854775808 < a) (ia : Kin a false false false) : Calls Try.prog 15 #[.int .u64 a] w fun e w' => e = .returned (.int .u64 (sqrtI a)) ∧ Below w.heap.size w w' := by
  have NA := Lib.hid (none5_k ha ia)
  have EA := Lib.hid (endless5_k ha ia)
  have ZA := Lib.hid (zero5_k ha ia)
  have LA := fun v => large5_any a v ha ka
  obtain ⟨_, a1, a2, a3⟩ := large_bd ka
  have ea := expo_bd (x := a)
  have a0 := ha.1
  obtain ⟨n, hn, he⟩ : ∃ n : Nat, (n = 73 ∨ n = 74) ∧ (expo a - lgN a - n) % 2 = 0 := by
    by_cases h : (expo a - lgN a - 74) % 2 = 0
    · exact ⟨74, .inr rfl, h⟩
    · exact ⟨73, .inl rfl, by omega⟩
  rw [sqrt_same ka hs hn he]
  generalize (mant a).toNat * 2 ^ lgN a = MA at *
  obtain ⟨F, hF⟩ : ∃ F, expo a - lgN a = F := ⟨_, rfl⟩
  have f0 : -1126 ≤ F ∧ F ≤ 971 := by omega
  rw [hF] at LA he ⊢
  have hA : MA * 2 ^ n < 340282366920938463463374607431768211456 := by
    refine Nat.lt_of_lt_of_le ((Nat.mul_lt_mul_right (Nat.two_pow_pos n)).2 a2) ?_
    rcases hn with rfl | rfl <;> decide
  have hAi : (MA : Int) * 2 ^ n = ((MA * 2 ^ n : Nat) : Int) := by simp
  have CS := fun v => shl_k 0 (MA : Int) (n : Int) n v ⟨by decide, by decide⟩ ⟨by omega, by omega⟩ (by omega) (by omega)
  have hsh : shlN (num 0 (MA : Int)) n = ((MA * 2 ^ n : Nat) : Int) := by
    unfold shlN num bit128
    rw [Int.zero_mul, Int.zero_add, hAi]; omega
  rw [hsh] at CS
  generalize MA * 2 ^ n = A at *
  have CR := fun v => root_any (hiOf (A : Int)) (loOf (A : Int)) v (Wd.hi (by omega) (by omega)) (Wd.lo _)
  rw [num_parts, Int.toNat_natCast] at CR
  have hr : Pl.rt A < 18446744073709551616 := rt_lt hA
  have hmore : decide (Pl.rt A * Pl.rt A < A) = !decide ((Pl.rt A : Int) * (Pl.rt A : Int) = (A : Int)) := by
    have h1 := (Pl.rt_spec A).1
    have h2 : (Pl.rt A : Int) * (Pl.rt A : Int) = ((Pl.rt A * Pl.rt A : Nat) : Int) := by simp
    rw [h2]
    generalize Pl.rt A * Pl.rt A = q at *
    by_cases h : q < A
    · rw [decide_eq_true h, decide_eq_false (by omega)]; rfl
    · rw [decide_eq_false h, decide_eq_true (by omega)]; rfl
  rw [hmore]
  generalize decide ((Pl.rt A : Int) * (Pl.rt A : Int) = (A : Int)) = ex at *
  generalize Pl.rt A = R at *
  have CJ := fun v => join_lo false R ((F - n) / 2) (!ex) v hr (by omega) (by omega)
  generalize fbits false R ((F - n) / 2) (!ex) = Z at *
  obtain ⟨PH, hPH⟩ : ∃ PH, hiOf (A : Int) = PH := ⟨_, rfl⟩
  obtain ⟨PL, hPL⟩ : ∃ PL, loOf (A : Int) = PL := ⟨_, rfl⟩
  rw [hPH, hPL] at CS CR
  have hs0 : decide (9223372036854775808 < a) = false := by simpa using hs
  have hb := and1_i64 (F - 74)
  replace LA := Lib.hid LA
  replace CR := Lib.hid CR
  have HB := Bel.re w
  clear hPH hPL hF ea ka ia ha hA hAi hsh hmore a1 a2 a3 hr hs
  obtain ⟨N, hN⟩ : ∃ N : Int, (n : Int) = N := ⟨_, rfl⟩
  rw [hN] at CS CJ he
  have hn2 : N = 73 ∨ N = 74 := by omega
  clear hN hn
  rcases hn2 with rfl | rfl
  all_goals
    first | (have hp : (F - 74) % 2 = 1 := by omega
             rw [hp] at hb) | (have hp : (F - 74) % 2 = 0 := he
                               rw [hp] at hb)
    have CS1 := Lib.hid CS
    have CJ1 := Lib.hid CJ
    clear hp he CS CJ
    go_enter Try.func15, Try.ntmps15
    go_wp2_with (first | (go_at_call 28; (first | (with_reducible refine (NA.out _).mono ?_)); rintro e w' ⟨rfl, rfl⟩) | (go_at_call 29; (first | (with_reducible refine (EA.out _).mono ?_)); rintro e w' ⟨rfl, rfl⟩) | (go_at_call 30; (first | (with_reducible refine (ZA.out _).mono ?_)); rintro e w' ⟨rfl, rfl⟩) | (go_at_call 32; (with_reducible refine (LA.out _).mono ?_); rintro e w' ⟨rfl, rfl⟩) | (go_at_call 45; (with_reducible refine (CS1.out _).mono ?_); rintro e w1 ⟨rfl, hb1⟩; replace HB := Bel.st HB hb1; clear hb1) | (go_at_call 44; (with_reducible refine (CR.out _).mono ?_); rintro e w1 ⟨rfl, hb1⟩; replace HB := Bel.st HB hb1; clear hb1) | (go_at_call 34; (with_reducible refine (CJ1.out _).mono ?_); rintro e w1 ⟨rfl, hb1⟩; replace HB := Bel.st HB hb1; clear hb1))
    go_ret
    exact ⟨rfl, HB⟩

set_option maxRecDepth 100000 in
set_option maxHeartbeats 4000000 in
theorem sqrt5_any (a : Int) (w : World) (ha : Wd a) : Calls Try.prog 15 #[.int .u64 a] w fun e w' => e = .returned (.int .u64 (sqrtI a)) ∧ Below w.heap.size w w' := by
  have a0 := ha.1
  rcases kin_cases a with ⟨ka, ia⟩ | ⟨ka, ia⟩ | ⟨ka, ia⟩ | ⟨ka, ia⟩
  · have hI : sqrtI a = 9221120237041090560 := by unfold sqrtI; rw [if_pos (.inl ka)]; rfl
    rw [hI]
    have NA := Lib.hid (none5_k ha ia)
    have EA := Lib.hid (endless5_k ha ia)
    have ZA := Lib.hid (zero5_k ha ia)
    clear hI ia ka ha
    go_enter Try.func15, Try.ntmps15
    go_wp2_with (first | (go_at_call 28; (first | (with_reducible refine (NA.out _).mono ?_)); rintro e w' ⟨rfl, rfl⟩) | (go_at_call 29; (first | (with_reducible refine (EA.out _).mono ?_)); rintro e w' ⟨rfl, rfl⟩) | (go_at_call 30; (first | (with_reducible refine (ZA.out _).mono ?_)); rintro e w' ⟨rfl, rfl⟩))
    all_goals (go_ret; exact ⟨rfl, Below.refl _ _⟩)
  · by_cases hs : 9223372036854775808 < a
    · have hI : sqrtI a = 9221120237041090560 := by unfold sqrtI; rw [if_pos (.inr hs)]; rfl
      rw [hI]
      have NA := Lib.hid (none5_k ha ia)
      have EA := Lib.hid (endless5_k ha ia)
      have ZA := Lib.hid (zero5_k ha ia)
      clear hI ia ka ha
      go_enter Try.func15, Try.ntmps15
      go_wp2_with (first | (go_at_call 28; (first | (with_reducible refine (NA.out _).mono ?_)); rintro e w' ⟨rfl, rfl⟩) | (go_at_call 29; (first | (with_reducible refine (EA.out _).mono ?_)); rintro e w' ⟨rfl, rfl⟩) | (go_at_call 30; (first | (with_reducible refine (ZA.out _).mono ?_)); rintro e w' ⟨rfl, rfl⟩))
      all_goals (go_ret; exact ⟨rfl, Below.refl _ _⟩)
    · have hI : sqrtI a = a := by unfold sqrtI; rw [if_neg (by omega), if_pos (.inr ka)]
      have hs0 : decide (9223372036854775808 < a) = false := by simpa using hs
      rw [hI]
      clear hs
      have NA := Lib.hid (none5_k ha ia)
      have EA := Lib.hid (endless5_k ha ia)
      have ZA := Lib.hid (zero5_k ha ia)
      clear hI ia ka ha
      go_enter Try.func15, Try.ntmps15
      go_wp2_with (first | (go_at_call 28; (first | (with_reducible refine (NA.out _).mono ?_)); rintro e w' ⟨rfl, rfl⟩) | (go_at_call 29; (first | (with_reducible refine (EA.out _).mono ?_)); rintro e w' ⟨rfl, rfl⟩) | (go_at_call 30; (first | (with_reducible refine (ZA.out _).mono ?_)); rintro e w' ⟨rfl, rfl⟩))
      all_goals (go_ret; exact ⟨rfl, Below.refl _ _⟩)
  · have hs : ¬ 9223372036854775808 < a := by
      rcases zero_word ha ka with h | h <;> omega
    have hI : sqrtI a = a := by unfold sqrtI; rw [if_neg (by omega), if_pos (.inl ka)]
    have hs0 : decide (9223372036854775808 < a) = false := by simpa using hs
    rw [hI]
    clear hs
    have NA := Lib.hid (none5_k ha ia)
    have EA := Lib.hid (endless5_k ha ia)
    have ZA := Lib.hid (zero5_k ha ia)
    clear hI ia ka ha
    go_enter Try.func15, Try.ntmps15
    go_wp2_with (first | (go_at_call 28; (first | (with_reducible refine (NA.out _).mono ?_)); rintro e w' ⟨rfl, rfl⟩) | (go_at_call 29; (first | (with_reducible refine (EA.out _).mono ?_)); rintro e w' ⟨rfl, rfl⟩) | (go_at_call 30; (first | (with_reducible refine (ZA.out _).mono ?_)); rintro e w' ⟨rfl, rfl⟩))
    all_goals (go_ret; exact ⟨rfl, Below.refl _ _⟩)
  · by_cases hs : 9223372036854775808 < a
    · have hI : sqrtI a = 9221120237041090560 := by unfold sqrtI; rw [if_pos (.inr hs)]; rfl
      rw [hI]
      have NA := Lib.hid (none5_k ha ia)
      have EA := Lib.hid (endless5_k ha ia)
      have ZA := Lib.hid (zero5_k ha ia)
      clear hI ia ka ha
      go_enter Try.func15, Try.ntmps15
      go_wp2_with (first | (go_at_call 28; (first | (with_reducible refine (NA.out _).mono ?_)); rintro e w' ⟨rfl, rfl⟩) | (go_at_call 29; (first | (with_reducible refine (EA.out _).mono ?_)); rintro e w' ⟨rfl, rfl⟩) | (go_at_call 30; (first | (with_reducible refine (ZA.out _).mono ?_)); rintro e w' ⟨rfl, rfl⟩))
      all_goals (go_ret; exact ⟨rfl, Below.refl _ _⟩)
    · exact sqrt5_fin a w ha ka hs ia
end Go.Proofs.Ytmjaoeafompclaa

namespace Go.Proofs.Ytmjaoeafompclaa
open Go.RowKit Go.Shelf

theorem mod_scale (m n j k : Nat) (s : Bool) (f : Int) (hk : f + 1074 = k) : fbits s (m * 2 ^ (j + k) % (n * 2 ^ k)) (-1074) false = fbits s (m * 2 ^ j % n) f false := by
  rw [Nat.pow_add, ← Nat.mul_assoc, Nat.mul_mod_mul_right, fbits_scale, show (-1074 : Int) + k = f by omega]
theorem expo_form {x : Int} (k : kd x ≤ 2) : expo x = max (x / 4503599627370496 % 2048) 1 - 1075 := by
  unfold expo
  unfold kd at *
  by_cases h1 : x / 4503599627370496 % 2048 = 2047
  · rw [if_pos h1] at k; split at k <;> omega
  · rw [if_neg h1]
    by_cases h2 : x / 4503599627370496 % 2048 = 0
    · rw [if_pos h2]; split <;> omega
    · rw [if_neg h2]; rw [if_neg (by decide), if_pos rfl]; omega
theorem expo_le {a b : Int} (ha : Wd a) (hb : Wd b) (ka : kd a ≤ 2) (h : b % 9223372036854775808 ≤ a % 9223372036854775808) (kb : kd b ≤ 2) : expo b ≤ expo a := by
  obtain ⟨a0, a1⟩ := ha
  obtain ⟨b0, b1⟩ := hb
  rw [expo_form ka, expo_form kb]
  omega
theorem mod_less {a b : Int} (ha : Wd a) (hb : Wd b) (ka : kd a = 1 ∨ kd a = 2) (kb : kd b = 1 ∨ kd b = 2) (h : a % 9223372036854775808 < b % 9223372036854775808) : modI a b = a := by
  have h1 := V_fn ha (by omega)
  have h2 := V_fn hb (by omega)
  have h3 := Pl.V_lt (x := (a % 9223372036854775808).toNat) (y := (b % 9223372036854775808).toNat) (by omega)
  rw [h1, h2] at h3
  unfold modI
  rw [if_neg (by omega), if_neg (by omega), Nat.mod_eq_of_lt h3, fbits_id ha (by omega)]
theorem mod_more {a b : Int} (ha : Wd a) (hb : Wd b) (ka : kd a = 1 ∨ kd a = 2) (kb : kd b = 1 ∨ kd b = 2) (h : ¬ a % 9223372036854775808 < b % 9223372036854775808) : ∃ j : Nat, expo a = expo b + j ∧ modI a b = fbits (sgn a) ((mant a).toNat * 2 ^ j % (mant b).toNat) (expo b) false := by
  have he := expo_le ha hb (by omega) (by omega) (by omega)
  have hb1 := expo_bd (x := b)
  obtain ⟨j, hj⟩ : ∃ j : Nat, expo a = expo b + j := ⟨(expo a - expo b).toNat, by omega⟩
  refine ⟨j, hj, ?_⟩
  unfold modI
  rw [if_neg (by omega), if_neg (by omega)]
  unfold fn
  obtain ⟨k, hk⟩ : ∃ k : Nat, expo b + 1074 = k := ⟨(expo b + 1074).toNat, by omega⟩
  rw [show (expo a + 1074).toNat = j + k by omega, show (expo b + 1074).toNat = k by omega]
  exact mod_scale _ _ j k _ _ hk
theorem absI_fin {x : Int} (h : kd x ≠ 4) : absI x = x % 9223372036854775808 := by unfold absI; rw [if_neg h]

/-- What is left ahead of a round: k places are still to come. -/
structure ModAt (R n r k : Nat) : Prop where
  lt : r < n
  eq : r * 2 ^ k % n = R
theorem ModAt.start {m n j : Nat} (hn : 0 < n) : ModAt (m * 2 ^ j % n) n (m % n) j := ⟨Nat.mod_lt _ hn, Nat.mod_mul_mod m (2 ^ j) n⟩
theorem ModAt.step {R n r k d : Nat} (h : ModAt R n r (k + d)) : ModAt R n (r * 2 ^ d % n) k := by
  obtain ⟨h1, h2⟩ := h
  refine ⟨Nat.mod_lt _ (by omega), ?_⟩
  rw [Nat.mod_mul_mod, ← h2, Nat.pow_add, Nat.mul_assoc, Nat.mul_comm (2 ^ d)]
theorem ModAt.done {R n r : Nat} (h : ModAt R n r 0) : r = R := by
  rw [← h.eq, Nat.pow_zero, Nat.mul_one, Nat.mod_eq_of_lt h.lt]
theorem ModAt.zero {R n k : Nat} (h : ModAt R n 0 k) : R = 0 := by
  rw [← h.eq, Nat.zero_mul, Nat.zero_mod]

set_option maxRecDepth 100000 in
set_option maxHeartbeats 4000000 in
theorem mod5_more (a b : Int) (w : World) (ha : Wd a) (hb : Wd b) (ka : kd a = 1 ∨ kd a = 2) (kb : kd b = 1 ∨ kd b = 2) (ia : Kin a false false false) (ib : Kin b false false false) (h : ¬ a % 9223372036854775808 < b % 9223372036854775808) : Calls Try.prog 19 #[.int .u64 a, .int .u64 b] w fun e w' => e = .returned (.int .u64 (modI a b)) ∧ Below w.heap.size w w' := by
  obtain ⟨j, hj, hI⟩ := mod_more ha hb ka kb h
  rw [hI]
  have NA := Lib.hid (none5_k ha ia)
  have EA := Lib.hid (endless5_k ha ia)
  have ZA := Lib.hid (zero5_k ha ia)
  have NB := Lib.hid (none5_k hb ib)
  have EB := Lib.hid (endless5_k hb ib)
  have ZB := Lib.hid (zero5_k hb ib)
  have AA := fun v => abs_any a v ha
  have AB := fun v => abs_any b v hb
  rw [absI_fin (by omega)] at AA
  rw [absI_fin (by omega)] at AB
  have SA := fun v => split_any a v ha
  have SB := fun v => split_any b v hb
  have ma := mant_bd (x := a)
  have mb := mant_bd (x := b)
  have mb0 := mant_pos kb
  have eb := expo_bd (x := b)
  have ea := expo_bd (x := a)
  obtain ⟨m, hm⟩ : ∃ m : Nat, mant a = m := ⟨(mant a).toNat, by omega⟩
  obtain ⟨n, hn⟩ : ∃ n : Nat, mant b = n := ⟨(mant b).toNat, by omega⟩
  obtain ⟨f, hf⟩ : ∃ f, expo b = f := ⟨_, rfl⟩
  rw [hm] at SA ma
  rw [hn] at SB mb mb0
  rw [hf] at SB eb hj
  rw [hj] at SA ea
  rw [hm, hn, hf, Int.toNat_natCast, Int.toNat_natCast]
  have n0 : 0 < n := by omega
  have M0 := Lib.hid (ModAt.start (m := m) (j := j) n0)
  have hRn : m * 2 ^ j % n < n := Nat.mod_lt _ n0
  generalize m * 2 ^ j % n = R at *
  generalize sgn a = s at *
  have CJ := fun v => join_lo s R f false v (by omega) (by omega) (by omega)
  generalize fbits s R f false = Z at *
  generalize a % 9223372036854775808 = xa at *
  generalize b % 9223372036854775808 = xb at *
  have hd : decide (xa < xb) = false := by simpa using h
  replace AA := Lib.hid AA
  replace AB := Lib.hid AB
  replace SA := Lib.hid SA
  replace SB := Lib.hid SB
  replace CJ := Lib.hid CJ
  have hn53 : n < 9007199254740992 := by omega
  clear ha hb ka kb ia ib h hj hI hm hn hf mb0
  go_enter Try.func19, Try.ntmps19
  go_wp2
  go_step3
  go_wp2_with (first | (go_at_call 28; (first | (with_reducible refine (NA.out _).mono ?_) | (with_reducible refine (NB.out _).mono ?_)); rintro e w' ⟨rfl, rfl⟩) | (go_at_call 29; (first | (with_reducible refine (EA.out _).mono ?_) | (with_reducible refine (EB.out _).mono ?_)); rintro e w' ⟨rfl, rfl⟩) | (go_at_call 30; (first | (with_reducible refine (ZA.out _).mono ?_) | (with_reducible refine (ZB.out _).mono ?_)); rintro e w' ⟨rfl, rfl⟩) | (go_at_call 58; (first | (with_reducible refine (AA.out _).mono ?_) | (with_reducible refine (AB.out _).mono ?_)); rintro e w' ⟨rfl, rfl⟩) | (go_at_call 49; (first | (with_reducible refine (SA.out _).mono ?_) | (with_reducible refine (SB.out _).mono ?_)); rintro e w' ⟨rfl, rfl⟩))
  go_step3
  go_wp2
  go_loop [7, 11] (fun ev rv => ∃ r k : Nat, ev = .int .i64 (f + (k : Int)) ∧ rv = .int .u64 r ∧ k ≤ 2045 ∧ ModAt R n r k) (fun ev _ => (intOf ev - f).toNat)
  case atStart => exact ⟨m % n, j, by go_num, by go_num, by omega, M0.out⟩
  case round =>
    obtain ⟨r, k, rfl, rfl, hk, hat⟩ := hrel
    have hr := hat.lt
    have HA := Lib.hid hat
    clear hat M0
    rcases Nat.eq_zero_or_pos k with h0 | h0
    · subst h0
      obtain rfl := HA.out.done
      clear HA
      go_wp2_with (go_at_call 34; (with_reducible refine (CJ.out _).mono ?_); rintro e w1 ⟨rfl, hb1⟩)
      rw [Exit.noGoto_ret]
      go_ret
      exact ⟨rfl, hb1⟩
    · have hgt : f < f + (k : Int) := by omega
      rcases Nat.eq_zero_or_pos r with r0 | r0
      · subst r0
        obtain rfl := HA.out.zero
        have CJ0 : Hid (∀ v : World, Calls Try.prog 34 #[.bool s, .agg #[.int .u64 0, .int .u64 0], .int .i64 f, .bool false] v fun x w' => x = .returned (.int .u64 Z) ∧ Below v.heap.size v w') := Lib.hid (by exact CJ.out)
        clear HA
        go_wp2_with (go_at_call 34; (with_reducible refine (CJ0.out _).mono ?_); rintro e w1 ⟨rfl, hb1⟩)
        rw [Exit.noGoto_ret]
        go_ret
        exact ⟨rfl, hb1⟩
      · have hne : ((r : Int) == 0) = false := by simp; omega
        by_cases h11 : 11 ≤ k
        · obtain ⟨d, rfl⟩ : ∃ d, k = d + 11 := ⟨k - 11, by omega⟩
          have HS := Lib.hid (show ModAt R n (r * 2048 % n) d from HA.out.step)
          go_wp2
          exact ⟨⟨r * 2048 % n, d, by congr 1; omega, by go_num, by omega, HS.out⟩, by simp [intOf]; omega⟩
        · obtain ⟨d, rfl⟩ : ∃ d, k = d + 1 := ⟨k - 1, by omega⟩
          have HS := Lib.hid (show ModAt R n (r * 2 % n) d from HA.out.step)
          go_wp2
          exact ⟨⟨r * 2 % n, d, by congr 1; omega, by go_num, by omega, HS.out⟩, by simp [intOf]; omega⟩
set_option maxRecDepth 100000 in
set_option maxHeartbeats 4000000 in
theorem mod5_less (a b : Int) (w : World) (ha : Wd a) (hb : Wd b) (ka : kd a = 1 ∨ kd a = 2) (kb : kd b = 1 ∨ kd b = 2) (ia : Kin a false false false) (ib : Kin b false false false) (h : a % 9223372036854775808 < b % 9223372036854775808) : Calls Try.prog 19 #[.int .u64 a, .int .u64 b] w fun e w' => e = .returned (.int .u64 (modI a b)) ∧ Below w.heap.size w w' := by
  have hI := mod_less ha hb ka kb h
  have bb := kd_bd b
  rw [hI]
  have AA := fun v => abs_any a v ha
  have AB := fun v => abs_any b v hb
  rw [absI_fin (by omega)] at AA
  rw [absI_fin (by omega)] at AB
  generalize a % 9223372036854775808 = xa at *
  generalize b % 9223372036854775808 = xb at *
  have hd : decide (xa < xb) = true := by simpa using h
  replace AA := Lib.hid AA
  replace AB := Lib.hid AB
  have NA := Lib.hid (none5_k ha ia)
  have EA := Lib.hid (endless5_k ha ia)
  have ZA := Lib.hid (zero5_k ha ia)
  have NB := Lib.hid (none5_k hb ib)
  have EB := Lib.hid (endless5_k hb ib)
  have ZB := Lib.hid (zero5_k hb ib)
  clear hI ia ib ha hb bb ka kb h
  go_enter Try.func19, Try.ntmps19
  go_wp2
  go_step3
  go_wp2_with (first | (go_at_call 28; (first | (with_reducible refine (NA.out _).mono ?_) | (with_reducible refine (NB.out _).mono ?_)); rintro e w' ⟨rfl, rfl⟩) | (go_at_call 29; (first | (with_reducible refine (EA.out _).mono ?_) | (with_reducible refine (EB.out _).mono ?_)); rintro e w' ⟨rfl, rfl⟩) | (go_at_call 30; (first | (with_reducible refine (ZA.out _).mono ?_) | (with_reducible refine (ZB.out _).mono ?_)); rintro e w' ⟨rfl, rfl⟩) | (go_at_call 58; (first | (with_reducible refine (AA.out _).mono ?_) | (with_reducible refine (AB.out _).mono ?_)); rintro e w' ⟨rfl, rfl⟩))
  all_goals (rw [Exit.noGoto_ret]; go_ret; exact ⟨rfl, Below.refl _ _⟩)

set_option maxRecDepth 100000 in
set_option maxHeartbeats 4000000 in
theorem mod5_any (a b : Int) (w : World) (ha : Wd a) (hb : Wd b) : Calls Try.prog 19 #[.int .u64 a, .int .u64 b] w fun e w' => e = .returned (.int .u64 (modI a b)) ∧ Below w.heap.size w w' := by
  have bb := kd_bd b
  rcases kin_cases a with ⟨ka, ia⟩ | ⟨ka, ia⟩ | ⟨ka, ia⟩ | ⟨ka, ia⟩
  · skip
    have ib : Kin b (kd b == 4) (kd b == 3) (kd b == 0) := ⟨rfl, rfl, rfl⟩
    have hI : modI a b = 9221120237041090560 := by unfold modI; rw [if_pos (by omega)]; rfl
    rw [hI]
    have NA := Lib.hid (none5_k ha ia)
    have EA := Lib.hid (endless5_k ha ia)
    have ZA := Lib.hid (zero5_k ha ia)
    have NB := Lib.hid (none5_k hb ib)
    have EB := Lib.hid (endless5_k hb ib)
    have ZB := Lib.hid (zero5_k hb ib)
    clear hI ia ib ha hb bb ka
    go_enter Try.func19, Try.ntmps19
    go_wp2
    go_step3
    go_wp2_with (first | (go_at_call 28; (first | (with_reducible refine (NA.out _).mono ?_) | (with_reducible refine (NB.out _).mono ?_)); rintro e w' ⟨rfl, rfl⟩) | (go_at_call 29; (first | (with_reducible refine (EA.out _).mono ?_) | (with_reducible refine (EB.out _).mono ?_)); rintro e w' ⟨rfl, rfl⟩) | (go_at_call 30; (first | (with_reducible refine (ZA.out _).mono ?_) | (with_reducible refine (ZB.out _).mono ?_)); rintro e w' ⟨rfl, rfl⟩))
    all_goals (rw [Exit.noGoto_ret]; go_ret; exact ⟨rfl, Below.refl _ _⟩)
  · rcases kin_cases b with ⟨kb, ib⟩ | ⟨kb, ib⟩ | ⟨kb, ib⟩ | ⟨kb, ib⟩
    · skip
      have hI : modI a b = 9221120237041090560 := by unfold modI; rw [if_pos (by omega)]; rfl
      rw [hI]
      have NA := Lib.hid (none5_k ha ia)
      have EA := Lib.hid (endless5_k ha ia)
      have ZA := Lib.hid (zero5_k ha ia)
      have NB := Lib.hid (none5_k hb ib)
      have EB := Lib.hid (endless5_k hb ib)
      have ZB := Lib.hid (zero5_k hb ib)
      clear hI ia ib ha hb bb ka kb
      go_enter Try.func19, Try.ntmps19
      go_wp2
      go_step3
      go_wp2_with (first | (go_at_call 28; (first | (with_reducible refine (NA.out _).mono ?_) | (with_reducible refine (NB.out _).mono ?_)); rintro e w' ⟨rfl, rfl⟩) | (go_at_call 29; (first | (with_reducible refine (EA.out _).mono ?_) | (with_reducible refine (EB.out _).mono ?_)); rintro e w' ⟨rfl, rfl⟩) | (go_at_call 30; (first | (with_reducible refine (ZA.out _).mono ?_) | (with_reducible refine (ZB.out _).mono ?_)); rintro e w' ⟨rfl, rfl⟩))
      all_goals (rw [Exit.noGoto_ret]; go_ret; exact ⟨rfl, Below.refl _ _⟩)
    · skip
      have hI : modI a b = 9221120237041090560 := by unfold modI; rw [if_pos (by omega)]; rfl
      rw [hI]
      have NA := Lib.hid (none5_k ha ia)
      have EA := Lib.hid (endless5_k ha ia)
      have ZA := Lib.hid (zero5_k ha ia)
      have NB := Lib.hid (none5_k hb ib)
      have EB := Lib.hid (endless5_k hb ib)
      have ZB := Lib.hid (zero5_k hb ib)
      clear hI ia ib ha hb bb ka kb
      go_enter Try.func19, Try.ntmps19
      go_wp2
      go_step3
      go_wp2_with (first | (go_at_call 28; (first | (with_reducible refine (NA.out _).mono ?_) | (with_reducible refine (NB.out _).mono ?_)); rintro e w' ⟨rfl, rfl⟩) | (go_at_call 29; (first | (with_reducible refine (EA.out _).mono ?_) | (with_reducible refine (EB.out _).mono ?_)); rintro e w' ⟨rfl, rfl⟩) | (go_at_call 30; (first | (with_reducible refine (ZA.out _).mono ?_) | (with_reducible refine (ZB.out _).mono ?_)); rintro e w' ⟨rfl, rfl⟩))
      all_goals (rw [Exit.noGoto_ret]; go_ret; exact ⟨rfl, Below.refl _ _⟩)
    · skip
      have hI : modI a b = 9221120237041090560 := by unfold modI; rw [if_pos (by omega)]; rfl
      rw [hI]
      have NA := Lib.hid (none5_k ha ia)
      have EA := Lib.hid (endless5_k ha ia)
      have ZA := Lib.hid (zero5_k ha ia)
      have NB := Lib.hid (none5_k hb ib)
      have EB := Lib.hid (endless5_k hb ib)
      have ZB := Lib.hid (zero5_k hb ib)
      clear hI ia ib ha hb bb ka kb
      go_enter Try.func19, Try.ntmps19
      go_wp2
      go_step3
      go_wp2_with (first | (go_at_call 28; (first | (with_reducible refine (NA.out _).mono ?_) | (with_reducible refine (NB.out _).mono ?_)); rintro e w' ⟨rfl, rfl⟩) | (go_at_call 29; (first | (with_reducible refine (EA.out _).mono ?_) | (with_reducible refine (EB.out _).mono ?_)); rintro e w' ⟨rfl, rfl⟩) | (go_at_call 30; (first | (with_reducible refine (ZA.out _).mono ?_) | (with_reducible refine (ZB.out _).mono ?_)); rintro e w' ⟨rfl, rfl⟩))
      all_goals (rw [Exit.noGoto_ret]; go_ret; exact ⟨rfl, Below.refl _ _⟩)
    · skip
      have hI : modI a b = 9221120237041090560 := by unfold modI; rw [if_pos (by omega)]; rfl
      rw [hI]
      have NA := Lib.hid (none5_k ha ia)
      have EA := Lib.hid (endless5_k ha ia)
      have ZA := Lib.hid (zero5_k ha ia)
      have NB := Lib.hid (none5_k hb ib)
      have EB := Lib.hid (endless5_k hb ib)
      have ZB := Lib.hid (zero5_k hb ib)
      clear hI ia ib ha hb bb ka kb
      go_enter Try.func19, Try.ntmps19
      go_wp2
      go_step3
      go_wp2_with (first | (go_at_call 28; (first | (with_reducible refine (NA.out _).mono ?_) | (with_reducible refine (NB.out _).mono ?_)); rintro e w' ⟨rfl, rfl⟩) | (go_at_call 29; (first | (with_reducible refine (EA.out _).mono ?_) | (with_reducible refine (EB.out _).mono ?_)); rintro e w' ⟨rfl, rfl⟩) | (go_at_call 30; (first | (with_reducible refine (ZA.out _).mono ?_) | (with_reducible refine (ZB.out _).mono ?_)); rintro e w' ⟨rfl, rfl⟩))
      all_goals (rw [Exit.noGoto_ret]; go_ret; exact ⟨rfl, Below.refl _ _⟩)
  · rcases kin_cases b with ⟨kb, ib⟩ | ⟨kb, ib⟩ | ⟨kb, ib⟩ | ⟨kb, ib⟩
    · skip
      have hI : modI a b = 9221120237041090560 := by unfold modI; rw [if_pos (by omega)]; rfl
      rw [hI]
      have NA := Lib.hid (none5_k ha ia)
      have EA := Lib.hid (endless5_k ha ia)
      have ZA := Lib.hid (zero5_k ha ia)
      have NB := Lib.hid (none5_k hb ib)
      have EB := Lib.hid (endless5_k hb ib)
      have ZB := Lib.hid (zero5_k hb ib)
      clear hI ia ib ha hb bb ka kb
      go_enter Try.func19, Try.ntmps19
      go_wp2
      go_step3
      go_wp2_with (first | (go_at_call 28; (first | (with_reducible refine (NA.out _).mono ?_) | (with_reducible refine (NB.out _).mono ?_)); rintro e w' ⟨rfl, rfl⟩) | (go_at_call 29; (first | (with_reducible refine (EA.out _).mono ?_) | (with_reducible refine (EB.out _).mono ?_)); rintro e w' ⟨rfl, rfl⟩) | (go_at_call 30; (first | (with_reducible refine (ZA.out _).mono ?_) | (with_reducible refine (ZB.out _).mono ?_)); rintro e w' ⟨rfl, rfl⟩))
      all_goals (rw [Exit.noGoto_ret]; go_ret; exact ⟨rfl, Below.refl _ _⟩)
    · skip
      have hI : modI a b = a := by unfold modI; rw [if_neg (by omega), if_pos (by omega)]
      rw [hI]
      have NA := Lib.hid (none5_k ha ia)
      have EA := Lib.hid (endless5_k ha ia)
      have ZA := Lib.hid (zero5_k ha ia)
      have NB := Lib.hid (none5_k hb ib)
      have EB := Lib.hid (endless5_k hb ib)
      have ZB := Lib.hid (zero5_k hb ib)
      clear hI ia ib ha hb bb ka kb
      go_enter Try.func19, Try.ntmps19
      go_wp2
      go_step3
      go_wp2_with (first | (go_at_call 28; (first | (with_reducible refine (NA.out _).mono ?_) | (with_reducible refine (NB.out _).mono ?_)); rintro e w' ⟨rfl, rfl⟩) | (go_at_call 29; (first | (with_reducible refine (EA.out _).mono ?_) | (with_reducible refine (EB.out _).mono ?_)); rintro e w' ⟨rfl, rfl⟩) | (go_at_call 30; (first | (with_reducible refine (ZA.out _).mono ?_) | (with_reducible refine (ZB.out _).mono ?_)); rintro e w' ⟨rfl, rfl⟩))
      all_goals (rw [Exit.noGoto_ret]; go_ret; exact ⟨rfl, Below.refl _ _⟩)
    · skip
      have hI : modI a b = 9221120237041090560 := by unfold modI; rw [if_pos (by omega)]; rfl
      rw [hI]
      have NA := Lib.hid (none5_k ha ia)
      have EA := Lib.hid (endless5_k ha ia)
      have ZA := Lib.hid (zero5_k ha ia)
      have NB := Lib.hid (none5_k hb ib)
      have EB := Lib.hid (endless5_k hb ib)
      have ZB := Lib.hid (zero5_k hb ib)
      clear hI ia ib ha hb bb ka kb
      go_enter Try.func19, Try.ntmps19
      go_wp2
      go_step3
      go_wp2_with (first | (go_at_call 28; (first | (with_reducible refine (NA.out _).mono ?_) | (with_reducible refine (NB.out _).mono ?_)); rintro e w' ⟨rfl, rfl⟩) | (go_at_call 29; (first | (with_reducible refine (EA.out _).mono ?_) | (with_reducible refine (EB.out _).mono ?_)); rintro e w' ⟨rfl, rfl⟩) | (go_at_call 30; (first | (with_reducible refine (ZA.out _).mono ?_) | (with_reducible refine (ZB.out _).mono ?_)); rintro e w' ⟨rfl, rfl⟩))
      all_goals (rw [Exit.noGoto_ret]; go_ret; exact ⟨rfl, Below.refl _ _⟩)
    · skip
      have hI : modI a b = a := by unfold modI; rw [if_neg (by omega), if_pos (by omega)]
      rw [hI]
      have NA := Lib.hid (none5_k ha ia)
      have EA := Lib.hid (endless5_k ha ia)
      have ZA := Lib.hid (zero5_k ha ia)
      have NB := Lib.hid (none5_k hb ib)
      have EB := Lib.hid (endless5_k hb ib)
      have ZB := Lib.hid (zero5_k hb ib)
      clear hI ia ib ha hb bb ka kb
      go_enter Try.func19, Try.ntmps19
      go_wp2
      go_step3
      go_wp2_with (first | (go_at_call 28; (first | (with_reducible refine (NA.out _).mono ?_) | (with_reducible refine (NB.out _).mono ?_)); rintro e w' ⟨rfl, rfl⟩) | (go_at_call 29; (first | (with_reducible refine (EA.out _).mono ?_) | (with_reducible refine (EB.out _).mono ?_)); rintro e w' ⟨rfl, rfl⟩) | (go_at_call 30; (first | (with_reducible refine (ZA.out _).mono ?_) | (with_reducible refine (ZB.out _).mono ?_)); rintro e w' ⟨rfl, rfl⟩))
      all_goals (rw [Exit.noGoto_ret]; go_ret; exact ⟨rfl, Below.refl _ _⟩)
  · rcases kin_cases b with ⟨kb, ib⟩ | ⟨kb, ib⟩ | ⟨kb, ib⟩ | ⟨kb, ib⟩
    · skip
      have hI : modI a b = 9221120237041090560 := by unfold modI; rw [if_pos (by omega)]; rfl
      rw [hI]
      have NA := Lib.hid (none5_k ha ia)
      have EA := Lib.hid (endless5_k ha ia)
      have ZA := Lib.hid (zero5_k ha ia)
      have NB := Lib.hid (none5_k hb ib)
      have EB := Lib.hid (endless5_k hb ib)
      have ZB := Lib.hid (zero5_k hb ib)
      clear hI ia ib ha hb bb ka kb
      go_enter Try.func19, Try.ntmps19
      go_wp2
      go_step3
      go_wp2_with (first | (go_at_call 28; (first | (with_reducible refine (NA.out _).mono ?_) | (with_reducible refine (NB.out _).mono ?_)); rintro e w' ⟨rfl, rfl⟩) | (go_at_call 29; (first | (with_reducible refine (EA.out _).mono ?_) | (with_reducible refine (EB.out _).mono ?_)); rintro e w' ⟨rfl, rfl⟩) | (go_at_call 30; (first | (with_reducible refine (ZA.out _).mono ?_) | (with_reducible refine (ZB.out _).mono ?_)); rintro e w' ⟨rfl, rfl⟩))
      all_goals (rw [Exit.noGoto_ret]; go_ret; exact ⟨rfl, Below.refl _ _⟩)
    · skip
      have hI : modI a b = a := by unfold modI; rw [if_neg (by omega), if_pos (by omega)]
      rw [hI]
      have NA := Lib.hid (none5_k ha ia)
      have EA := Lib.hid (endless5_k ha ia)
      have ZA := Lib.hid (zero5_k ha ia)
      have NB := Lib.hid (none5_k hb ib)
      have EB := Lib.hid (endless5_k hb ib)
      have ZB := Lib.hid (zero5_k hb ib)
      clear hI ia ib ha hb bb ka kb
      go_enter Try.func19, Try.ntmps19
      go_wp2
      go_step3
      go_wp2_with (first | (go_at_call 28; (first | (with_reducible refine (NA.out _).mono ?_) | (with_reducible refine (NB.out _).mono ?_)); rintro e w' ⟨rfl, rfl⟩) | (go_at_call 29; (first | (with_reducible refine (EA.out _).mono ?_) | (with_reducible refine (EB.out _).mono ?_)); rintro e w' ⟨rfl, rfl⟩) | (go_at_call 30; (first | (with_reducible refine (ZA.out _).mono ?_) | (with_reducible refine (ZB.out _).mono ?_)); rintro e w' ⟨rfl, rfl⟩))
      all_goals (rw [Exit.noGoto_ret]; go_ret; exact ⟨rfl, Below.refl _ _⟩)
    · skip
      have hI : modI a b = 9221120237041090560 := by unfold modI; rw [if_pos (by omega)]; rfl
      rw [hI]
      have NA := Lib.hid (none5_k ha ia)
      have EA := Lib.hid (endless5_k ha ia)
      have ZA := Lib.hid (zero5_k ha ia)
      have NB := Lib.hid (none5_k hb ib)
      have EB := Lib.hid (endless5_k hb ib)
      have ZB := Lib.hid (zero5_k hb ib)
      clear hI ia ib ha hb bb ka kb
      go_enter Try.func19, Try.ntmps19
      go_wp2
      go_step3
      go_wp2_with (first | (go_at_call 28; (first | (with_reducible refine (NA.out _).mono ?_) | (with_reducible refine (NB.out _).mono ?_)); rintro e w' ⟨rfl, rfl⟩) | (go_at_call 29; (first | (with_reducible refine (EA.out _).mono ?_) | (with_reducible refine (EB.out _).mono ?_)); rintro e w' ⟨rfl, rfl⟩) | (go_at_call 30; (first | (with_reducible refine (ZA.out _).mono ?_) | (with_reducible refine (ZB.out _).mono ?_)); rintro e w' ⟨rfl, rfl⟩))
      all_goals (rw [Exit.noGoto_ret]; go_ret; exact ⟨rfl, Below.refl _ _⟩)
    · by_cases h : a % 9223372036854775808 < b % 9223372036854775808
      · exact mod5_less a b w ha hb ka kb ia ib h
      · exact mod5_more a b w ha hb ka kb ia ib h
end Go.Proofs.Ytmjaoeafompclaa
