/-
  M5I: the texts Law5P, Law5Q, Law5R, Law5S, Law5T, Law5U in one (a claim has at most 60 files).
-/
import Derived.Test.YtmjaoeafompclaaM5F

namespace Go.Proofs.Ytmjaoeafompclaa
open Go.RowKit Go.Shelf

theorem kd_4 {x : Int} (h : kd x = 4) : rightI x = NAN := by unfold rightI; rw [if_pos h]
theorem right_id {x : Int} (h : kd x ≠ 4) : rightI x = x := by unfold rightI; rw [if_neg h]
theorem one_p : kd 4607182418800017408 = 2 ∧ sgn 4607182418800017408 = false ∧ (mant 4607182418800017408).toNat = 2 ^ 52 ∧ expo 4607182418800017408 = -52 := by decide
theorem bne_false (b : Bool) : (b != false) = b := by cases b <;> rfl
theorem div_one {a : Int} (ha : Wd a) : divI a 4607182418800017408 = rightI a := by
  obtain ⟨k1, s1, m1, e1⟩ := one_p
  have hk := kd_bd a
  unfold divI
  rw [k1, s1, bne_false]
  by_cases h4 : kd a = 4
  · rw [if_pos (.inl h4), kd_4 h4]
  · rw [right_id h4, if_neg (by omega)]
    by_cases h3 : kd a = 3
    · rw [if_pos (.inl h3)]
      exact (inf_word ha h3).symm
    · rw [if_neg (by omega)]
      by_cases h0 : kd a = 0
      · rw [if_pos (.inl h0)]
        exact (zero_word' ha h0).symm
      · rw [if_neg (by omega), m1, e1]
        have hq : (mant a).toNat * 2 ^ 128 = (mant a).toNat * 2 ^ 76 * 2 ^ 52 := by rw [Nat.mul_assoc, ← Nat.pow_add]
        rw [hq, Nat.mul_div_cancel _ (by decide), Nat.mul_mod_left]
        have := fbits_scale (sgn a) (mant a).toNat 76 (expo a - -52 - 128)
        rw [show expo a - -52 - 128 + (76 : Nat) = expo a by omega, fbits_parts ha (by omega)] at this
        exact this
theorem div_self {a : Int} (ka : kd a = 1 ∨ kd a = 2) : divI a a = 4607182418800017408 := by
  have hm := mant_pos ka
  unfold divI
  rw [if_neg (by omega), if_neg (by omega), if_neg (by omega)]
  have h0 : 0 < (mant a).toNat := by omega
  rw [Nat.mul_div_cancel_left _ h0, Nat.mul_mod_right, show (sgn a != sgn a) = false by cases sgn a <;> rfl, show expo a - expo a - 128 = -128 by omega]
  decide +kernel
theorem div_self_none {a : Int} (ka : ¬ (kd a = 1 ∨ kd a = 2)) : divI a a = 9221120237041090560 := by
  have hk := kd_bd a
  unfold divI
  rw [if_pos (by omega)]
  rfl
theorem sv_one (T : Nat) (hT : 1074 = T) : sv 4607182418800017408 = 2 ^ T := by
  obtain ⟨k1, s1, m1, e1⟩ := one_p
  unfold sv fn
  rw [s1, m1, e1, show ((-52 : Int) + 1074).toNat = T - 52 by omega, ← Nat.pow_add, show 52 + (T - 52) = T by omega]
  unfold sg
  simp
theorem sgn_eq_inf {a b : Int} (ha : Wd a) (hb : Wd b) (h1 : kd a = 3) (h2 : kd b = 3) : a = b ↔ sgn a = sgn b := by
  constructor
  · intro h; rw [h]
  · intro h; rw [inf_word ha h1, inf_word hb h2, h]
theorem sg_eq_zero {s : Bool} {n : Nat} : sg s n = 0 ↔ n = 0 := by unfold sg; cases s <;> simp
theorem fma_one {a b : Int} (ha : Wd a) (hb : Wd b) : fmaI a 4607182418800017408 b = addI a b := by
  obtain ⟨k1, s1, m1, e1⟩ := one_p
  have hka := kd_bd a
  have hkb := kd_bd b
  unfold fmaI
  rw [k1, s1, bne_false]
  by_cases h4 : kd a = 4 ∨ kd b = 4
  · rw [if_pos (by omega)]
    unfold addI
    rw [if_pos h4]
  · by_cases h3 : kd a = 3
    · by_cases g3 : kd b = 3
      · by_cases hs : sgn b ≠ sgn a
        · rw [if_pos (.inr (.inr (.inr (.inr ⟨.inl h3, g3, hs⟩))))]
          unfold addI
          rw [if_neg h4, if_pos h3, if_pos ⟨g3, fun h => hs ((sgn_eq_inf ha hb h3 g3).1 h).symm⟩]
        · rw [if_neg (by rintro (g | g | g | g | ⟨_, _, g⟩) <;> first | omega | exact hs g), if_pos (.inl h3)]
          have hab : a = b := (sgn_eq_inf ha hb h3 g3).2 (Decidable.byContradiction fun h => hs (Ne.symm h))
          unfold addI
          rw [if_neg h4, if_pos h3, if_neg (by simp [hab])]
          exact (inf_word ha h3).symm
      · rw [if_neg (by omega), if_pos (.inl h3)]
        unfold addI
        rw [if_neg h4, if_pos h3, if_neg (by simp [g3])]
        exact (inf_word ha h3).symm
    · rw [if_neg (by omega), if_neg (by omega)]
      by_cases g3 : kd b = 3
      · rw [if_pos g3]
        unfold addI
        rw [if_neg h4, if_neg h3, if_pos g3]
      · rw [if_neg g3]
        by_cases h0 : kd a = 0
        · rw [fma_zero ha wd_one hb (.inl h0) (by omega), s1, bne_false, ← zero_word' ha h0]
        · obtain ⟨T, hT⟩ : ∃ T : Nat, 1074 = T := ⟨_, rfl⟩
          have hf : fsum a 4607182418800017408 b = (sv a + sv b) * 2 ^ T := by
            unfold fsum
            rw [hT, sv_one T hT, Int.add_mul]
          unfold fmaF
          rw [hf, addI_fin (by omega) (by omega) (.inl h0)]
          by_cases hS : sv a + sv b = 0
          · rw [hS, Int.zero_mul, if_pos rfl, if_neg (by omega), rnd_zero]
          · have hp : (2 : Int) ^ T ≠ 0 := Int.ne_of_gt (Int.pow_pos (by decide))
            rw [if_neg (Int.mul_ne_zero hS hp)]
            exact fbits_units (k := T) (l := -1074) (by omega)
theorem fma_none {a b : Int} (ha : Wd a) (hb : Wd b) : fmaI a b 9223372036854775808 = mulI a b := by
  have kz : kd 9223372036854775808 = 0 := by decide
  have sz : sgn 9223372036854775808 = true := by decide
  have hka := kd_bd a
  have hkb := kd_bd b
  unfold fmaI mulI
  rw [kz]
  by_cases h : kd a = 4 ∨ kd b = 4 ∨ (kd a = 3 ∧ kd b = 0) ∨ (kd a = 0 ∧ kd b = 3)
  · rw [if_pos (by omega), if_pos h]
  · rw [if_neg (by omega), if_neg h]
    by_cases h3 : kd a = 3 ∨ kd b = 3
    · rw [if_pos h3, if_pos h3]
    · rw [if_neg h3, if_neg h3, if_neg (by decide)]
      have ea := expo_bd (x := a)
      have eb := expo_bd (x := b)
      have ma := mant_bd (x := a)
      have mb := mant_bd (x := b)
      have hf : fsum a b 9223372036854775808 = sg (sgn a != sgn b) (fn a * fn b) := by
        unfold fsum
        rw [sv_zero ⟨by decide, by decide⟩ kz, Int.zero_mul, Int.add_zero]
        unfold sv
        exact sg_mul _ _ _ _
      have hP : (mant a * mant b).toNat = (mant a).toNat * (mant b).toNat := by
        obtain ⟨p, hp⟩ := Int.eq_ofNat_of_zero_le ma.1
        obtain ⟨q, hq⟩ := Int.eq_ofNat_of_zero_le mb.1
        rw [hp, hq]
        have : (p : Int) * (q : Int) = ((p * q : Nat) : Int) := by simp
        rw [this]; rfl
      have hN : fn a * fn b = (mant a).toNat * (mant b).toNat * 2 ^ ((expo a + 1074).toNat + (expo b + 1074).toNat) := by
        unfold fn; rw [Nat.pow_add]; grind
      unfold fmaF
      rw [hf, hP]
      by_cases hz : fn a * fn b = 0
      · have hz2 : (mant a).toNat * (mant b).toNat = 0 := by
          rw [hN] at hz
          exact (Nat.mul_eq_zero.1 hz).resolve_right (Nat.ne_of_gt (Nat.two_pow_pos _))
        have hk0 : kd a = 0 ∨ kd b = 0 := by
          rcases Nat.mul_eq_zero.1 hz with g | g
          · left
            by_cases q : kd a = 0
            · exact q
            · exact absurd g (fn_ne ha (by omega) q)
          · right
            by_cases q : kd b = 0
            · exact q
            · exact absurd g (fn_ne hb (by omega) q)
        rw [hz, hz2, sg_zero, if_pos rfl, kz, sz]
        unfold fbits
        rw [mag_zero]
        cases (sgn a != sgn b)
        · rw [if_neg (by simp)]; rfl
        · rw [if_pos ⟨hk0, rfl, rfl, rfl⟩]; rfl
      · rw [if_neg (fun g => hz (sg_eq_zero.1 g)), sg_sign hz, sg_abs, hN, fbits_scale]
        congr 1; omega
end Go.Proofs.Ytmjaoeafompclaa

namespace Go.Proofs.Ytmjaoeafompclaa
open Go.RowKit Go.Shelf

/-- A number of a sign and of bits below the endless ones'. -/
theorem num_facts (s : Bool) {x : Nat} (h : x < Pl.INF) : Wd (sb s + (x : Int)) ∧ sgn (sb s + (x : Int)) = s ∧ (sb s + (x : Int)) % 9223372036854775808 = x ∧ kd (sb s + (x : Int)) ≤ 2 ∧ fn (sb s + (x : Int)) = Pl.V x ∧ (kd (sb s + (x : Int)) = 0 ↔ x = 0) := by
  rw [Pl.INF_eq] at h
  have hw : Wd (sb s + (x : Int)) := by unfold sb; cases s <;> exact ⟨by simp <;> omega, by simp <;> omega⟩
  have hs : sgn (sb s + (x : Int)) = s := by
    unfold sgn sb
    cases s
    · simp; omega
    · simp; omega
  have hl : (sb s + (x : Int)) % 9223372036854775808 = x := by unfold sb; cases s <;> simp <;> omega
  have hk : kd (sb s + (x : Int)) ≤ 2 := by
    have : (sb s + (x : Int)) / 4503599627370496 % 2048 ≠ 2047 := by unfold sb; cases s <;> simp <;> omega
    unfold kd
    rw [if_neg this]
    (repeat' split) <;> omega
  refine ⟨hw, hs, hl, hk, ?_, ?_⟩
  · rw [← V_fn hw hk, hl, Int.toNat_natCast]
  · constructor
    · intro g
      have := zero_word' hw g
      rw [hs] at this
      omega
    · intro g
      subst g
      have e : sb s + ((0 : Nat) : Int) = sb s := by omega
      rw [e]
      exact kd_sb s
theorem mod_form {a b : Int} (ha : Wd a) (hb : Wd b) (ka : kd a ≤ 2) (kb : kd b = 1 ∨ kd b = 2) : ∃ x, modI a b = sb (sgn a) + ((x : Nat) : Int) ∧ Pl.V x = fn a % fn b ∧ x < Pl.INF := by
  have hbn := fn_ne hb (by omega) (by omega)
  have hka := kd_bd a
  by_cases h0 : kd a = 0
  · refine ⟨0, ?_, ?_, by decide⟩
    · unfold modI
      rw [if_neg (by omega), if_pos (.inl h0)]
      have := zero_word' ha h0
      omega
    · have hf : fn a = 0 := by
        have := sv_zero ha h0
        unfold sv at this
        exact sg_eq_zero.1 this
      rw [hf, Nat.zero_mod, Pl.V_zero]
  · have hI : modI a b = fbits (sgn a) (fn a % fn b) (-1074) false := by
      unfold modI
      rw [if_neg (by omega), if_neg (by omega)]
    have key : ∃ x, Pl.V x = fn a % fn b := by
      have hVa := V_fn ha ka
      have hVb := V_fn hb (by omega)
      by_cases hlt : fn a < fn b
      · rw [Nat.mod_eq_of_lt hlt]
        exact ⟨_, hVa⟩
      · have hle : (b % 9223372036854775808).toNat ≤ (a % 9223372036854775808).toNat := by
          rw [← hVa, ← hVb] at hlt
          exact Pl.V_le_iff.1 (by omega)
        have he := expo_le ha hb ka (by omega) (by omega)
        have hb1 := expo_bd (x := b)
        have mb := mant_bd (x := b)
        have mb0 := mant_pos kb
        obtain ⟨j, hj⟩ : ∃ j : Nat, expo a = expo b + j := ⟨(expo a - expo b).toNat, by omega⟩
        obtain ⟨k, hk⟩ : ∃ k : Nat, expo b + 1074 = k := ⟨(expo b + 1074).toNat, by omega⟩
        have e1 : fn a % fn b = (mant a).toNat * 2 ^ j % (mant b).toNat * 2 ^ k := by
          unfold fn
          rw [show (expo a + 1074).toNat = j + k by omega, show (expo b + 1074).toNat = k by omega, Nat.pow_add, ← Nat.mul_assoc, Nat.mul_mod_mul_right]
        rw [e1]
        have := Nat.mod_lt ((mant a).toNat * 2 ^ j) (show 0 < (mant b).toNat by omega)
        exact V_rep k _ (by omega)
    obtain ⟨x, hx⟩ := key
    have hxI : x < Pl.INF := by
      have h1 : Pl.V x < fn b := by rw [hx]; exact Nat.mod_lt _ (by omega)
      rw [← V_fn hb (by omega)] at h1
      exact Nat.lt_trans (Pl.V_lt_iff.1 h1) (low_inf hb (by omega))
    refine ⟨x, ?_, hx, hxI⟩
    rw [hI, ← hx]
    unfold fbits
    rw [mag_V (Nat.le_of_lt hxI)]
theorem mod_nan {a b : Int} (ha : Wd a) (hb : Wd b) (h : ¬ (3 ≤ kd a ∨ kd b = 4 ∨ kd b = 0)) : modI a b ≠ 9221120237041090560 := by
  have hka := kd_bd a
  have hkb := kd_bd b
  have kn : kd 9221120237041090560 = 4 := by decide
  by_cases h3 : kd b = 3
  · have hI : modI a b = a := by unfold modI; rw [if_neg (by omega), if_pos (.inr h3)]
    rw [hI]
    intro g
    rw [g] at h
    omega
  · obtain ⟨x, h1, _, h2⟩ := mod_form ha hb (by omega) (show kd b = 1 ∨ kd b = 2 by omega)
    intro g
    have := (num_facts (sgn a) h2).2.2.2.1
    rw [← h1, g, kn] at this
    omega
theorem mod_far {a b : Int} (h : ¬ 3 ≤ kd a) (h3 : kd b = 3) : modI a b = a := by unfold modI; rw [if_neg (by omega), if_pos (.inr h3)]
/-- All that RootSmalls says of a finite number and divisor. -/
theorem mod_small {a b : Int} (ha : Wd a) (hb : Wd b) (ka : kd a ≤ 2) (kb : kd b = 1 ∨ kd b = 2) :
    Wd (modI a b) ∧ modI a b % 9223372036854775808 < b % 9223372036854775808 ∧ modI a b % 9223372036854775808 ≤ a % 9223372036854775808 ∧ modI a b / 9223372036854775808 = a / 9223372036854775808 ∧ modI (modI a b) b = modI a b ∧ modI a (negI b) = modI a b := by
  obtain ⟨x, h1, hV, hx⟩ := mod_form ha hb ka kb
  obtain ⟨f1, f2, f3, f4, f5, f6⟩ := num_facts (sgn a) hx
  have hka := kd_bd a
  have hbn := fn_ne hb (by omega) (by omega)
  have hlt : Pl.V x < fn b := by rw [hV]; exact Nat.mod_lt _ (by omega)
  have hle : Pl.V x ≤ fn a := by rw [hV]; exact Nat.mod_le _ _
  have hVa := V_fn ha ka
  have hVb := V_fn hb (by omega)
  have l1 : x < (b % 9223372036854775808).toNat := Pl.V_lt_iff.1 (by rw [hVb]; exact hlt)
  have l2 : x ≤ (a % 9223372036854775808).toNat := Pl.V_le_iff.1 (by rw [hVa]; exact hle)
  have hagain : modI (modI a b) b = modI a b := by
    have hr := f1
    rw [← h1] at f1 f2 f4 f5 f6
    obtain ⟨y, g1, gV, gy⟩ := mod_form f1 hb f4 kb
    rw [f5, Nat.mod_eq_of_lt hlt] at gV
    rw [g1, f2, Pl.V_inj gV, ← h1]
  have hneg : modI a (negI b) = modI a b := by
    have hb4 : kd b ≠ 4 := by omega
    unfold modI
    rw [kd_neg hb hb4, fn_neg hb hb4]
  refine ⟨by rw [h1]; exact f1, by rw [h1, f3]; omega, by rw [h1, f3]; omega, ?_, hagain, hneg⟩
  have t1 := top_bit ha
  have t2 := top_bit f1
  rw [h1, t1, t2, f2]
end Go.Proofs.Ytmjaoeafompclaa

namespace Go.Proofs.Ytmjaoeafompclaa
open Go.RowKit Go.Shelf

theorem rne_near (N : Nat) {k : Nat} (hk : 1 ≤ k) (more : Bool) (hm : more = false) : (Pl.rne N k more * 2 ^ k ≤ N + 2 ^ (k - 1)) ∧ (N ≤ Pl.rne N k more * 2 ^ k + 2 ^ (k - 1)) := by
  subst hm
  obtain ⟨j, rfl⟩ : ∃ j, k = j + 1 := ⟨k - 1, by omega⟩
  rw [Nat.add_sub_cancel]
  have e1 : N / 2 ^ (j + 1) = N / 2 ^ j / 2 := by rw [Nat.pow_succ, Nat.div_div_eq_div_mul]
  have hN := Nat.div_add_mod N (2 ^ j)
  have hr := Nat.mod_lt N (Nat.two_pow_pos j)
  have e2 : (2 : Nat) ^ (j + 1) = 2 ^ j * 2 := Nat.pow_succ _ _
  unfold Pl.rne
  rw [Nat.add_sub_cancel, e1, e2]
  generalize 2 ^ j = P at *
  generalize N / P = q at *
  generalize N % P = r at *
  subst hN
  have hq := Nat.div_add_mod q 2
  generalize q / 2 = h at *
  by_cases hb : q % 2 = 1
  · by_cases hc : r ≠ 0 ∨ false = true ∨ h % 2 = 1
    · rw [if_pos ⟨hb, hc⟩, ← hq, hb]
      have : P * (2 * h + 1) = 2 * (h * P) + P := by grind
      have h2 : (h + 1) * (P * 2) = 2 * (h * P) + 2 * P := by grind
      omega
    · rw [if_neg (fun g => hc g.2), ← hq, hb]
      have : P * (2 * h + 1) = 2 * (h * P) + P := by grind
      have h2 : (h + 0) * (P * 2) = 2 * (h * P) := by grind
      have h3 : r = 0 := by
        rcases Nat.eq_zero_or_pos r with g | g
        · exact g
        · exact absurd (.inl (by omega)) hc
      omega
  · have hb0 : q % 2 = 0 := by omega
    rw [if_neg (fun g => hb g.1), ← hq, hb0]
    have : P * (2 * h + 0) = 2 * (h * P) := by grind
    have h2 : (h + 0) * (P * 2) = 2 * (h * P) := by grind
    omega
/-- A product of two numbers of 53 bits, rounded; what is left. -/
theorem left_at {T : Nat} (h1 : 2 ^ 104 ≤ T) (h2 : T < 2 ^ 106) : ∃ R d : Nat, Pl.mag T (-104) false = R ∧ R < Pl.INF ∧ 0 < R ∧ d ≤ 2 ^ 52 ∧ ∃ V : Nat, Pl.V R = V * 2 ^ 970 ∧ (T = V + d ∨ V = T + d) := by
  have hT0 : T ≠ 0 := by intro g; rw [g] at h1; exact absurd h1 (by decide)
  have hb1 : 104 < Pl.bl T := Pl.lt_bl_of_le h1
  have hb2 : Pl.bl T ≤ 106 := Pl.bl_le_of_lt h2
  obtain ⟨k, hk⟩ : ∃ k, Pl.bl T = k + 53 := ⟨Pl.bl T - 53, by omega⟩
  have hu : Pl.un T (-104) = (k : Int) - 104 := by unfold Pl.un; omega
  have hlo := Pl.two_bl_le hT0
  have hhi := Pl.lt_two_bl T
  rw [hk] at hlo hhi
  have hmag : Pl.mag T (-104) false = min Pl.INF ((k + 970) * 2 ^ 52 + Pl.rne T k false) := by
    unfold Pl.mag
    rw [if_neg hT0, hu, if_neg (by omega), show ((k : Int) - 104 + 1074).toNat = k + 970 by omega, show ((k : Int) - 104 - -104).toNat = k by omega]
  obtain ⟨n1, n2⟩ := rne_near T (k := k) (by omega) false rfl
  have hm : 2 ^ 52 ≤ Pl.rne T k false ∧ Pl.rne T k false ≤ 2 ^ 53 := by
    have hp := Nat.two_pow_pos k
    constructor
    · have : 2 ^ 52 ≤ T / 2 ^ k := by
        rw [Nat.le_div_iff_mul_le hp, ← Nat.pow_add]
        rw [show 52 + k = k + 53 - 1 by omega]
        exact hlo
      unfold Pl.rne
      omega
    · have : T / 2 ^ k < 2 ^ 53 := by
        rw [Nat.div_lt_iff_lt_mul hp, ← Nat.pow_add, show 53 + k = k + 53 by omega]
        exact hhi
      unfold Pl.rne
      split <;> omega
  obtain ⟨m, hme⟩ : ∃ m, Pl.rne T k false = m := ⟨_, rfl⟩
  rw [hme] at hmag n1 n2 hm
  have hI : (k + 970) * 2 ^ 52 + m < Pl.INF := by rw [Pl.INF_eq]; omega
  have hV := Pl.V_at (j := k + 970) (t := m) hm.2 (.inr hm.1)
  have hd : 2 ^ (k - 1) ≤ 2 ^ 52 := Nat.pow_le_pow_right (by decide) (by omega)
  refine ⟨(k + 970) * 2 ^ 52 + m, if m * 2 ^ k ≤ T then T - m * 2 ^ k else m * 2 ^ k - T, by rw [hmag, Nat.min_eq_right (Nat.le_of_lt hI)], hI, by omega, ?_, m * 2 ^ k, ?_, ?_⟩
  · split <;> omega
  · rw [hV, Nat.pow_add, Nat.mul_assoc]
  · by_cases g : m * 2 ^ k ≤ T
    · rw [if_pos g]; left; omega
    · rw [if_neg g]; right; omega
theorem frac_facts {x : Int} (h0 : 4607182418800017408 ≤ x) (h1 : x < 4611686018427387904) : Wd x ∧ kd x = 2 ∧ sgn x = false ∧ expo x = -52 ∧ ∃ m : Nat, mant x = m ∧ 2 ^ 52 ≤ m ∧ m < 2 ^ 53 := by
  have hk : kd x = 2 := by unfold kd; (repeat' split) <;> omega
  refine ⟨⟨by omega, by omega⟩, hk, ?_, ?_, ?_⟩
  · unfold sgn; exact decide_eq_false (by omega)
  · unfold expo; rw [if_neg (by omega), if_pos hk]; omega
  · refine ⟨(mant x).toNat, ?_, ?_, ?_⟩ <;> (unfold mant; rw [if_neg (by omega), if_pos hk]; omega)
theorem left_facts {x y : Int} (hx0 : 4607182418800017408 ≤ x) (hx1 : x < 4611686018427387904) (hy0 : 4607182418800017408 ≤ y) (hy1 : y < 4611686018427387904) :
    Wd (mulI x y) ∧ kd (mulI x y) ≤ 2 ∧ Wd (fmaI x y (negI (mulI x y))) ∧ addI (mulI x y) (fmaI x y (negI (mulI x y))) = mulI x y ∧ fmaI x y (negI (mulI x y)) % 9223372036854775808 ≤ 4372995238176751616 := by
  obtain ⟨wx, kx, sx, ex, m, hm, m1, m2⟩ := frac_facts hx0 hx1
  obtain ⟨wy, ky, sy, ey, n, hn, n1, n2⟩ := frac_facts hy0 hy1
  have hT1 : 2 ^ 104 ≤ m * n := Nat.le_trans (by decide) (Nat.mul_le_mul m1 n1)
  have hT2 : m * n < 2 ^ 106 := Nat.lt_of_lt_of_le (Nat.mul_lt_mul_of_lt_of_le m2 (Nat.le_of_lt n2) (by decide)) (by decide)
  obtain ⟨R, d, hmag, hRI, hR0, hd, V, hV, hor⟩ := left_at hT1 hT2
  obtain ⟨P, hP0⟩ : ∃ P : Nat, 970 = P := ⟨_, rfl⟩
  obtain ⟨T, hT0⟩ : ∃ T : Nat, 1074 = T := ⟨_, rfl⟩
  rw [hP0] at hV
  have hp : mulI x y = sb false + ((R : Nat) : Int) := by
    unfold mulI
    rw [if_neg (by omega), if_neg (by omega), sx, sy, hm, hn, ex, ey]
    have : ((m : Int) * (n : Int)).toNat = m * n := by
      have : (m : Int) * (n : Int) = ((m * n : Nat) : Int) := by simp
      rw [this, Int.toNat_natCast]
    rw [this]
    unfold fbits
    rw [show (-52 : Int) + -52 = -104 by decide, hmag]; rfl
  obtain ⟨p1, p2, p3, p4, p5, p6⟩ := num_facts false hRI
  rw [← hp] at p1 p2 p3 p4 p5 p6
  have hp4 : kd (mulI x y) ≠ 4 := by omega
  have hp0 : kd (mulI x y) ≠ 0 := fun g => by have := p6.1 g; omega
  have svp : sv (mulI x y) = ((V * 2 ^ P : Nat) : Int) := by unfold sv sg; rw [p2, p5, hV]; simp
  have hfx : fn x * fn y = m * n * 2 ^ P * 2 ^ T := by
    unfold fn
    rw [hm, hn, ex, ey, Int.toNat_natCast, Int.toNat_natCast, show ((-52 : Int) + 1074).toNat = T - 52 by omega]
    have : (2 : Nat) ^ P * 2 ^ T = 2 ^ (T - 52) * 2 ^ (T - 52) := by rw [← Nat.pow_add, ← Nat.pow_add]; congr 1; omega
    rw [Nat.mul_assoc (m * n), this]; grind
  have hkn : kd (negI (mulI x y)) ≤ 2 := by rw [kd_neg p1 hp4]; exact p4
  have hfs : fsum x y (negI (mulI x y)) = (((m * n * 2 ^ P : Nat) : Int) - ((V * 2 ^ P : Nat) : Int)) * 2 ^ T := by
    unfold fsum
    rw [hT0, sv_neg p1 hp4, svp]
    unfold sv
    rw [sg_mul, sx, sy, hfx]
    have e1 : sg (false != false) (m * n * 2 ^ P * 2 ^ T) = ((m * n * 2 ^ P : Nat) : Int) * 2 ^ T := by
      unfold sg; simp
    rw [e1, Int.sub_mul, Int.neg_mul]
    omega
  -- what is left, as a number of a sign
  obtain ⟨z, hz⟩ := V_rep P d (Nat.lt_of_le_of_lt hd (by decide))
  have hone : Pl.V 4372995238176751616 = 2 ^ 52 * 2 ^ P := by rw [← hP0]; decide +kernel
  have hzle : z ≤ 4372995238176751616 := by
    refine Pl.V_le_iff.1 ?_
    rw [hz, hone]
    exact Nat.mul_le_mul_right _ hd
  have hzI : z < Pl.INF := by rw [Pl.INF_eq]; omega
  have hleft : ∃ s : Bool, fmaI x y (negI (mulI x y)) = sb s + ((z : Nat) : Int) ∧ sg s (d * 2 ^ P) = ((m * n * 2 ^ P : Nat) : Int) - ((V * 2 ^ P : Nat) : Int) := by
    have hI : fmaI x y (negI (mulI x y)) = fmaF x y (negI (mulI x y)) := by
      unfold fmaI
      rw [if_neg (by omega), if_neg (by omega), if_neg (by omega)]
    rw [hI]
    unfold fmaF
    rw [hfs]
    have hP : (2 : Int) ^ T ≠ 0 := Int.ne_of_gt (Int.pow_pos (by decide))
    by_cases h0 : d = 0
    · subst h0
      have hVT : m * n = V := by omega
      refine ⟨false, ?_, ?_⟩
      · rw [hVT, Int.sub_self, Int.zero_mul, if_pos rfl, if_neg (by omega)]
        have : z = 0 := Pl.V_inj (by rw [hz, Pl.V_zero, Nat.zero_mul])
        rw [this]; rfl
      · rw [hVT]; unfold sg; simp
    · have hdp : d * 2 ^ P ≠ 0 := Nat.mul_ne_zero h0 (Nat.ne_of_gt (Nat.two_pow_pos _))
      have key : ∃ s : Bool, sg s (d * 2 ^ P) = ((m * n * 2 ^ P : Nat) : Int) - ((V * 2 ^ P : Nat) : Int) := by
        rcases hor with g | g
        · refine ⟨false, ?_⟩
          rw [g, Nat.add_mul]; unfold sg; simp; omega
        · refine ⟨true, ?_⟩
          rw [g, Nat.add_mul]; unfold sg; simp; omega
      obtain ⟨s, hs⟩ := key
      refine ⟨s, ?_, hs⟩
      have hne : ((m * n * 2 ^ P : Nat) : Int) - ((V * 2 ^ P : Nat) : Int) ≠ 0 := by rw [← hs]; exact fun g => hdp (sg_eq_zero.1 g)
      rw [if_neg (Int.mul_ne_zero hne hP), fbits_units (k := T) (l := -1074) (by omega), ← hs, sg_sign hdp, sg_abs, ← hz]
      unfold fbits
      rw [mag_V (Nat.le_of_lt hzI)]
  obtain ⟨s, hl, hsv⟩ := hleft
  obtain ⟨q1, q2, q3, q4, q5, q6⟩ := num_facts s hzI
  rw [← hl] at q1 q2 q3 q4 q5
  refine ⟨p1, p4, q1, ?_, by rw [q3]; omega⟩
  rw [addI_fin p4 q4 (.inl hp0), svp]
  have svl : sv (fmaI x y (negI (mulI x y))) = ((m * n * 2 ^ P : Nat) : Int) - ((V * 2 ^ P : Nat) : Int) := by
    unfold sv
    rw [q2, q5, hz, hsv]
  rw [svl, show ((V * 2 ^ P : Nat) : Int) + (((m * n * 2 ^ P : Nat) : Int) - ((V * 2 ^ P : Nat) : Int)) = ((m * n * 2 ^ P : Nat) : Int) by omega, hp]
  unfold rnd
  rw [Int.natAbs_natCast, decide_eq_false (by omega), fbits_scale, show (-1074 : Int) + (P : Nat) = -104 by omega]
  unfold fbits
  rw [hmag]
end Go.Proofs.Ytmjaoeafompclaa

namespace Go.Proofs.Ytmjaoeafompclaa
open Go.RowKit Go.Shelf

/-- A number of 26 bits at an even place. -/
structure Sq (x : Int) (c : Nat) (k : Int) : Prop where
  wd : Wd x
  ek : kd x = 2
  es : sgn x = false
  em : (mant x).toNat = c * 2 ^ 27
  ee : expo x = k - 52
  lo : 2 ^ 25 ≤ c
  hi : c < 2 ^ 26
  k0 : -400 < k
  k1 : k < 400
theorem sq_at {a k : Int} (h0 : -400 < k) (h1 : k < 400) (a0 : 0 ≤ a) (a1 : a < 33554432) : Sq ((1023 + k) * 4503599627370496 + a * 134217728) (2 ^ 25 + a.toNat) k := by
  obtain ⟨x, hx⟩ : ∃ x, (1023 + k) * 4503599627370496 + a * 134217728 = x := ⟨_, rfl⟩
  rw [hx]
  have e1 : x / 4503599627370496 = 1023 + k := by omega
  have e2 : x % 4503599627370496 = a * 134217728 := by omega
  have hk : kd x = 2 := by
    unfold kd
    rw [if_neg (by omega), if_neg (by omega)]
  refine ⟨⟨by omega, by omega⟩, hk, ?_, ?_, ?_, by omega, by omega, h0, h1⟩
  · unfold sgn; exact decide_eq_false (by omega)
  · unfold mant
    rw [if_neg (by omega), if_pos hk, e2]; omega
  · unfold expo
    rw [if_neg (by omega), if_pos hk, e1]; omega
section
variable {x : Int} {c : Nat} {k : Int}
theorem Sq.self (h : Sq x c k) : fbits false c (k - 25) false = x := by
  have e := fbits_parts h.wd (by have := h.ek; omega)
  rw [h.es, h.em, h.ee, fbits_scale, show k - 52 + (27 : Nat) = k - 25 by omega] at e
  exact e
theorem Sq.square (h : Sq x c k) : ∃ w : Nat, mulI x x = sb false + (w : Int) ∧ w < Pl.INF ∧ Pl.V w = c * c * 2 ^ (2 * k + 1024).toNat ∧ w ≠ 0 := by
  have hk := h.ek
  have h0 := h.k0
  have h1 := h.k1
  have hc := h.hi
  have hc0 := h.lo
  have hm := mant_bd (x := x)
  have hcc : c * c < 2 ^ 53 := Nat.lt_of_lt_of_le (Nat.mul_lt_mul_of_lt_of_le hc (Nat.le_of_lt hc) (by decide)) (by decide)
  obtain ⟨w, hw⟩ := V_rep (2 * k + 1024).toNat (c * c) hcc
  obtain ⟨j, hj⟩ : ∃ j : Nat, 2 * k + 1024 = j := ⟨(2 * k + 1024).toNat, by omega⟩
  rw [hj, Int.toNat_natCast] at hw ⊢
  have hwI : w < Pl.INF := by
    refine Pl.V_lt_iff.1 ?_
    rw [hw]
    obtain ⟨J, hJ⟩ : ∃ J : Nat, 1900 = J := ⟨_, rfl⟩
    have b1 : c * c * 2 ^ j < 2 ^ 53 * 2 ^ J := Nat.lt_of_lt_of_le ((Nat.mul_lt_mul_right (Nat.two_pow_pos j)).2 hcc) (Nat.mul_le_mul_left _ (Nat.pow_le_pow_right (by decide) (by omega)))
    have b2 : (2 : Nat) ^ 53 * 2 ^ J < Pl.V Pl.INF := by rw [← hJ]; decide +kernel
    exact Nat.lt_trans b1 b2
  refine ⟨w, ?_, hwI, hw, ?_⟩
  · unfold mulI
    rw [if_neg (by omega), if_neg (by omega), h.es, h.ee]
    have hP : (mant x * mant x).toNat = c * c * 2 ^ 54 := by
      have : mant x = ((c * 2 ^ 27 : Nat) : Int) := by have := h.em; omega
      rw [this]
      have : ((c * 2 ^ 27 : Nat) : Int) * ((c * 2 ^ 27 : Nat) : Int) = ((c * 2 ^ 27 * (c * 2 ^ 27) : Nat) : Int) := by simp
      rw [this, Int.toNat_natCast, show (54 : Nat) = 27 + 27 by decide, Nat.pow_add]; grind
    rw [hP, fbits_scale]
    have e := fbits_scale (false != false) (c * c) j (-1074)
    rw [show (-1074 : Int) + j = k - 52 + (k - 52) + (54 : Nat) by omega] at e
    rw [← e, ← hw]
    unfold fbits
    rw [mag_V (Nat.le_of_lt hwI)]; rfl
  · intro g
    rw [g, Pl.V_zero] at hw
    have : 0 < c * c * 2 ^ j := Nat.mul_pos (Nat.mul_pos (by omega) (by omega)) (Nat.two_pow_pos j)
    omega
theorem fbits_mag {A : Nat} {e : Int} {B : Nat} {f : Int} {m n : Bool} (h : Pl.mag A e m = Pl.mag B f n) (s : Bool) : fbits s A e m = fbits s B f n := by unfold fbits; rw [h]
theorem Sq.root (h : Sq x c k) : sqrtI (mulI x x) = x ∧ divI (mulI x x) x = x := by
  obtain ⟨w, hp, hwI, hV, hw0⟩ := h.square
  obtain ⟨p1, p2, p3, p4, p5, p6⟩ := num_facts false hwI
  rw [← hp] at p1 p2 p3 p4 p5 p6
  obtain ⟨y, hy⟩ : ∃ y, mulI x x = y := ⟨_, rfl⟩
  rw [hy] at p1 p2 p3 p4 p5 p6 ⊢
  have hself := h.self
  have hk := h.ek
  have k0 := h.k0
  have k1 := h.k1
  have c0 := h.lo
  have hky := kd_bd y
  have hky0 : kd y ≠ 0 := fun g => hw0 (p6.1 g)
  have hkind : kd y = 1 ∨ kd y = 2 := by omega
  have hey := expo_bd (x := y)
  have hmy := mant_pos hkind
  obtain ⟨s, hs⟩ : ∃ s : Nat, expo y + 1074 = s := ⟨(expo y + 1074).toNat, by omega⟩
  obtain ⟨j, hj⟩ : ∃ j : Nat, 2 * k + 1024 = j := ⟨(2 * k + 1024).toNat, by omega⟩
  have hfn : (mant y).toNat * 2 ^ s = c * c * 2 ^ j := by
    have := p5
    rw [hV, hj, Int.toNat_natCast] at this
    unfold fn at this
    rw [hs, Int.toNat_natCast] at this
    exact this
  have hm1 : 1 ≤ (mant y).toNat := by omega
  obtain ⟨m, hm⟩ : ∃ m, (mant y).toNat = m := ⟨_, rfl⟩
  rw [hm] at hm1 hfn
  constructor
  · have hneg : ¬ 9223372036854775808 < y := by
      unfold sgn at p2
      have := of_decide_eq_false p2
      omega
    obtain ⟨K, hK⟩ : ∃ K, sqK (expo y) = K := ⟨_, rfl⟩
    have hK1 : (K = 128 ∨ K = 129) ∧ (expo y - K) % 2 = 0 := by
      rw [← hK]
      unfold sqK
      split
      · exact ⟨.inl rfl, by omega⟩
      · exact ⟨.inr rfl, by omega⟩
    have hI : sqrtI y = fbits false (Pl.rt (m * 2 ^ K)) ((expo y - K) / 2) (decide (Pl.rt (m * 2 ^ K) * Pl.rt (m * 2 ^ K) < m * 2 ^ K)) := by
      unfold sqrtI
      rw [if_neg (by omega), if_neg (by omega), hK, hm]
    rw [hI]
    have b1 : 2 ^ 54 * 2 ^ 54 ≤ m * 2 ^ K := by
      have h2 : 1 * 2 ^ 128 ≤ m * 2 ^ K := Nat.mul_le_mul hm1 (Nat.pow_le_pow_right (by decide) (by omega))
      exact Nat.le_trans (by decide) h2
    have hrt : Pl.rt (c * c * 2 ^ 60) = c * 2 ^ 30 := by
      rw [show c * c * 2 ^ 60 = c * 2 ^ 30 * (c * 2 ^ 30) by rw [show (60 : Nat) = 30 + 30 by decide, Nat.pow_add]; grind]
      exact Pl.rt_sq _
    have b2 : 2 ^ 54 ≤ Pl.rt (c * c * 2 ^ 60) := by
      rw [hrt]
      exact Nat.le_trans (by decide) (Nat.mul_le_mul_right (2 ^ 30) c0)
    have e := rtm_eq (A := m * 2 ^ K) (A' := c * c * 2 ^ 60) (e := (expo y - K) / 2) (e' := k - 55) (rt_ge b1) b2 s (j + K - 60) ?_ ?_
    · unfold rtm at e
      rw [hrt] at e
      have h2 : ¬ c * 2 ^ 30 * (c * 2 ^ 30) < c * c * 2 ^ 60 := by
        have : c * 2 ^ 30 * (c * 2 ^ 30) = c * c * 2 ^ 60 := by rw [show (60 : Nat) = 30 + 30 by decide, Nat.pow_add]; grind
        omega
      rw [decide_eq_false h2] at e
      have e3 := fbits_mag e false
      rw [fbits_scale, show k - 55 + (30 : Nat) = k - 25 by omega, hself] at e3
      exact e3
    · have : 60 ≤ j + K := by omega
      obtain ⟨q, hq⟩ : ∃ q, j + K = q + 60 := ⟨j + K - 60, by omega⟩
      rw [hq, Nat.add_sub_cancel, Nat.mul_assoc m, Nat.mul_comm (2 ^ K), ← Nat.mul_assoc, hfn, Nat.mul_assoc (c * c), ← Nat.pow_add, hq, Nat.pow_add]
      grind
    · omega
  · have hI : divI y x = fbits false (m * 2 ^ 128 / (c * 2 ^ 27)) (expo y - (k - 52) - 128) (decide (0 < m * 2 ^ 128 % (c * 2 ^ 27))) := by
      unfold divI
      rw [if_neg (by omega), if_neg (by omega), if_neg (by omega), p2, h.es, h.em, h.ee, hm]
      rfl
    rw [hI]
    have x0 : 0 < c * 2 ^ 27 := by omega
    have b1 : 2 ^ 54 ≤ m * 2 ^ 128 / (c * 2 ^ 27) := by
      rw [Nat.le_div_iff_mul_le x0]
      have h1 : 2 ^ 54 * (c * 2 ^ 27) ≤ 2 ^ 54 * (2 ^ 26 * 2 ^ 27) := Nat.mul_le_mul_left _ (Nat.mul_le_mul_right _ (Nat.le_of_lt h.hi))
      have h2 : 1 * 2 ^ 128 ≤ m * 2 ^ 128 := Nat.mul_le_mul_right _ hm1
      exact Nat.le_trans h1 (Nat.le_trans (by decide) h2)
    have hq : c * c * 2 ^ 40 / c = c * 2 ^ 40 := by
      rw [Nat.mul_assoc, Nat.mul_div_cancel_left _ (by omega)]
    have hr : c * c * 2 ^ 40 % c = 0 := by rw [Nat.mul_assoc, Nat.mul_mod_right]
    have b2 : 2 ^ 54 ≤ c * c * 2 ^ 40 / c := by
      rw [hq]
      exact Nat.le_trans (by decide) (Nat.mul_le_mul_right (2 ^ 40) c0)
    have e := quo_eq (A := m * 2 ^ 128) (B := c * 2 ^ 27) (A' := c * c * 2 ^ 40) (B' := c) (e := expo y - (k - 52) - 128) (e' := k - 65) x0 (by omega) b1 b2 s (j + 88) 0 27 ?_ (by rw [Nat.pow_zero, Nat.mul_one]) (by omega)
    · unfold quo at e
      rw [hq, hr] at e
      have e3 := fbits_mag e false
      have hd : decide (0 < 0) = false := by decide
      rw [hd, fbits_scale, show k - 65 + (40 : Nat) = k - 25 by omega, hself] at e3
      exact e3
    · rw [Nat.mul_assoc m, Nat.mul_comm (2 ^ 128), ← Nat.mul_assoc, hfn, Nat.mul_assoc (c * c), ← Nat.pow_add, Nat.mul_assoc (c * c), ← Nat.pow_add]
      congr 2; omega
end
end Go.Proofs.Ytmjaoeafompclaa

namespace Go.Proofs.Ytmjaoeafompclaa
open Go.RowKit Go.Shelf

/-- The bits of a power of two. -/
def W2 (j : Int) : Int := (1023 + j) * 4503599627370496
structure IsW (x j : Int) : Prop where
  wd : Wd x
  ek : kd x = 2
  es : sgn x = false
  em : mant x = ((2 ^ 52 : Nat) : Int)
  ee : expo x = j - 52
theorem w2_facts {j : Int} (h0 : -1022 ≤ j) (h1 : j ≤ 1023) : IsW (W2 j) j := by
  obtain ⟨x, hx⟩ : ∃ x, W2 j = x := ⟨_, rfl⟩
  have hx2 : (1023 + j) * 4503599627370496 = x := hx
  rw [hx]
  have hk : kd x = 2 := by
    unfold kd
    rw [if_neg (by omega), if_neg (by omega)]
  refine ⟨⟨by omega, by omega⟩, hk, ?_, ?_, ?_⟩
  · unfold sgn; exact decide_eq_false (by omega)
  · unfold mant
    rw [if_neg (by omega), if_pos hk]; omega
  · unfold expo
    rw [if_neg (by omega), if_pos hk]; omega
theorem w2_bits {j : Int} (h0 : -1022 ≤ j) (h1 : j ≤ 1023) : fbits false 1 j false = W2 j := by
  obtain ⟨f1, f2, f3, f4, f5⟩ := w2_facts h0 h1
  have e := fbits_parts f1 (by omega)
  rw [f3, f4, f5, Int.toNat_natCast] at e
  have e2 := fbits_scale false 1 52 (j - 52)
  rw [Nat.one_mul, show j - 52 + (52 : Nat) = j by omega] at e2
  rw [← e2, e]
theorem w2_mul {i j : Int} (i0 : -1022 ≤ i) (i1 : i ≤ 1023) (j0 : -1022 ≤ j) (j1 : j ≤ 1023) (h0 : -1022 ≤ i + j) (h1 : i + j ≤ 1023) : mulI (W2 i) (W2 j) = W2 (i + j) := by
  obtain ⟨f1, f2, f3, f4, f5⟩ := w2_facts i0 i1
  obtain ⟨g1, g2, g3, g4, g5⟩ := w2_facts j0 j1
  unfold mulI
  rw [if_neg (by omega), if_neg (by omega), f3, g3, f4, g4, f5, g5]
  have hP : (((2 ^ 52 : Nat) : Int) * ((2 ^ 52 : Nat) : Int)).toNat = 1 * 2 ^ 104 := by decide
  rw [hP, fbits_scale, show i - 52 + (j - 52) + (104 : Nat) = i + j by omega]
  exact w2_bits h0 h1
theorem w2_inv {j : Int} (j0 : -1022 ≤ j) (j1 : j ≤ 1022) : divI (W2 0) (W2 j) = W2 (-j) := by
  obtain ⟨f1, f2, f3, f4, f5⟩ := w2_facts (j := 0) (by decide) (by decide)
  obtain ⟨g1, g2, g3, g4, g5⟩ := w2_facts (j := j) j0 (by omega)
  unfold divI
  rw [if_neg (by omega), if_neg (by omega), if_neg (by omega), f3, g3, f4, g4, f5, g5, Int.toNat_natCast]
  have h1 : (2 : Nat) ^ 52 * 2 ^ 128 / 2 ^ 52 = 1 * 2 ^ 128 := by decide
  have h2 : decide (0 < (2 : Nat) ^ 52 * 2 ^ 128 % 2 ^ 52) = false := by decide
  rw [h1, h2, fbits_scale, show (0 : Int) - 52 - (j - 52) - 128 + (128 : Nat) = -j by omega]
  exact w2_bits (by omega) (by omega)
theorem w2_go (u : Nat) (hu : u ≤ 800) : ∀ k, powGo (W2 1) u k (W2 ((u / 2 ^ k : Nat) : Int)) = W2 u
  | 0 => by rw [Nat.pow_zero, Nat.div_one]; rfl
  | k + 1 => by
    have ih := w2_go u hu k
    have hd : u / 2 ^ (k + 1) = u / 2 ^ k / 2 := by rw [Nat.pow_succ, Nat.div_div_eq_div_mul]
    have hb : u / 2 ^ k ≤ u := Nat.div_le_self _ _
    show powGo (W2 1) u k _ = _
    rw [hd]
    generalize u / 2 ^ k = q at *
    have e1 : mulI (W2 ((q / 2 : Nat) : Int)) (W2 ((q / 2 : Nat) : Int)) = W2 (((q / 2 : Nat) : Int) + ((q / 2 : Nat) : Int)) := w2_mul (by omega) (by omega) (by omega) (by omega) (by omega) (by omega)
    rw [e1]
    by_cases h : q % 2 = 1
    · rw [if_pos h, w2_mul (by omega) (by omega) (by omega) (by omega) (by omega) (by omega), show ((q / 2 : Nat) : Int) + ((q / 2 : Nat) : Int) + 1 = (q : Int) by omega]
      exact ih
    · rw [if_neg h, show ((q / 2 : Nat) : Int) + ((q / 2 : Nat) : Int) = (q : Int) by omega]
      exact ih
theorem w2_pow {j : Int} (j0 : -800 ≤ j) (j1 : j ≤ 800) : powI (W2 1) j = W2 j := by
  obtain ⟨f1, f2, f3, f4, f5⟩ := w2_facts (j := 1) (by decide) (by decide)
  have e0 : (4607182418800017408 : Int) = W2 0 := by decide
  have hz : j.natAbs / 2 ^ 64 = 0 := Nat.div_eq_of_lt (Nat.lt_of_le_of_lt (show j.natAbs ≤ 800 by omega) (by decide))
  have hg := w2_go j.natAbs (by omega) 64
  rw [hz] at hg
  unfold powI
  rw [if_neg (by omega), e0]
  have e1 : W2 ((0 : Nat) : Int) = W2 0 := rfl
  rw [e1] at hg
  rw [hg]
  by_cases h : j < 0
  · rw [if_pos h, w2_inv (by omega) (by omega), show -((j.natAbs : Nat) : Int) = j by omega]
  · rw [if_neg h, show ((j.natAbs : Nat) : Int) = j by omega]
theorem w2_root {k : Int} (h0 : -400 < k) (h1 : k < 400) : sqrtI (powI 4611686018427387904 (2 * k)) = powI 4611686018427387904 k := by
  have e0 : (4611686018427387904 : Int) = W2 1 := by decide
  rw [e0, w2_pow (by omega) (by omega), w2_pow (by omega) (by omega)]
  have hs := sq_at (a := 0) h0 h1 (by decide) (by decide)
  have e1 : (1023 + k) * 4503599627370496 + 0 * 134217728 = W2 k := by unfold W2; omega
  rw [e1] at hs
  have hr := hs.root.1
  rw [w2_mul (by omega) (by omega) (by omega) (by omega) (by omega) (by omega), show k + k = 2 * k by omega] at hr
  exact hr
end Go.Proofs.Ytmjaoeafompclaa

namespace Go.Proofs.Ytmjaoeafompclaa
open Go.RowKit Go.Shelf

theorem wd_div {a b : Int} : Wd (divI a b) := by
  unfold divI
  split
  · exact wd_nan
  · split
    · cases (sgn a != sgn b) <;> exact ⟨by decide, by decide⟩
    · split
      · exact wd_sb _
      · exact wd_fbits _ _ _ _

set_option maxRecDepth 100000 in
set_option maxHeartbeats 4000000 in
theorem rootPlain_walk (a b : Int) (w : World) (ha : Wd a) (hb : Wd b) : Calls Try.prog 8 #[.int .u64 a, .int .u64 b] w fun e w' => e = .returned (.bool true) ∧ Below w.heap.size w w' := by
  have CD := fun v => div5_any a 4607182418800017408 v ha wd_one
  rw [div_one ha] at CD
  have CR := fun v => rright_any a v ha
  have CK := fun v => rkind_any a v ha
  have CS := fun v => div5_any a a v ha ha
  have CF := fun v => fma5_any a 4607182418800017408 b v ha wd_one hb
  rw [fma_one ha hb] at CF
  have CA := fun v => aadd_any a b v ha hb
  have CM := fun v => amul_any a b v ha hb
  have CZ := fun v => fma5_any a b 9223372036854775808 v ha hb ⟨by decide, by decide⟩
  rw [fma_none ha hb] at CZ
  obtain ⟨k, hk⟩ : ∃ k, kd a = k := ⟨_, rfl⟩
  obtain ⟨s, hs⟩ : ∃ s, divI a a = s := ⟨_, rfl⟩
  rw [hk] at CK
  rw [hs] at CS
  have hor : ((k = 1 ∨ k = 2) ∧ s = 4607182418800017408) ∨ (¬ (k = 1 ∨ k = 2) ∧ s = 9221120237041090560) := by
    rw [← hk, ← hs]
    by_cases h : kd a = 1 ∨ kd a = 2
    · exact .inl ⟨h, div_self h⟩
    · exact .inr ⟨h, div_self_none h⟩
  generalize rightI a = r at *
  generalize addI a b = t at *
  generalize mulI a b = p at *
  replace CD := Lib.hid CD
  replace CR := Lib.hid CR
  replace CK := Lib.hid CK
  replace CS := Lib.hid CS
  replace CF := Lib.hid CF
  replace CA := Lib.hid CA
  replace CM := Lib.hid CM
  replace CZ := Lib.hid CZ
  have hB := Bel.re w
  clear ha hb hk hs
  rcases hor with ⟨rfl | rfl, rfl⟩ | ⟨hn, rfl⟩
  case' inr =>
    have n1 : (k == 1) = false := by simpa using fun g => hn (.inl g)
    have n2 : (k == 2) = false := by simpa using fun g => hn (.inr g)
    clear hn
  all_goals
    go_enter Try.func8, Try.ntmps8
    go_wp2_with (first
      | (go_at_call 12; (with_reducible refine (shown5_any _).mono ?_); rintro e w1 ⟨rfl, hb⟩; replace hB := Bel.st hB hb; clear hb)
      | (go_at_call 13; (first | (with_reducible refine (CD.out _).mono ?_) | (with_reducible refine (CS.out _).mono ?_)); rintro e w1 ⟨rfl, hb⟩; replace hB := Bel.st hB hb; clear hb)
      | (go_at_call 17; (first | (with_reducible refine (CF.out _).mono ?_) | (with_reducible refine (CZ.out _).mono ?_)); rintro e w1 ⟨rfl, hb⟩; replace hB := Bel.st hB hb; clear hb)
      | (go_at_call 25; (with_reducible refine (CA.out _).mono ?_); rintro e w1 ⟨rfl, hb⟩; replace hB := Bel.st hB hb; clear hb)
      | (go_at_call 26; (with_reducible refine (CM.out _).mono ?_); rintro e w1 ⟨rfl, hb⟩; replace hB := Bel.st hB hb; clear hb)
      | (go_at_call 23; (with_reducible refine (CR.out _).mono ?_); rintro e w' ⟨rfl, rfl⟩)
      | (go_at_call 24; (with_reducible refine (CK.out _).mono ?_); rintro e w' ⟨rfl, rfl⟩))
    go_ret
    exact ⟨rfl, hB⟩

set_option maxRecDepth 100000 in
set_option maxHeartbeats 4000000 in
theorem smalls_nan (a b ka kb r : Int) (w : World) (hor : 3 ≤ ka ∨ kb = 4 ∨ kb = 0) (hr : r = 9221120237041090560)
    (CM : Hid (∀ v : World, Calls Try.prog 19 #[.int .u64 a, .int .u64 b] v fun e w' => e = .returned (.int .u64 r) ∧ Below v.heap.size v w'))
    (KA : Hid (∀ v : World, Calls Try.prog 24 #[.int .u64 a] v fun e w' => e = .returned (.int .i64 ka) ∧ v = w'))
    (KB : Hid (∀ v : World, Calls Try.prog 24 #[.int .u64 b] v fun e w' => e = .returned (.int .i64 kb) ∧ v = w')) :
    Calls Try.prog 9 #[.int .u64 a, .int .u64 b] w fun e w' => e = .returned (.bool true) ∧ Below w.heap.size w w' := by
  subst hr
  have hB := Bel.re w
  have key : (3 ≤ ka) ∨ (decide (3 ≤ ka) = false ∧ kb = 4) ∨ (decide (3 ≤ ka) = false ∧ kb = 0) := by
    by_cases h : 3 ≤ ka
    · exact .inl h
    · rcases hor with g | g | g
      · exact absurd g h
      · exact .inr (.inl ⟨by simpa using h, g⟩)
      · exact .inr (.inr ⟨by simpa using h, g⟩)
  clear hor
  rcases key with h1 | ⟨h1, rfl⟩ | ⟨h1, rfl⟩
  all_goals
    go_enter Try.func9, Try.ntmps9
    go_wp2_with (first
      | (go_at_call 12; (with_reducible refine (shown5_any _).mono ?_); rintro e w1 ⟨rfl, hb⟩; replace hB := Bel.st hB hb; clear hb)
      | (go_at_call 19; (with_reducible refine (CM.out _).mono ?_); rintro e w1 ⟨rfl, hb⟩; replace hB := Bel.st hB hb; clear hb)
      | (go_at_call 24; (first | (with_reducible refine (KA.out _).mono ?_) | (with_reducible refine (KB.out _).mono ?_)); rintro e w' ⟨rfl, rfl⟩))
    go_ret
    exact ⟨rfl, hB⟩
set_option maxRecDepth 100000 in
set_option maxHeartbeats 4000000 in
theorem smalls_num (a b kb r : Int) (w : World) (wa : Wd a) (wb : Wd b) (wr : Wd r) (hr : r ≠ 9221120237041090560)
    (hor : (kb = 3 ∧ r = a) ∨ (kb ≠ 3 ∧ r % 9223372036854775808 < b % 9223372036854775808 ∧ r % 9223372036854775808 ≤ a % 9223372036854775808 ∧ r / 9223372036854775808 = a / 9223372036854775808))
    (CM : Hid (∀ v : World, Calls Try.prog 19 #[.int .u64 a, .int .u64 b] v fun e w' => e = .returned (.int .u64 r) ∧ Below v.heap.size v w'))
    (C2 : Hid (kb ≠ 3 → ∀ v : World, Calls Try.prog 19 #[.int .u64 r, .int .u64 b] v fun e w' => e = .returned (.int .u64 r) ∧ Below v.heap.size v w'))
    (C3 : Hid (kb ≠ 3 → ∀ v : World, Calls Try.prog 19 #[.int .u64 a, .int .u64 (bits .xor .u64 b 9223372036854775808)] v fun e w' => e = .returned (.int .u64 r) ∧ Below v.heap.size v w'))
    (KB : Hid (∀ v : World, Calls Try.prog 24 #[.int .u64 b] v fun e w' => e = .returned (.int .i64 kb) ∧ v = w')) :
    Calls Try.prog 9 #[.int .u64 a, .int .u64 b] w fun e w' => e = .returned (.bool true) ∧ Below w.heap.size w w' := by
  obtain ⟨a0, a1⟩ := wa
  obtain ⟨b0, b1⟩ := wb
  obtain ⟨r0, r1⟩ := wr
  have hB := Bel.re w
  have hne : (r == 9221120237041090560) = false := by simpa using hr
  clear hr
  rcases hor with ⟨rfl, rfl⟩ | ⟨h3, h4, h5, h6⟩
  · go_enter Try.func9, Try.ntmps9
    go_wp2_with (first
      | (go_at_call 12; (with_reducible refine (shown5_any _).mono ?_); rintro e w1 ⟨rfl, hb⟩; replace hB := Bel.st hB hb; clear hb)
      | (go_at_call 19; (with_reducible refine (CM.out _).mono ?_); rintro e w1 ⟨rfl, hb⟩; replace hB := Bel.st hB hb; clear hb)
      | (go_at_call 24; (with_reducible refine (KB.out _).mono ?_); rintro e w' ⟨rfl, rfl⟩))
    go_ret
    exact ⟨rfl, hB⟩
  · replace C2 := Lib.hid (C2.out h3)
    replace C3 := Lib.hid (C3.out h3)
    have hk3 : (kb == 3) = false := by simpa using h3
    clear h3
    go_enter Try.func9, Try.ntmps9
    go_wp2_with (first
      | (go_at_call 12; (with_reducible refine (shown5_any _).mono ?_); rintro e w1 ⟨rfl, hb⟩; replace hB := Bel.st hB hb; clear hb)
      | (go_at_call 19; (first | (with_reducible refine (CM.out _).mono ?_) | (with_reducible refine (C2.out _).mono ?_) | (with_reducible refine (C3.out _).mono ?_)); rintro e w1 ⟨rfl, hb⟩; replace hB := Bel.st hB hb; clear hb)
      | (go_at_call 24; (with_reducible refine (KB.out _).mono ?_); rintro e w' ⟨rfl, rfl⟩))
    go_ret
    exact ⟨rfl, hB⟩
theorem rootSmalls_walk (a b : Int) (w : World) (ha : Wd a) (hb : Wd b) : Calls Try.prog 9 #[.int .u64 a, .int .u64 b] w fun e w' => e = .returned (.bool true) ∧ Below w.heap.size w w' := by
  have hka := kd_bd a
  have hkb := kd_bd b
  by_cases h : 3 ≤ kd a ∨ kd b = 4 ∨ kd b = 0
  · have hI : modI a b = 9221120237041090560 := by unfold modI; rw [if_pos (by omega)]; rfl
    exact smalls_nan a b (kd a) (kd b) (modI a b) w h hI (Lib.hid fun v => mod5_any a b v ha hb) (Lib.hid fun v => rkind_any a v ha) (Lib.hid fun v => rkind_any b v hb)
  · have hn := mod_nan ha hb h
    by_cases h3 : kd b = 3
    · have hI := mod_far (a := a) (b := b) (by omega) h3
      refine smalls_num a b (kd b) (modI a b) w ha hb (by rw [hI]; exact ha) hn (.inl ⟨h3, hI⟩) (Lib.hid fun v => mod5_any a b v ha hb) (Lib.hid fun g => absurd h3 g) (Lib.hid fun g => absurd h3 g) (Lib.hid fun v => rkind_any b v hb)
    · obtain ⟨w1, f1, f2, f3, f4, f5⟩ := mod_small ha hb (show kd a ≤ 2 by omega) (show kd b = 1 ∨ kd b = 2 by omega)
      refine smalls_num a b (kd b) (modI a b) w ha hb w1 hn (.inr ⟨h3, f1, f2, f3⟩) (Lib.hid fun v => mod5_any a b v ha hb) (Lib.hid fun _ v => ?_) (Lib.hid fun _ v => ?_) (Lib.hid fun v => rkind_any b v hb)
      · have := mod5_any (modI a b) b v w1 hb
        rw [f4] at this
        exact this
      · have := mod5_any a (negI b) v ha (wd_neg hb)
        rw [f5] at this
        rw [xor_sign b hb.1 hb.2, ← negI_eq (by omega)]
        exact this

set_option maxRecDepth 100000 in
set_option maxHeartbeats 4000000 in
theorem rootLeft_walk (a b : Int) (w : World) (ha : Wd a) (hb : Wd b) : Calls Try.prog 10 #[.int .u64 a, .int .u64 b] w fun e w' => e = .returned (.bool true) ∧ Below w.heap.size w w' := by
  obtain ⟨a0, a1⟩ := ha
  obtain ⟨b0, b1⟩ := hb
  obtain ⟨x, hx⟩ : ∃ x, 4607182418800017408 + a % 4503599627370496 = x := ⟨_, rfl⟩
  obtain ⟨y, hy⟩ : ∃ y, 4607182418800017408 + b % 4503599627370496 = y := ⟨_, rfl⟩
  obtain ⟨wp, kp, wl, hadd, hle⟩ := left_facts (x := x) (y := y) (by omega) (by omega) (by omega) (by omega)
  have wx : Wd x := ⟨by omega, by omega⟩
  have wy : Wd y := ⟨by omega, by omega⟩
  have CM := fun v => amul_any x y v wx wy
  have CF := fun v => fma5_any x y (negI (mulI x y)) v wx wy (wd_neg wp)
  have CA := fun v => aadd_any (mulI x y) (fmaI x y (negI (mulI x y))) v wp wl
  rw [hadd] at CA
  have CS := fun v => rsplit_any (fmaI x y (negI (mulI x y))) v wl
  have he := (expo_bd (x := fmaI x y (negI (mulI x y)))).1
  have hxs := xor_sign (mulI x y) wp.1 wp.2
  rw [← negI_eq (by omega)] at hxs
  rw [← hxs] at CF CA CS he wl hle
  generalize mulI x y = p at *
  generalize fmaI x y (bits .xor .u64 p 9223372036854775808) = l at *
  generalize mant l = m at *
  generalize expo l = e at *
  generalize sgn l = s at *
  obtain ⟨l0, l1⟩ := wl
  replace CM := Lib.hid CM
  replace CF := Lib.hid CF
  replace CA := Lib.hid CA
  replace CS := Lib.hid CS
  have hB := Bel.re w
  clear hadd wx wy wp kp hxs
  go_enter Try.func10, Try.ntmps10
  go_wp2_with (first
    | (go_at_call 12; (with_reducible refine (shown5_any _).mono ?_); rintro e w1 ⟨rfl, hb⟩; replace hB := Bel.st hB hb; clear hb)
    | (go_at_call 26; (with_reducible refine (CM.out _).mono ?_); rintro e w1 ⟨rfl, hb⟩; replace hB := Bel.st hB hb; clear hb)
    | (go_at_call 17; (with_reducible refine (CF.out _).mono ?_); rintro e w1 ⟨rfl, hb⟩; replace hB := Bel.st hB hb; clear hb)
    | (go_at_call 25; (with_reducible refine (CA.out _).mono ?_); rintro e w1 ⟨rfl, hb⟩; replace hB := Bel.st hB hb; clear hb)
    | (go_at_call 27; (with_reducible refine (CS.out _).mono ?_); rintro e w' ⟨rfl, rfl⟩))
  all_goals
    go_ret
    exact ⟨retB (by simp), hB⟩

set_option maxRecDepth 100000 in
set_option maxHeartbeats 4000000 in
theorem rootSquares_walk (a n : Int) (w : World) (ha : Wd a) : Calls Try.prog 11 #[.int .u64 a, .int .i64 n] w fun e w' => e = .returned (.bool true) ∧ Below w.heap.size w w' := by
  obtain ⟨a0, a1⟩ := ha
  obtain ⟨k, hk⟩ : ∃ k, n.tmod 400 = k := ⟨_, rfl⟩
  have hk0 : -400 < k ∧ k < 400 := by
    rw [← hk]
    rcases Int.lt_or_le n 0 with h | h
    · obtain ⟨m, rfl⟩ : ∃ m : Nat, n = -(m : Int) := ⟨n.natAbs, by omega⟩
      rw [Int.neg_tmod, Int.tmod_eq_emod_of_nonneg (by omega)]
      omega
    · rw [Int.tmod_eq_emod_of_nonneg h]
      omega
  obtain ⟨k0, k1⟩ := hk0
  obtain ⟨x, hx⟩ : ∃ x, (1023 + k) * 4503599627370496 + a % 33554432 * 134217728 = x := ⟨_, rfl⟩
  have hs := sq_at (a := a % 33554432) k0 k1 (by omega) (by omega)
  rw [hx] at hs
  obtain ⟨r1, r2⟩ := hs.root
  have wx := hs.wd
  have CM := fun v => amul_any x x v wx wx
  have CS := fun v => sqrt5_any (mulI x x) v wd_mul
  have CD := fun v => div5_any (mulI x x) x v wd_mul wx
  rw [r1] at CS
  rw [r2] at CD
  have w2 : Wd 4611686018427387904 := ⟨by decide, by decide⟩
  have P1 := fun v => power5_any 4611686018427387904 (2 * k) v w2 (by omega) (by omega)
  have P2 := fun v => power5_any 4611686018427387904 k v w2 (by omega) (by omega)
  have wpw : Wd (powI 4611686018427387904 (2 * k)) := by
    have e0 : (4611686018427387904 : Int) = W2 1 := by decide
    rw [e0, w2_pow (by omega) (by omega)]
    exact (w2_facts (by omega) (by omega)).wd
  have CQ := fun v => sqrt5_any (powI 4611686018427387904 (2 * k)) v wpw
  rw [w2_root k0 k1] at CQ
  generalize mulI x x = y at *
  generalize powI 4611686018427387904 (2 * k) = p at *
  generalize powI 4611686018427387904 k = q at *
  replace CM := Lib.hid CM
  replace CS := Lib.hid CS
  replace CD := Lib.hid CD
  replace P1 := Lib.hid P1
  replace P2 := Lib.hid P2
  replace CQ := Lib.hid CQ
  have hB := Bel.re w
  clear hs r1 r2 wx w2 wpw
  go_enter Try.func11, Try.ntmps11
  go_wp2_with (first
    | (go_at_call 12; (with_reducible refine (shown5_any _).mono ?_); rintro e w1 ⟨rfl, hb⟩; replace hB := Bel.st hB hb; clear hb)
    | (go_at_call 26; (with_reducible refine (CM.out _).mono ?_); rintro e w1 ⟨rfl, hb⟩; replace hB := Bel.st hB hb; clear hb)
    | (go_at_call 15; (first | (with_reducible refine (CS.out _).mono ?_) | (with_reducible refine (CQ.out _).mono ?_)); rintro e w1 ⟨rfl, hb⟩; replace hB := Bel.st hB hb; clear hb)
    | (go_at_call 13; (with_reducible refine (CD.out _).mono ?_); rintro e w1 ⟨rfl, hb⟩; replace hB := Bel.st hB hb; clear hb)
    | (go_at_call 21; (first | (with_reducible refine (P1.out _).mono ?_) | (with_reducible refine (P2.out _).mono ?_)); rintro e w1 ⟨rfl, hb⟩; replace hB := Bel.st hB hb; clear hb))
  go_ret
  exact ⟨rfl, hB⟩
end Go.Proofs.Ytmjaoeafompclaa
