/-
  Plain laws of chapter 4: what is added to a greater number is no less; what is exact.
-/
import Derived.Test.YtjlmchbpdkojeaaArithQ
namespace Go.Proofs.Ytjlmchbpdkojeaa
open Go.RowKit Go.Shelf

def rankI (x : Int) : Int := if 9223372036854775808 ≤ x then -(x - 9223372036854775808) else x
theorem rank_word {x : Int} (hx : Wd x) : rankI x = sg (sgn x) (x % 9223372036854775808).toNat := by
  obtain ⟨h0, h1⟩ := hx
  unfold rankI sg sgn
  by_cases g : 9223372036854775808 ≤ x
  · rw [if_pos g, decide_eq_true g, if_pos rfl]; omega
  · rw [if_neg g, decide_eq_false g, if_neg (by simp)]; omega
theorem rank_fbits (neg : Bool) (N : Nat) (e : Int) (more : Bool) : rankI (fbits neg N e more) = sg neg (Pl.mag N e more) := by
  have := Pl.mag_le_inf N e more
  rw [Pl.INF_eq] at this
  unfold rankI fbits sg sb
  cases neg
  · simp; omega
  · simp; omega
theorem rank_bd {x : Int} (hx : Wd x) (h : kd x ≠ 4) : -INFI ≤ rankI x ∧ rankI x ≤ INFI := by
  obtain ⟨h0, h1⟩ := hx
  unfold kd at h
  unfold rankI INFI
  (repeat' split at h) <;> (try omega) <;> split <;> omega
theorem rank_inf {x : Int} (hx : Wd x) (h : kd x = 3) : rankI x = sg (sgn x) 9218868437227405312 := by
  rw [rank_word hx]
  have := inf_word hx h
  obtain ⟨h0, h1⟩ := hx
  congr 1
  unfold sb INFI at this
  split at this <;> omega
theorem inf_rank {x : Int} (hx : Wd x) (h : kd x ≠ 4) (hr : rankI x = INFI ∨ rankI x = -INFI) : kd x = 3 := by
  obtain ⟨h0, h1⟩ := hx
  unfold kd at *
  unfold rankI INFI at hr
  (repeat' split at h) <;> (try omega) <;> split at hr <;> (repeat' split) <;> omega
theorem sgn_rank {x : Int} (hx : Wd x) : (sgn x = true → rankI x ≤ 0) ∧ (sgn x = false → 0 ≤ rankI x) ∧ (rankI x < 0 → sgn x = true) ∧ (0 < rankI x → sgn x = false) := by
  obtain ⟨h0, h1⟩ := hx
  unfold sgn rankI
  by_cases g : 9223372036854775808 ≤ x
  · rw [if_pos g, decide_eq_true g]; simp; omega
  · rw [if_neg g, decide_eq_false g]; simp; omega
theorem rank_zero {x : Int} (hx : Wd x) (h : rankI x = 0) : kd x = 0 := by
  obtain ⟨h0, h1⟩ := hx
  unfold rankI at h
  unfold kd
  split at h <;> (repeat' split) <;> omega
theorem zero_rank {x : Int} (hx : Wd x) (h : kd x = 0) : rankI x = 0 := by
  have := zero_word' hx h
  unfold sb at this
  unfold rankI
  split at this <;> split <;> omega

theorem sv_mono {a b : Int} (ha : Wd a) (hb : Wd b) (h1 : kd a ≤ 2) (h2 : kd b ≤ 2) (h : rankI a ≤ rankI b) : sv a ≤ sv b := by
  rw [rank_word ha, rank_word hb] at h
  unfold sv
  rw [← V_fn ha h1, ← V_fn hb h2]
  generalize (a % 9223372036854775808).toNat = n at *
  generalize (b % 9223372036854775808).toNat = m at *
  unfold sg at *
  cases hsa : sgn a <;> cases hsb : sgn b <;> rw [hsa, hsb] at h <;> simp at h ⊢
  · exact Pl.V_le h
  · have hn : n = 0 := by omega
    have hm : m = 0 := by omega
    rw [hn, hm, Pl.V_zero]; omega
  all_goals first | exact Pl.V_le h | omega
/-- Where what a whole amount of units rounds to stands. -/
def rk (S e : Int) : Int := sg (decide (S < 0)) (Pl.mag S.natAbs e false)
theorem rk_mono {S T e : Int} (h : S ≤ T) : rk S e ≤ rk T e := by
  unfold rk sg
  by_cases g : S < 0
  · by_cases k : T < 0
    · rw [decide_eq_true g, decide_eq_true k, if_pos rfl, if_pos rfl]
      have := Pl.mag_mono (a := T.natAbs) (b := S.natAbs) (e := e) (by omega)
      omega
    · rw [decide_eq_true g, decide_eq_false k, if_pos rfl, if_neg (by simp)]
      omega
  · have k : ¬ T < 0 := by omega
    rw [decide_eq_false g, decide_eq_false k, if_neg (by simp), if_neg (by simp)]
    have := Pl.mag_mono (a := S.natAbs) (b := T.natAbs) (e := e) (by omega)
    omega
theorem rk_zero (e : Int) : rk 0 e = 0 := by unfold rk; rw [show (0 : Int).natAbs = 0 from rfl, mag_zero]; rfl
theorem rank_rnd (S : Int) : rankI (rnd S) = rk S (-1074) := by unfold rnd; rw [rank_fbits]; rfl
theorem rank_add {a c : Int} (ha : Wd a) (hc : Wd c) (h1 : kd a ≤ 2) (h2 : kd c ≤ 2) : rankI (addI a c) = rk (sv a + sv c) (-1074) := by
  by_cases h0 : kd a = 0 ∧ kd c = 0
  · rw [addI_zero h0.1 h0.2, sv_zero ha h0.1, sv_zero hc h0.2, Int.add_zero, rk_zero]
    split
    · exact zero_rank ha h0.1
    · rfl
  · have k1 := kd_bd a
    have k2 := kd_bd c
    rw [addI_fin h1 h2 (by omega), rank_rnd]
theorem nan_ne {x : Int} (h : kd x ≠ 4) : x ≠ NAN := fun g => h (by rw [g]; exact kd_nan)
theorem kd_rnd (S : Int) : kd (rnd S) ≠ 4 := kd_fbits _ _ _ _
theorem kd_add {a c : Int} (h1 : kd a ≠ 4) (h2 : kd c ≤ 2) : kd (addI a c) ≠ 4 := by
  have k1 := kd_bd a
  have k2 := kd_bd c
  unfold addI
  rw [if_neg (by omega)]
  split
  · rw [if_neg (by omega)]; exact h1
  · rw [if_neg (by omega)]
    split
    · split
      · exact h1
      · decide
    · exact kd_rnd _
theorem add_nan {a c : Int} (h1 : kd a ≠ 4) (h : addI a c = NAN) : 3 ≤ kd c := by
  rcases Nat.lt_or_ge 2 (kd c).toNat with g | g
  · omega
  · have := kd_bd c
    exact absurd h (nan_ne (kd_add h1 (by omega)))
theorem add_order {a b c : Int} (ha : Wd a) (hb : Wd b) (hc : Wd c) (k1 : kd a ≠ 4) (k2 : kd b ≠ 4) (h : rankI a ≤ rankI b) (hx : addI a c ≠ NAN) (hy : addI b c ≠ NAN) : rankI (addI a c) ≤ rankI (addI b c) := by
  have g1 := kd_bd a
  have g2 := kd_bd b
  have g3 := kd_bd c
  by_cases c4 : kd c = 4
  · exact absurd (by unfold addI; rw [if_pos (.inr c4)]) hx
  · by_cases c3 : kd c = 3
    · have key : ∀ z, kd z ≠ 4 → addI z c ≠ NAN → addI z c = c := by
        intro z hz hn
        unfold addI at hn ⊢
        rw [if_neg (by omega)] at hn ⊢
        by_cases z3 : kd z = 3
        · rw [if_pos z3] at hn ⊢
          by_cases hzc : z = c
          · rw [if_neg (by simp [hzc])]; exact hzc
          · rw [if_pos ⟨c3, hzc⟩] at hn; exact absurd rfl hn
        · rw [if_neg z3, if_pos c3]
      rw [key a k1 hx, key b k2 hy]; exact Int.le_refl _
    · have c2 : kd c ≤ 2 := by omega
      have bx := rank_bd (wd_add ha hc) (kd_add k1 c2)
      have bby := rank_bd (wd_add hb hc) (kd_add k2 c2)
      have ba := rank_bd ha k1
      have bb := rank_bd hb k2
      have key : ∀ z, kd z = 3 → addI z c = z := by
        intro z z3
        unfold addI; rw [if_neg (by omega), if_pos z3, if_neg (by omega)]
      by_cases a3 : kd a = 3
      · have ra := rank_inf ha a3
        rw [key a a3] at *
        unfold sg at ra
        unfold INFI at *
        split at ra
        · omega
        · have b3 := inf_rank hb k2 (by unfold INFI; omega)
          rw [key b b3]; exact h
      · by_cases b3 : kd b = 3
        · have rb := rank_inf hb b3
          rw [key b b3] at *
          unfold sg at rb
          unfold INFI at *
          split at rb
          · have a3' := inf_rank ha k1 (by unfold INFI; omega)
            exact absurd a3' a3
          · omega
        · rw [rank_add ha hc (by omega) c2, rank_add hb hc (by omega) c2]
          have := sv_mono ha hb (by omega) (by omega) h
          exact rk_mono (by omega)

theorem sg_mul (s t : Bool) (N M : Nat) : sg s N * sg t M = sg (s != t) (N * M) := by
  unfold sg
  cases s <;> cases t <;> simp [Int.neg_mul, Int.mul_neg]
theorem sg_zero (s : Bool) : sg s 0 = 0 := by unfold sg; cases s <;> rfl
theorem rank_mul {a c : Int} (h1 : kd a ≤ 2) (h2 : kd c ≤ 2) : rankI (mulI a c) = rk (sv a * sv c) (-2148) := by
  have ba := expo_bd (x := a)
  have bc := expo_bd (x := c)
  have ma := mant_bd (x := a)
  have mc := mant_bd (x := c)
  unfold mulI
  rw [if_neg (by omega), if_neg (by omega), rank_fbits]
  unfold rk sv
  rw [sg_mul, sg_abs]
  have hP : (mant a * mant c).toNat = (mant a).toNat * (mant c).toNat := by
    obtain ⟨p, hp⟩ := Int.eq_ofNat_of_zero_le ma.1
    obtain ⟨q, hq⟩ := Int.eq_ofNat_of_zero_le mc.1
    rw [hp, hq]
    have : (p : Int) * (q : Int) = ((p * q : Nat) : Int) := by simp
    rw [this]; rfl
  have hN : fn a * fn c = (mant a).toNat * (mant c).toNat * 2 ^ ((expo a + 1074).toNat + (expo c + 1074).toNat) := by
    unfold fn; rw [Nat.pow_add]; grind
  have hm : Pl.mag (fn a * fn c) (-2148) false = Pl.mag (mant a * mant c).toNat (expo a + expo c) false := by
    rw [hN, mag_scale, hP]
    congr 1; omega
  rw [hm]
  by_cases hz : fn a * fn c = 0
  · have : Pl.mag (mant a * mant c).toNat (expo a + expo c) false = 0 := by rw [← hm, hz, mag_zero]
    rw [this, sg_zero, sg_zero]
  · rw [sg_sign hz]
theorem mul_inf {a c : Int} (h : ¬ (kd a = 4 ∨ kd c = 4 ∨ (kd a = 3 ∧ kd c = 0) ∨ (kd a = 0 ∧ kd c = 3))) (h3 : kd a = 3 ∨ kd c = 3) : rankI (mulI a c) = sg (sgn a != sgn c) 9218868437227405312 := by
  unfold mulI
  rw [if_neg h, if_pos h3]
  unfold rankI sg sb INFI
  cases (sgn a != sgn c) <;> simp
theorem kd_mul {a c : Int} (h : ¬ (kd a = 4 ∨ kd c = 4 ∨ (kd a = 3 ∧ kd c = 0) ∨ (kd a = 0 ∧ kd c = 3))) : kd (mulI a c) ≠ 4 := by
  unfold mulI
  rw [if_neg h]
  split
  · unfold sb INFI
    cases (sgn a != sgn c) <;> decide
  · exact kd_fbits _ _ _ _
theorem mul_order {a b c : Int} (ha : Wd a) (hb : Wd b) (_hc : Wd c) (k1 : kd a ≠ 4) (k2 : kd b ≠ 4) (h : rankI a ≤ rankI b) (hp : mulI a c ≠ NAN) (hq : mulI b c ≠ NAN) :
    (sgn c = false → rankI (mulI a c) ≤ rankI (mulI b c)) ∧ (sgn c = true → rankI (mulI b c) ≤ rankI (mulI a c)) := by
  have g1 := kd_bd a
  have g2 := kd_bd b
  have g3 := kd_bd c
  have na : ¬ (kd a = 4 ∨ kd c = 4 ∨ (kd a = 3 ∧ kd c = 0) ∨ (kd a = 0 ∧ kd c = 3)) := fun g => hp (by unfold mulI; rw [if_pos g])
  have nb : ¬ (kd b = 4 ∨ kd c = 4 ∨ (kd b = 3 ∧ kd c = 0) ∨ (kd b = 0 ∧ kd c = 3)) := fun g => hq (by unfold mulI; rw [if_pos g])
  have ba := rank_bd (wd_mul (a := a) (b := c)) (kd_mul na)
  have bb := rank_bd (wd_mul (a := b) (b := c)) (kd_mul nb)
  have ra := rank_bd ha k1
  have rb := rank_bd hb k2
  obtain ⟨s1, s2, s3, s4⟩ := sgn_rank ha
  obtain ⟨t1, t2, t3, t4⟩ := sgn_rank hb
  unfold INFI at *
  by_cases c3 : kd c = 3
  · rw [mul_inf na (.inr c3), mul_inf nb (.inr c3)]
    have za : rankI a ≠ 0 := fun g => by have := rank_zero ha g; omega
    have zb : rankI b ≠ 0 := fun g => by have := rank_zero hb g; omega
    have hs : sgn a = false → sgn b = false := fun g => t4 (by have := s2 g; omega)
    cases ea : sgn a <;> cases eb : sgn b <;> cases sgn c <;> simp [sg]
    all_goals (have := hs ea; rw [eb] at this; cases this)
  · by_cases a3 : kd a = 3
    · have r := rank_inf ha a3
      rw [mul_inf na (.inl a3)] at *
      unfold sg at r
      cases ea : sgn a
      · rw [ea] at r
        simp at r
        have b3 := inf_rank hb k2 (by unfold INFI; omega)
        have eb : sgn b = false := t4 (by omega)
        rw [mul_inf nb (.inl b3), eb]
        exact ⟨fun _ => Int.le_refl _, fun _ => Int.le_refl _⟩
      · rw [ea] at ba
        constructor
        · intro g; rw [g]; unfold sg; simp; omega
        · intro g; rw [g]; unfold sg; simp; omega
    · by_cases b3 : kd b = 3
      · have r := rank_inf hb b3
        rw [mul_inf nb (.inl b3)] at *
        unfold sg at r
        cases eb : sgn b
        · constructor
          · intro g; rw [g]; unfold sg; simp; omega
          · intro g; rw [g]; unfold sg; simp; omega
        · rw [eb] at r
          simp at r
          have a3' := inf_rank ha k1 (by unfold INFI; omega)
          exact absurd a3' a3
      · rw [rank_mul (by omega) (by omega), rank_mul (by omega) (by omega)]
        have hv := sv_mono ha hb (by omega) (by omega) h
        constructor
        · intro g
          have : 0 ≤ sv c := by unfold sv sg; rw [g]; simp
          exact rk_mono (Int.mul_le_mul_of_nonneg_right hv this)
        · intro g
          have : sv c ≤ 0 := by unfold sv sg; rw [g]; simp
          exact rk_mono (Int.mul_le_mul_of_nonpos_right hv this)

/-! ### What is exact -/
theorem V_double (a : Nat) : ∃ x, Pl.V x = 2 * Pl.V a := by
  by_cases h : a < 2 ^ 52
  · refine ⟨2 * a, ?_⟩
    have e := Pl.V_at (j := 0) (t := 2 * a) (by omega) (.inl rfl)
    have e2 := Pl.V_at (j := 0) (t := a) (by omega) (.inl rfl)
    simp at e e2
    rw [e, e2]
  · refine ⟨a + 2 ^ 52, ?_⟩
    unfold Pl.V
    rw [if_neg (by omega), if_neg h]
    have e1 : (a + 2 ^ 52) % 2 ^ 52 = a % 2 ^ 52 := by omega
    have e2 : (a + 2 ^ 52) / 2 ^ 52 - 1 = a / 2 ^ 52 - 1 + 1 := by omega
    rw [e1, e2]
    generalize a / 2 ^ 52 - 1 = k
    generalize 2 ^ 52 + a % 2 ^ 52 = Q
    rw [Nat.pow_succ, ← Nat.mul_assoc, Nat.mul_comm]
theorem V_rep : ∀ (j k : Nat), k < 2 ^ 53 → ∃ x, Pl.V x = k * 2 ^ j
  | 0, k, h => ⟨0 * 2 ^ 52 + k, Pl.V_at (by omega) (.inl rfl)⟩
  | j + 1, k, h => by
    by_cases hk : 2 ^ 52 ≤ k
    · exact ⟨(j + 1) * 2 ^ 52 + k, Pl.V_at (by omega) (.inr hk)⟩
    · obtain ⟨x, hx⟩ := V_rep j (2 * k) (by omega)
      exact ⟨x, by rw [hx, Nat.pow_succ]; grind⟩
/-- Between a half and the whole of it: what is left is a number. -/
theorem V_left {a b : Nat} (hab : a ≤ b) (h2 : Pl.V b ≤ 2 * Pl.V a) : ∃ d, Pl.V d = Pl.V b - Pl.V a ∧ d ≤ a := by
  obtain ⟨j, t, rfl, ht, hj⟩ := Pl.form a
  obtain ⟨i, s, rfl, hs, hi⟩ := Pl.form b
  have e1 := Pl.V_at (j := j) (t := t) (by omega) hj
  have e2 := Pl.V_at (j := i) (t := s) (by omega) hi
  rw [e1, e2] at h2
  have hji : j ≤ i := by
    rcases Nat.lt_or_ge i j with g | g
    · exfalso
      rcases hj with hj | hj
      · omega
      · have : i * 2 ^ 52 + s < j * 2 ^ 52 + t := by
          have := Nat.mul_le_mul_right (2 ^ 52) (show i + 1 ≤ j from g)
          omega
        omega
    · exact g
  obtain ⟨k, rfl⟩ : ∃ k, i = j + k := ⟨i - j, by omega⟩
  have e3 : s * 2 ^ (j + k) = s * 2 ^ k * 2 ^ j := by rw [Nat.pow_add]; grind
  rw [e1, e2, e3]
  rw [e3] at h2
  have hle : s * 2 ^ k ≤ 2 * t := by
    have : s * 2 ^ k * 2 ^ j ≤ 2 * t * 2 ^ j := by rw [Nat.mul_assoc 2]; exact h2
    exact Nat.le_of_mul_le_mul_right this (Nat.two_pow_pos j)
  rw [← Nat.sub_mul]
  obtain ⟨d, hd⟩ := V_rep j (s * 2 ^ k - t) (by omega)
  refine ⟨d, hd, Pl.V_le_iff.1 ?_⟩
  rw [hd, e1]
  exact Nat.mul_le_mul_right _ (by omega)
/-- No number above twice a number is within what twice it rounds to. -/
theorem V_twice {a b : Nat} (hb : b < Pl.INF) (h : b ≤ Pl.mag (2 * Pl.V a) (-1074) false) : Pl.V b ≤ 2 * Pl.V a := by
  rcases Nat.lt_or_ge (2 * Pl.V a) (Pl.V b) with g | g
  · exfalso
    obtain ⟨x, hx⟩ := V_double a
    have e1 : Pl.sd (-1074) = 0 := by decide
    have e2 : Pl.sc (-1074) = 1 := by decide
    have hb0 : 0 < b := by
      rcases Nat.eq_zero_or_pos b with k | k
      · rw [k, Pl.V_zero] at g; omega
      · exact k
    have hI := (Pl.mag_exact (2 * Pl.V a) (-1074)).iff (b - 1) (by omega)
    rw [e1, e2] at hI
    have := hI.1 (by omega)
    unfold Pl.mid at this
    rw [Nat.sub_add_cancel hb0] at this
    have h1 : Pl.V (b - 1) < Pl.V x := by
      rw [hx]
      omega
    have h2 : Pl.V x < Pl.V b := by rw [hx]; exact g
    have := Pl.V_lt_iff.1 h1
    have := Pl.V_lt_iff.1 h2
    omega
  · exact g
theorem low_word {x : Int} (hx : Wd x) (h : x < 9223372036854775808) : sgn x = false ∧ x % 9223372036854775808 = x := by
  obtain ⟨h0, h1⟩ := hx
  unfold sgn
  exact ⟨decide_eq_false (by omega), by omega⟩
theorem rnd_V {R : Nat} (h : R ≤ Pl.INF) : rnd ((Pl.V R : Nat) : Int) = R := by
  unfold rnd fbits
  rw [Int.natAbs_natCast, mag_V h, decide_eq_false (by omega)]
  unfold sb; simp
/-- Two numbers without signs that are within a factor of two. -/
theorem exact_all {a b : Int} (ha : Wd a) (hb : Wd b) (ha' : a < 9223372036854775808) (hab : a ≤ b) (hb' : b < 9223372036854775808) (kb : kd b ≤ 2) (h : b ≤ addI a a) :
    addI a (subI b a) = b ∧ subI b (subI b a) = a ∧ subI b a ≤ a ∧ Wd (subI b a) := by
  obtain ⟨sa, ea⟩ := low_word ha ha'
  obtain ⟨sb', eb⟩ := low_word hb hb'
  have kb0 := kd_bd b
  have ka0 := kd_bd a
  have hbI := low_inf hb kb
  rw [eb] at hbI
  have ka : kd a ≤ 2 := by
    obtain ⟨h0, h1⟩ := ha
    rw [Pl.INF_eq] at hbI
    unfold kd
    (repeat' split) <;> omega
  have hwd : Wd (subI b a) := wd_sub hb ha
  have hVa := V_fn ha ka
  have hVb := V_fn hb kb
  rw [ea] at hVa
  rw [eb] at hVb
  by_cases a0 : kd a = 0
  · have az : a = 0 := by
      have := zero_word' ha a0
      rw [sa] at this
      simpa [sb] using this
    subst az
    have hb0 : b = 0 := by
      rw [addI_zero a0 a0, if_pos rfl] at h
      obtain ⟨h0, h1⟩ := hb
      omega
    subst hb0
    exact ⟨by decide, by decide, by decide, ⟨by decide, by decide⟩⟩
  · have hsa : sv a = ((Pl.V a.toNat : Nat) : Int) := by unfold sv sg; rw [sa, hVa]; simp
    have hsb : sv b = ((Pl.V b.toNat : Nat) : Int) := by unfold sv sg; rw [sb', hVb]; simp
    have kb0' : kd b ≠ 0 := by
      intro g
      have := zero_word' hb g
      rw [sb'] at this
      have hb0 : b = 0 := by simpa [sb] using this
      have : a = 0 := by have := ha.1; omega
      exact a0 (by rw [this]; decide)
    have h2 : Pl.V b.toNat ≤ 2 * Pl.V a.toNat := by
      refine V_twice hbI ?_
      rw [addI_fin ka ka (by omega), hsa] at h
      unfold rnd fbits at h
      have e : ((Pl.V a.toNat : Nat) : Int) + ((Pl.V a.toNat : Nat) : Int) = ((2 * Pl.V a.toNat : Nat) : Int) := by omega
      rw [e, Int.natAbs_natCast, decide_eq_false (by omega)] at h
      unfold sb at h
      simp at h
      have := hb.1
      omega
    obtain ⟨d, hd, hda⟩ := V_left (a := a.toNat) (b := b.toNat) (by omega) h2
    have hmono := Pl.V_le (x := a.toNat) (y := b.toNat) (by omega)
    have hdI : d ≤ Pl.INF := by omega
    have hsub : subI b a = (d : Int) := by
      unfold subI
      rw [addI_fin kb (by rw [kd_neg ha (by omega)]; exact ka) (by omega), sv_neg ha (by omega), hsa, hsb]
      have e : ((Pl.V b.toNat : Nat) : Int) + -((Pl.V a.toNat : Nat) : Int) = ((Pl.V d : Nat) : Int) := by omega
      rw [e, rnd_V hdI]
    have hdlt : d < Pl.INF := by omega
    rw [Pl.INF_eq] at hdlt
    have wd : Wd (d : Int) := ⟨by omega, by omega⟩
    have kdd : kd (d : Int) ≤ 2 := by unfold kd; (repeat' split) <;> omega
    obtain ⟨sd', ed⟩ := low_word wd (by omega)
    have hVd := V_fn wd kdd
    rw [ed, Int.toNat_natCast] at hVd
    have hsd : sv (d : Int) = ((Pl.V d : Nat) : Int) := by unfold sv sg; rw [sd', hVd]; simp
    rw [hsub]
    refine ⟨?_, ?_, by have := ha.1; omega, wd⟩
    · rw [addI_fin ka kdd (by omega), hsa, hsd]
      have e : ((Pl.V a.toNat : Nat) : Int) + ((Pl.V d : Nat) : Int) = ((Pl.V b.toNat : Nat) : Int) := by omega
      rw [e, rnd_V (Nat.le_of_lt hbI)]
      have := hb.1
      omega
    · unfold subI
      rw [addI_fin kb (by rw [kd_neg wd (by omega)]; exact kdd) (by omega), sv_neg wd (by omega), hsb, hsd]
      have e : ((Pl.V b.toNat : Nat) : Int) + -((Pl.V d : Nat) : Int) = ((Pl.V a.toNat : Nat) : Int) := by omega
      rw [e, rnd_V (by omega)]
      have := ha.1
      omega
end Go.Proofs.Ytjlmchbpdkojeaa
