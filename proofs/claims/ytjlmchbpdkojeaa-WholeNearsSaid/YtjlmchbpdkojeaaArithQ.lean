/-
  Plain laws of chapter 4: either way round, nothing added, what is exact.
-/
import Derived.Test.YtjlmchbpdkojeaaArithP
namespace Go.Proofs.Ytjlmchbpdkojeaa
open Go.RowKit Go.Shelf

section
variable {x : Int}
theorem negI_eq (h : kd x ≠ 4) : negI x = (x + 9223372036854775808) % 18446744073709551616 := by unfold negI; rw [if_neg h]
theorem kd_neg (hx : Wd x) (h : kd x ≠ 4) : kd (negI x) = kd x := by
  rw [negI_eq h]
  obtain ⟨h0, h1⟩ := hx
  have e1 : (x + 9223372036854775808) % 18446744073709551616 / 4503599627370496 % 2048 = x / 4503599627370496 % 2048 := by omega
  have e2 : (x + 9223372036854775808) % 18446744073709551616 % 4503599627370496 = x % 4503599627370496 := by omega
  unfold kd
  rw [e1, e2]
theorem sgn_neg (hx : Wd x) (h : kd x ≠ 4) : sgn (negI x) = !sgn x := by
  rw [negI_eq h]
  obtain ⟨h0, h1⟩ := hx
  unfold sgn
  by_cases g : 9223372036854775808 ≤ x
  · have : ¬ 9223372036854775808 ≤ (x + 9223372036854775808) % 18446744073709551616 := by omega
    rw [decide_eq_true g, decide_eq_false this]; rfl
  · have : 9223372036854775808 ≤ (x + 9223372036854775808) % 18446744073709551616 := by omega
    rw [decide_eq_false g, decide_eq_true this]; rfl
theorem mant_neg (hx : Wd x) (h : kd x ≠ 4) : mant (negI x) = mant x := by
  have hk := kd_neg hx h
  obtain ⟨h0, h1⟩ := hx
  have e2 : (x + 9223372036854775808) % 18446744073709551616 % 4503599627370496 = x % 4503599627370496 := by omega
  unfold mant
  rw [hk, negI_eq h, e2]
theorem expo_neg (hx : Wd x) (h : kd x ≠ 4) : expo (negI x) = expo x := by
  have hk := kd_neg hx h
  obtain ⟨h0, h1⟩ := hx
  have e1 : (x + 9223372036854775808) % 18446744073709551616 / 4503599627370496 % 2048 = x / 4503599627370496 % 2048 := by omega
  unfold expo
  rw [hk, negI_eq h, e1]
theorem fn_neg (hx : Wd x) (h : kd x ≠ 4) : fn (negI x) = fn x := by unfold fn; rw [mant_neg hx h, expo_neg hx h]
theorem neg_neg' (hx : Wd x) (h : kd x ≠ 4) : negI (negI x) = x := by
  rw [negI_eq (by rw [kd_neg hx h]; exact h), negI_eq h]
  obtain ⟨h0, h1⟩ := hx
  omega
theorem neg_ne (hx : Wd x) (h : kd x ≠ 4) : negI x ≠ x := by
  rw [negI_eq h]
  obtain ⟨h0, h1⟩ := hx
  omega
theorem inf_word (hx : Wd x) (h : kd x = 3) : x = sb (sgn x) + INFI := by
  obtain ⟨h0, h1⟩ := hx
  unfold kd at h
  unfold sgn sb INFI
  by_cases g : 9223372036854775808 ≤ x
  · rw [decide_eq_true g, if_pos rfl]; (repeat' split at h) <;> omega
  · rw [decide_eq_false g, if_neg (by simp)]; (repeat' split at h) <;> omega
theorem zero_word' (hx : Wd x) (h : kd x = 0) : x = sb (sgn x) := by
  obtain ⟨h0, h1⟩ := hx
  unfold kd at h
  unfold sgn sb
  by_cases g : 9223372036854775808 ≤ x
  · rw [decide_eq_true g, if_pos rfl]; (repeat' split at h) <;> omega
  · rw [decide_eq_false g, if_neg (by simp)]; (repeat' split at h) <;> omega
end
theorem kd_nan : kd NAN = 4 := by decide
theorem neg_nan : negI NAN = NAN := by unfold negI; rw [if_pos kd_nan]
theorem kd_fbits (neg : Bool) (N : Nat) (e : Int) (more : Bool) : kd (fbits neg N e more) ≠ 4 := by
  have h1 := fbits_bd neg N e more
  generalize fbits neg N e more = x at *
  unfold INFI sb at h1
  unfold kd
  cases neg
  · simp at h1; (repeat' split) <;> omega
  · simp at h1; (repeat' split) <;> omega
theorem neg_fbits (neg : Bool) (N : Nat) (e : Int) (more : Bool) : negI (fbits neg N e more) = fbits (!neg) N e more := by
  rw [negI_eq (kd_fbits neg N e more)]
  have := Pl.mag_le_inf N e more
  rw [Pl.INF_eq] at this
  unfold fbits sb
  cases neg <;> simp <;> omega
theorem sg_not (s : Bool) (n : Nat) : sg (!s) n = - sg s n := by unfold sg; cases s <;> simp
theorem rnd_neg {S : Int} (h : S ≠ 0) : rnd (-S) = negI (rnd S) := by
  unfold rnd
  rw [neg_fbits, Int.natAbs_neg]
  congr 1
  by_cases g : S < 0
  · rw [decide_eq_true g, decide_eq_false (by omega)]; rfl
  · rw [decide_eq_false g, decide_eq_true (by omega)]; rfl
def sv (x : Int) : Int := sg (sgn x) (fn x)
theorem sv_neg {x : Int} (hx : Wd x) (h : kd x ≠ 4) : sv (negI x) = - sv x := by unfold sv; rw [sgn_neg hx h, fn_neg hx h, sg_not]
theorem addI_fin {a b : Int} (h1 : kd a ≤ 2) (h2 : kd b ≤ 2) (h3 : kd a ≠ 0 ∨ kd b ≠ 0) : addI a b = rnd (sv a + sv b) := by
  unfold addI sv; rw [if_neg (by omega), if_neg (by omega), if_neg (by omega), if_neg (by omega)]
theorem addI_zero {a b : Int} (h1 : kd a = 0) (h2 : kd b = 0) : addI a b = if a = b then a else 0 := by
  unfold addI; rw [if_neg (by omega), if_neg (by omega), if_neg (by omega), if_pos ⟨h1, h2⟩]

theorem add_comm' (a b : Int) : addI a b = addI b a := by
  have h1 := kd_bd a
  have h2 := kd_bd b
  by_cases h4 : kd a = 4 ∨ kd b = 4
  · unfold addI; rw [if_pos h4, if_pos h4.symm]
  · have h4' : ¬ (kd b = 4 ∨ kd a = 4) := by omega
    by_cases ha : kd a = 3
    · by_cases hb : kd b = 3
      · unfold addI
        rw [if_neg h4, if_neg h4', if_pos ha, if_pos hb]
        by_cases hab : a = b
        · subst hab; rfl
        · rw [if_pos ⟨hb, hab⟩, if_pos ⟨ha, fun g => hab g.symm⟩]
      · unfold addI
        rw [if_neg h4, if_neg h4', if_pos ha, if_neg hb, if_neg (by omega), if_pos ha]
    · by_cases hb : kd b = 3
      · unfold addI
        rw [if_neg h4, if_neg h4', if_neg ha, if_pos hb, if_pos hb, if_neg (by omega)]
      · by_cases h0 : kd a = 0 ∧ kd b = 0
        · rw [addI_zero h0.1 h0.2, addI_zero h0.2 h0.1]
          by_cases hab : a = b
          · subst hab; rfl
          · rw [if_neg hab, if_neg (fun g => hab g.symm)]
        · rw [addI_fin (by omega) (by omega) (by omega), addI_fin (by omega) (by omega) (by omega), Int.add_comm]
theorem mul_comm' (a b : Int) : mulI a b = mulI b a := by
  have e : (sgn a != sgn b) = (sgn b != sgn a) := by cases sgn a <;> cases sgn b <;> rfl
  have e1 : (kd a = 4 ∨ kd b = 4 ∨ (kd a = 3 ∧ kd b = 0) ∨ (kd a = 0 ∧ kd b = 3)) ↔ (kd b = 4 ∨ kd a = 4 ∨ (kd b = 3 ∧ kd a = 0) ∨ (kd b = 0 ∧ kd a = 3)) := by omega
  have e2 : (kd a = 3 ∨ kd b = 3) ↔ (kd b = 3 ∨ kd a = 3) := by omega
  unfold mulI
  rw [e, Int.mul_comm (mant a), Int.add_comm (expo a)]
  simp only [e1, e2]
/-- The other way round: the other sign, or zeros. -/
theorem sub_turn {a b : Int} (ha : Wd a) (hb : Wd b) : subI a b = negI (subI b a) ∨ (subI a b % 9223372036854775808 = 0 ∧ subI b a % 9223372036854775808 = 0) := by
  have h1 := kd_bd a
  have h2 := kd_bd b
  unfold subI
  by_cases a4 : kd a = 4
  · left
    have e1 : addI a (negI b) = NAN := by unfold addI; rw [if_pos (.inl a4)]
    have e2 : negI a = NAN := by unfold negI; rw [if_pos a4]
    have e3 : addI b (negI a) = NAN := by unfold addI; rw [e2, if_pos (.inr kd_nan)]
    rw [e1, e3, neg_nan]
  · by_cases b4 : kd b = 4
    · left
      have e2 : negI b = NAN := by unfold negI; rw [if_pos b4]
      have e1 : addI a (negI b) = NAN := by unfold addI; rw [e2, if_pos (.inr kd_nan)]
      have e3 : addI b (negI a) = NAN := by unfold addI; rw [if_pos (.inl b4)]
      rw [e1, e3, neg_nan]
    · have ka := kd_neg ha a4
      have kb := kd_neg hb b4
      by_cases a3 : kd a = 3
      · left
        by_cases b3 : kd b = 3
        · by_cases hab : a = negI b
          · have hba : b = negI a := by rw [hab, neg_neg' hb b4]
            have e1 : addI a (negI b) = a := by unfold addI; rw [if_neg (by omega), if_pos a3, if_neg (by simp [hab])]
            have e2 : addI b (negI a) = b := by unfold addI; rw [if_neg (by omega), if_pos b3, if_neg (by simp [hba])]
            rw [e1, e2]; exact hab
          · have hba : b ≠ negI a := fun g => hab (by rw [g, neg_neg' ha a4])
            have e1 : addI a (negI b) = NAN := by unfold addI; rw [if_neg (by omega), if_pos a3, if_pos ⟨by omega, hab⟩]
            have e2 : addI b (negI a) = NAN := by unfold addI; rw [if_neg (by omega), if_pos b3, if_pos ⟨by omega, hba⟩]
            rw [e1, e2, neg_nan]
        · have e1 : addI a (negI b) = a := by unfold addI; rw [if_neg (by omega), if_pos a3, if_neg (by omega)]
          have e2 : addI b (negI a) = negI a := by unfold addI; rw [if_neg (by omega), if_neg b3, if_pos (by omega)]
          rw [e1, e2, neg_neg' ha a4]
      · by_cases b3 : kd b = 3
        · left
          have e1 : addI a (negI b) = negI b := by unfold addI; rw [if_neg (by omega), if_neg a3, if_pos (by omega)]
          have e2 : addI b (negI a) = b := by unfold addI; rw [if_neg (by omega), if_pos b3, if_neg (by omega)]
          rw [e1, e2]
        · by_cases h0 : kd a = 0 ∧ kd b = 0
          · right
            have za := zero_word' ha h0.1
            have zb := zero_word' hb h0.2
            have zna := zero_word' (wd_neg ha) (by omega)
            have znb := zero_word' (wd_neg hb) (by omega)
            rw [addI_zero h0.1 (by omega), addI_zero h0.2 (by omega)]
            unfold sb at za zb zna znb
            constructor <;> (repeat' split) <;> (first | rfl | (split at za <;> omega) | (split at zb <;> omega))
          · rw [addI_fin (by omega) (by omega) (by omega), addI_fin (by omega) (by omega) (by omega), sv_neg hb b4, sv_neg ha a4]
            by_cases hS : sv a + - sv b = 0
            · right
              have hS' : sv b + - sv a = 0 := by omega
              rw [hS, hS', rnd_zero]; decide
            · left
              rw [← rnd_neg (by omega)]
              congr 1; omega
theorem mul_neg_l {a b : Int} (ha : Wd a) : mulI (negI a) b = negI (mulI a b) := by
  have h1 := kd_bd a
  have h2 := kd_bd b
  by_cases a4 : kd a = 4
  · have e2 : negI a = NAN := by unfold negI; rw [if_pos a4]
    have e1 : mulI a b = NAN := by unfold mulI; rw [if_pos (.inl a4)]
    have e3 : mulI NAN b = NAN := by unfold mulI; rw [if_pos (.inl kd_nan)]
    rw [e2, e1, e3, neg_nan]
  · have ka := kd_neg ha a4
    unfold mulI
    rw [ka, sgn_neg ha a4, mant_neg ha a4, expo_neg ha a4]
    split
    · rw [neg_nan]
    · split
      · have : ((!sgn a) != sgn b) = !(sgn a != sgn b) := by cases sgn a <;> cases sgn b <;> rfl
        rw [this]
        generalize (sgn a != sgn b) = s
        cases s <;> decide
      · have : ((!sgn a) != sgn b) = !(sgn a != sgn b) := by cases sgn a <;> cases sgn b <;> rfl
        rw [this, neg_fbits]

/-! ### A finite number is what its own value rounds to -/
theorem V_fn {x : Int} (hx : Wd x) (h : kd x ≤ 2) : Pl.V (x % 9223372036854775808).toNat = fn x := by
  obtain ⟨h0, h1⟩ := hx
  have hE0 : 0 ≤ x / 4503599627370496 % 2048 := by omega
  unfold fn mant expo
  by_cases hk : kd x ≤ 1
  · rw [if_pos hk, if_pos hk]
    have hE : x / 4503599627370496 % 2048 = 0 := by unfold kd at hk; (repeat' split at hk) <;> omega
    unfold Pl.V
    rw [if_pos (by omega)]
    simp; omega
  · rw [if_neg hk, if_neg hk, if_pos (by omega), if_pos (by omega)]
    have hE : x / 4503599627370496 % 2048 ≠ 0 := by unfold kd at hk; (repeat' split at hk) <;> omega
    unfold Pl.V
    rw [if_neg (by omega)]
    have e1 : (x % 9223372036854775808).toNat % 2 ^ 52 = (x % 4503599627370496).toNat := by omega
    have e2 : (x % 9223372036854775808).toNat / 2 ^ 52 - 1 = (x / 4503599627370496 % 2048 - 1075 + 1074).toNat := by omega
    have e3 : 2 ^ 52 + (x % 4503599627370496).toNat = (4503599627370496 + x % 4503599627370496).toNat := by omega
    rw [e1, e2, e3]
theorem low_inf {x : Int} (hx : Wd x) (h : kd x ≤ 2) : (x % 9223372036854775808).toNat < Pl.INF := by
  obtain ⟨h0, h1⟩ := hx
  rw [Pl.INF_eq]
  unfold kd at h
  (repeat' split at h) <;> omega
theorem mag_V {R : Nat} (h : R ≤ Pl.INF) : Pl.mag (Pl.V R) (-1074) false = R := by
  refine Pl.mag_of_V h ?_
  have e1 : Pl.sd (-1074) = 0 := by decide
  have e2 : Pl.sc (-1074) = 1 := by decide
  rw [e1, e2]; omega
theorem word_parts {x : Int} (hx : Wd x) : x = sb (sgn x) + x % 9223372036854775808 := by
  obtain ⟨h0, h1⟩ := hx
  unfold sb sgn
  by_cases g : 9223372036854775808 ≤ x
  · rw [decide_eq_true g, if_pos rfl]; omega
  · rw [decide_eq_false g, if_neg (by simp)]; omega
theorem fbits_id {x : Int} (hx : Wd x) (h : kd x ≤ 2) : fbits (sgn x) (fn x) (-1074) false = x := by
  unfold fbits
  rw [← V_fn hx h, mag_V (Nat.le_of_lt (low_inf hx h))]
  have := word_parts hx
  obtain ⟨h0, h1⟩ := hx
  omega
theorem fbits_parts {x : Int} (hx : Wd x) (h : kd x ≤ 2) : fbits (sgn x) (mant x).toNat (expo x) false = x := by
  have h1 := fbits_id hx h
  unfold fn at h1
  rw [fbits_scale] at h1
  have h2 := expo_bd (x := x)
  have e : (-1074 : Int) + ((expo x + 1074).toNat : Int) = expo x := by omega
  rw [e] at h1
  exact h1
theorem sg_sign {s : Bool} {n : Nat} (h : n ≠ 0) : decide (sg s n < 0) = s := by
  unfold sg
  cases s
  · simp
  · simp; omega
theorem sg_abs (s : Bool) (n : Nat) : (sg s n).natAbs = n := by unfold sg; cases s <;> simp
theorem fn_ne {x : Int} (hx : Wd x) (h : kd x ≤ 2) (h0 : kd x ≠ 0) : fn x ≠ 0 := by
  have hV := V_fn hx h
  intro g
  rw [g] at hV
  have hx0 : (x % 9223372036854775808).toNat = 0 := by
    rcases Nat.eq_zero_or_pos (x % 9223372036854775808).toNat with k | k
    · exact k
    · have := Pl.V_pos k; omega
  obtain ⟨g0, g1⟩ := hx
  apply h0
  unfold kd
  (repeat' split) <;> omega
theorem rnd_sv {x : Int} (hx : Wd x) (h : kd x ≤ 2) (h0 : kd x ≠ 0) : rnd (sv x) = x := by
  unfold rnd sv
  rw [sg_abs, sg_sign (fn_ne hx h h0), fbits_id hx h]
theorem sv_zero {x : Int} (_hx : Wd x) (h : kd x = 0) : sv x = 0 := by
  unfold sv
  have : fn x = 0 := by
    unfold fn mant
    have : x % 4503599627370496 = 0 := by unfold kd at h; (repeat' split at h) <;> omega
    rw [if_pos (by omega), this]; simp
  rw [this]; unfold sg; split <;> rfl

/-! ### Nothing added, multiplied by one -/
def ONE : Int := 4607182418800017408
theorem one_parts : kd 4607182418800017408 = 2 ∧ sgn 4607182418800017408 = false ∧ mant 4607182418800017408 = 4503599627370496 ∧ expo 4607182418800017408 = -52 := by decide
theorem two_parts : kd 4611686018427387904 = 2 ∧ sgn 4611686018427387904 = false ∧ mant 4611686018427387904 = 4503599627370496 ∧ expo 4611686018427387904 = -51 := by decide
theorem mul_one' {a : Int} (ha : Wd a) : mulI a 4607182418800017408 = rightI a := by
  obtain ⟨k, s, m, e⟩ := one_parts
  have h1 := kd_bd a
  unfold mulI rightI
  rw [k, s, m, e]
  by_cases a4 : kd a = 4
  · rw [if_pos (by omega), if_pos a4]
  · rw [if_neg (by omega), if_neg a4]
    by_cases a3 : kd a = 3
    · rw [if_pos (by omega)]
      have : (sgn a != false) = sgn a := by cases sgn a <;> rfl
      rw [this]; exact (inf_word ha a3).symm
    · rw [if_neg (by omega)]
      have : (sgn a != false) = sgn a := by cases sgn a <;> rfl
      have hm := mant_bd (x := a)
      have e1 : (mant a * 4503599627370496).toNat = (mant a).toNat * 2 ^ 52 := by omega
      rw [this, e1, fbits_scale]
      have e2 : expo a + -52 + ((52 : Nat) : Int) = expo a := by omega
      rw [e2]
      exact fbits_parts ha (by omega)
theorem add_self {a : Int} (ha : Wd a) : addI a a = mulI a 4611686018427387904 := by
  obtain ⟨k, s, m, e⟩ := two_parts
  have h1 := kd_bd a
  have hs : (sgn a != false) = sgn a := by cases sgn a <;> rfl
  have hm := mant_bd (x := a)
  have he := expo_bd (x := a)
  have e1 : (mant a * 4503599627370496).toNat = (mant a).toNat * 2 ^ 52 := by omega
  have e2 : expo a + -51 + ((52 : Nat) : Int) = expo a + 1 := by omega
  have hM : mulI a 4611686018427387904 = if kd a = 4 then NAN else if kd a = 3 then sb (sgn a) + INFI else fbits (sgn a) ((mant a).toNat * 2 ^ 1) (expo a) false := by
    unfold mulI
    rw [k, s, m, e, hs, e1, fbits_scale, e2, fbits_scale]
    by_cases a4 : kd a = 4
    · rw [if_pos (by omega), if_pos a4]
    · rw [if_neg (by omega), if_neg a4]
      by_cases a3 : kd a = 3
      · rw [if_pos (by omega), if_pos a3]
      · rw [if_neg (by omega), if_neg a3]; rfl
  rw [hM]
  by_cases a4 : kd a = 4
  · rw [if_pos a4]; unfold addI; rw [if_pos (.inl a4)]
  · rw [if_neg a4]
    by_cases a3 : kd a = 3
    · rw [if_pos a3]; unfold addI; rw [if_neg (by omega), if_pos a3, if_neg (by simp)]; exact inf_word ha a3
    · rw [if_neg a3]
      by_cases a0 : kd a = 0
      · rw [addI_zero a0 a0, if_pos rfl]
        have : mant a = 0 := by
          unfold mant
          have : a % 4503599627370496 = 0 := by unfold kd at a0; (repeat' split at a0) <;> omega
          rw [if_pos (by omega), this]
        rw [this]
        unfold fbits
        rw [show (0 : Int).toNat * 2 ^ 1 = 0 from rfl, mag_zero]
        have := zero_word' ha a0
        simpa using this
      · rw [addI_fin (by omega) (by omega) (by omega)]
        have hf := fn_ne ha (by omega) a0
        have : sv a + sv a = sg (sgn a) (fn a * 2 ^ 1) := by unfold sv sg; cases sgn a <;> simp <;> omega
        rw [this]
        unfold rnd
        rw [sg_abs, sg_sign (by omega), fbits_scale, fbits_scale]
        unfold fn
        rw [fbits_scale]
        congr 1; omega
theorem mul_mone {a : Int} (ha : Wd a) : mulI a 13830554455654793216 = negI a := by
  have e : (13830554455654793216 : Int) = negI 4607182418800017408 := by decide
  rw [mul_comm', e, mul_neg_l ⟨by decide, by decide⟩, mul_comm', mul_one' ha]
  unfold rightI
  by_cases a4 : kd a = 4
  · rw [if_pos a4, neg_nan]; unfold negI; rw [if_pos a4]
  · rw [if_neg a4]
theorem sub_self_fin {a : Int} (ha : Wd a) (h : kd a ≤ 2) : subI a a = 0 := by
  have kn := kd_neg ha (by omega)
  unfold subI
  by_cases a0 : kd a = 0
  · rw [addI_zero a0 (by omega), if_neg (fun g => neg_ne ha (by omega) g.symm)]
  · rw [addI_fin (by omega) (by omega) (by omega), sv_neg ha (by omega)]
    have : sv a + - sv a = 0 := by omega
    rw [this, rnd_zero]
theorem sub_self_inf {a : Int} (ha : Wd a) (h : 3 ≤ kd a) : subI a a = NAN := by
  have h1 := kd_bd a
  unfold subI addI
  by_cases a4 : kd a = 4
  · rw [if_pos (.inl a4)]
  · have kn := kd_neg ha a4
    rw [if_neg (by omega), if_pos (by omega), if_pos ⟨by omega, fun g => neg_ne ha a4 g.symm⟩]
theorem add_zero_inf {a : Int} (h : 3 ≤ kd a) : addI a 0 = rightI a := by
  have h1 := kd_bd a
  have k0 : kd 0 = 0 := by decide
  unfold addI rightI
  by_cases a4 : kd a = 4
  · rw [if_pos (.inl a4), if_pos a4]
  · rw [if_neg (by omega), if_pos (by omega), if_neg (by omega), if_neg a4]
theorem add_zero_fin {a : Int} (ha : Wd a) (h : kd a ≤ 2) (hn : a ≠ 9223372036854775808) : addI a 0 = a := by
  have k0 : kd 0 = 0 := by decide
  by_cases a0 : kd a = 0
  · rw [addI_zero a0 k0]
    have := zero_word' ha a0
    unfold sb at this
    split at this
    · exact absurd this hn
    · rw [if_pos this]
  · rw [addI_fin h (by omega) (by omega), sv_zero ⟨by decide, by decide⟩ k0, Int.add_zero, rnd_sv ha h a0]
theorem add_nzero_fin {a : Int} (ha : Wd a) (h : kd a ≤ 2) : addI a 9223372036854775808 = a := by
  have k0 : kd 9223372036854775808 = 0 := by decide
  by_cases a0 : kd a = 0
  · rw [addI_zero a0 k0]
    have := zero_word' ha a0
    unfold sb at this
    split at this
    · rw [if_pos this]
    · rw [if_neg (by omega)]; exact this.symm
  · rw [addI_fin h (by omega) (by omega), sv_zero ⟨by decide, by decide⟩ k0, Int.add_zero, rnd_sv ha h a0]
end Go.Proofs.Ytjlmchbpdkojeaa
