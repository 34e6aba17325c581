/-
  Plain laws for WholeNears: what is whole rounds to itself.
-/
import Derived.Test.YtjlmchbpdkojeaaLaw6C
namespace Go.Proofs.Ytjlmchbpdkojeaa
open Go.RowKit Go.Shelf

theorem moreW_none (way : Int) (s : Bool) (q : Nat) : moreW way s false false q = false := by
  unfold moreW
  cases s <;> (repeat' split) <;> rfl
theorem sp_whole {y : Int} {N : Nat} (hf : fn y = N * 2 ^ 1074) : (spW y).h = false ∧ (spW y).r = false ∧ ∀ way, natW y way = N := by
  have hb := expo_bd (x := y)
  obtain ⟨T, hT⟩ : ∃ T : Nat, 1074 = T := ⟨_, rfl⟩
  rw [hT] at hf
  unfold fn at hf
  by_cases h : 0 ≤ expo y
  · obtain ⟨j, hj⟩ := Int.eq_ofNat_of_zero_le h
    have e1 : (expo y + 1074).toNat = j + T := by omega
    rw [e1, Nat.pow_add, ← Nat.mul_assoc] at hf
    have e2 := Nat.eq_of_mul_eq_mul_right (Nat.two_pow_pos T) hf
    refine ⟨?_, ?_, fun way => ?_⟩
    · unfold spW; rw [if_pos h]
    · unfold spW; rw [if_pos h]
    · unfold natW; rw [if_pos h, hj, Int.toNat_natCast]; exact e2
  · obtain ⟨j, hj⟩ : ∃ j : Nat, (-expo y).toNat = j + 1 := ⟨(-expo y).toNat - 1, by omega⟩
    have e1 : (expo y + 1074).toNat = T - (j + 1) := by omega
    have e2 : (2 : Nat) ^ T = 2 ^ (j + 1) * 2 ^ (T - (j + 1)) := by rw [← Nat.pow_add]; congr 1; omega
    rw [e1, e2, ← Nat.mul_assoc] at hf
    have e3 := Nat.eq_of_mul_eq_mul_right (Nat.two_pow_pos _) hf
    have h0 : 0 < 2 ^ j := Nat.pow_pos (by decide)
    have e4 : N * 2 ^ (j + 1) = 2 * N * 2 ^ j := by rw [Nat.pow_succ, ← Nat.mul_assoc, Nat.mul_comm _ 2, ← Nat.mul_assoc]
    have hh : hB (mant y).toNat (j + 1) = false := by
      unfold hB
      rw [e3, e4, Nat.add_sub_cancel, Nat.mul_div_cancel _ h0]
      simp
    have hr : rB (mant y).toNat (j + 1) = false := by
      unfold rB
      rw [e3, e4, Nat.add_sub_cancel, Nat.mul_mod_left]
      simp
    have hq : (mant y).toNat / 2 ^ (j + 1) = N := by rw [e3, Nat.mul_div_cancel _ (Nat.pow_pos (by decide))]
    have hs : spW y = ⟨sgn y, false, false, N⟩ := by
      unfold spW
      rw [if_neg h, hj, hh, hr, hq]
    refine ⟨by rw [hs], by rw [hs], fun way => ?_⟩
    unfold natW
    rw [if_neg h, hs]
    unfold roundW
    rw [moreW_none]
    simp
theorem nat_again (s : Bool) {N : Nat} (h : N ≤ 2 ^ 53) (way : Int) (h0 : 0 ≤ way) (h5 : way ≤ 5) : isW (fbits s N 0 false) = true ∧ wholeI (fbits s N 0 false) way = fbits s N 0 false := by
  obtain ⟨hk, hs, hf⟩ := from_parts s h
  obtain ⟨p1, p2, p3⟩ := sp_whole hf
  refine ⟨?_, ?_⟩
  · unfold isW
    rw [p1, p2, decide_eq_true (by omega)]
    rfl
  · rw [whole_nat (wd_fbits _ _ _ _) hk h0 h5, hs, p3]
theorem sgn_fbits (s : Bool) (N : Nat) (e : Int) (m : Bool) : sgn (fbits s N e m) = s := by
  have h := fbits_bd s N e m
  obtain ⟨f, hf⟩ : ∃ f, fbits s N e m = f := ⟨_, rfl⟩
  rw [hf] at h ⊢
  unfold sb INFI at h
  unfold sgn
  cases s
  · simp at h ⊢; omega
  · simp at h ⊢; omega
theorem nat_turn {x : Int} (hx : Wd x) (h : kd x ≤ 2) : natW (negI x) 4 = natW x 5 := by
  have h4 : kd x ≠ 4 := by omega
  unfold natW spW roundW
  rw [mant_neg hx h4, expo_neg hx h4, sgn_neg hx h4]
  by_cases g : 0 ≤ expo x
  · rw [if_pos g, if_pos g]
  · rw [if_neg g, if_neg g, if_neg g, if_neg g]
    unfold moreW
    simp
theorem whole_turn {x : Int} (hx : Wd x) (h : kd x ≤ 2) : wholeI (negI x) 4 = negI (wholeI x 5) := by
  have h4 : kd x ≠ 4 := by omega
  have hk : kd (negI x) ≤ 2 := by rw [kd_neg hx h4]; exact h
  rw [whole_nat (wd_neg hx) hk (by omega) (by omega), whole_nat hx h (by omega) (by omega), neg_fbits, sgn_neg hx h4, nat_turn hx h]
/-- What is rounded is one of the two beside it; low and high are the two, by the sign. -/
theorem nat_two (x way : Int) : natW x way = natW x 2 ∨ natW x way = natW x 2 + 1 := by
  unfold natW
  by_cases g : 0 ≤ expo x
  · rw [if_pos g, if_pos g]; exact .inl rfl
  · rw [if_neg g, if_neg g]
    unfold roundW
    have e : ∀ s h r q, moreW 2 s h r q = false := fun s h r q => by unfold moreW; simp
    rw [e]
    cases moreW way (spW x).s (spW x).h (spW x).r (spW x).q
    · exact .inl rfl
    · exact .inr rfl
theorem more_none (x way : Int) (h : ((spW x).h || (spW x).r) = false) : natW x way = natW x 2 := by
  unfold natW
  by_cases g : 0 ≤ expo x
  · rw [if_pos g, if_pos g]
  · rw [if_neg g, if_neg g]
    have h1 : (spW x).h = false := by cases e : (spW x).h <;> simp_all
    have h2 : (spW x).r = false := by cases e : (spW x).r <;> simp_all
    unfold roundW
    rw [h1, h2, moreW_none, moreW_none]
theorem spW_s (x : Int) : (spW x).s = sgn x := by unfold spW; split <;> rfl
/-- Toward the lower side, toward the upper side: a whole number stays, else the two beside it. -/
theorem nat_sides {x : Int} (hk : kd x ≤ 2) : (isW x = true ∧ natW x 4 = natW x 2 ∧ natW x 5 = natW x 2) ∨ (isW x = false ∧ sgn x = false ∧ natW x 4 = natW x 2 ∧ natW x 5 = natW x 2 + 1) ∨ (isW x = false ∧ sgn x = true ∧ natW x 4 = natW x 2 + 1 ∧ natW x 5 = natW x 2) := by
  have hd : decide (kd x < 3) = true := by simp; omega
  obtain ⟨b, hb⟩ : ∃ b, ((spW x).h || (spW x).r) = b := ⟨_, rfl⟩
  have hi : isW x = !b := by unfold isW; rw [hd, hb]; rfl
  cases b
  · left
    exact ⟨hi, more_none x 4 hb, more_none x 5 hb⟩
  · right
    have g : ¬ 0 ≤ expo x := by
      intro g
      unfold spW at hb
      rw [if_pos g] at hb
      cases hb
    have e2 : ∀ s h r q, moreW 2 s h r q = false := fun s h r q => by unfold moreW; simp
    have e4 : moreW 4 (spW x).s (spW x).h (spW x).r (spW x).q = sgn x := by
      unfold moreW; simp [hb, spW_s]
    have e5 : moreW 5 (spW x).s (spW x).h (spW x).r (spW x).q = !sgn x := by
      unfold moreW; simp [hb, spW_s]
    unfold natW
    rw [if_neg g, if_neg g, if_neg g]
    unfold roundW
    rw [e2, e4, e5]
    cases hs : sgn x
    · left; exact ⟨hi, rfl, by simp, by simp⟩
    · right; exact ⟨hi, rfl, by simp, by simp⟩
theorem sv_nat (s : Bool) {N : Nat} (h : N ≤ 2 ^ 53) : sv (fbits s N 0 false) = sg s (N * 2 ^ 1074) := by
  obtain ⟨hk, hs, hf⟩ := from_parts s h
  unfold sv
  rw [hs, hf]
theorem kd_nat (s : Bool) {N : Nat} (h : N ≤ 2 ^ 53) (h0 : N ≠ 0) : kd (fbits s N 0 false) ≠ 0 := by
  obtain ⟨hk, hs, hf⟩ := from_parts s h
  intro g
  obtain ⟨T, hT⟩ : ∃ T : Nat, 1074 = T := ⟨_, rfl⟩
  rw [hT] at hf
  have e := sv_zero (wd_fbits _ _ _ _) g
  unfold sv at e
  rw [hs, hf] at e
  have e2 := sg_abs s (N * 2 ^ T)
  rw [e] at e2
  have e3 : N * 2 ^ T ≠ 0 := Nat.mul_ne_zero h0 (Nat.pos_iff_ne_zero.1 (Nat.two_pow_pos T))
  exact e3 e2.symm
theorem rnd_one : rnd (((2 ^ 1074 : Nat)) : Int) = 4607182418800017408 := by decide +kernel
theorem sub_one {q : Nat} (h : q + 1 ≤ 2 ^ 53) : subI (fbits false (q + 1) 0 false) (fbits false q 0 false) = 4607182418800017408 ∧ subI (fbits true q 0 false) (fbits true (q + 1) 0 false) = 4607182418800017408 := by
  have hq : q ≤ 2 ^ 53 := by omega
  have k1 := fun s => kd_nat s h (Nat.succ_ne_zero q)
  have k2 := fun s => (from_parts s h).1
  have k3 := fun s => (from_parts s hq).1
  obtain ⟨T, hT⟩ : ∃ T : Nat, 1074 = T := ⟨_, rfl⟩
  have v1 : ∀ s, sv (fbits s (q + 1) 0 false) = sg s ((q + 1) * 2 ^ T) := fun s => by rw [← hT]; exact sv_nat s h
  have v2 : ∀ s, sv (fbits s q 0 false) = sg s (q * 2 ^ T) := fun s => by rw [← hT]; exact sv_nat s hq
  have hr := rnd_one
  rw [hT] at hr
  have hm : ∀ P : Nat, (q + 1) * P = q * P + P := fun P => Nat.succ_mul q P
  unfold subI
  rw [neg_fbits, neg_fbits]
  refine ⟨?_, ?_⟩
  · rw [show (!false) = true from rfl, addI_fin (k2 _) (k3 _) (.inl (k1 _)), v1, v2, hm]
    generalize (2 : Nat) ^ T = P at hr
    rw [← hr]
    congr 1
    unfold sg
    generalize q * P = m
    simp
    omega
  · rw [show (!true) = false from rfl, addI_fin (k3 _) (k2 _) (.inr (k1 _)), v1, v2, hm]
    generalize (2 : Nat) ^ T = P at hr
    rw [← hr]
    congr 1
    unfold sg
    generalize q * P = m
    simp
    omega
theorem fn_whole {x : Int} (h : isW x = true) : fn x = natW x 2 * 2 ^ 1074 := by
  have hb := expo_bd (x := x)
  have hd : ((spW x).h || (spW x).r) = false := by
    unfold isW at h
    cases e : ((spW x).h || (spW x).r)
    · rfl
    · rw [e] at h; simp at h
  have hd0 := natW_down x
  obtain ⟨T, hT⟩ : ∃ T : Nat, 1074 = T := ⟨_, rfl⟩
  rw [hT] at hd0 ⊢
  rw [hd0]
  refine (Nat.div_mul_cancel ?_).symm
  unfold fn
  by_cases g : 0 ≤ expo x
  · obtain ⟨j, hj⟩ := Int.eq_ofNat_of_zero_le g
    rw [show (expo x + 1074).toNat = j + T by omega, Nat.pow_add, ← Nat.mul_assoc]
    exact Nat.dvd_mul_left _ _
  · obtain ⟨j, hj⟩ : ∃ j : Nat, (-expo x).toNat = j + 1 := ⟨(-expo x).toNat - 1, by omega⟩
    have h1 : (expo x + 1074).toNat = T - (j + 1) := by omega
    have h2 : (2 : Nat) ^ T = 2 ^ (j + 1) * 2 ^ (T - (j + 1)) := by rw [← Nat.pow_add]; congr 1; omega
    rw [h1, h2]
    refine Nat.mul_dvd_mul_right ?_ _
    unfold spW at hd
    rw [if_neg g] at hd
    have hd2 : (hB (mant x).toNat (j + 1) || rB (mant x).toNat (j + 1)) = false := by rw [← hj]; exact hd
    unfold hB rB at hd2
    rw [Nat.add_sub_cancel] at hd2
    simp only [Bool.or_eq_false_iff, decide_eq_false_iff_not, Decidable.not_not] at hd2
    obtain ⟨q1, q2⟩ := hd2
    refine Nat.dvd_of_mod_eq_zero ?_
    rw [Nat.pow_succ, Nat.mod_mul, q2]
    have : (mant x).toNat / 2 ^ j % 2 = 0 := by omega
    rw [this]
    simp
end Go.Proofs.Ytjlmchbpdkojeaa
