/-
  Plain laws for WholeNears: all that it says of the numbers.
-/
import Derived.Test.YtjlmchbpdkojeaaNears6
namespace Go.Proofs.Ytjlmchbpdkojeaa
open Go.RowKit Go.Shelf

theorem isW_none {x : Int} (h : isW x = true) : ((spW x).h || (spW x).r) = false := by
  unfold isW at h
  cases e : ((spW x).h || (spW x).r)
  · rfl
  · rw [e] at h; simp at h
theorem wh_id {x : Int} (hx : Wd x) (hk : kd x ≤ 2) (h : isW x = true) {way : Int} (h0 : 0 ≤ way) (h5 : way ≤ 5) : wholeI x way = x := by
  rw [whole_nat hx hk h0 h5, more_none x way (isW_none h)]
  have e1 := fn_whole h
  have e2 := fbits_id hx hk
  obtain ⟨T, hT⟩ : ∃ T : Nat, 1074 = T := ⟨_, rfl⟩
  rw [hT] at e1
  rw [e1, fbits_scale, show (-1074 : Int) + (T : Nat) = 0 by omega] at e2
  exact e2
theorem rank_fn {a b : Int} (ha : Wd a) (hb : Wd b) (h1 : kd a ≤ 2) (h2 : kd b ≤ 2) (h : fn a ≤ fn b) : (sgn a = false → sgn b = false → rankI a ≤ rankI b) ∧ (sgn a = true → sgn b = true → rankI b ≤ rankI a) := by
  rw [← V_fn ha h1, ← V_fn hb h2] at h
  have h3 := Pl.V_le_iff.1 h
  rw [rank_word ha, rank_word hb]
  unfold sg
  refine ⟨fun s t => ?_, fun s t => ?_⟩
  · rw [s, t]; simp; omega
  · rw [s, t]; simp; omega
theorem div_up (n : Nat) {P : Nat} (h : 0 < P) : n ≤ (n / P + 1) * P := by
  have h1 := Nat.div_add_mod n P
  have h2 := Nat.mod_lt n h
  rw [Nat.add_mul, Nat.one_mul, Nat.mul_comm (n / P) P]
  omega
structure Nears (x lo hi : Int) : Prop where
  wl : isW lo = true
  wh : isW hi = true
  al : ∀ way : Int, 0 ≤ way → way ≤ 5 → wholeI lo way = lo
  ah : ∀ way : Int, 0 ≤ way → way ≤ 5 → wholeI hi way = hi
  two : ∀ way : Int, 0 ≤ way → way ≤ 5 → wholeI x way = lo ∨ wholeI x way = hi
  sl : sgn lo = sgn x
  sh : sgn hi = sgn x
  rl : rankI lo ≤ rankI x
  rh : rankI x ≤ rankI hi
  kl : kd lo ≤ 2
  kh : kd hi ≤ 2
  is : (isW x = true ∧ lo = x ∧ hi = x) ∨ (isW x = false ∧ lo ≠ x ∧ subI hi lo = 4607182418800017408)
  turn : wholeI (negI x) 4 = negI hi
theorem nat_bd {x : Int} (h : isW x = false) (hk : kd x ≤ 2) : natW x 2 + 1 ≤ 2 ^ 53 := by
  have g : ¬ 0 ≤ expo x := by
    intro g
    unfold isW spW at h
    rw [if_pos g, decide_eq_true (by omega)] at h
    cases h
  have hb := sp_bd x
  unfold natW
  rw [if_neg g]
  unfold roundW
  have e2 : ∀ s h r q, moreW 2 s h r q = false := fun s h r q => by unfold moreW; simp
  rw [e2]
  simp
  omega
theorem nears {x : Int} (hx : Wd x) (hk : kd x ≤ 2) : Nears x (wholeI x 4) (wholeI x 5) := by
  have ht := whole_turn hx hk
  rcases nat_sides hk with ⟨hi, h4, h5⟩ | ⟨hi, hs, h4, h5⟩ | ⟨hi, hs, h4, h5⟩
  · have hid : ∀ way : Int, 0 ≤ way → way ≤ 5 → wholeI x way = x := fun way h0 h5 => wh_id hx hk hi h0 h5
    rw [hid 4 (by omega) (by omega), hid 5 (by omega) (by omega)]
    rw [hid 5 (by omega) (by omega)] at ht
    exact ⟨hi, hi, hid, hid, fun way h0 h5 => .inl (hid way h0 h5), rfl, rfl, Int.le_refl _, Int.le_refl _, hk, hk, .inl ⟨hi, rfl, rfl⟩, ht⟩
  · have hb := nat_bd hi hk
    have hd := natW_down x
    rw [whole_nat hx hk (by omega) (by omega), whole_nat hx hk (by omega) (by omega), h4, h5, hs]
    rw [whole_nat hx hk (by omega) (by omega), h5, hs] at ht
    have h2 : ∀ way : Int, 0 ≤ way → way ≤ 5 → wholeI x way = fbits false (natW x 2) 0 false ∨ wholeI x way = fbits false (natW x 2 + 1) 0 false := by
      intro way h0 h5
      rw [whole_nat hx hk h0 h5, hs]
      rcases nat_two x way with g | g
      · rw [g]; exact .inl rfl
      · rw [g]; exact .inr rfl
    obtain ⟨q, hq⟩ : ∃ q, natW x 2 = q := ⟨_, rfl⟩
    rw [hq] at hb hd h2 ht ⊢
    obtain ⟨k1, s1, f1⟩ := from_parts false (N := q) (by omega)
    obtain ⟨k2, s2, f2⟩ := from_parts false (N := q + 1) hb
    obtain ⟨T, hT⟩ : ∃ T : Nat, 1074 = T := ⟨_, rfl⟩
    rw [hT] at hd f1 f2
    have wdl := wd_fbits false q 0 false
    have wdh := wd_fbits false (q + 1) 0 false
    have l1 : fn (fbits false q 0 false) ≤ fn x := by rw [f1, hd]; exact Nat.div_mul_le_self _ _
    have l2 : fn x ≤ fn (fbits false (q + 1) 0 false) := by rw [f2, hd]; exact div_up _ (Nat.two_pow_pos T)
    exact ⟨(nat_again false (N := q) (by omega) 0 (by omega) (by omega)).1, (nat_again false (N := q + 1) hb 0 (by omega) (by omega)).1,
      fun way h0 h5 => (nat_again false (N := q) (by omega) way h0 h5).2, fun way h0 h5 => (nat_again false (N := q + 1) hb way h0 h5).2, h2, by rw [s1, hs], by rw [s2, hs],
      (rank_fn wdl hx k1 hk l1).1 s1 hs, (rank_fn hx wdh hk k2 l2).1 hs s2, k1, k2,
      .inr ⟨hi, (fun g => by have := (nat_again false (N := q) (by omega) 0 (by omega) (by omega)).1; rw [g, hi] at this; cases this), (sub_one hb).1⟩, ht⟩
  · have hb := nat_bd hi hk
    have hd := natW_down x
    rw [whole_nat hx hk (by omega) (by omega), whole_nat hx hk (by omega) (by omega), h4, h5, hs]
    rw [whole_nat hx hk (by omega) (by omega), h5, hs] at ht
    have h2 : ∀ way : Int, 0 ≤ way → way ≤ 5 → wholeI x way = fbits true (natW x 2 + 1) 0 false ∨ wholeI x way = fbits true (natW x 2) 0 false := by
      intro way h0 h5
      rw [whole_nat hx hk h0 h5, hs]
      rcases nat_two x way with g | g
      · rw [g]; exact .inr rfl
      · rw [g]; exact .inl rfl
    obtain ⟨q, hq⟩ : ∃ q, natW x 2 = q := ⟨_, rfl⟩
    rw [hq] at hb hd h2 ht ⊢
    obtain ⟨k1, s1, f1⟩ := from_parts true (N := q) (by omega)
    obtain ⟨k2, s2, f2⟩ := from_parts true (N := q + 1) hb
    obtain ⟨T, hT⟩ : ∃ T : Nat, 1074 = T := ⟨_, rfl⟩
    rw [hT] at hd f1 f2
    have wdl := wd_fbits true q 0 false
    have wdh := wd_fbits true (q + 1) 0 false
    have l1 : fn (fbits true q 0 false) ≤ fn x := by rw [f1, hd]; exact Nat.div_mul_le_self _ _
    have l2 : fn x ≤ fn (fbits true (q + 1) 0 false) := by rw [f2, hd]; exact div_up _ (Nat.two_pow_pos T)
    exact ⟨(nat_again true (N := q + 1) hb 0 (by omega) (by omega)).1, (nat_again true (N := q) (by omega) 0 (by omega) (by omega)).1,
      fun way h0 h5 => (nat_again true (N := q + 1) hb way h0 h5).2, fun way h0 h5 => (nat_again true (N := q) (by omega) way h0 h5).2, h2, by rw [s2, hs], by rw [s1, hs],
      (rank_fn hx wdh hk k2 l2).2 hs s2, (rank_fn wdl hx k1 hk l1).2 s1 hs, k2, k1,
      .inr ⟨hi, (fun g => by have := (nat_again true (N := q + 1) hb 0 (by omega) (by omega)).1; rw [g, hi] at this; cases this), (sub_one hb).2⟩, ht⟩
end Go.Proofs.Ytjlmchbpdkojeaa
