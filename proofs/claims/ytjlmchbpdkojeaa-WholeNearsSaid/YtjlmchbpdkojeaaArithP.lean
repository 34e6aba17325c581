/-
  Plain laws of chapter 4: what a sum and a product of binary64 are.
-/
import Derived.Test.YtjlmchbpdkojeaaFloatE
import Derived.Test.YtjlmchbpdkojeaaPlainB
namespace Go.Proofs.Ytjlmchbpdkojeaa
open Go.RowKit Go.Shelf

theorem mant_bd {x : Int} : 0 ≤ mant x ∧ mant x ≤ 9007199254740991 := by unfold mant; (repeat' split) <;> omega
theorem expo_bd {x : Int} : -1074 ≤ expo x ∧ expo x ≤ 971 := by unfold expo kd; (repeat' split) <;> omega

/-- A power of two more in the natural is as good as in the exponent. -/
theorem mag_scale (N j : Nat) (e : Int) : Pl.mag (N * 2 ^ j) e false = Pl.mag N (e + j) false := by
  refine (Pl.mag_exact (N * 2 ^ j) e).unique ((Pl.mag_exact N (e + j)).congr (fun M => ?_) (fun M => ?_))
  all_goals
    have h : Pl.sc (e + j) + Pl.sd e = Pl.sc e + j + Pl.sd (e + j) := by unfold Pl.sc Pl.sd; omega
    have e1 : N * 2 ^ Pl.sc (e + j) * 2 ^ Pl.sd e = N * 2 ^ j * 2 ^ Pl.sc e * 2 ^ Pl.sd (e + j) := by
      rw [Nat.mul_assoc N, ← Nat.pow_add, h, Nat.pow_add, Nat.pow_add]
      grind
    have e2 : M * 2 ^ Pl.sd (e + j) * 2 ^ Pl.sd e = M * 2 ^ Pl.sd e * 2 ^ Pl.sd (e + j) := by grind
    have p1 := Nat.two_pow_pos (Pl.sd e)
    have p2 := Nat.two_pow_pos (Pl.sd (e + j))
  · rw [← Nat.mul_lt_mul_right p1, e1, e2, Nat.mul_lt_mul_right p2]
  · rw [← Nat.mul_left_inj (Nat.ne_of_gt p1), e1, e2, Nat.mul_left_inj (Nat.ne_of_gt p2)]
theorem fbits_scale (neg : Bool) (N j : Nat) (e : Int) : fbits neg (N * 2 ^ j) e false = fbits neg N (e + j) false := by unfold fbits; rw [mag_scale]

/-- A finite number without its sign, in units of 2^-1074. -/
def fn (x : Int) : Nat := (mant x).toNat * 2 ^ (expo x + 1074).toNat
def sg (b : Bool) (n : Nat) : Int := if b then -(n : Int) else n
/-- What a sum of whole units rounds to. -/
def rnd (S : Int) : Int := fbits (decide (S < 0)) S.natAbs (-1074) false
theorem rnd_zero : rnd 0 = 0 := by unfold rnd fbits; rw [show (0 : Int).natAbs = 0 from rfl, mag_zero]; rfl
def addI (a b : Int) : Int :=
  if kd a = 4 ∨ kd b = 4 then NAN else if kd a = 3 then (if kd b = 3 ∧ a ≠ b then NAN else a) else if kd b = 3 then b
  else if kd a = 0 ∧ kd b = 0 then (if a = b then a else 0) else rnd (sg (sgn a) (fn a) + sg (sgn b) (fn b))
def subI (a b : Int) : Int := addI a (negI b)
def mulI (a b : Int) : Int :=
  if kd a = 4 ∨ kd b = 4 ∨ (kd a = 3 ∧ kd b = 0) ∨ (kd a = 0 ∧ kd b = 3) then NAN else if kd a = 3 ∨ kd b = 3 then sb (sgn a != sgn b) + INFI
  else fbits (sgn a != sgn b) (mant a * mant b).toNat (expo a + expo b) false

theorem fbits_bd (neg : Bool) (N : Nat) (e : Int) (more : Bool) : sb neg ≤ fbits neg N e more ∧ fbits neg N e more ≤ sb neg + INFI := by
  unfold fbits INFI
  have := Pl.mag_le_inf N e more
  rw [Pl.INF_eq] at this
  omega
theorem sb_bd (neg : Bool) : 0 ≤ sb neg ∧ sb neg ≤ 9223372036854775808 := by unfold sb; split <;> omega
theorem wd_fbits (neg : Bool) (N : Nat) (e : Int) (more : Bool) : Wd (fbits neg N e more) := by
  have h1 := fbits_bd neg N e more
  have h2 := sb_bd neg
  unfold INFI at h1
  exact ⟨by omega, by omega⟩
theorem wd_rnd (S : Int) : Wd (rnd S) := wd_fbits _ _ _ _
theorem wd_nan : Wd NAN := ⟨by decide, by decide⟩
theorem wd_add {a b : Int} (ha : Wd a) (hb : Wd b) : Wd (addI a b) := by
  unfold addI
  split
  · exact wd_nan
  · split
    · split
      · exact wd_nan
      · exact ha
    · split
      · exact hb
      · split
        · split
          · exact ha
          · exact ⟨by decide, by decide⟩
        · exact wd_rnd _
theorem wd_mul {a b : Int} : Wd (mulI a b) := by
  unfold mulI
  split
  · exact wd_nan
  · split
    · have := sb_bd (sgn a != sgn b)
      exact ⟨by unfold INFI; omega, by unfold INFI; omega⟩
    · exact wd_fbits _ _ _ _
theorem wd_sub {a b : Int} (ha : Wd a) (hb : Wd b) : Wd (subI a b) := wd_add ha (wd_neg hb)

/-- The sum of two naturals with signs. -/
def sumN (s t : Bool) (N M : Nat) : Nat := if s = t then N + M else if M ≤ N then N - M else M - N
def sumS (s t : Bool) (N M : Nat) : Bool := if s = t then s else if M ≤ N then s else t
theorem sum_sg (s t : Bool) (N M : Nat) : (sg s N + sg t M).natAbs = sumN s t N M := by
  unfold sg sumN
  cases s <;> cases t <;> simp <;> (repeat' split) <;> omega
theorem sum_sgn (s t : Bool) (N M : Nat) (h : sumN s t N M ≠ 0) : decide (sg s N + sg t M < 0) = sumS s t N M := by
  rw [Bool.eq_iff_iff, decide_eq_true_iff]
  unfold sg sumS
  unfold sumN at h
  by_cases hMN : M ≤ N <;> cases s <;> cases t <;> simp [hMN] at h ⊢ <;> omega
theorem rnd_sum (s t : Bool) (N M : Nat) : rnd (sg s N + sg t M) = if sumN s t N M = 0 then 0 else fbits (sumS s t N M) (sumN s t N M) (-1074) false := by
  split
  · rename_i h
    have := sum_sg s t N M
    rw [h] at this
    rw [Int.natAbs_eq_zero.1 this, rnd_zero]
  · rename_i h
    unfold rnd
    rw [sum_sg, sum_sgn _ _ _ _ h]

/-! ### The sum as the program forms it: the greater exponent's goes up, the other one down -/
section
variable {s t : Bool} {x m c q low j : Nat} {e : Int}
/-- e, c: the exponent of the sum; how far the lower one was shifted down. -/
structure SumAt (x m c q low : Nat) : Prop where
  parts : m = q * 2 ^ c + low
  low : low < 2 ^ c
  room : c = 0 ∨ (83076749736557242056487941267521536 ≤ x ∧ q < 9007199254740992)
theorem SumAt.same (h : SumAt x m c q low) (neg : Bool) (hj : e = (j : Int) + c - 1074) :
    fbits neg ((x * 2 ^ c + m) * 2 ^ j) (-1074) false = fbits neg (x + q) e (decide (low ≠ 0)) := by
  obtain ⟨h1, h2, h3⟩ := h
  rw [fbits_scale]
  have e1 : x * 2 ^ c + m = (x + q) * 2 ^ c + low := by rw [h1]; grind
  rcases h3 with h3 | ⟨h3, h4⟩
  · subst h3
    obtain rfl : low = 0 := by rw [Nat.pow_zero] at h2; omega
    rw [e1, Nat.pow_zero, Nat.mul_one, Nat.add_zero, hj]
    congr 1; all_goals omega
  · rw [e1]
    unfold fbits
    rw [mag_cut false h2 (by omega), Bool.false_or, hj]
    congr 3; all_goals omega
theorem SumAt.diff (h : SumAt x m c q low) (neg : Bool) (hj : e = (j : Int) + c - 1074) (h0 : low = 0) (hle : q ≤ x) :
    fbits neg ((x * 2 ^ c - m) * 2 ^ j) (-1074) false = fbits neg (x - q) e false ∧ (x * 2 ^ c - m = 0 ↔ x - q = 0) ∧ m ≤ x * 2 ^ c := by
  obtain ⟨h1, h2, h3⟩ := h
  have e1 : x * 2 ^ c - m = (x - q) * 2 ^ c := by rw [h1, h0, Nat.add_zero, Nat.sub_mul]
  rw [fbits_scale, e1, fbits_scale, hj]
  refine ⟨by congr 1; all_goals omega, ?_, ?_⟩
  · have := Nat.two_pow_pos c
    rw [Nat.mul_eq_zero]; omega
  · rw [h1, h0, Nat.add_zero]; exact Nat.mul_le_mul_right _ hle
theorem SumAt.under (h : SumAt x m c q low) (neg : Bool) (hj : e = (j : Int) + c - 1074) (h0 : low = 0) (hlt : x < q) :
    fbits neg ((m - x * 2 ^ c) * 2 ^ j) (-1074) false = fbits neg (q - x) e false ∧ x * 2 ^ c < m := by
  obtain ⟨h1, h2, h3⟩ := h
  have e1 : m - x * 2 ^ c = (q - x) * 2 ^ c := by rw [h1, h0, Nat.add_zero, Nat.sub_mul]
  rw [fbits_scale, e1, fbits_scale, hj]
  refine ⟨by congr 1; all_goals omega, ?_⟩
  rw [h1, h0, Nat.add_zero]
  exact (Nat.mul_lt_mul_right (Nat.two_pow_pos c)).2 hlt
theorem SumAt.more (h : SumAt x m c q low) (neg : Bool) (hj : e = (j : Int) + c - 1074) (h0 : low ≠ 0) :
    fbits neg ((x * 2 ^ c - m) * 2 ^ j) (-1074) false = fbits neg (x - (q + 1)) e true ∧ m < x * 2 ^ c ∧ q + 1 ≤ x ∧ x - (q + 1) ≠ 0 := by
  obtain ⟨h1, h2, h3⟩ := h
  rcases h3 with h3 | ⟨h3, h4⟩
  · subst h3
    rw [Nat.pow_zero] at h2; omega
  · obtain ⟨d, rfl⟩ : ∃ d, x = d + (q + 1) := ⟨x - (q + 1), by omega⟩
    have e1 : (d + (q + 1)) * 2 ^ c = d * 2 ^ c + (2 ^ c - low) + m := by
      rw [h1]
      obtain ⟨g, hg⟩ : ∃ g, 2 ^ c = g + low := ⟨2 ^ c - low, by omega⟩
      have : 2 ^ c - low = g := by omega
      rw [this, hg]; grind
    have e2 : (d + (q + 1)) * 2 ^ c - m = d * 2 ^ c + (2 ^ c - low) := by omega
    have e3 : d + (q + 1) - (q + 1) = d := by omega
    refine ⟨?_, by have := Nat.two_pow_pos c; omega, by omega, by omega⟩
    rw [fbits_scale, e2, e3]
    unfold fbits
    rw [mag_cut false (by omega) (by omega), Bool.false_or, hj]
    have e4 : decide (2 ^ c - low ≠ 0) = true := by simp; omega
    rw [e4]
    congr 3; all_goals omega
end
end Go.Proofs.Ytjlmchbpdkojeaa
