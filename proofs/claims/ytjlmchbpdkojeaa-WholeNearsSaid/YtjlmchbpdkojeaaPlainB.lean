/-
  Plain numbers: what the nearest number follows: exact ones, a little more, order. Nothing of the program stands here.
-/
import Derived.Test.YtjlmchbpdkojeaaPlainA
namespace Go.Proofs.Ytjlmchbpdkojeaa.Pl

theorem isRnd_V {R : Nat} (h : R ≤ INF) : IsRnd (fun M => M < 2 * V R) (fun M => M = 2 * V R) R :=
  ⟨h, fun x _ => by
    constructor
    · intro g; exact .inl (mid_lt g)
    · intro g
      rcases Nat.lt_or_ge x R with q | q
      · exact q
      · have := lt_mid q; rcases g with g | g <;> omega⟩

theorem mag_of_V {N : Nat} {e : Int} {R : Nat} (hR : R ≤ INF) (h : 2 * V R * 2 ^ sd e = N * 2 ^ sc e) : mag N e false = R := by
  refine (mag_exact N e).unique ((isRnd_V hR).congr (fun M => ?_) (fun M => ?_))
  · rw [← h]; exact (Nat.mul_lt_mul_right (Nat.two_pow_pos _)).symm
  · rw [← h]
    constructor
    · intro g; rw [g]
    · intro g; exact Nat.eq_of_mul_eq_mul_right (Nat.two_pow_pos _) g

/-- A little more than N * 2^e. -/
theorem mag_more {N : Nat} {e : Int} (hN : N ≠ 0) (hu : e < un N e) : IsRnd (fun M => M * 2 ^ sd e ≤ N * 2 ^ sc e) (fun _ => False) (mag N e true) :=
  mag_rnd (fun _ h => Nat.le_of_lt h) (fun _ h => ⟨(fun _ => Nat.le_of_eq h), fun h => by cases h⟩) (fun _ h _ => ⟨by omega, fun h => h⟩) (fun _ => ⟨hN, hu⟩)

theorem mag_stick {N : Nat} {e : Int} {R : Nat} (hN : N ≠ 0) (hu : e < un N e) (hR : R ≤ INF) (h : ∀ y, y < INF → (y < R ↔ mid y * 2 ^ sd e ≤ N * 2 ^ sc e)) : mag N e true = R :=
  (mag_more hN hu).unique ⟨hR, fun x hx => by rw [h x hx]; simp⟩

theorem mag_le_inf (N : Nat) (e : Int) (more : Bool) : mag N e more ≤ INF := by
  unfold mag
  split
  · exact Nat.zero_le _
  · exact Nat.min_le_left _ _
theorem mag_mono {a b : Nat} {e : Int} (h : a ≤ b) : mag a e false ≤ mag b e false := by
  have hm := Nat.mul_le_mul_right (2 ^ sc e) h
  exact (mag_exact a e).mono (mag_exact b e) (fun M g => Nat.lt_of_lt_of_le g hm) (fun M g => by
    show M * 2 ^ sd e < b * 2 ^ sc e ∨ M * 2 ^ sd e = b * 2 ^ sc e
    have g' : M * 2 ^ sd e = a * 2 ^ sc e := g
    omega)
theorem mag_same {N : Nat} {e : Int} (hu : ¬ e < un N e) (more : Bool) : mag N e more = mag N e false := by
  unfold mag
  split
  · rfl
  · rw [if_pos (by omega), if_pos (by omega)]
theorem mag0 (e : Int) (more : Bool) : mag 0 e more = 0 := by unfold mag; rw [if_pos rfl]
theorem mag_more_ge (N : Nat) (e : Int) : mag N e false ≤ mag N e true := by
  by_cases hN : N = 0
  · rw [hN, mag0]; exact Nat.zero_le _
  · by_cases hu : e < un N e
    · exact (mag_exact N e).mono (mag_more hN hu) (fun M g => Nat.le_of_lt g) (fun M g => .inl (Nat.le_of_eq g))
    · rw [mag_same hu true]; exact Nat.le_refl _
theorem mag_more_lt {a b : Nat} {e : Int} (h : a < b) : mag a e true ≤ mag b e false := by
  by_cases hN : a = 0
  · rw [hN, mag0]; exact Nat.zero_le _
  · by_cases hu : e < un a e
    · have hm := (Nat.mul_lt_mul_right (Nat.two_pow_pos (sc e))).2 h
      exact (mag_more hN hu).mono (mag_exact b e) (fun M g => Nat.lt_of_le_of_lt g hm) (fun M g => g.elim)
    · rw [mag_same hu true]; exact mag_mono (Nat.le_of_lt h)

end Go.Proofs.Ytjlmchbpdkojeaa.Pl
