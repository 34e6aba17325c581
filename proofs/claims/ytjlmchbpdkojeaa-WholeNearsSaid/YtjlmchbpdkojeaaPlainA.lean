/-
  Plain numbers: binary64 as natural numbers: bit lengths, the value of a number's bits in units of 2^-1074, the nearest number, and what fixes it. Nothing of the program stands here.
-/
namespace Go.Proofs.Ytjlmchbpdkojeaa.Pl

/-- How many bits a natural has. -/
def bl (n : Nat) : Nat := if n = 0 then 0 else n.log2 + 1

theorem bl_zero : bl 0 = 0 := rfl
theorem bl_pos {n : Nat} (h : n ≠ 0) : 0 < bl n := by unfold bl; rw [if_neg h]; omega
theorem lt_two_bl (n : Nat) : n < 2 ^ bl n := by
  unfold bl
  split
  · subst_vars; decide
  · exact Nat.lt_log2_self
theorem two_bl_le {n : Nat} (h : n ≠ 0) : 2 ^ (bl n - 1) ≤ n := by
  unfold bl
  rw [if_neg h]
  exact Nat.log2_self_le h
theorem bl_le_of_lt {n k : Nat} (h : n < 2 ^ k) : bl n ≤ k := by
  by_cases h0 : n = 0
  · subst h0; exact Nat.zero_le _
  · have h1 := two_bl_le h0
    have h2 : 2 ^ (bl n - 1) < 2 ^ k := Nat.lt_of_le_of_lt h1 h
    have := (Nat.pow_lt_pow_iff_right (a := 2) (by omega)).1 h2
    have := bl_pos h0
    omega
theorem lt_bl_of_le {n k : Nat} (h : 2 ^ k ≤ n) : k < bl n := by
  have h2 : 2 ^ k < 2 ^ bl n := Nat.lt_of_le_of_lt h (lt_two_bl n)
  exact (Nat.pow_lt_pow_iff_right (a := 2) (by omega)).1 h2
theorem bl_eq {n k : Nat} (h1 : 2 ^ k ≤ n) (h2 : n < 2 ^ (k + 1)) : bl n = k + 1 := by
  have := lt_bl_of_le h1
  have := bl_le_of_lt h2
  omega
theorem bl_mul_pow {n : Nat} (k : Nat) (h : n ≠ 0) : bl (n * 2 ^ k) = bl n + k := by
  have h1 := two_bl_le h
  have h2 := lt_two_bl n
  have h3 := bl_pos h
  have e1 : bl n - 1 + k + 1 = bl n + k := by omega
  have := bl_eq (n := n * 2 ^ k) (k := bl n - 1 + k) (by rw [Nat.pow_add]; exact Nat.mul_le_mul_right _ h1)
    (by rw [e1, Nat.pow_add]; exact (Nat.mul_lt_mul_right (Nat.two_pow_pos k)).2 h2)
  omega
theorem bl_mono {a b : Nat} (h : a ≤ b) : bl a ≤ bl b := bl_le_of_lt (Nat.lt_of_le_of_lt h (lt_two_bl b))

/-- What the bits of a finite number without a sign mean, in units of 2^-1074. (At 2047 * 2^52: what the next number would mean.) -/
def V (x : Nat) : Nat := if x < 2 ^ 52 then x else (2 ^ 52 + x % 2 ^ 52) * 2 ^ (x / 2 ^ 52 - 1)

theorem V_at {j t : Nat} (h : t ≤ 2 ^ 53) (h' : j = 0 ∨ 2 ^ 52 ≤ t) : V (j * 2 ^ 52 + t) = t * 2 ^ j := by
  unfold V
  by_cases h1 : j * 2 ^ 52 + t < 2 ^ 52
  · have : j = 0 := by omega
    subst this
    rw [if_pos h1]; omega
  · rw [if_neg h1]
    by_cases h2 : t = 2 ^ 53
    · subst h2
      have e1 : (j * 2 ^ 52 + 2 ^ 53) % 2 ^ 52 = 0 := by omega
      have e2 : (j * 2 ^ 52 + 2 ^ 53) / 2 ^ 52 - 1 = j + 1 := by omega
      rw [e1, e2, Nat.pow_succ 2 j]; omega
    · have h3 : 2 ^ 52 ≤ t := by omega
      have e1 : (j * 2 ^ 52 + t) % 2 ^ 52 = t - 2 ^ 52 := by omega
      have e2 : (j * 2 ^ 52 + t) / 2 ^ 52 - 1 = j := by omega
      have e3 : 2 ^ 52 + (t - 2 ^ 52) = t := by omega
      rw [e1, e2, e3]

theorem form (x : Nat) : ∃ j t, x = j * 2 ^ 52 + t ∧ t < 2 ^ 53 ∧ (j = 0 ∨ 2 ^ 52 ≤ t) := by
  by_cases h : x < 2 ^ 52
  · exact ⟨0, x, by omega, by omega, Or.inl rfl⟩
  · exact ⟨x / 2 ^ 52 - 1, 2 ^ 52 + x % 2 ^ 52, by omega, by omega, Or.inr (by omega)⟩

theorem V_succ (x : Nat) : V x < V (x + 1) := by
  obtain ⟨j, t, rfl, h1, h2⟩ := form x
  have e : j * 2 ^ 52 + t + 1 = j * 2 ^ 52 + (t + 1) := by omega
  rw [e, V_at (by omega) h2, V_at (by omega) (by omega)]
  exact (Nat.mul_lt_mul_right (Nat.two_pow_pos j)).2 (by omega)

theorem V_lt {x y : Nat} (h : x < y) : V x < V y := by
  induction y with
  | zero => omega
  | succ y ih =>
    have := V_succ y
    by_cases e : x = y
    · subst e; exact this
    · have := ih (by omega); omega
theorem V_le {x y : Nat} (h : x ≤ y) : V x ≤ V y := by
  by_cases e : x = y
  · subst e; omega
  · have := V_lt (x := x) (y := y) (by omega); omega
theorem V_lt_iff {x y : Nat} : V x < V y ↔ x < y := by
  constructor
  · intro h
    rcases Nat.lt_or_ge x y with h1 | h1
    · exact h1
    · have := V_le h1; omega
  · exact V_lt
theorem V_le_iff {x y : Nat} : V x ≤ V y ↔ x ≤ y := by
  have := V_lt_iff (x := y) (y := x); omega
theorem V_inj {x y : Nat} (h : V x = V y) : x = y := by
  have h1 := V_le_iff (x := x) (y := y)
  have h2 := V_le_iff (x := y) (y := x)
  omega
theorem V_zero : V 0 = 0 := by decide
theorem V_pos {x : Nat} (h : 0 < x) : 0 < V x := by have := V_lt h; rw [V_zero] at this; exact this
theorem le_V (x : Nat) : x ≤ V x := by
  induction x with
  | zero => omega
  | succ n ih => have := V_succ n; omega

/-- The bits of what is endless. -/
def INF : Nat := 2047 * 2 ^ 52
theorem INF_eq : INF = 2047 * 2 ^ 52 := rfl

/-- Twice the middle between a number and the next. -/
def mid (x : Nat) : Nat := V x + V (x + 1)

/-- R is what some amount is rounded to: 'lt M': M is below twice the amount; 'eq M': M is twice the amount. -/
structure IsRnd (lt eq : Nat → Prop) (R : Nat) : Prop where
  le : R ≤ INF
  iff : ∀ x, x < INF → (x < R ↔ lt (mid x) ∨ (eq (mid x) ∧ x % 2 = 1))

theorem IsRnd.unique {lt eq : Nat → Prop} {R S : Nat} (h : IsRnd lt eq R) (k : IsRnd lt eq S) : R = S := by
  have h1 := h.le
  have h2 := k.le
  rcases Nat.lt_trichotomy R S with g | g | g
  · have a := h.iff R (by omega)
    have b := k.iff R (by omega)
    have := a.2 (b.1 g); omega
  · exact g
  · have a := h.iff S (by omega)
    have b := k.iff S (by omega)
    have := b.2 (a.1 g); omega

theorem IsRnd.congr {lt eq lt' eq' : Nat → Prop} {R : Nat} (h : IsRnd lt eq R) (h1 : ∀ M, lt M ↔ lt' M) (h2 : ∀ M, eq M ↔ eq' M) : IsRnd lt' eq' R :=
  ⟨h.le, fun x hx => by rw [h.iff x hx, h1, h2]⟩

theorem IsRnd.mono {lt eq lt' eq' : Nat → Prop} {R S : Nat} (h : IsRnd lt eq R) (k : IsRnd lt' eq' S) (h1 : ∀ M, lt M → lt' M) (h2 : ∀ M, eq M → lt' M ∨ eq' M) : R ≤ S := by
  rcases Nat.lt_or_ge S R with g | g
  · exfalso
    have hl := h.le
    have a := (h.iff S (by omega)).1 g
    have b := (k.iff S (by omega)).2
    have : S < S := b (by
      rcases a with a | ⟨a, o⟩
      · exact .inl (h1 _ a)
      · rcases h2 _ a with c | c
        · exact .inl c
        · exact .inr ⟨c, o⟩)
    omega
  · exact g

/-- N divided by 2^k (k at least 1), rounded to the nearest, a tie to the even one; more: there is a little more. -/
def rne (N k : Nat) (more : Bool) : Nat :=
  N / 2 ^ k + if N / 2 ^ (k - 1) % 2 = 1 ∧ (N % 2 ^ (k - 1) ≠ 0 ∨ more = true ∨ N / 2 ^ k % 2 = 1) then 1 else 0

theorem lt_rne {N k t : Nat} {more : Bool} (hk : 1 ≤ k) :
    t < rne N k more ↔ (2 * t + 1) * 2 ^ (k - 1) < N ∨ ((2 * t + 1) * 2 ^ (k - 1) = N ∧ (more = true ∨ t % 2 = 1)) := by
  unfold rne
  have e : 2 ^ k = 2 ^ (k - 1) * 2 := by rw [← Nat.pow_succ]; congr 1; omega
  have hD : 0 < 2 ^ (k - 1) := Nat.two_pow_pos _
  rw [e, ← Nat.div_div_eq_div_mul]
  generalize 2 ^ (k - 1) = D at hD
  have hN := Nat.div_add_mod N D
  have hr := Nat.mod_lt N hD
  generalize hr' : N % D = r at *
  generalize hQ : N / D = Q at *
  subst hN
  have c1 : (2 * t + 1) * D < D * Q + r ↔ 2 * t + 1 < Q ∨ (2 * t + 1 = Q ∧ r ≠ 0) := by
    rw [Nat.mul_comm D Q]
    rcases Nat.lt_trichotomy (2 * t + 1) Q with h | h | h
    · have := Nat.mul_le_mul_right D (show 2 * t + 1 + 1 ≤ Q by omega)
      rw [Nat.add_mul (2 * t + 1) 1 D] at this
      constructor
      · intro _; exact .inl h
      · intro _; omega
    · rw [h]; omega
    · have := Nat.mul_le_mul_right D (show Q + 1 ≤ 2 * t + 1 by omega)
      rw [Nat.add_mul Q 1 D] at this
      constructor
      · intro _; omega
      · intro g; omega
  have c2 : (2 * t + 1) * D = D * Q + r ↔ 2 * t + 1 = Q ∧ r = 0 := by
    rw [Nat.mul_comm D Q]
    rcases Nat.lt_trichotomy (2 * t + 1) Q with h | h | h
    · have := Nat.mul_le_mul_right D (show 2 * t + 1 + 1 ≤ Q by omega)
      rw [Nat.add_mul (2 * t + 1) 1 D] at this
      constructor
      · intro _; omega
      · intro _; omega
    · rw [h]; omega
    · have := Nat.mul_le_mul_right D (show Q + 1 ≤ 2 * t + 1 by omega)
      rw [Nat.add_mul Q 1 D] at this
      constructor
      · intro _; omega
      · intro g; omega
  rw [c1, c2]
  split
  · cases more <;> simp_all <;> omega
  · cases more <;> simp_all <;> omega

/-- The exponent of the last place. -/
def un (N : Nat) (e : Int) : Int := max (e + bl N - 53) (-1074)
/-- The bits of the number nearest to N * 2^e (and a little more). -/
def mag (N : Nat) (e : Int) (more : Bool) : Nat :=
  if N = 0 then 0 else min INF ((un N e + 1074).toNat * 2 ^ 52 + if un N e ≤ e then N * 2 ^ (e - un N e).toNat else rne N (un N e - e).toNat more)

/-- 2^(e+1075) as a fraction of naturals. -/
def sc (e : Int) : Nat := (e + 1075).toNat
def sd (e : Int) : Nat := (-(e + 1075)).toNat

theorem mid_lt {x y : Nat} (h : x < y) : mid x < 2 * V y := by
  have h1 := V_lt h
  have h2 := V_le (show x + 1 ≤ y from h)
  unfold mid; omega
theorem lt_mid {x y : Nat} (h : y ≤ x) : 2 * V y < mid x := by
  have h1 := V_le h
  have h2 := V_lt (show y < x + 1 by omega)
  unfold mid; omega

theorem two_swap (a E D : Nat) : 2 * (a * E) * D = a * (D * 2) * E := by grind

theorem lt_min_iff {x a b : Nat} (hx : x < a) : x < min a b ↔ x < b := ⟨fun h => (Nat.lt_min.1 h).2, fun h => Nat.lt_min.2 ⟨hx, h⟩⟩

theorem mag_rnd {N : Nat} {e : Int} {more : Bool} {lt eq : Nat → Prop}
    (H1 : ∀ M, M * 2 ^ sd e < N * 2 ^ sc e → lt M)
    (H2 : ∀ M, M * 2 ^ sd e = N * 2 ^ sc e → (more = true → lt M) ∧ (more = false → eq M ∧ ¬ lt M))
    (H3 : ∀ M, N * 2 ^ sc e < M * 2 ^ sd e → (more = false ∨ (N + 1) * 2 ^ sc e ≤ M * 2 ^ sd e) → ¬ lt M ∧ ¬ eq M)
    (H4 : more = true → N ≠ 0 ∧ e < un N e) : IsRnd lt eq (mag N e more) := by
  by_cases hN : N = 0
  · have hm : more = false := by
      cases more
      · rfl
      · exact absurd hN (H4 rfl).1
    refine ⟨by unfold mag; rw [if_pos hN]; exact Nat.zero_le _, fun x hx => ?_⟩
    unfold mag
    rw [if_pos hN]
    have hmid : 0 < mid x := by have := V_pos (show 0 < x + 1 by omega); unfold mid; omega
    have := H3 (mid x) (by rw [hN, Nat.zero_mul]; exact Nat.mul_pos hmid (Nat.two_pow_pos _)) (.inl hm)
    constructor
    · intro h; omega
    · intro h
      rcases h with h | h
      · exact absurd h this.1
      · exact absurd h.1 this.2
  · have hb1 := two_bl_le hN
    have hb2 := lt_two_bl N
    have hb3 := bl_pos hN
    refine ⟨by unfold mag; rw [if_neg hN]; exact Nat.min_le_left _ _, fun x hx => ?_⟩
    have hu : un N e = max (e + bl N - 53) (-1074) := rfl
    unfold mag
    rw [if_neg hN]
    generalize un N e = u at *
    obtain ⟨J, hJ⟩ : ∃ J : Nat, u = (J : Int) - 1074 := ⟨(u + 1074).toNat, by omega⟩
    subst hJ
    have hJ' : ((J : Int) - 1074 + 1074).toNat = J := by omega
    rw [hJ']
    by_cases hue : (J : Int) - 1074 ≤ e
    · rw [if_pos hue]
      obtain ⟨c, hc⟩ : ∃ c : Nat, e = (J : Int) - 1074 + c := ⟨(e - (J - 1074)).toNat, by omega⟩
      subst hc
      have e1 : ((J : Int) - 1074 + c - (J - 1074)).toNat = c := by omega
      rw [e1]
      have hm : more = false := by
        cases more
        · rfl
        · have := (H4 rfl).2; omega
      have s1 : sc ((J : Int) - 1074 + c) = c + J + 1 := by unfold sc; omega
      have s2 : sd ((J : Int) - 1074 + c) = 0 := by unfold sd; omega
      have p0 : ∀ M : Nat, M * 2 ^ 0 = M := fun M => by omega
      simp only [s1, s2, p0] at H1 H2 H3
      have hlo : N * 2 ^ c < 2 ^ 53 := by
        have h1 : N * 2 ^ c < 2 ^ bl N * 2 ^ c := (Nat.mul_lt_mul_right (Nat.two_pow_pos c)).2 hb2
        rw [← Nat.pow_add] at h1
        have h2 : 2 ^ (bl N + c) ≤ 2 ^ 53 := Nat.pow_le_pow_right (by omega) (by omega)
        omega
      have hhi : J = 0 ∨ 2 ^ 52 ≤ N * 2 ^ c := by
        by_cases hz : J = 0
        · exact .inl hz
        · right
          have h1 : 2 ^ (bl N - 1) * 2 ^ c ≤ N * 2 ^ c := Nat.mul_le_mul_right _ hb1
          rw [← Nat.pow_add] at h1
          have h2 : bl N - 1 + c = 52 := by omega
          rw [h2] at h1
          exact h1
      have hV := V_at (j := J) (t := N * 2 ^ c) (by omega) hhi
      have hNs : N * 2 ^ (c + J + 1) = 2 * V (J * 2 ^ 52 + N * 2 ^ c) := by
        rw [hV, Nat.pow_succ, Nat.pow_add, ← Nat.mul_assoc N, ← Nat.mul_assoc N]; omega
      constructor
      · intro h
        refine .inl (H1 _ ?_)
        rw [hNs]
        exact mid_lt (Nat.lt_min.1 h).2
      · intro h
        rcases Nat.lt_or_ge x (J * 2 ^ 52 + N * 2 ^ c) with g | g
        · exact Nat.lt_min.2 ⟨hx, g⟩
        · have := H3 (mid x) (by rw [hNs]; exact lt_mid g) (.inl hm)
          rcases h with h | h
          · exact absurd h this.1
          · exact absurd h.1 this.2
    · rw [if_neg hue]
      obtain ⟨d, hd⟩ : ∃ d : Nat, e = (J : Int) - 1074 - d - 1 := ⟨((J : Int) - 1074 - e - 1).toNat, by omega⟩
      subst hd
      have e1 : ((J : Int) - 1074 - (J - 1074 - d - 1)).toNat = d + 1 := by omega
      rw [e1]
      -- M * 2^sd against N * 2^sc is M * 2^d against N * 2^J
      obtain ⟨c, hc1, hc2⟩ : ∃ c, sc ((J : Int) - 1074 - d - 1) + c = J ∧ sd ((J : Int) - 1074 - d - 1) + c = d := ⟨min J d, by unfold sc; omega, by unfold sd; omega⟩
      generalize hsc : sc ((J : Int) - 1074 - d - 1) = a at *
      generalize hsd : sd ((J : Int) - 1074 - d - 1) = b at *
      have hcp : 0 < 2 ^ c := Nat.two_pow_pos c
      have cl : ∀ X Y, X * 2 ^ b < Y * 2 ^ a ↔ X * 2 ^ d < Y * 2 ^ J := fun X Y => by
        rw [← hc1, ← hc2, Nat.pow_add, Nat.pow_add, ← Nat.mul_assoc, ← Nat.mul_assoc]
        exact (Nat.mul_lt_mul_right hcp).symm
      have cg : ∀ X Y, Y * 2 ^ a < X * 2 ^ b ↔ Y * 2 ^ J < X * 2 ^ d := fun X Y => by
        rw [← hc1, ← hc2, Nat.pow_add, Nat.pow_add, ← Nat.mul_assoc, ← Nat.mul_assoc]
        exact (Nat.mul_lt_mul_right hcp).symm
      have hm53 : rne N (d + 1) more ≤ 2 ^ 53 := by
        rcases Nat.lt_or_ge (2 ^ 53) (rne N (d + 1) more) with g | g
        · exfalso
          have := (lt_rne (N := N) (k := d + 1) (t := 2 ^ 53) (more := more) (by omega)).1 g
          rw [Nat.add_sub_cancel] at this
          have h1 : N < 2 ^ 53 * 2 ^ (d + 1) := by
            rw [← Nat.pow_add]
            exact Nat.lt_of_lt_of_le hb2 (Nat.pow_le_pow_right (by omega) (by omega))
          rw [Nat.pow_succ 2 d] at h1
          omega
        · exact g
      have hm52 : J = 0 ∨ 2 ^ 52 * 2 ^ (d + 1) ≤ N := by
        by_cases hz : J = 0
        · exact .inl hz
        · right
          rw [← Nat.pow_add]
          have h2 : 52 + (d + 1) = bl N - 1 := by omega
          rw [h2]
          exact hb1
      have hm52' : J = 0 ∨ 2 ^ 52 ≤ rne N (d + 1) more := by
        rcases hm52 with h | h
        · exact .inl h
        · right
          have : 2 ^ 52 ≤ N / 2 ^ (d + 1) := (Nat.le_div_iff_mul_le (Nat.two_pow_pos _)).2 h
          unfold rne
          omega
      rw [lt_min_iff hx]
      have hN1 : N < 2 ^ 53 * 2 ^ (d + 1) := by
        rw [← Nat.pow_add]
        exact Nat.lt_of_lt_of_le hb2 (Nat.pow_le_pow_right (by omega) (by omega))
      have hN1' : N + 1 ≤ 2 ^ 53 * 2 ^ (d + 1) := Nat.succ_le_of_lt hN1
      have hN2 := Nat.mul_le_mul_right (2 ^ J) hN1'
      by_cases hx2 : J * 2 ^ 52 + 2 ^ 53 ≤ x
      · have hVm := lt_mid hx2
        rw [V_at (Nat.le_refl _) (Or.inr (by decide))] at hVm
        have h1 : 2 * (2 ^ 53 * 2 ^ J) * 2 ^ d < mid x * 2 ^ d := (Nat.mul_lt_mul_right (Nat.two_pow_pos d)).2 hVm
        have h2 : 2 * (2 ^ 53 * 2 ^ J) * 2 ^ d = 2 ^ 53 * 2 ^ (d + 1) * 2 ^ J := by
          rw [Nat.pow_succ 2 d]; exact two_swap _ _ _
        have h3 : (N + 1) * 2 ^ J < mid x * 2 ^ d := by omega
        have h4 : N * 2 ^ J ≤ (N + 1) * 2 ^ J := Nat.mul_le_mul_right _ (by omega)
        have := H3 (mid x) ((cg _ _).2 (by omega)) (.inr (Nat.le_of_lt ((cg _ _).2 h3)))
        constructor
        · intro h; omega
        · intro h
          rcases h with h | h
          · exact absurd h this.1
          · exact absurd h.1 this.2
      · by_cases hx1 : J ≠ 0 ∧ x < J * 2 ^ 52 + 2 ^ 52
        · obtain ⟨hJ0, hx1⟩ := hx1
          have hVm := mid_lt hx1
          rw [V_at (by decide) (Or.inr (by decide))] at hVm
          have h1 : mid x * 2 ^ d < 2 * (2 ^ 52 * 2 ^ J) * 2 ^ d := (Nat.mul_lt_mul_right (Nat.two_pow_pos d)).2 hVm
          have h2 : 2 * (2 ^ 52 * 2 ^ J) * 2 ^ d = 2 ^ 52 * 2 ^ (d + 1) * 2 ^ J := by
            rw [Nat.pow_succ 2 d]; exact two_swap _ _ _
          have h3 : 2 ^ 52 * 2 ^ (d + 1) * 2 ^ J ≤ N * 2 ^ J := Nat.mul_le_mul_right _ (by omega)
          have := H1 (mid x) ((cl _ _).2 (by omega))
          constructor
          · intro _; exact .inl this
          · intro _; omega
        · obtain ⟨t, rfl⟩ : ∃ t, x = J * 2 ^ 52 + t := ⟨x - J * 2 ^ 52, by omega⟩
          have ht : t < 2 ^ 53 := by omega
          have ht' : J = 0 ∨ 2 ^ 52 ≤ t := by omega
          have hmidx : mid (J * 2 ^ 52 + t) = (2 * t + 1) * 2 ^ J := by
            unfold mid
            rw [Nat.add_assoc, V_at (by omega) ht', V_at (by omega) (by omega), ← Nat.add_mul]
            congr 1; omega
          have hmd : mid (J * 2 ^ 52 + t) * 2 ^ d = (2 * t + 1) * 2 ^ d * 2 ^ J := by rw [hmidx, Nat.mul_assoc, Nat.mul_comm (2 ^ J), ← Nat.mul_assoc]
          have hJp : 0 < 2 ^ J := Nat.two_pow_pos J
          have hodd : (J * 2 ^ 52 + t) % 2 = t % 2 := by omega
          have ha : J * 2 ^ 52 + t < J * 2 ^ 52 + rne N (d + 1) more ↔ t < rne N (d + 1) more := by omega
          rw [ha, hodd, lt_rne (by omega), Nat.add_sub_cancel]
          rcases Nat.lt_trichotomy ((2 * t + 1) * 2 ^ d) N with g | g | g
          · have := H1 (mid (J * 2 ^ 52 + t)) ((cl _ _).2 (by rw [hmd]; exact (Nat.mul_lt_mul_right hJp).2 g))
            constructor
            · intro _; exact .inl this
            · intro _; exact .inl g
          · have hne : mid (J * 2 ^ 52 + t) * 2 ^ b = N * 2 ^ a := by
              have k1 := cl (mid (J * 2 ^ 52 + t)) N
              have k2 := cg (mid (J * 2 ^ 52 + t)) N
              rw [hmd, g] at k1 k2
              omega
            have := H2 _ hne
            constructor
            · rintro (h | ⟨_, h⟩)
              · omega
              · cases more
                · rcases h with h | h
                  · cases h
                  · exact .inr ⟨(this.2 rfl).1, h⟩
                · exact .inl (this.1 rfl)
            · intro h
              refine .inr ⟨g, ?_⟩
              cases more
              · rcases h with h | h
                · exact absurd h (this.2 rfl).2
                · exact .inr h.2
              · exact .inl rfl
          · have h4 : (N + 1) * 2 ^ J ≤ (2 * t + 1) * 2 ^ d * 2 ^ J := Nat.mul_le_mul_right _ g
            have h5 : N * 2 ^ J < (2 * t + 1) * 2 ^ d * 2 ^ J := (Nat.mul_lt_mul_right hJp).2 g
            have h6 : (N + 1) * 2 ^ a ≤ mid (J * 2 ^ 52 + t) * 2 ^ b := by
              have k1 := cl (mid (J * 2 ^ 52 + t)) (N + 1)
              rw [hmd] at k1
              omega
            have := H3 (mid (J * 2 ^ 52 + t)) ((cg _ _).2 (by rw [hmd]; exact h5)) (.inr h6)
            constructor
            · rintro (h | ⟨h, _⟩) <;> omega
            · rintro (h | ⟨h, _⟩)
              · exact absurd h this.1
              · exact absurd h this.2

theorem mag_exact (N : Nat) (e : Int) : IsRnd (fun M => M * 2 ^ sd e < N * 2 ^ sc e) (fun M => M * 2 ^ sd e = N * 2 ^ sc e) (mag N e false) :=
  mag_rnd (fun _ h => h) (fun _ h => ⟨(fun h => by cases h), fun _ => ⟨h, by omega⟩⟩) (fun _ h _ => ⟨by omega, by omega⟩) (fun h => by cases h)

end Go.Proofs.Ytjlmchbpdkojeaa.Pl
