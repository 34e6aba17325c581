/-
  Plain numbers: sums, differences, products and quotients of naturals as lists of limbs. Nothing of the program stands here.
-/
import Derived.Test.YtjlmchbpdkojeaaPlainN
namespace Go.Proofs.Ytjlmchbpdkojeaa.Pl

theorem take_getD (l : List Nat) (k : Nat) : val (l.take (k + 1)) = val (l.take k) + B32 ^ k * l.getD k 0 := by
  rcases Nat.lt_or_ge k l.length with h | h
  · exact val_take_succ l k h
  · rw [List.take_of_length_le (by omega), List.take_of_length_le h, List.getD_eq_getElem?_getD, List.getElem?_eq_none h]; simp

/-- Behind k rounds of Plus. -/
structure PlusAt (a b : List Nat) (k : Nat) (o : List Nat) (c : Nat) : Prop where
  len : o.length = k
  fit : Fit o
  le : c ≤ 1
  val : val o + B32 ^ k * c = val (a.take k) + val (b.take k)
theorem PlusAt.start (a b : List Nat) : PlusAt a b 0 [] 0 := ⟨rfl, Fit.nil, by omega, by simp [Pl.val]⟩
theorem PlusAt.step {a b o : List Nat} {k c x y : Nat} (h : PlusAt a b k o c) (hx : a.getD k 0 = x) (hy : b.getD k 0 = y) (x1 : x < 4294967296) (y1 : y < 4294967296) :
    PlusAt a b (k + 1) (o ++ [(x + y + c) % 4294967296]) ((x + y + c) / 4294967296) := by
  obtain ⟨hl, hfit, hc, hv⟩ := h
  refine ⟨by simp [hl], hfit.append (Fit.cons (Nat.mod_lt _ B32_pos) Fit.nil), by omega, ?_⟩
  rw [val_snoc, hl, take_getD, take_getD, hx, hy, Nat.pow_succ]
  have e := Nat.mod_add_div (x + y + c) 4294967296
  have eB : B32 = 4294967296 := rfl
  rw [eB] at hv ⊢
  generalize (x + y + c) % 4294967296 = p at *
  generalize (x + y + c) / 4294967296 = q at *
  generalize 4294967296 ^ k = P at *
  grind
theorem PlusAt.done {a b o : List Nat} {k c : Nat} (h : PlusAt a b k o c) (ha : a.length ≤ k) (hb : b.length ≤ k) : Pl.val (o ++ [c]) = Pl.val a + Pl.val b ∧ Fit (o ++ [c]) ∧ (o ++ [c]).length = k + 1 := by
  obtain ⟨hl, hfit, hc, hv⟩ := h
  rw [List.take_of_length_le ha, List.take_of_length_le hb] at hv
  rw [val_snoc, hl]
  exact ⟨hv, hfit.append (Fit.cons (show c < 4294967296 by omega) Fit.nil), by simp [hl]⟩

/-- Behind k rounds of Less. -/
structure LessAt (a b : List Nat) (k : Nat) (o : List Nat) (c : Nat) : Prop where
  len : o.length = k
  fit : Fit o
  le : c ≤ 1
  val : val o + val (b.take k) = val (a.take k) + B32 ^ k * c
theorem LessAt.start (a b : List Nat) : LessAt a b 0 [] 0 := ⟨rfl, Fit.nil, by omega, by simp [Pl.val]⟩
theorem LessAt.yes {a b o : List Nat} {k c x y : Nat} (h : LessAt a b k o c) (hx : a.getD k 0 = x) (hy : b.getD k 0 = y) (x1 : x < 4294967296) (y1 : y < 4294967296) (hlt : x < y + c) :
    LessAt a b (k + 1) (o ++ [x + 4294967296 - (y + c)]) 1 := by
  obtain ⟨hl, hfit, hc, hv⟩ := h
  refine ⟨by simp [hl], hfit.append (Fit.cons (show _ < 4294967296 by omega) Fit.nil), by omega, ?_⟩
  rw [val_snoc, hl, take_getD, take_getD, hx, hy, Nat.pow_succ]
  obtain ⟨d, hd⟩ : ∃ d, x + 4294967296 - (y + c) = d := ⟨_, rfl⟩
  have hd' : d + (y + c) = x + 4294967296 := by omega
  rw [hd]
  have eB : B32 = 4294967296 := rfl
  rw [eB] at hv ⊢
  generalize 4294967296 ^ k = P at *
  grind
theorem LessAt.no {a b o : List Nat} {k c x y : Nat} (h : LessAt a b k o c) (hx : a.getD k 0 = x) (hy : b.getD k 0 = y) (x1 : x < 4294967296) (hlt : ¬ x < y + c) :
    LessAt a b (k + 1) (o ++ [x - (y + c)]) 0 := by
  obtain ⟨hl, hfit, hc, hv⟩ := h
  refine ⟨by simp [hl], hfit.append (Fit.cons (show _ < 4294967296 by omega) Fit.nil), by omega, ?_⟩
  rw [val_snoc, hl, take_getD, take_getD, hx, hy, Nat.pow_succ]
  obtain ⟨d, hd⟩ : ∃ d, x - (y + c) = d := ⟨_, rfl⟩
  have hd' : d + (y + c) = x := by omega
  rw [hd]
  have eB : B32 = 4294967296 := rfl
  rw [eB] at hv ⊢
  generalize 4294967296 ^ k = P at *
  grind
theorem LessAt.done {a b o : List Nat} {k c : Nat} (h : LessAt a b k o c) (hk : k = a.length) (hfa : Fit a) (hab : Pl.val b ≤ Pl.val a) : Pl.val o = Pl.val a - Pl.val b := by
  obtain ⟨hl, hfit, hc, hv⟩ := h
  have h1 := val_lt hfit
  have h2 := val_lt hfa
  rw [hk, List.take_length] at hv
  rw [hl, hk] at h1
  have h3 : Pl.val b = Pl.val (b.take a.length) + B32 ^ a.length * Pl.val (b.drop a.length) := by
    rcases Nat.lt_or_ge b.length a.length with g | g
    · rw [List.take_of_length_le (by omega), List.drop_eq_nil_of_le (by omega)]; simp [Pl.val]
    · exact val_take_drop b _ g
  have h4 : Pl.val (b.drop a.length) = 0 := by
    rcases Nat.eq_zero_or_pos (Pl.val (b.drop a.length)) with g | g
    · exact g
    · have := Nat.mul_le_mul_left (B32 ^ a.length) g; omega
  rw [h4, Nat.mul_zero, Nat.add_zero] at h3
  obtain rfl | rfl : c = 0 ∨ c = 1 := by omega
  · rw [Nat.mul_zero] at hv; omega
  · rw [Nat.mul_one] at hv; omega

theorem val_set : ∀ (l : List Nat) (j x : Nat), j < l.length → val (l.set j x) + B32 ^ j * l.getD j 0 = val l + B32 ^ j * x
  | [], j, x, h => by simp at h
  | y :: l, 0, x, _ => by simp [val]; omega
  | y :: l, j + 1, x, h => by
    have := val_set l j x (by simpa using h)
    simp only [List.set_cons_succ, val, List.getD_cons_succ, Nat.pow_succ]
    generalize B32 ^ j = P at *
    grind
theorem Fit.set {l : List Nat} (h : Fit l) (j : Nat) {x : Nat} (hx : x < B32) : Fit (l.set j x) := fun y hy => by
  rcases List.mem_or_eq_of_mem_set hy with g | g
  · exact h y g
  · subst g; exact hx
theorem getD_set_ne {l : List Nat} {i j : Nat} (x : Nat) (h : i ≠ j) : (l.set i x).getD j 0 = l.getD j 0 := by
  rw [List.getD_eq_getElem?_getD, List.getD_eq_getElem?_getD, List.getElem?_set_ne h]

/-- Ahead of the i-th round of a product's outer loop. -/
structure MulOut (a b : List Nat) (i : Nat) (o : List Nat) : Prop where
  len : o.length = a.length + b.length + 1
  fit : Fit o
  zero : ∀ j, i + b.length ≤ j → o.getD j 0 = 0
  val : val o = val (a.take i) * val b
/-- Ahead of the k-th round of its inner loop. -/
structure MulIn (a b : List Nat) (i k : Nat) (o : List Nat) (c : Nat) : Prop where
  len : o.length = a.length + b.length + 1
  fit : Fit o
  car : c < B32
  zero : ∀ j, i + b.length ≤ j → o.getD j 0 = 0
  val : val o + B32 ^ (i + k) * c = val (a.take i) * val b + B32 ^ i * (a.getD i 0 * val (b.take k))
theorem MulOut.start (a b : List Nat) : MulOut a b 0 (List.replicate (a.length + b.length + 1) 0) :=
  ⟨by simp, fun x hx => by rw [(List.mem_replicate.1 hx).2]; exact B32_pos, fun j _ => by
    rw [List.getD_eq_getElem?_getD, List.getElem?_replicate]; split <;> rfl, by simp [Pl.val, val_zeros]⟩
theorem MulOut.inn {a b o : List Nat} {i : Nat} (h : MulOut a b i o) : MulIn a b i 0 o 0 :=
  ⟨h.len, h.fit, B32_pos, h.zero, by rw [h.val]; simp [Pl.val]⟩
theorem MulIn.step {a b o : List Nat} {i k c x y z : Nat} (h : MulIn a b i k o c) (hx : a.getD i 0 = x) (hy : b.getD k 0 = y) (hz : o.getD (i + k) 0 = z) (x1 : x < 4294967296) (y1 : y < 4294967296) (hi : i < a.length) (hk : k < b.length) :
    MulIn a b i (k + 1) (o.set (i + k) ((x * y + z + c) % 4294967296)) ((x * y + z + c) / 4294967296) := by
  obtain ⟨hl, hfit, hc, h0, hv⟩ := h
  have z1 : z < 4294967296 := by rw [← hz]; exact hfit.get _
  have hxy : x * y ≤ 4294967295 * 4294967295 := Nat.mul_le_mul (by omega) (by omega)
  unfold B32 at hc
  refine ⟨by simp [hl], hfit.set _ (Nat.mod_lt _ B32_pos), by unfold B32; omega, fun j hj => by rw [getD_set_ne _ (by omega)]; exact h0 j hj, ?_⟩
  have hs := val_set o (i + k) ((x * y + z + c) % 4294967296) (by omega)
  rw [hz] at hs
  rw [take_getD, hy, ← Nat.add_assoc, Nat.pow_succ]
  rw [hx] at hv ⊢
  have e := Nat.mod_add_div (x * y + z + c) 4294967296
  have eP : B32 ^ (i + k) = B32 ^ i * B32 ^ k := Nat.pow_add _ _ _
  rw [eP] at hs hv ⊢
  have eB : B32 = 4294967296 := rfl
  rw [eB] at hs hv ⊢
  generalize (x * y + z + c) % 4294967296 = p at *
  generalize (x * y + z + c) / 4294967296 = q at *
  generalize 4294967296 ^ k = P at *
  generalize 4294967296 ^ i = R at *
  grind
theorem MulIn.out {a b o : List Nat} {i c : Nat} (h : MulIn a b i b.length o c) (hi : i < a.length) : MulOut a b (i + 1) (o.set (i + b.length) c) := by
  obtain ⟨hl, hfit, hc, h0, hv⟩ := h
  have hs := val_set o (i + b.length) c (by omega)
  rw [h0 _ (Nat.le_refl _), Nat.mul_zero, Nat.add_zero] at hs
  refine ⟨by simp [hl], hfit.set _ hc, fun j hj => by rw [getD_set_ne _ (by omega)]; exact h0 j (by omega), ?_⟩
  rw [hs, hv, take_getD, List.take_length]
  grind
theorem MulOut.done {a b o : List Nat} {i : Nat} (h : MulOut a b i o) (hi : a.length ≤ i) : Pl.val o = Pl.val a * Pl.val b := by
  rw [h.val, List.take_of_length_le hi]

theorem dvd_mod_pow {n a b : Nat} (h : b ≤ a) (hn : n % 2 ^ a = 0) : n % 2 ^ b = 0 := by
  obtain ⟨c, rfl⟩ := Nat.dvd_of_mod_eq_zero hn
  obtain ⟨d, rfl⟩ : ∃ d, a = b + d := ⟨a - b, by omega⟩
  rw [Nat.pow_add, Nat.mul_assoc]; exact Nat.mul_mod_right _ _
/-- The limb of the i-th bit, of a number that has no bit below and at it. -/
theorem limb_low {l : List Nat} (hf : Fit l) {i q r : Nat} (hi : i = 32 * q + r) (hr : r < 32) (h : val l % 2 ^ (i + 1) = 0) : l.getD q 0 % 2 ^ (r + 1) = 0 := by
  rw [limb_val hf, B32_pow]
  obtain ⟨c, hc⟩ := Nat.dvd_of_mod_eq_zero h
  have e : 2 ^ (i + 1) = 2 ^ (32 * q) * 2 ^ (r + 1) := by rw [← Nat.pow_add]; congr 1; omega
  rw [hc, e, Nat.mul_assoc, Nat.mul_div_cancel_left _ (Nat.two_pow_pos _)]
  have e2 : B32 = 2 ^ (r + 1) * 2 ^ (31 - r) := by rw [← Nat.pow_add, B32_eq]; congr 1; omega
  rw [e2, Nat.mod_mul, Nat.mul_mod_right, Nat.zero_add]
  rw [Nat.mul_mod_right]
theorem limb_high {l : List Nat} (hf : Fit l) {i q r : Nat} (hi : i = 32 * q + r) (h : val l < 2 ^ i) : l.getD q 0 < 2 ^ r := by
  rw [limb_val hf, B32_pow]
  have e : 2 ^ i = 2 ^ (32 * q) * 2 ^ r := by rw [← Nat.pow_add]; congr 1
  rw [e] at h
  exact Nat.lt_of_le_of_lt (Nat.mod_le _ _) (Nat.div_lt_of_lt_mul h)
theorem low_lt {x r : Nat} (hr : r < 32) (hx : x < B32) (h : x % 2 ^ (r + 1) = 0) : x + 2 ^ r < B32 := by
  obtain ⟨c, rfl⟩ := Nat.dvd_of_mod_eq_zero h
  have e2 : B32 = 2 ^ (r + 1) * 2 ^ (31 - r) := by rw [← Nat.pow_add, B32_eq]; congr 1; omega
  rw [e2] at hx ⊢
  have h1 : c < 2 ^ (31 - r) := Nat.lt_of_mul_lt_mul_left hx
  have h2 := Nat.mul_le_mul_left (2 ^ (r + 1)) (show c + 1 ≤ 2 ^ (31 - r) from h1)
  have h3 : 2 ^ r < 2 ^ (r + 1) := Nat.pow_lt_pow_right (by omega) (by omega)
  rw [Nat.mul_add] at h2
  omega
theorem high_lt {x r : Nat} (hr : r < 32) (h : x < 2 ^ r) : x + 2 ^ r < B32 ∨ x + 2 ^ r ≤ B32 - 1 := by
  left
  have : 2 ^ (r + 1) ≤ 2 ^ 32 := Nat.pow_le_pow_right (by omega) (by omega)
  rw [Nat.pow_succ] at this
  unfold B32; omega
/-- A bit that is set. -/
theorem val_bit {l : List Nat} {i q r : Nat} (hi : i = 32 * q + r) (hq : q < l.length) : val (l.set q (l.getD q 0 + 2 ^ r)) = val l + 2 ^ i := by
  have h := val_set l q (l.getD q 0 + 2 ^ r) hq
  have e : 2 ^ i = B32 ^ q * 2 ^ r := by rw [B32_pow, ← Nat.pow_add]; congr 1
  rw [e]
  rw [Nat.mul_add] at h
  omega

/-- Ahead of a round of Parts: the bits from the j-th on are done. -/
structure PartsAt (N M j r Q : Nat) : Prop where
  eq : N / 2 ^ j % M = r
  val : Q = N / 2 ^ j / M * 2 ^ j
theorem PartsAt.start {N M j : Nat} (h : N < 2 ^ j) : PartsAt N M j 0 0 := ⟨by rw [Nat.div_eq_of_lt h]; exact Nat.zero_mod _, by rw [Nat.div_eq_of_lt h, Nat.zero_div, Nat.zero_mul]⟩
theorem half_step (N j : Nat) : N / 2 ^ j = 2 * (N / 2 ^ (j + 1)) + N / 2 ^ j % 2 := by
  have e1 : N / 2 ^ (j + 1) = N / 2 ^ j / 2 := by rw [Nat.pow_succ, Nat.div_div_eq_div_mul]
  omega
theorem PartsAt.lt {N M j r Q : Nat} (h : PartsAt N M j r Q) (hM : 0 < M) : r < M := by rw [← h.eq]; exact Nat.mod_lt _ hM
theorem PartsAt.dvd {N M j r Q : Nat} (h : PartsAt N M (j + 1) r Q) : Q % 2 ^ (j + 1) = 0 := by rw [h.val]; exact Nat.mul_mod_left _ _
theorem PartsAt.no {N M j r Q t : Nat} (h : PartsAt N M (j + 1) r Q) (ht : t = N / 2 ^ j % 2) (hlt : 2 * r + t < M) : PartsAt N M j (2 * r + t) Q := by
  obtain ⟨h1, h2⟩ := h
  have hs := half_step N j
  rw [← ht] at hs
  have e := Nat.div_add_mod (N / 2 ^ (j + 1)) M
  rw [h1] at e
  obtain ⟨q, hq⟩ : ∃ q, N / 2 ^ (j + 1) / M = q := ⟨_, rfl⟩
  rw [hq] at e h2
  have e2 : N / 2 ^ j = M * (2 * q) + (2 * r + t) := by rw [hs, ← e]; grind
  refine ⟨?_, ?_⟩
  · rw [e2, Nat.mul_add_mod, Nat.mod_eq_of_lt hlt]
  · rw [e2, Nat.mul_add_div (by omega), Nat.div_eq_of_lt hlt, Nat.add_zero, h2, Nat.pow_succ]; grind
theorem PartsAt.yes {N M j r Q t : Nat} (h : PartsAt N M (j + 1) r Q) (hM : 0 < M) (ht : t = N / 2 ^ j % 2) (hle : M ≤ 2 * r + t) : PartsAt N M j (2 * r + t - M) (Q + 2 ^ j) := by
  have hr := h.lt hM
  obtain ⟨h1, h2⟩ := h
  have hs := half_step N j
  rw [← ht] at hs
  have ht2 : t < 2 := by omega
  have e := Nat.div_add_mod (N / 2 ^ (j + 1)) M
  rw [h1] at e
  obtain ⟨q, hq⟩ : ∃ q, N / 2 ^ (j + 1) / M = q := ⟨_, rfl⟩
  rw [hq] at e h2
  obtain ⟨d, hd⟩ : ∃ d, 2 * r + t = M + d := ⟨2 * r + t - M, by omega⟩
  have hdM : d < M := by omega
  have e3 : 2 * r + t - M = d := by omega
  have e2 : N / 2 ^ j = M * (2 * q + 1) + d := by rw [hs, ← e]; grind
  rw [e3]
  refine ⟨?_, ?_⟩
  · rw [e2, Nat.mul_add_mod, Nat.mod_eq_of_lt hdM]
  · rw [e2, Nat.mul_add_div (by omega), Nat.div_eq_of_lt hdM, Nat.add_zero, h2, Nat.pow_succ]; grind
theorem PartsAt.done {N M r Q : Nat} (h : PartsAt N M 0 r Q) : Q = N / M ∧ r = N % M := by
  obtain ⟨h1, h2⟩ := h
  rw [Nat.pow_zero, Nat.div_one] at h1 h2
  exact ⟨by omega, h1.symm⟩

/-- Ahead of a round of Shr: the bits below the i-th are done. -/
structure ShrAt (N n i Q : Nat) (lost : Bool) : Prop where
  val : Q = N % 2 ^ i / 2 ^ n
  lost : lost = decide (N % 2 ^ (min i n) ≠ 0)
theorem ShrAt.start (N n : Nat) : ShrAt N n 0 0 false := ⟨by simp [Nat.mod_one], by simp [Nat.mod_one]⟩
theorem mod_step (N i : Nat) : N % 2 ^ (i + 1) = N % 2 ^ i + 2 ^ i * (N / 2 ^ i % 2) := by rw [Nat.pow_succ, Nat.mod_mul]
theorem ShrAt.no {N n i Q : Nat} {t : Bool} (h : ShrAt N n i Q t) (hb : N / 2 ^ i % 2 = 0) : ShrAt N n (i + 1) Q t := by
  obtain ⟨h1, h2⟩ := h
  have e : N % 2 ^ (i + 1) = N % 2 ^ i := by rw [mod_step N i, hb, Nat.mul_zero]; rfl
  refine ⟨by rw [h1, e], ?_⟩
  rw [h2]
  rcases Nat.lt_or_ge i n with g | g
  · rw [Nat.min_eq_left (by omega), Nat.min_eq_left (by omega), e]
  · rw [Nat.min_eq_right (by omega), Nat.min_eq_right (by omega)]
theorem ShrAt.low {N n i Q : Nat} {t : Bool} (h : ShrAt N n i Q t) (hb : N / 2 ^ i % 2 = 1) (hi : i < n) : ShrAt N n (i + 1) Q true := by
  obtain ⟨h1, h2⟩ := h
  have e := mod_step N i
  rw [hb, Nat.mul_one] at e
  have p : 2 ^ (i + 1) ≤ 2 ^ n := Nat.pow_le_pow_right (by omega) (by omega)
  have p2 : 2 ^ i < 2 ^ (i + 1) := Nat.pow_lt_pow_right (by omega) (by omega)
  have m1 := Nat.mod_lt N (Nat.two_pow_pos i)
  have m2 := Nat.mod_lt N (Nat.two_pow_pos (i + 1))
  refine ⟨?_, ?_⟩
  · rw [h1, Nat.div_eq_of_lt (by omega), Nat.div_eq_of_lt (by omega)]
  · rw [Nat.min_eq_left (by omega), e]
    simp
theorem ShrAt.high {N n i Q : Nat} {t : Bool} (h : ShrAt N n i Q t) (hb : N / 2 ^ i % 2 = 1) (hi : n ≤ i) : ShrAt N n (i + 1) (Q + 2 ^ (i - n)) t := by
  obtain ⟨h1, h2⟩ := h
  have e := mod_step N i
  rw [hb, Nat.mul_one] at e
  refine ⟨?_, ?_⟩
  · have p : 2 ^ i = 2 ^ n * 2 ^ (i - n) := by rw [← Nat.pow_add]; congr 1; omega
    rw [h1, e]
    conv => rhs; rw [p]
    rw [Nat.add_mul_div_left _ _ (Nat.two_pow_pos n)]
    rw [← p]
  · rw [h2, Nat.min_eq_right (by omega), Nat.min_eq_right (by omega)]
theorem ShrAt.lt {N n i Q : Nat} {t : Bool} (h : ShrAt N n i Q t) (hi : n ≤ i) : Q < 2 ^ (i - n) := by
  rw [h.val]
  have p : 2 ^ i = 2 ^ n * 2 ^ (i - n) := by rw [← Nat.pow_add]; congr 1; omega
  have m1 := Nat.mod_lt N (Nat.two_pow_pos i)
  rw [p] at m1 ⊢
  exact Nat.div_lt_of_lt_mul m1
theorem ShrAt.done {N n i Q : Nat} {t : Bool} (h : ShrAt N n i Q t) (hN : N < 2 ^ i) : Q = N / 2 ^ n ∧ t = decide (N % 2 ^ n ≠ 0) := by
  obtain ⟨h1, h2⟩ := h
  rw [Nat.mod_eq_of_lt hN] at h1
  refine ⟨h1, ?_⟩
  rw [h2]
  rcases Nat.lt_or_ge i n with g | g
  · have p : 2 ^ i ≤ 2 ^ n := Nat.pow_le_pow_right (by omega) (by omega)
    rw [Nat.min_eq_left (by omega), Nat.mod_eq_of_lt hN, Nat.mod_eq_of_lt (by omega)]
  · rw [Nat.min_eq_right g]

/-- Comparing from the top: above the k-th limbs both are alike. -/
theorem cmp_top {a b : List Nat} {n k x y : Nat} (ha : a.length = n) (hb : b.length = n) (hfa : Fit a) (hk : k < n) (hd : a.drop (k + 1) = b.drop (k + 1)) (hx : a.getD k 0 = x) (hy : b.getD k 0 = y) (hlt : x < y) : val a < val b := by
  have e1 := val_take_drop a (k + 1) (by omega)
  have e2 := val_take_drop b (k + 1) (by omega)
  rw [take_getD, hx] at e1
  rw [take_getD, hy] at e2
  rw [hd] at e1
  have l1 := val_lt (hfa.take k)
  rw [List.length_take, ha, Nat.min_eq_left (by omega)] at l1
  have l2 := Nat.mul_le_mul_left (B32 ^ k) (show x + 1 ≤ y from hlt)
  rw [Nat.mul_add] at l2
  omega
theorem drop_eq {a b : List Nat} {n k x : Nat} (ha : a.length = n) (hb : b.length = n) (hk : k < n) (hd : a.drop (k + 1) = b.drop (k + 1)) (hx : a.getD k 0 = x) (hy : b.getD k 0 = x) : a.drop k = b.drop k := by
  rw [drop_getD a k (by omega), drop_getD b k (by omega), hx, hy, hd]
theorem len_lt {N M : Nat} (h : (limbs N).length < (limbs M).length) : N < M := by
  rcases Nat.lt_or_ge N M with g | g
  · exact g
  · have h1 := lt_of_limbs_len (Nat.le_refl (limbs N).length)
    have := limbs_len_le (Nat.lt_of_le_of_lt g h1)
    omega
end Go.Proofs.Ytjlmchbpdkojeaa.Pl
