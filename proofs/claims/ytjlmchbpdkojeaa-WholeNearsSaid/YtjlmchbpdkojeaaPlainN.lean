/-
  Plain numbers: naturals as lists of 32-bit limbs, the lowest first. Nothing of the program stands here.
-/
namespace Go.Proofs.Ytjlmchbpdkojeaa.Pl

def B32 : Nat := 4294967296
theorem B32_eq : B32 = 2 ^ 32 := by decide
theorem B32_pos : 0 < B32 := by decide

/-- The natural that a list of limbs means. -/
def val : List Nat → Nat
  | [] => 0
  | x :: l => x + B32 * val l
/-- Each limb fits. -/
def Fit (l : List Nat) : Prop := ∀ x ∈ l, x < B32
theorem Fit.nil : Fit [] := fun _ h => by cases h
theorem Fit.cons {x : Nat} {l : List Nat} (h : x < B32) (k : Fit l) : Fit (x :: l) := fun y hy => by
  rcases List.mem_cons.1 hy with rfl | hy
  · exact h
  · exact k y hy
theorem Fit.head {x : Nat} {l : List Nat} (h : Fit (x :: l)) : x < B32 := h x (List.mem_cons_self ..)
theorem Fit.tail {x : Nat} {l : List Nat} (h : Fit (x :: l)) : Fit l := fun y hy => h y (List.mem_cons_of_mem _ hy)
theorem Fit.append {l m : List Nat} (h : Fit l) (k : Fit m) : Fit (l ++ m) := fun y hy => by
  rcases List.mem_append.1 hy with hy | hy
  · exact h y hy
  · exact k y hy
theorem Fit.take {l : List Nat} (h : Fit l) (n : Nat) : Fit (l.take n) := fun y hy => h y (List.mem_of_mem_take hy)
theorem Fit.drop {l : List Nat} (h : Fit l) (n : Nat) : Fit (l.drop n) := fun y hy => h y (List.mem_of_mem_drop hy)
theorem Fit.get {l : List Nat} (h : Fit l) (i : Nat) : l.getD i 0 < B32 := by
  rw [List.getD_eq_getElem?_getD]
  rcases Nat.lt_or_ge i l.length with g | g
  · rw [List.getElem?_eq_getElem g]; exact h _ (List.getElem_mem g)
  · rw [List.getElem?_eq_none g]; exact B32_pos

theorem val_append (l m : List Nat) : val (l ++ m) = val l + B32 ^ l.length * val m := by
  induction l with
  | nil => simp [val]
  | cons x l ih =>
    simp only [List.cons_append, val, List.length_cons, ih, Nat.pow_succ, Nat.mul_add]
    rw [Nat.mul_comm (B32 ^ l.length) B32, Nat.mul_assoc]; omega
theorem val_single (x : Nat) : val [x] = x := by simp [val]
theorem val_snoc (l : List Nat) (x : Nat) : val (l ++ [x]) = val l + B32 ^ l.length * x := by rw [val_append, val_single]
theorem val_lt {l : List Nat} (h : Fit l) : val l < B32 ^ l.length := by
  induction l with
  | nil => simp [val]
  | cons x l ih =>
    have h1 := ih h.tail
    have h2 := h.head
    simp only [val, List.length_cons, Nat.pow_succ]
    have := Nat.mul_le_mul_left B32 (show val l + 1 ≤ B32 ^ l.length from h1)
    rw [Nat.mul_add] at this
    rw [Nat.mul_comm (B32 ^ l.length)]; omega
theorem val_zeros (n : Nat) : val (List.replicate n 0) = 0 := by
  induction n with
  | zero => rfl
  | succ n ih => simp [List.replicate_succ, val, ih]
theorem val_take_drop (l : List Nat) (n : Nat) (h : n ≤ l.length) : val l = val (l.take n) + B32 ^ n * val (l.drop n) := by
  have := val_append (l.take n) (l.drop n)
  rw [List.take_append_drop, List.length_take, Nat.min_eq_left h] at this
  exact this
theorem take_succ_getD (l : List Nat) (k : Nat) (h : k < l.length) : l.take (k + 1) = l.take k ++ [l.getD k 0] := by
  rw [List.take_succ_eq_append_getElem h, List.getD_eq_getElem?_getD, List.getElem?_eq_getElem h]; rfl
theorem drop_getD (l : List Nat) (k : Nat) (h : k < l.length) : l.drop k = l.getD k 0 :: l.drop (k + 1) := by
  rw [List.drop_eq_getElem_cons h, List.getD_eq_getElem?_getD, List.getElem?_eq_getElem h]; rfl
theorem val_take_succ (l : List Nat) (k : Nat) (h : k < l.length) : val (l.take (k + 1)) = val (l.take k) + B32 ^ k * l.getD k 0 := by
  rw [take_succ_getD l k h, val_snoc, List.length_take, Nat.min_eq_left (Nat.le_of_lt h)]

/-- The i-th limb is so many bits of the number. -/
theorem limb_val {l : List Nat} (hf : Fit l) (i : Nat) : l.getD i 0 = val l / B32 ^ i % B32 := by
  rcases Nat.lt_or_ge i l.length with h | h
  · rw [val_take_drop l i (Nat.le_of_lt h), drop_getD l i h]
    have h1 := val_lt (hf.take i)
    rw [List.length_take, Nat.min_eq_left (Nat.le_of_lt h)] at h1
    rw [Nat.add_mul_div_left _ _ (Nat.pow_pos B32_pos), Nat.div_eq_of_lt h1, Nat.zero_add]
    simp only [val]
    rw [Nat.add_mul_mod_self_left, Nat.mod_eq_of_lt (hf.get i)]
  · have h1 := val_lt hf
    have h2 : val l < B32 ^ i := Nat.lt_of_lt_of_le h1 (Nat.pow_le_pow_right B32_pos h)
    rw [Nat.div_eq_of_lt h2, Nat.zero_mod, List.getD_eq_getElem?_getD, List.getElem?_eq_none h]; rfl

/-- The limbs of a natural, none of them a nought at the end. -/
def limbs (n : Nat) : List Nat := if _h : n = 0 then [] else n % B32 :: limbs (n / B32)
termination_by n
decreasing_by exact Nat.div_lt_self (by omega) (by decide)

theorem limbs_zero : limbs 0 = [] := by rw [limbs]; simp
theorem limbs_pos {n : Nat} (h : n ≠ 0) : limbs n = n % B32 :: limbs (n / B32) := by rw [limbs]; simp [h]
theorem val_limbs (n : Nat) : val (limbs n) = n := by
  induction n using Nat.strongRecOn with
  | ind n ih =>
    by_cases h : n = 0
    · subst h; rw [limbs_zero]; rfl
    · rw [limbs_pos h, val, ih _ (Nat.div_lt_self (by omega) (by decide))]
      exact Nat.mod_add_div n B32
theorem fit_limbs (n : Nat) : Fit (limbs n) := by
  induction n using Nat.strongRecOn with
  | ind n ih =>
    by_cases h : n = 0
    · subst h; rw [limbs_zero]; exact Fit.nil
    · rw [limbs_pos h]
      exact Fit.cons (Nat.mod_lt _ B32_pos) (ih _ (Nat.div_lt_self (by omega) (by decide)))
theorem limbs_nil {n : Nat} (h : limbs n = []) : n = 0 := by rw [← val_limbs n, h]; rfl
/-- A list without a nought at its end is the limbs of its number. -/
theorem limbs_val : ∀ {l : List Nat}, Fit l → (∀ h : l ≠ [], l.getLast h ≠ 0) → limbs (val l) = l
  | [], _, _ => limbs_zero
  | x :: l, hf, hl => by
    have ht : ∀ h : l ≠ [], l.getLast h ≠ 0 := fun h => by
      have := hl (by simp)
      rwa [List.getLast_cons h] at this
    have ih := limbs_val hf.tail ht
    have hx := hf.head
    have hne : x + B32 * val l ≠ 0 := by
      intro h0
      have h1 : x = 0 := by omega
      have h2 : val l = 0 := by
        rcases Nat.mul_eq_zero.1 (show B32 * val l = 0 by omega) with g | g
        · exact absurd g (by decide)
        · exact g
      rw [h2, limbs_zero] at ih
      subst ih
      have := hl (by simp)
      simp at this
      exact this h1
    show limbs (x + B32 * val l) = x :: l
    rw [limbs_pos hne, Nat.add_mul_mod_self_left, Nat.mod_eq_of_lt hx, Nat.add_mul_div_left _ _ B32_pos, Nat.div_eq_of_lt hx, Nat.zero_add, ih]
theorem limbs_len_le {n k : Nat} (h : n < B32 ^ k) : (limbs n).length ≤ k := by
  induction k generalizing n with
  | zero => have : n = 0 := by simpa using h
            subst this; rw [limbs_zero]; exact Nat.le_refl _
  | succ k ih =>
    by_cases h0 : n = 0
    · subst h0; rw [limbs_zero]; exact Nat.zero_le _
    · rw [limbs_pos h0]
      have : n / B32 < B32 ^ k := by rw [Nat.div_lt_iff_lt_mul B32_pos, ← Nat.pow_succ]; exact h
      have := ih this
      simp only [List.length_cons]; omega
theorem lt_of_limbs_len {n k : Nat} (h : (limbs n).length ≤ k) : n < B32 ^ k := by
  have := val_lt (fit_limbs n)
  rw [val_limbs] at this
  exact Nat.lt_of_lt_of_le this (Nat.pow_le_pow_right B32_pos h)
theorem limbs_last {n : Nat} (h : limbs n ≠ []) : (limbs n).getLast h ≠ 0 := by
  induction n using Nat.strongRecOn with
  | ind n ih =>
    have h0 : n ≠ 0 := fun e => h (by rw [e]; exact limbs_zero)
    have e := limbs_pos h0
    by_cases h1 : limbs (n / B32) = []
    · have h2 := limbs_nil h1
      have : limbs n = [n % B32] := by rw [e, h1]
      simp only [this, List.getLast_singleton]
      have := Nat.mod_add_div n B32
      rw [h2] at this; omega
    · have := ih (n / B32) (Nat.div_lt_self (by omega) (by decide)) h1
      simp only [e, List.getLast_cons h1]; exact this
/-- What is above: trailing noughts don't count. -/
theorem limbs_take {l : List Nat} {n : Nat} (hf : Fit l) (hn : n ≤ l.length) (hz : ∀ i, n ≤ i → i < l.length → l.getD i 0 = 0) (hl : 0 < n → l.getD (n - 1) 0 ≠ 0) : l.take n = limbs (val l) := by
  have hd : ∀ m, n ≤ m → m ≤ l.length → val (l.take m) = val (l.take n) := by
    intro m
    induction m with
    | zero => intro h1 _; have : n = 0 := by omega
              subst this; rfl
    | succ m ih =>
      intro h1 h2
      by_cases e : n = m + 1
      · subst e; rfl
      · rw [val_take_succ l m h2, hz m (by omega) h2, Nat.mul_zero, Nat.add_zero, ih (by omega) (by omega)]
  have e := hd l.length hn (Nat.le_refl _)
  rw [List.take_length] at e
  rw [e]
  refine (limbs_val (hf.take n) fun h => ?_).symm
  have h0 : 0 < n := by
    rcases Nat.eq_zero_or_pos n with g | g
    · subst g; simp at h
    · exact g
  have := hl h0
  obtain ⟨k, rfl⟩ : ∃ k, n = k + 1 := ⟨n - 1, by omega⟩
  have e2 := take_succ_getD l k (by omega)
  simp only [e2]
  rw [List.getLast_append_of_ne_nil _ (by simp)]
  simpa using this

theorem B32_pow (i : Nat) : B32 ^ i = 2 ^ (32 * i) := by rw [B32_eq, ← Nat.pow_mul]
/-- The i-th bit. -/
theorem bit_val {l : List Nat} (hf : Fit l) (i : Nat) : l.getD (i / 32) 0 / 2 ^ (i % 32) % 2 = val l / 2 ^ i % 2 := by
  rw [limb_val hf, B32_pow]
  have h := Nat.div_add_mod i 32
  have hm := Nat.mod_lt i (show 0 < 32 by decide)
  have e1 : 2 ^ i = 2 ^ (32 * (i / 32)) * 2 ^ (i % 32) := by rw [← Nat.pow_add, h]
  rw [e1, ← Nat.div_div_eq_div_mul]
  generalize val l / 2 ^ (32 * (i / 32)) = x
  have e2 : B32 = 2 ^ (i % 32) * (2 * 2 ^ (31 - i % 32)) := by
    have : (2 : Nat) * 2 ^ (31 - i % 32) = 2 ^ (31 - i % 32 + 1) := by rw [Nat.pow_succ, Nat.mul_comm]
    rw [this, ← Nat.pow_add, B32_eq]; congr 1; omega
  rw [e2, Nat.mod_mul_right_div_self, Nat.mod_mul_right_mod]
end Go.Proofs.Ytjlmchbpdkojeaa.Pl
