/-
  M5B: the texts PlainN, PlainD, Div, WideG, Ref3, Sl, Ref1, Ref1B, Ref1C, Ref1D, PlainM, Ref1E, Ref1F in one (a claim has at most 60 files).
-/
import Derived.Deep.DeepCutAuto
import Derived.Deep.CutBlock
import Derived.Below
import Derived.Laws.OwnMore
import Derived.Deep.AppendLies
import Derived.Deep.Draws
import Derived.Maps.AppendAt
import Derived.RegionTactic
import Derived.OwnWalk
import Derived.Deep.LoopGhost
import Derived.Deep.Light
import Derived.Laws.Rows
import Derived.Test.YtmjaoeafompclaaM5A

namespace Go.Proofs.Ytmjaoeafompclaa.Pl

def B32 : Nat := 4294967296
theorem B32_eq : B32 = 2 ^ 32 := by decide
theorem B32_pos : 0 < B32 := by decide

/-- The natural that a list of limbs means. -/
def val : List Nat → Nat
  | [] => 0
  | x :: l => x + B32 * val l
/-- Each limb fits. -/
def Fit (l : List Nat) : Prop := ∀ x ∈ l, x < B32
theorem Fit.nil : Fit [] := fun _ h => by cases h
theorem Fit.cons {x : Nat} {l : List Nat} (h : x < B32) (k : Fit l) : Fit (x :: l) := fun y hy => by
  rcases List.mem_cons.1 hy with rfl | hy
  · exact h
  · exact k y hy
theorem Fit.head {x : Nat} {l : List Nat} (h : Fit (x :: l)) : x < B32 := h x (List.mem_cons_self ..)
theorem Fit.tail {x : Nat} {l : List Nat} (h : Fit (x :: l)) : Fit l := fun y hy => h y (List.mem_cons_of_mem _ hy)
theorem Fit.append {l m : List Nat} (h : Fit l) (k : Fit m) : Fit (l ++ m) := fun y hy => by
  rcases List.mem_append.1 hy with hy | hy
  · exact h y hy
  · exact k y hy
theorem Fit.take {l : List Nat} (h : Fit l) (n : Nat) : Fit (l.take n) := fun y hy => h y (List.mem_of_mem_take hy)
theorem Fit.drop {l : List Nat} (h : Fit l) (n : Nat) : Fit (l.drop n) := fun y hy => h y (List.mem_of_mem_drop hy)
theorem Fit.get {l : List Nat} (h : Fit l) (i : Nat) : l.getD i 0 < B32 := by
  rw [List.getD_eq_getElem?_getD]
  rcases Nat.lt_or_ge i l.length with g | g
  · rw [List.getElem?_eq_getElem g]; exact h _ (List.getElem_mem g)
  · rw [List.getElem?_eq_none g]; exact B32_pos

theorem val_append (l m : List Nat) : val (l ++ m) = val l + B32 ^ l.length * val m := by
  induction l with
  | nil => simp [val]
  | cons x l ih =>
    simp only [List.cons_append, val, List.length_cons, ih, Nat.pow_succ, Nat.mul_add]
    rw [Nat.mul_comm (B32 ^ l.length) B32, Nat.mul_assoc]; omega
theorem val_single (x : Nat) : val [x] = x := by simp [val]
theorem val_snoc (l : List Nat) (x : Nat) : val (l ++ [x]) = val l + B32 ^ l.length * x := by rw [val_append, val_single]
theorem val_lt {l : List Nat} (h : Fit l) : val l < B32 ^ l.length := by
  induction l with
  | nil => simp [val]
  | cons x l ih =>
    have h1 := ih h.tail
    have h2 := h.head
    simp only [val, List.length_cons, Nat.pow_succ]
    have := Nat.mul_le_mul_left B32 (show val l + 1 ≤ B32 ^ l.length from h1)
    rw [Nat.mul_add] at this
    rw [Nat.mul_comm (B32 ^ l.length)]; omega
theorem val_zeros (n : Nat) : val (List.replicate n 0) = 0 := by
  induction n with
  | zero => rfl
  | succ n ih => simp [List.replicate_succ, val, ih]
theorem val_take_drop (l : List Nat) (n : Nat) (h : n ≤ l.length) : val l = val (l.take n) + B32 ^ n * val (l.drop n) := by
  have := val_append (l.take n) (l.drop n)
  rw [List.take_append_drop, List.length_take, Nat.min_eq_left h] at this
  exact this
theorem take_succ_getD (l : List Nat) (k : Nat) (h : k < l.length) : l.take (k + 1) = l.take k ++ [l.getD k 0] := by
  rw [List.take_succ_eq_append_getElem h, List.getD_eq_getElem?_getD, List.getElem?_eq_getElem h]; rfl
theorem drop_getD (l : List Nat) (k : Nat) (h : k < l.length) : l.drop k = l.getD k 0 :: l.drop (k + 1) := by
  rw [List.drop_eq_getElem_cons h, List.getD_eq_getElem?_getD, List.getElem?_eq_getElem h]; rfl
theorem val_take_succ (l : List Nat) (k : Nat) (h : k < l.length) : val (l.take (k + 1)) = val (l.take k) + B32 ^ k * l.getD k 0 := by
  rw [take_succ_getD l k h, val_snoc, List.length_take, Nat.min_eq_left (Nat.le_of_lt h)]

/-- The i-th limb is so many bits of the number. -/
theorem limb_val {l : List Nat} (hf : Fit l) (i : Nat) : l.getD i 0 = val l / B32 ^ i % B32 := by
  rcases Nat.lt_or_ge i l.length with h | h
  · rw [val_take_drop l i (Nat.le_of_lt h), drop_getD l i h]
    have h1 := val_lt (hf.take i)
    rw [List.length_take, Nat.min_eq_left (Nat.le_of_lt h)] at h1
    rw [Nat.add_mul_div_left _ _ (Nat.pow_pos B32_pos), Nat.div_eq_of_lt h1, Nat.zero_add]
    simp only [val]
    rw [Nat.add_mul_mod_self_left, Nat.mod_eq_of_lt (hf.get i)]
  · have h1 := val_lt hf
    have h2 : val l < B32 ^ i := Nat.lt_of_lt_of_le h1 (Nat.pow_le_pow_right B32_pos h)
    rw [Nat.div_eq_of_lt h2, Nat.zero_mod, List.getD_eq_getElem?_getD, List.getElem?_eq_none h]; rfl

/-- The limbs of a natural, none of them a nought at the end. -/
def limbs (n : Nat) : List Nat := if _h : n = 0 then [] else n % B32 :: limbs (n / B32)
termination_by n
decreasing_by exact Nat.div_lt_self (by omega) (by decide)

theorem limbs_zero : limbs 0 = [] := by rw [limbs]; simp
theorem limbs_pos {n : Nat} (h : n ≠ 0) : limbs n = n % B32 :: limbs (n / B32) := by rw [limbs]; simp [h]
theorem val_limbs (n : Nat) : val (limbs n) = n := by
  induction n using Nat.strongRecOn with
  | ind n ih =>
    by_cases h : n = 0
    · subst h; rw [limbs_zero]; rfl
    · rw [limbs_pos h, val, ih _ (Nat.div_lt_self (by omega) (by decide))]
      exact Nat.mod_add_div n B32
theorem fit_limbs (n : Nat) : Fit (limbs n) := by
  induction n using Nat.strongRecOn with
  | ind n ih =>
    by_cases h : n = 0
    · subst h; rw [limbs_zero]; exact Fit.nil
    · rw [limbs_pos h]
      exact Fit.cons (Nat.mod_lt _ B32_pos) (ih _ (Nat.div_lt_self (by omega) (by decide)))
theorem limbs_nil {n : Nat} (h : limbs n = []) : n = 0 := by rw [← val_limbs n, h]; rfl
/-- A list without a nought at its end is the limbs of its number. -/
theorem limbs_val : ∀ {l : List Nat}, Fit l → (∀ h : l ≠ [], l.getLast h ≠ 0) → limbs (val l) = l
  | [], _, _ => limbs_zero
  | x :: l, hf, hl => by
    have ht : ∀ h : l ≠ [], l.getLast h ≠ 0 := fun h => by
      have := hl (by simp)
      rwa [List.getLast_cons h] at this
    have ih := limbs_val hf.tail ht
    have hx := hf.head
    have hne : x + B32 * val l ≠ 0 := by
      intro h0
      have h1 : x = 0 := by omega
      have h2 : val l = 0 := by
        rcases Nat.mul_eq_zero.1 (show B32 * val l = 0 by omega) with g | g
        · exact absurd g (by decide)
        · exact g
      rw [h2, limbs_zero] at ih
      subst ih
      have := hl (by simp)
      simp at this
      exact this h1
    show limbs (x + B32 * val l) = x :: l
    rw [limbs_pos hne, Nat.add_mul_mod_self_left, Nat.mod_eq_of_lt hx, Nat.add_mul_div_left _ _ B32_pos, Nat.div_eq_of_lt hx, Nat.zero_add, ih]
theorem limbs_len_le {n k : Nat} (h : n < B32 ^ k) : (limbs n).length ≤ k := by
  induction k generalizing n with
  | zero => have : n = 0 := by simpa using h
            subst this; rw [limbs_zero]; exact Nat.le_refl _
  | succ k ih =>
    by_cases h0 : n = 0
    · subst h0; rw [limbs_zero]; exact Nat.zero_le _
    · rw [limbs_pos h0]
      have : n / B32 < B32 ^ k := by rw [Nat.div_lt_iff_lt_mul B32_pos, ← Nat.pow_succ]; exact h
      have := ih this
      simp only [List.length_cons]; omega
theorem lt_of_limbs_len {n k : Nat} (h : (limbs n).length ≤ k) : n < B32 ^ k := by
  have := val_lt (fit_limbs n)
  rw [val_limbs] at this
  exact Nat.lt_of_lt_of_le this (Nat.pow_le_pow_right B32_pos h)
theorem limbs_last {n : Nat} (h : limbs n ≠ []) : (limbs n).getLast h ≠ 0 := by
  induction n using Nat.strongRecOn with
  | ind n ih =>
    have h0 : n ≠ 0 := fun e => h (by rw [e]; exact limbs_zero)
    have e := limbs_pos h0
    by_cases h1 : limbs (n / B32) = []
    · have h2 := limbs_nil h1
      have : limbs n = [n % B32] := by rw [e, h1]
      simp only [this, List.getLast_singleton]
      have := Nat.mod_add_div n B32
      rw [h2] at this; omega
    · have := ih (n / B32) (Nat.div_lt_self (by omega) (by decide)) h1
      simp only [e, List.getLast_cons h1]; exact this
/-- What is above: trailing noughts don't count. -/
theorem limbs_take {l : List Nat} {n : Nat} (hf : Fit l) (hn : n ≤ l.length) (hz : ∀ i, n ≤ i → i < l.length → l.getD i 0 = 0) (hl : 0 < n → l.getD (n - 1) 0 ≠ 0) : l.take n = limbs (val l) := by
  have hd : ∀ m, n ≤ m → m ≤ l.length → val (l.take m) = val (l.take n) := by
    intro m
    induction m with
    | zero => intro h1 _; have : n = 0 := by omega
              subst this; rfl
    | succ m ih =>
      intro h1 h2
      by_cases e : n = m + 1
      · subst e; rfl
      · rw [val_take_succ l m h2, hz m (by omega) h2, Nat.mul_zero, Nat.add_zero, ih (by omega) (by omega)]
  have e := hd l.length hn (Nat.le_refl _)
  rw [List.take_length] at e
  rw [e]
  refine (limbs_val (hf.take n) fun h => ?_).symm
  have h0 : 0 < n := by
    rcases Nat.eq_zero_or_pos n with g | g
    · subst g; simp at h
    · exact g
  have := hl h0
  obtain ⟨k, rfl⟩ : ∃ k, n = k + 1 := ⟨n - 1, by omega⟩
  have e2 := take_succ_getD l k (by omega)
  simp only [e2]
  rw [List.getLast_append_of_ne_nil _ (by simp)]
  simpa using this

theorem B32_pow (i : Nat) : B32 ^ i = 2 ^ (32 * i) := by rw [B32_eq, ← Nat.pow_mul]
/-- The i-th bit. -/
theorem bit_val {l : List Nat} (hf : Fit l) (i : Nat) : l.getD (i / 32) 0 / 2 ^ (i % 32) % 2 = val l / 2 ^ i % 2 := by
  rw [limb_val hf, B32_pow]
  have h := Nat.div_add_mod i 32
  have hm := Nat.mod_lt i (show 0 < 32 by decide)
  have e1 : 2 ^ i = 2 ^ (32 * (i / 32)) * 2 ^ (i % 32) := by rw [← Nat.pow_add, h]
  rw [e1, ← Nat.div_div_eq_div_mul]
  generalize val l / 2 ^ (32 * (i / 32)) = x
  have e2 : B32 = 2 ^ (i % 32) * (2 * 2 ^ (31 - i % 32)) := by
    have : (2 : Nat) * 2 ^ (31 - i % 32) = 2 ^ (31 - i % 32 + 1) := by rw [Nat.pow_succ, Nat.mul_comm]
    rw [this, ← Nat.pow_add, B32_eq]; congr 1; omega
  rw [e2, Nat.mod_mul_right_div_self, Nat.mod_mul_right_mod]
end Go.Proofs.Ytmjaoeafompclaa.Pl

namespace Go.Proofs.Ytmjaoeafompclaa.Pl

/-- What is known of a step: the divisor Y = D1 * B + D0, normalized; the number W = U * B + u with U below Y. -/
structure KSet (B Y D1 D0 U u : Nat) : Prop where
  y : Y = D1 * B + D0
  d0 : D0 < B
  d1 : D1 < B
  norm : B ≤ 2 * D1
  u : u < B
  lt : U < Y
/-- At the loop's head: a digit that is not too small, and what it leaves of U. -/
structure KAt (B Y D1 U u q r : Nat) : Prop where
  eq : q * D1 + r = U
  r : r < B
  low : (U * B + u) / Y ≤ q
  high : q ≤ B + 1

variable {B Y D1 D0 U u q r : Nat}
theorem KSet.dpos (h : KSet B Y D1 D0 U u) : 0 < D1 := by have := h.norm; have := h.d0; omega
theorem KSet.ypos (h : KSet B Y D1 D0 U u) : 0 < Y := by have := h.lt; omega
theorem KSet.digit (h : KSet B Y D1 D0 U u) : (U * B + u) / Y < B := by
  rw [Nat.div_lt_iff_lt_mul h.ypos]
  have := Nat.mul_le_mul_right B (show U + 1 ≤ Y from h.lt)
  have hu := h.u
  rw [Nat.add_mul] at this
  rw [Nat.mul_comm B Y]; omega
theorem KSet.start (h : KSet B Y D1 D0 U u) : KAt B Y D1 U u (U / D1) (U - U / D1 * D1) ∧ U / D1 * D1 ≤ U := by
  have hd := h.dpos
  have e := Nat.div_add_mod U D1
  have hm := Nat.mod_lt U hd
  have e2 : U / D1 * D1 = D1 * (U / D1) := Nat.mul_comm _ _
  refine ⟨⟨by omega, by have := h.d1; omega, ?_, ?_⟩, by omega⟩
  · rw [Nat.le_div_iff_mul_le hd]
    rcases Nat.lt_or_ge U ((U * B + u) / Y * D1) with g | g
    · exfalso
      have h1 := Nat.div_mul_le_self (U * B + u) Y
      have h2 := Nat.mul_le_mul_right B (show U + 1 ≤ (U * B + u) / Y * D1 from g)
      have h3 : (U * B + u) / Y * Y = (U * B + u) / Y * D1 * B + (U * B + u) / Y * D0 := by
        rw [h.y, Nat.mul_add, ← Nat.mul_assoc]
      have hu := h.u
      rw [Nat.add_mul] at h2
      omega
    · exact g
  · have h1 := h.lt
    have h2 := h.y
    have h3 := h.norm
    have h4 := h.d0
    have : U / D1 < B + 2 := by
      rw [Nat.div_lt_iff_lt_mul hd, Nat.add_mul, Nat.mul_comm B D1]; omega
    omega
theorem KAt.cmp (h : KSet B Y D1 D0 U u) (k : KAt B Y D1 U u q r) : B * r + u < q * D0 ↔ (U * B + u) / Y < q := by
  have e : q * Y = q * D1 * B + q * D0 := by rw [h.y, Nat.mul_add, ← Nat.mul_assoc]
  have e2 : U * B = q * D1 * B + B * r := by rw [← k.eq, Nat.add_mul, Nat.mul_comm r B]
  rw [Nat.div_lt_iff_lt_mul h.ypos, e, e2]
  omega
theorem KAt.yes (h : KSet B Y D1 D0 U u) (k : KAt B Y D1 U u q r) (ht : B ≤ q ∨ B * r + u < q * D0) : (U * B + u) / Y + 1 ≤ q := by
  rcases ht with g | g
  · have := h.digit; omega
  · exact (k.cmp h).1 g
theorem KAt.no (h : KSet B Y D1 D0 U u) (k : KAt B Y D1 U u q r) (ht : ¬ B * r + u < q * D0) : q = (U * B + u) / Y := by
  have := k.low
  have := mt (k.cmp h).2 ht
  omega
theorem KAt.dec (k : KAt B Y D1 U u q r) (hq : (U * B + u) / Y + 1 ≤ q) (hr : r + D1 < B) : KAt B Y D1 U u (q - 1) (r + D1) := by
  have e := k.eq
  have hq1 : 1 ≤ q := Nat.le_trans (Nat.le_add_left 1 _) hq
  obtain ⟨p, rfl⟩ : ∃ p, q = p + 1 := ⟨q - 1, by omega⟩
  rw [Nat.add_mul] at e
  exact ⟨by rw [Nat.add_sub_cancel]; omega, hr, by omega, by have := k.high; omega⟩
theorem KAt.brk (h : KSet B Y D1 D0 U u) (k : KAt B Y D1 U u q r) (hq : (U * B + u) / Y + 1 ≤ q) (hr : B ≤ r + D1) : q - 1 = (U * B + u) / Y := by
  have e := k.eq
  have hh := k.high
  have hq1 : 1 ≤ q := Nat.le_trans (Nat.le_add_left 1 _) hq
  obtain ⟨p, rfl⟩ : ∃ p, q = p + 1 := ⟨q - 1, by omega⟩
  rw [Nat.add_sub_cancel]
  have h1 : p ≤ (U * B + u) / Y := by
    rw [Nat.le_div_iff_mul_le h.ypos, h.y, Nat.mul_add, ← Nat.mul_assoc]
    rw [Nat.add_mul] at e
    have e2 : U = p * D1 + (r + D1) := by omega
    have h2 := Nat.mul_le_mul_right B hr
    have h3 := Nat.mul_le_mul (show p ≤ B by omega) (Nat.le_of_lt h.d0)
    rw [e2, Nat.add_mul (p * D1)]
    omega
  omega
theorem KAt.small (h : KSet B Y D1 D0 U u) (k : KAt B Y D1 U u q r) (hq : q < B) : q * D0 < B * B ∧ B * r + u < B * B := by
  have h1 := Nat.mul_lt_mul_of_lt_of_le hq (Nat.le_of_lt h.d0) (show 0 < B by omega)
  have h2 := Nat.mul_le_mul_left B (show r + 1 ≤ B from k.r)
  have := h.u
  rw [Nat.mul_add] at h2
  exact ⟨h1, by omega⟩

/-- Two digits make the quotient; what is left, shifted back, is what is left. -/
theorem two_digits {N y B P Y U u1 u0 : Nat} (hy : Y = y * P) (hP : 0 < P) (hN : N * P = (U * B + u1) * B + u0) (y0 : 0 < Y) :
    (U * B + u1) / Y * B + ((U * B + u1) % Y * B + u0) / Y = N / y ∧ ((U * B + u1) % Y * B + u0) % Y / P = N % y ∧ ((U * B + u1) % Y < Y) := by
  have e1 := Nat.div_add_mod (U * B + u1) Y
  generalize hQ : (U * B + u1) / Y = Q at *
  generalize hR : (U * B + u1) % Y = R at *
  have hRY : R < Y := by rw [← hR]; exact Nat.mod_lt _ y0
  have e2 := Nat.div_add_mod (R * B + u0) Y
  have hV := Nat.mod_lt (R * B + u0) y0
  generalize (R * B + u0) / Y = Q0 at *
  generalize (R * B + u0) % Y = V at *
  have key : N * P = Y * (Q * B + Q0) + V := by
    rw [hN, ← e1, Nat.add_mul, Nat.mul_add, ← Nat.mul_assoc]; omega
  have d1 : N * P / Y = N / y := by rw [hy]; exact Nat.mul_div_mul_right _ _ hP
  have d2 : N * P % Y = N % y * P := by rw [hy]; exact Nat.mul_mod_mul_right _ _ _
  have q1 : N * P / Y = Q * B + Q0 := by rw [key, Nat.mul_add_div y0, Nat.div_eq_of_lt hV]; rfl
  have q2 : N * P % Y = V := by rw [key, Nat.mul_add_mod, Nat.mod_eq_of_lt hV]
  refine ⟨by rw [← q1, d1], ?_, hRY⟩
  rw [← q2, d2, Nat.mul_div_cancel _ hP]
end Go.Proofs.Ytmjaoeafompclaa.Pl

namespace Go.Proofs.Ytmjaoeafompclaa
open Go.RowKit Go.Shelf

theorem lead64 (x : Int) (w : World) (h0 : 0 ≤ x) (h1 : x < 18446744073709551616) :
    Calls Try.prog 92 #[.int .u64 x] w fun e w' => e = .returned (.int .i64 (64 - (Pl.bl x.toNat : Int))) ∧ w = w' :=
  (Try.bits_LeadingZeros64 x w h0 (by omega)).mono fun _ _ ⟨he, hw⟩ => ⟨by rw [he, bitLen_eq _ (by omega)], hw.symm⟩
theorem and_32 (x : Int) (h₀ : 0 ≤ x) (h₁ : x < 18446744073709551616) : bits .and .u64 x 4294967295 = x % 4294967296 := bits_mask .u64 64 (by decide) wraps_u64 32 (by decide) x h₀ (by omega)
theorem ret_two64 {a b c d : Int} (h1 : a = c) (h2 : b = d) : Ending.returned (.tuple #[.int .u64 a, .int .u64 b]) = .returned (.tuple #[.int .u64 c, .int .u64 d]) := by rw [h1, h2]

set_option maxHeartbeats 1000000 in
theorem div64_low (lo y : Nat) (w : World) (hy : 0 < y) (hy1 : y < 18446744073709551616) (hlo : lo < 18446744073709551616) :
    Calls Try.prog 65 #[.int .u64 0, .int .u64 lo, .int .u64 y] w fun e w' => e = .returned (.tuple #[.int .u64 ((lo / y : Nat) : Int), .int .u64 ((lo % y : Nat) : Int)]) ∧ Below w.heap.size w w' := by
  have h1 : ((y : Int) == 0) = false := by simp; omega
  have h2 : decide ((y : Int) ≤ 0) = false := by simp; omega
  have hy0 : (0 : Int) < y := by omega
  go_enter Try.func65, Try.ntmps65
  go_wp2
  go_quiet (fail)
  go_wp2
  go_ret2
  have e1 : ((lo / y : Nat) : Int) = (lo : Int) / y := by simp
  have e2 := Nat.div_le_self lo y
  have e3 : IntKind.u64.wrap ((lo : Int) / y) = ((lo / y : Nat) : Int) := by
    rw [← e1]
    generalize lo / y = q at *
    rw [IntKind.wrap_u64]; omega
  exact ⟨ret_two64 e3 (by simp), below_drewN (Below.refl _ _) _⟩

/-- What is left of a digit's step, reckoned in words. -/
theorem left64 {U u Q Y V : Nat} (h : U * 4294967296 + u = Q * Y + V) (hV : V < 18446744073709551616) :
    IntKind.u64.wrap (IntKind.u64.wrap (IntKind.u64.wrap ((U : Int) * 4294967296) + (u : Int)) - IntKind.u64.wrap ((Q : Int) * (Y : Int))) = (V : Int) := by
  have e : (Q : Int) * (Y : Int) = ((Q * Y : Nat) : Int) := by simp
  rw [e]
  generalize Q * Y = c at *
  simp only [IntKind.wrap_u64]
  omega
theorem wrap_bd (x : Int) : 0 ≤ IntKind.u64.wrap x ∧ IntKind.u64.wrap x < 18446744073709551616 := by rw [IntKind.wrap_u64]; omega
theorem vi64 {a b : Int} (h : a = b) : Value.int .u64 a = Value.int .u64 b := by rw [h]
/-- The letters of Div64: the divisor and the number, shifted up so that the divisor's highest bit is set. -/
theorem div64_set {hi lo y : Nat} (hy : hi < y) (hy1 : y < 18446744073709551616) (hlo : lo < 18446744073709551616) (hh : 0 < hi) :
    ∃ s Y D1 D0 U U10 u1 u0 : Nat, (64 - (Pl.bl y : Int) = s) ∧ s ≤ 63 ∧ Y = y * 2 ^ s ∧ Y < 18446744073709551616 ∧ Y = D1 * 4294967296 + D0 ∧ D0 < 4294967296 ∧ D1 < 4294967296 ∧ 4294967296 ≤ 2 * D1 ∧
      U < Y ∧ U10 < 18446744073709551616 ∧ U10 = u1 * 4294967296 + u0 ∧ u1 < 4294967296 ∧ u0 < 4294967296 ∧ (hi * 18446744073709551616 + lo) * 2 ^ s = (U * 4294967296 + u1) * 4294967296 + u0 ∧
      bits .or .u64 (IntKind.u64.wrap ((hi : Int) * 2 ^ s)) ((lo : Int) / 2 ^ (64 - s)) = (U : Int) ∧ IntKind.u64.wrap ((lo : Int) * 2 ^ s) = (U10 : Int) ∧ IntKind.u64.wrap ((y : Int) * 2 ^ s) = (Y : Int) := by
  have hy0 : y ≠ 0 := by omega
  have hb1 := Pl.two_bl_le hy0
  have hb2 := Pl.lt_two_bl y
  have hb3 := Pl.bl_pos hy0
  have hb4 : Pl.bl y ≤ 64 := Pl.bl_le_of_lt (by
    have : (2 : Nat) ^ 64 = 18446744073709551616 := by decide
    omega)
  obtain ⟨s, hs⟩ : ∃ s, 64 - Pl.bl y = s := ⟨_, rfl⟩
  have hP := Nat.two_pow_pos s
  have p64 : (2 : Nat) ^ 64 = 18446744073709551616 := by decide
  have p63 : (2 : Nat) ^ 63 = 9223372036854775808 := by decide
  have y1 : y * 2 ^ s < 18446744073709551616 := by
    have := (Nat.mul_lt_mul_right hP).2 hb2
    rw [← Nat.pow_add] at this
    have e : Pl.bl y + s = 64 := by omega
    rw [e, p64] at this; exact this
  have y2 : 9223372036854775808 ≤ y * 2 ^ s := by
    have := Nat.mul_le_mul_right (2 ^ s) hb1
    rw [← Nat.pow_add] at this
    have e : Pl.bl y - 1 + s = 63 := by omega
    rw [e, p63] at this; exact this
  have hn : (hi * 18446744073709551616 + lo) * 2 ^ s < (y * 2 ^ s) * 18446744073709551616 := by
    rw [Nat.mul_right_comm]
    exact (Nat.mul_lt_mul_right hP).2 (by omega)
  have g1 := shl_hi (hi : Int) (lo : Int) s (by omega) ⟨by omega, by omega⟩ ⟨by omega, by omega⟩
  have g2 := shl_lo (hi : Int) (lo : Int) s (by omega) ⟨by omega, by omega⟩ ⟨by omega, by omega⟩
  have e1 : num (hi : Int) (lo : Int) * 2 ^ s = (((hi * 18446744073709551616 + lo) * 2 ^ s : Nat) : Int) := by unfold num; simp
  have e3 : (y : Int) * 2 ^ s = ((y * 2 ^ s : Nat) : Int) := by simp
  rw [e1] at g1 g2
  obtain ⟨M, hM⟩ : ∃ M, (hi * 18446744073709551616 + lo) * 2 ^ s = M := ⟨_, rfl⟩
  rw [hM] at hn g1 g2
  obtain ⟨Y, hY⟩ : ∃ Y, y * 2 ^ s = Y := ⟨_, rfl⟩
  rw [hY] at y1 y2 hn e3
  have eN : M = (M / 18446744073709551616 * 4294967296 + M % 18446744073709551616 / 4294967296) * 4294967296 + M % 18446744073709551616 % 4294967296 := by rw [Nat.add_mul, Nat.mul_assoc]; omega
  refine ⟨s, Y, Y / 4294967296, Y % 4294967296, M / 18446744073709551616, M % 18446744073709551616, M % 18446744073709551616 / 4294967296, M % 18446744073709551616 % 4294967296, by omega, by omega, hY.symm, y1, by omega, by omega, by omega, by omega, by omega, by omega, by omega, by omega, by omega, hM.trans eN, ?_, ?_, by rw [e3, IntKind.wrap_u64]; omega⟩
  · rw [g1]; unfold hiOf bit128; omega
  · rw [g2]; unfold loOf bit128; omega

set_option maxRecDepth 100000 in
set_option maxHeartbeats 4000000 in
theorem div64_high (hi lo y : Nat) (w : World) (hy : hi < y) (hy1 : y < 18446744073709551616) (hlo : lo < 18446744073709551616) (hh : 0 < hi) :
    Calls Try.prog 65 #[.int .u64 hi, .int .u64 lo, .int .u64 y] w fun e w' => e = .returned (.tuple #[.int .u64 (((hi * 18446744073709551616 + lo) / y : Nat) : Int), .int .u64 (((hi * 18446744073709551616 + lo) % y : Nat) : Int)]) ∧ Below w.heap.size w w' := by
  obtain ⟨s, Y, D1, D0, U, U10, u1, u0, hs, hs1, hY, hY1, hYD, hD0, hD1, hnorm, hU, hU10, hU10e, hu1, hu0, hN, r1, r2, r3⟩ := div64_set hy hy1 hlo hh
  have ks : Pl.KSet 4294967296 Y D1 D0 U u1 := ⟨hYD, hD0, hD1, hnorm, hu1, hU⟩
  obtain ⟨k0, k0'⟩ := ks.start
  have hq0b := k0.high
  have r4 : (Y : Int) / 4294967296 = D1 := by omega
  have r5 : bits .and .u64 (Y : Int) 4294967295 = D0 := by rw [and_32 _ (by omega) (by omega)]; omega
  have r6 : (U10 : Int) / 4294967296 = u1 := by omega
  have r7 : bits .and .u64 (U10 : Int) 4294967295 = u0 := by rw [and_32 _ (by omega) (by omega)]; omega
  have r8 : (U : Int) / (D1 : Int) = ((U / D1 : Nat) : Int) := by simp
  have r9 : ((U / D1 : Nat) : Int) * (D1 : Int) = ((U / D1 * D1 : Nat) : Int) := by simp
  obtain ⟨q0, hq0⟩ : ∃ q0, U / D1 = q0 := ⟨_, rfl⟩
  obtain ⟨P0, hP0⟩ : ∃ P0, U / D1 * D1 = P0 := ⟨_, rfl⟩
  rw [hP0] at r9 k0 k0'
  rw [hq0] at r8 r9 k0 hq0b
  have r10 : (U : Int) - (P0 : Int) = ((U - P0 : Nat) : Int) := by omega
  obtain ⟨r0, hr0⟩ : ∃ r0, U - P0 = r0 := ⟨_, rfl⟩
  rw [hr0] at r10 k0
  have H1 : ((y : Int) == 0) = false := by simp; omega
  have H2 : decide ((y : Int) ≤ (hi : Int)) = false := by simp; omega
  have H2' : decide (y ≤ hi) = false := by simp; omega
  have H3 : ((hi : Int) == 0) = false := by simp; omega
  have H3' : decide (hi = 0) = false := by simp; omega
  have HS := Lib.hid hs
  have K0 := Lib.hid k0
  have KS := Lib.hid ks
  have HY := Lib.hid hY
  have HN := Lib.hid hN
  have hd1 : 0 < D1 := ks.dpos
  have hd2 : (0 : Int) < D1 := by omega
  clear hs k0 ks hY hN hq0 hP0 hr0 hYD hU10e
  go_enter Try.func65, Try.ntmps65
  go_upto_block 0 with (go_at_call 92; refine (lead64 (y : Int) _ (by omega) (by omega)).mono ?_; rw [Int.toNat_natCast, HS.out]; rintro r w' ⟨rfl, rfl⟩)
  obtain ⟨Q1, hQ1⟩ : ∃ Q1, (U * 4294967296 + u1) / Y = Q1 := ⟨_, rfl⟩
  have HQ := Lib.hid hQ1
  clear hQ1
  go_cut [15, 16] (fun qv _ wx => qv = .int .u64 Q1 ∧ wx = w)
  case first =>
    go_wp2
    go_loop [15, 16] (fun qv rv => ∃ q r : Nat, qv = .int .u64 q ∧ rv = .int .u64 r ∧ Pl.KAt 4294967296 Y D1 U u1 q r) (fun qv _ => (intOf qv).toNat)
    case atStart => exact ⟨q0, r0, rfl, rfl, K0.out⟩
    case round =>
      obtain ⟨q, r, rfl, rfl, hk⟩ := hrel
      have hr0 := hk.r
      have hq9 := hk.high
      have HK := Lib.hid hk
      clear hk
      by_cases c1 : 4294967296 ≤ q
      · have c2 : decide (4294967296 ≤ (q : Int)) = true := by simp; omega
        have hq := HK.out.yes KS.out (.inl c1)
        clear c1
        have hq1 : 1 ≤ q := Nat.le_trans (Nat.le_add_left 1 _) hq
        obtain ⟨p, hp⟩ : ∃ p, q - 1 = p := ⟨_, rfl⟩
        have hqp : (q : Int) - 1 = (p : Int) := by omega
        by_cases hr : r + D1 < 4294967296
        · have hrd : decide (4294967296 ≤ (r : Int) + (D1 : Int)) = false := by simp; omega
          have KD := Lib.hid (HK.out.dec hq hr)
          rw [hp] at KD
          clear hp
          go_wp2
          go_round
          case rel => exact ⟨p, r + D1, by go_num, by go_num, KD.out⟩
          case measure => simp [intOf]; omega
        · have hrd : decide (4294967296 ≤ (r : Int) + (D1 : Int)) = true := by simp; omega
          have KB := Lib.hid ((HK.out.brk KS.out hq (by omega)).trans HQ.out)
          rw [hp] at KB
          clear hp
          go_wp2
          go_meet
          exact ⟨vi64 (by rw [← KB.out]), rfl⟩
      · have c2 : decide (4294967296 ≤ (q : Int)) = false := by simp; omega
        obtain ⟨b1, b2⟩ := HK.out.small KS.out (by omega)
        have s1 : (q : Int) * (D0 : Int) = ((q * D0 : Nat) : Int) := by simp
        have s2 : 4294967296 * (r : Int) = ((4294967296 * r : Nat) : Int) := by simp
        have hc := HK.out.cmp KS.out
        by_cases c3 : 4294967296 * r + u1 < q * D0
        · have hq := HK.out.yes KS.out (.inr c3)
          clear hc
          obtain ⟨P, hP⟩ : ∃ P, q * D0 = P := ⟨_, rfl⟩
          obtain ⟨R, hR⟩ : ∃ R, 4294967296 * r = R := ⟨_, rfl⟩
          rw [hP] at s1 c3 b1
          rw [hR] at s2 c3 b2
          clear hP hR
          have c4 : decide ((R : Int) + (u1 : Int) < (P : Int)) = true := by simp; omega
          clear c1
          have hq1 : 1 ≤ q := Nat.le_trans (Nat.le_add_left 1 _) hq
          obtain ⟨p, hp⟩ : ∃ p, q - 1 = p := ⟨_, rfl⟩
          have hqp : (q : Int) - 1 = (p : Int) := by omega
          by_cases hr : r + D1 < 4294967296
          · have hrd : decide (4294967296 ≤ (r : Int) + (D1 : Int)) = false := by simp; omega
            have KD := Lib.hid (HK.out.dec hq hr)
            rw [hp] at KD
            clear hp
            go_wp2
            go_round
            case rel => exact ⟨p, r + D1, by go_num, by go_num, KD.out⟩
            case measure => simp [intOf]; omega
          · have hrd : decide (4294967296 ≤ (r : Int) + (D1 : Int)) = true := by simp; omega
            have KB := Lib.hid ((HK.out.brk KS.out hq (by omega)).trans HQ.out)
            rw [hp] at KB
            clear hp
            go_wp2
            go_meet
            exact ⟨vi64 (by rw [← KB.out]), rfl⟩
        · have KN := Lib.hid ((HK.out.no KS.out c3).trans HQ.out)
          clear hc
          obtain ⟨P, hP⟩ : ∃ P, q * D0 = P := ⟨_, rfl⟩
          obtain ⟨R, hR⟩ : ∃ R, 4294967296 * r = R := ⟨_, rfl⟩
          rw [hP] at s1 c3 b1
          rw [hR] at s2 c3 b2
          clear hP hR
          have c4 : decide ((R : Int) + (u1 : Int) < (P : Int)) = false := by simp; omega
          go_wp2
          go_meet
          exact ⟨vi64 (by rw [← KN.out]), rfl⟩
  case rest =>
    obtain ⟨rfl, rfl⟩ := hcut
    have hV := Nat.mod_lt (U * 4294967296 + u1) KS.out.ypos
    have hdm := Nat.div_add_mod (U * 4294967296 + u1) Y
    rw [HQ.out, Nat.mul_comm Y Q1] at hdm
    obtain ⟨V, hVe⟩ : ∃ V, (U * 4294967296 + u1) % Y = V := ⟨_, rfl⟩
    rw [hVe] at hV hdm
    have t1 := left64 hdm.symm (by omega)
    have HV := Lib.hid hVe
    clear hVe hdm
    obtain ⟨X1, hX1⟩ : ∃ X1, IntKind.u64.wrap ((U : Int) * 4294967296) = X1 := ⟨_, rfl⟩
    rw [hX1] at t1
    obtain ⟨X2, hX2⟩ : ∃ X2, IntKind.u64.wrap (X1 + (u1 : Int)) = X2 := ⟨_, rfl⟩
    rw [hX2] at t1
    obtain ⟨X3, hX3⟩ : ∃ X3, IntKind.u64.wrap ((Q1 : Int) * (Y : Int)) = X3 := ⟨_, rfl⟩
    rw [hX3] at t1
    have ks : Pl.KSet 4294967296 Y D1 D0 V u0 := ⟨KS.out.y, hD0, hD1, hnorm, hu0, hV⟩
    obtain ⟨k0, k1'⟩ := ks.start
    have hq1b := k0.high
    have r18 : (V : Int) / (D1 : Int) = ((V / D1 : Nat) : Int) := by simp
    have r19 : ((V / D1 : Nat) : Int) * (D1 : Int) = ((V / D1 * D1 : Nat) : Int) := by simp
    obtain ⟨q2, hq2⟩ : ∃ q2, V / D1 = q2 := ⟨_, rfl⟩
    obtain ⟨P2, hP2⟩ : ∃ P2, V / D1 * D1 = P2 := ⟨_, rfl⟩
    rw [hP2] at r19 k0 k1'
    rw [hq2] at r18 r19 k0 hq1b
    have r20 : (V : Int) - (P2 : Int) = ((V - P2 : Nat) : Int) := by omega
    obtain ⟨r2', hr2⟩ : ∃ r2', V - P2 = r2' := ⟨_, rfl⟩
    rw [hr2] at r20 k0
    have K2 := Lib.hid k0
    have HQ1 := Lib.hid HQ.out
    have KS1 := Lib.hid KS.out
    clear k0 hq2 hP2 hr2 r8 r9 r10 KS HQ K0
    have KS := Lib.hid ks
    clear ks
    obtain ⟨Q2, hQ2⟩ : ∃ Q2, (V * 4294967296 + u0) / Y = Q2 := ⟨_, rfl⟩
    have HQ := Lib.hid hQ2
    clear hQ2
    go_upto_block 2 with (fail)
    go_cut [18, 16] (fun qv _ wx => qv = .int .u64 Q2 ∧ wx = wc)
    case first =>
      go_wp2
      go_loop [18, 16] (fun qv rv => ∃ q r : Nat, qv = .int .u64 q ∧ rv = .int .u64 r ∧ Pl.KAt 4294967296 Y D1 V u0 q r) (fun qv _ => (intOf qv).toNat)
      case atStart => exact ⟨q2, r2', rfl, rfl, K2.out⟩
      case round =>
        obtain ⟨q, r, rfl, rfl, hk⟩ := hrel
        have hr0 := hk.r
        have hq9 := hk.high
        have HK := Lib.hid hk
        clear hk
        by_cases c1 : 4294967296 ≤ q
        · have c2 : decide (4294967296 ≤ (q : Int)) = true := by simp; omega
          have hq := HK.out.yes KS.out (.inl c1)
          clear c1
          have hq1 : 1 ≤ q := Nat.le_trans (Nat.le_add_left 1 _) hq
          obtain ⟨p, hp⟩ : ∃ p, q - 1 = p := ⟨_, rfl⟩
          have hqp : (q : Int) - 1 = (p : Int) := by omega
          by_cases hr : r + D1 < 4294967296
          · have hrd : decide (4294967296 ≤ (r : Int) + (D1 : Int)) = false := by simp; omega
            have KD := Lib.hid (HK.out.dec hq hr)
            rw [hp] at KD
            clear hp
            go_wp2
            go_round
            case rel => exact ⟨p, r + D1, by go_num, by go_num, KD.out⟩
            case measure => simp [intOf]; omega
          · have hrd : decide (4294967296 ≤ (r : Int) + (D1 : Int)) = true := by simp; omega
            have KB := Lib.hid ((HK.out.brk KS.out hq (by omega)).trans HQ.out)
            rw [hp] at KB
            clear hp
            go_wp2
            go_meet
            exact ⟨vi64 (by rw [← KB.out]), rfl⟩
        · have c2 : decide (4294967296 ≤ (q : Int)) = false := by simp; omega
          obtain ⟨b1, b2⟩ := HK.out.small KS.out (by omega)
          have s1 : (q : Int) * (D0 : Int) = ((q * D0 : Nat) : Int) := by simp
          have s2 : 4294967296 * (r : Int) = ((4294967296 * r : Nat) : Int) := by simp
          have hc := HK.out.cmp KS.out
          by_cases c3 : 4294967296 * r + u0 < q * D0
          · have hq := HK.out.yes KS.out (.inr c3)
            clear hc
            obtain ⟨P, hP⟩ : ∃ P, q * D0 = P := ⟨_, rfl⟩
            obtain ⟨R, hR⟩ : ∃ R, 4294967296 * r = R := ⟨_, rfl⟩
            rw [hP] at s1 c3 b1
            rw [hR] at s2 c3 b2
            clear hP hR
            have c4 : decide ((R : Int) + (u0 : Int) < (P : Int)) = true := by simp; omega
            clear c1
            have hq1 : 1 ≤ q := Nat.le_trans (Nat.le_add_left 1 _) hq
            obtain ⟨p, hp⟩ : ∃ p, q - 1 = p := ⟨_, rfl⟩
            have hqp : (q : Int) - 1 = (p : Int) := by omega
            by_cases hr : r + D1 < 4294967296
            · have hrd : decide (4294967296 ≤ (r : Int) + (D1 : Int)) = false := by simp; omega
              have KD := Lib.hid (HK.out.dec hq hr)
              rw [hp] at KD
              clear hp
              go_wp2
              go_round
              case rel => exact ⟨p, r + D1, by go_num, by go_num, KD.out⟩
              case measure => simp [intOf]; omega
            · have hrd : decide (4294967296 ≤ (r : Int) + (D1 : Int)) = true := by simp; omega
              have KB := Lib.hid ((HK.out.brk KS.out hq (by omega)).trans HQ.out)
              rw [hp] at KB
              clear hp
              go_wp2
              go_meet
              exact ⟨vi64 (by rw [← KB.out]), rfl⟩
          · have KN := Lib.hid ((HK.out.no KS.out c3).trans HQ.out)
            clear hc
            obtain ⟨P, hP⟩ : ∃ P, q * D0 = P := ⟨_, rfl⟩
            obtain ⟨R, hR⟩ : ∃ R, 4294967296 * r = R := ⟨_, rfl⟩
            rw [hP] at s1 c3 b1
            rw [hR] at s2 c3 b2
            clear hP hR
            have c4 : decide ((R : Int) + (u0 : Int) < (P : Int)) = false := by simp; omega
            go_wp2
            go_meet
            exact ⟨vi64 (by rw [← KN.out]), rfl⟩
    case rest =>
      obtain ⟨rfl, rfl⟩ := hcut
      have hq1 : Q1 < 4294967296 := by rw [← HQ1.out]; exact KS1.out.digit
      have hq2 : Q2 < 4294967296 := by rw [← HQ.out]; exact KS.out.digit
      obtain ⟨fin1, fin2, _⟩ := Pl.two_digits (P := 2 ^ s) HY.out (Nat.two_pow_pos s) HN.out KS.out.ypos
      have hW := Nat.mod_lt (V * 4294967296 + u0) KS.out.ypos
      have hdm := Nat.div_add_mod (V * 4294967296 + u0) Y
      rw [HQ.out, Nat.mul_comm Y Q2] at hdm
      rw [HQ1.out, HV.out, HQ.out] at fin1
      rw [HV.out] at fin2
      obtain ⟨W, hWe⟩ : ∃ W, (V * 4294967296 + u0) % Y = W := ⟨_, rfl⟩
      rw [hWe] at hW hdm fin2
      have t2 := left64 hdm.symm (by omega)
      clear hWe hdm
      obtain ⟨X4, hX4⟩ : ∃ X4, IntKind.u64.wrap ((V : Int) * 4294967296) = X4 := ⟨_, rfl⟩
      rw [hX4] at t2
      obtain ⟨X5, hX5⟩ : ∃ X5, IntKind.u64.wrap (X4 + (u0 : Int)) = X5 := ⟨_, rfl⟩
      rw [hX5] at t2
      obtain ⟨X6, hX6⟩ : ∃ X6, IntKind.u64.wrap ((Q2 : Int) * (Y : Int)) = X6 := ⟨_, rfl⟩
      rw [hX6] at t2
      obtain ⟨Z, hZ⟩ : ∃ Z, Q1 * 4294967296 = Z := ⟨_, rfl⟩
      have t3 : IntKind.u64.wrap ((Q1 : Int) * 4294967296) = (Z : Int) := by rw [IntKind.wrap_u64]; omega
      have hZ1 : Z + Q2 < 18446744073709551616 := by omega
      rw [hZ] at fin1
      have F1 := Lib.hid fin1
      have F2 := Lib.hid fin2
      have e2 : (W : Int) / 2 ^ s = ((W / 2 ^ s : Nat) : Int) := by simp
      have E2 := Lib.hid e2
      clear fin1 fin2 hZ r18 r19 r20 e2
      go_wp2
      go_ret2
      exact ⟨ret_two64 (by rw [← F1.out]; simp) (by rw [← F2.out, ← E2.out]), Below.refl _ _⟩
theorem div64_any (hi lo y : Nat) (w : World) (hy : hi < y) (hy1 : y < 18446744073709551616) (hlo : lo < 18446744073709551616) :
    Calls Try.prog 65 #[.int .u64 hi, .int .u64 lo, .int .u64 y] w fun e w' => e = .returned (.tuple #[.int .u64 (((hi * 18446744073709551616 + lo) / y : Nat) : Int), .int .u64 (((hi * 18446744073709551616 + lo) % y : Nat) : Int)]) ∧ Below w.heap.size w w' := by
  rcases Nat.eq_zero_or_pos hi with h | h
  · subst h
    have := div64_low lo y w hy hy1 hlo
    rw [Nat.zero_mul, Nat.zero_add]
    exact this
  · exact div64_high hi lo y w hy hy1 hlo h
end Go.Proofs.Ytmjaoeafompclaa

namespace Go.Proofs.Ytmjaoeafompclaa
open Go.RowKit Go.Shelf

theorem div_parts (h l b : Nat) (hb : 0 < b) (hl : l < 18446744073709551616) :
    (h * 18446744073709551616 + l) / b = h / b * 18446744073709551616 + (h % b * 18446744073709551616 + l) / b ∧ (h * 18446744073709551616 + l) % b = (h % b * 18446744073709551616 + l) % b ∧ (h % b * 18446744073709551616 + l) / b < 18446744073709551616 := by
  have e := Nat.div_add_mod h b
  have e2 : h * 18446744073709551616 + l = b * (h / b * 18446744073709551616) + (h % b * 18446744073709551616 + l) := by
    conv => lhs; rw [← e]
    rw [Nat.add_mul, Nat.mul_assoc]; omega
  have hm := Nat.mod_lt h hb
  refine ⟨by rw [e2, Nat.mul_add_div hb], by rw [e2, Nat.mul_add_mod], ?_⟩
  rw [Nat.div_lt_iff_lt_mul hb]
  generalize h % b = r at *
  clear e e2
  have := Nat.mul_le_mul_right 18446744073709551616 (show r + 1 ≤ b from hm)
  rw [Nat.mul_comm 18446744073709551616 b]
  omega

set_option maxHeartbeats 1000000 in
theorem wdiv_zero (h l : Int) (w : World) :
    Calls Try.prog 33 #[.agg #[.int .u64 h, .int .u64 l], .int .u64 0] w fun e w' => e = .returned (.tuple #[.agg #[.int .u64 0, .int .u64 0], .int .u64 0, .int .i64 10]) ∧ Below w.heap.size w w' := by
  go_enter Try.func33, Try.ntmps33
  go_wp2
  simp [bodyPost, results, Try.results33, go_sem]
  exact ((Below.refl _ _).alloc (Nat.le_refl _) _).alloc (by simp) _
set_option maxHeartbeats 1000000 in
theorem wdiv_any (h l b : Nat) (w : World) (hh : h < 18446744073709551616) (hl : l < 18446744073709551616) (hb : 0 < b) (hb1 : b < 18446744073709551616) :
    Calls Try.prog 33 #[.agg #[.int .u64 h, .int .u64 l], .int .u64 b] w fun e w' =>
      e = .returned (.tuple #[.agg #[.int .u64 (hiOf (((h * 18446744073709551616 + l) / b : Nat) : Int)), .int .u64 (loOf (((h * 18446744073709551616 + l) / b : Nat) : Int))], .int .u64 (((h * 18446744073709551616 + l) % b : Nat) : Int), .int .i64 0]) ∧ Below w.heap.size w w' := by
  obtain ⟨p1, p2, p3⟩ := div_parts h l b hb hl
  have hm := Nat.mod_lt h hb
  have hq := Nat.div_le_self h b
  obtain ⟨q, hqe⟩ : ∃ q, h / b = q := ⟨_, rfl⟩
  obtain ⟨r, hre⟩ : ∃ r, h % b = r := ⟨_, rfl⟩
  have r1 : (h : Int) / (b : Int) = (q : Int) := by rw [← hqe]; simp
  have r2 : (h : Int) % (b : Int) = (r : Int) := by rw [← hre]; simp
  rw [hqe] at p1 hq
  rw [hre] at p1 p2 p3 hm
  have hb0 : (0 : Int) < b := by omega
  have hbz : ((b : Int) == 0) = false := by simp; omega
  have hbz' : decide (b = 0) = false := by simp; omega
  obtain ⟨X, hX⟩ : ∃ X, (r * 18446744073709551616 + l) / b = X := ⟨_, rfl⟩
  obtain ⟨Z, hZ⟩ : ∃ Z, (r * 18446744073709551616 + l) % b = Z := ⟨_, rfl⟩
  rw [hX] at p1 p3
  rw [hZ] at p2
  have HX := Lib.hid hX
  have HZ := Lib.hid hZ
  have F1 := Lib.hid (show hiOf (((h * 18446744073709551616 + l) / b : Nat) : Int) = (q : Int) by rw [p1]; unfold hiOf; omega)
  have F2 := Lib.hid (show loOf (((h * 18446744073709551616 + l) / b : Nat) : Int) = (X : Int) by rw [p1]; unfold loOf; omega)
  have P2 := Lib.hid p2
  have r3 : IntKind.u64.wrap (q : Int) = q := by rw [IntKind.wrap_u64]; omega
  clear p1 p2 p3 hqe hre hX hZ
  go_enter Try.func33, Try.ntmps33
  go_wp2
  go_quiet (fail)
  go_wp2_with (go_at_call 65; refine (div64_any r l b _ (by omega) (by omega) (by omega)).mono ?_; rw [HX.out, HZ.out]; rintro e w1 ⟨rfl, hb1'⟩; have d0 : w1.cell? ⟨w.heap.size + 1, 0, none⟩ = some (.int .u64 0) := (hb1'.cell (p := ⟨w.heap.size + 1, 0, none⟩) (by simp)).trans (by simp [go_sem]); have d1 : w1.cell? ⟨w.heap.size + 1, 1, none⟩ = some (.int .u64 0) := (hb1'.cell (p := ⟨w.heap.size + 1, 1, none⟩) (by simp)).trans (by simp [go_sem]); have f0 : w1.frozen? ⟨w.heap.size + 1, 0, none⟩ = false := (hb1'.frozen (p := ⟨w.heap.size + 1, 0, none⟩) (by simp)).trans (by simp [go_sem]); have f1 : w1.frozen? ⟨w.heap.size + 1, 1, none⟩ = false := (hb1'.frozen (p := ⟨w.heap.size + 1, 1, none⟩) (by simp)).trans (by simp [go_sem]))
  simp [bodyPost, results, Try.results33, go_sem, d0, d1]
  have eN : ((h : Int) * 18446744073709551616 + l) / b = (((h * 18446744073709551616 + l) / b : Nat) : Int) := by simp
  have eM : ((h : Int) * 18446744073709551616 + l) % b = (((h * 18446744073709551616 + l) % b : Nat) : Int) := by simp
  rw [eN, eM, F1.out, F2.out, P2.out]
  exact ⟨⟨⟨rfl, rfl⟩, rfl⟩, ((below_trans' (hb1'.mono (by simp; omega)) (below_drewN (((Below.refl _ _).alloc (Nat.le_refl _) _).alloc (by simp) _) _)).setCell (by simp) _).setCell (by simp) _⟩
end Go.Proofs.Ytmjaoeafompclaa

namespace Go.Proofs.Ytmjaoeafompclaa
open Go.RowKit Go.Shelf

set_option maxHeartbeats 400000 in
theorem rkind_any (x : Int) (w : World) (hx : Wd x) : Calls Try.prog 24 #[.int .u64 x] w fun e w' => e = .returned (.int .i64 (kd x)) ∧ w = w' := by
  obtain ⟨h0, h1⟩ := hx
  have hk : kd x = if x / 4503599627370496 % 2048 = 2047 then (if x % 4503599627370496 = 0 then 3 else 4) else if x / 4503599627370496 % 2048 = 0 then (if x % 4503599627370496 = 0 then 0 else 1) else 2 := rfl
  have HK := Lib.hid hk
  clear hk
  generalize kd x = k at *
  go_enter Try.func24, Try.ntmps24
  go_wp2
  all_goals
    go_ret
    exact ⟨ret_int (by rw [HK.out]; first | (repeat' split) <;> simp_all <;> omega), rfl⟩
theorem ris_any (x : Int) (w : World) : Calls Try.prog 35 #[.int .u64 x] w fun e w' => e = .returned (.bool (sgn x)) ∧ w = w' := by
  go_enter Try.func35, Try.ntmps35
  go_wp2
  go_ret
  exact ⟨rfl, rfl⟩
set_option maxHeartbeats 400000 in
theorem rright_any (x : Int) (w : World) (hx : Wd x) : Calls Try.prog 23 #[.int .u64 x] w fun e w' => e = .returned (.int .u64 (rightI x)) ∧ w = w' := by
  have hn : rightI x = if kd x = 4 then NAN else x := rfl
  have HN := Lib.hid hn
  clear hn
  go_enter Try.func23, Try.ntmps23
  go_wp2_with (go_at_call 24; refine (rkind_any x _ hx).mono ?_; rintro e w' ⟨rfl, rfl⟩)
  all_goals
    go_ret
    exact ⟨ret_int (by rw [HN.out]; simp_all [NAN]), rfl⟩
set_option maxHeartbeats 400000 in
theorem rsplit_any (x : Int) (w : World) (hx : Wd x) : Calls Try.prog 27 #[.int .u64 x] w fun e w' => e = .returned (.tuple #[.bool (sgn x), .int .u64 (mant x), .int .i64 (expo x)]) ∧ w = w' := by
  obtain ⟨h0, h1⟩ := id hx
  have hb := kd_bd x
  have hm : mant x = if kd x ≤ 1 then x % 4503599627370496 else if kd x = 2 then 4503599627370496 + x % 4503599627370496 else 0 := rfl
  have he : expo x = if kd x ≤ 1 then -1074 else if kd x = 2 then x / 4503599627370496 % 2048 - 1075 else 0 := rfl
  have HM := Lib.hid hm
  have HE := Lib.hid he
  clear hm he
  go_enter Try.func27, Try.ntmps27
  go_wp2_with (first | (go_at_call 24; refine (rkind_any x _ hx).mono ?_; rintro e w' ⟨rfl, rfl⟩) | (go_at_call 35; refine (ris_any x _).mono ?_; rintro e w' ⟨rfl, rfl⟩))
  all_goals
    go_ret3
    exact ⟨ret_bii rfl (by rw [HM.out]; first | (repeat' split) <;> simp_all <;> omega) (by rw [HE.out]; first | (repeat' split) <;> simp_all <;> omega), rfl⟩
end Go.Proofs.Ytmjaoeafompclaa

namespace Go.Proofs.Ytmjaoeafompclaa
open Go.RowKit Go.Shelf

theorem block_of_add (a : Addr) (n : Nat) : (a.add n).block = a.block := by unfold Addr.add; split <;> rfl
theorem add_of_add (a : Addr) (i j : Nat) : (a.add i).add j = a.add (i + j) := by
  unfold Addr.add
  by_cases hi : i = 0 <;> by_cases hj : j = 0 <;> simp [hi, hj, Nat.add_assoc]

def Reads (w : World) (B size : Nat) (A : Option Addr) (n : Nat) (xs : List Value) : Prop :=
  xs.length = n * size ∧ (0 < n → ∃ ad, A = some ad ∧ ad.block < B ∧ ∀ j u, xs[j]? = some u → w.cell? (ad.add j) = some u)

section
variable {w w' : World} {B B' size n : Nat} {A : Option Addr} {xs : List Value}
theorem Reads.none_ : Reads w B size A 0 [] := ⟨by simp, fun h => absurd h (by omega)⟩
theorem Reads.at_ {k : Nat} (h : Reads w B 1 A n xs) (hk : k < n) : ∃ ad u, A = some ad ∧ ad.block < B ∧ xs[k]? = some u ∧ w.cell? (ad.add k) = some u := by
  obtain ⟨ad, e, hb, hc⟩ := h.2 (by omega)
  have hl : k < xs.length := by have := h.1; omega
  exact ⟨ad, xs[k], e, hb, List.getElem?_eq_getElem hl, hc k _ (List.getElem?_eq_getElem hl)⟩
theorem Reads.keep (h : Reads w B size A n xs) (hk : ∀ p : Addr, p.block < B → w'.cell? p = w.cell? p) : Reads w' B size A n xs :=
  ⟨h.1, fun hn => by
    obtain ⟨ad, e, hb, hc⟩ := h.2 hn
    exact ⟨ad, e, hb, fun j u hu => (hk _ (by rw [block_of_add]; exact hb)).trans (hc j u hu)⟩⟩
theorem Reads.more (h : Reads w B size A n xs) (hB : B ≤ B') : Reads w B' size A n xs :=
  ⟨h.1, fun hn => by
    obtain ⟨ad, e, hb, hc⟩ := h.2 hn
    exact ⟨ad, e, by omega, hc⟩⟩
theorem Reads.below (h : Reads w B size A n xs) (hb : Below B w w') : Reads w' B size A n xs := h.keep fun _ hp => hb.cell hp
theorem Reads.drew (h : Reads w B size A n xs) : Reads w.drew B size A n xs := h
theorem Reads.drewN (h : Reads w B size A n xs) (k : Nat) : Reads (w.drewN k) B size A n xs := h
theorem Reads.alloc (h : Reads w B size A n xs) (hB : B ≤ w.heap.size) (o : Obj) : Reads (w.alloc o) B size A n xs := h.keep fun p hp => World.cell?_alloc_lt w o p (by omega)
theorem Reads.setCell (h : Reads w B size A n xs) {p : Addr} (hB : B ≤ p.block) (u : Value) : Reads (w.setCell p u) B size A n xs :=
  h.keep fun q hq => World.cell?_setCell_other w p q u (fun e => by subst e; omega)
theorem Reads.grown (h : Reads w B size A n xs) {row : Option Nat} (hg : w.grownBy w' row) (hB : B ≤ w.heap.size) (hr : ∀ g, row = some g → B ≤ g) : Reads w' B size A n xs :=
  h.keep fun p hp => World.cell?_of_block (hg.block p.block (by omega) (fun e => by have := hr _ e.symm; omega))
theorem Reads.cut (h : Reads w B size A n xs) {k cap : Nat} (hk : k ≤ n) (hc : n ≤ cap) :
    Reads w B size (if cap = k then A else A.map (·.add (k * size))) (n - k) (xs.drop (k * size)) := by
  refine ⟨by rw [List.length_drop, h.1, Nat.sub_mul], fun hn => ?_⟩
  obtain ⟨ad, rfl, hb, hcell⟩ := h.2 (by omega)
  rw [if_neg (by omega)]
  refine ⟨ad.add (k * size), rfl, by rw [block_of_add]; exact hb, fun j u hu => ?_⟩
  rw [add_of_add]
  exact hcell _ u (by rw [← hu, List.getElem?_drop])
theorem Reads.of_own {base : Nat} {e : TypeId} {c : Nat} (h : w.ownsRow base e size (.slice A n c) n xs) : Reads w w.heap.size size A n xs := by
  refine ⟨h.1, fun hn => ?_⟩
  obtain ⟨g, cap, hv, _, hlt⟩ := h.form hn
  have hA : A = some ⟨g, 0, none⟩ := by injection hv
  subst hA
  exact ⟨_, rfl, hlt, h.cells (g := g) rfl⟩
end

section
variable {P : Program} (w : World)

theorem run_append_of_nil (base : Nat) (t ty e : TypeId) (i : TypeInfo) (size : Nat) (ht : P.underlying t = some (.slice e)) (hi : P.info? e = some i)
    (v : Value) (n : Nat) (xs : List Value) (hown : w.ownsRow base e size v n xs) (c : Nat) : (Builtin.append_ #[t, t] ty #[v, .slice none 0 c]).run P w = .ok v w := by
  rcases hown.2 with ⟨rfl, rfl⟩ | ⟨g, cap, cur, rfl, _, _, hnc, _⟩
  · simp [Builtin.append_, run_underlying ht, sizeOf, typeInfo, hi, Builtin.lenOf, Builtin.firstCells]
  · simp [Builtin.append_, run_underlying ht, sizeOf, typeInfo, hi, Builtin.lenOf, Builtin.firstCells, hnc, storeCells]

theorem run_append_any (base : Nat) (t ty e : TypeId) (i : TypeInfo) (z : Value) (size bytes : Nat) (ht : P.underlying t = some (.slice e)) (hi : P.info? e = some i) (hz : i.zero = some z)
    (hsize : i.size = size) (hby : i.bytes = bytes) (hzs : z.cells.size = size) (hsz : 0 < size)
    (v : Value) (n : Nat) (xs : List Value) (hown : w.ownsRow base e size v n xs)
    (B : Nat) (A : Option Addr) (m c : Nat) (news : List Value) (hr : Reads w B size A m news) (h1 : ∀ u ∈ news, u.oneCell' = true)
    (h63 : n + m ≤ maxLen) (hbytes : (n + m) * bytes ≤ 140737488355328) (hbase : base ≤ w.heap.size) :
    ∃ v' w', (Builtin.append_ #[t, t] ty #[v, .slice A m c]).run P w = .ok v' w' ∧ w'.ownsRow base e size v' (n + m) (xs ++ news) ∧ w.grownBy w' v.ownBlock ∧
      (v'.ownBlock = v.ownBlock ∨ v'.ownBlock = some w.heap.size) := by
  rcases A with _ | ad
  · have hm : m = 0 := by
      rcases Nat.eq_zero_or_pos m with h0 | h0
      · exact h0
      · obtain ⟨ad, h, _⟩ := hr.2 h0
        cases h
    subst hm
    have hn : news = [] := List.eq_nil_of_length_eq_zero (by simpa using hr.1)
    subst hn
    exact ⟨v, w, run_append_of_nil w base t ty e i size ht hi v n xs hown c, by simpa using hown, World.grownBy.refl w _, .inl rfl⟩
  · have hcells : ∀ j u, news[j]? = some u → w.cell? (ad.add j) = some u := by
      intro j u hu
      rcases Nat.eq_zero_or_pos m with h0 | h0
      · subst h0
        have hn : news = [] := List.eq_nil_of_length_eq_zero (by simpa using hr.1)
        subst hn
        simp at hu
      · obtain ⟨ad', h, _, hc⟩ := hr.2 h0
        injection h with h
        subst h
        exact hc j u hu
    obtain ⟨v', w', hrun, h2, h3, _, h5⟩ := run_append_own_at (P := P) w base t ty e i z size bytes ht hi hz hsize hby hzs hsz v n xs hown ad m c news hr.1 hcells h1 h63 hbytes hbase
    exact ⟨v', w', hrun, h2, h3, h5⟩

theorem wp_append_any {o : Oper} {a : Act} {K : Act → World → Prop} {Q : Exit → Act → World → Prop} (s x : Operand) (t : TypeId)
    (ho : o.op = .call { callee := .builtin .append, args := #[s, x], argTypes := #[t, t] })
    (base : Nat) (e : TypeId) (i : TypeInfo) (z : Value) (size bytes : Nat) (ht : P.underlying t = some (.slice e)) (hi : P.info? e = some i) (hz : i.zero = some z)
    (hsize : i.size = size) (hby : i.bytes = bytes) (hzs : z.cells.size = size) (hsz : 0 < size)
    (v : Value) (n : Nat) (xs : List Value) (hs : a.eval s = v) (hown : w.ownsRow base e size v n xs)
    (B : Nat) (A : Option Addr) (m c : Nat) (news : List Value) (hx : a.eval x = .slice A m c) (hr : Reads w B size A m news) (h1 : ∀ u ∈ news, u.oneCell' = true)
    (h63 : n + m ≤ maxLen) (hbytes : (n + m) * bytes ≤ 140737488355328) (hbase : base ≤ w.heap.size)
    (h : ∀ v' w', w'.ownsRow base e size v' (n + m) (xs ++ news) → w.grownBy w' v.ownBlock → (v'.ownBlock = v.ownBlock ∨ v'.ownBlock = some w.heap.size) → K (a.put o.dst v') w') : o.wp P a w K Q := by
  obtain ⟨v', w', hrun, h2, h3, h4⟩ := run_append_any (P := P) w base t o.type e i z size bytes ht hi hz hsize hby hzs hsz v n xs hown B A m c news hr h1 h63 hbytes hbase
  unfold Oper.wp execOp
  simp only [ho, resolve, invoke, builtin, Sem.run_bind, Sem.run_pure, Result.andThen_ok, List.map_toArray, List.map_cons, List.map_nil, hs, hx, hrun]
  exact h v' w' h2 h3 h4

theorem wpList_append_any {ops : Array Oper} {rest : List Oper} {o : Oper} {a : Act} {Q : Exit → Act → World → Prop} (hgd : o.guard = none) (s x : Operand) (t : TypeId)
    (ho : o.op = .call { callee := .builtin .append, args := #[s, x], argTypes := #[t, t] })
    (base : Nat) (e : TypeId) (i : TypeInfo) (z : Value) (size bytes : Nat) (ht : P.underlying t = some (.slice e)) (hi : P.info? e = some i) (hz : i.zero = some z)
    (hsize : i.size = size) (hby : i.bytes = bytes) (hzs : z.cells.size = size) (hsz : 0 < size)
    (v : Value) (n : Nat) (xs : List Value) (hs : a.eval s = v) (hown : w.ownsRow base e size v n xs)
    (B : Nat) (A : Option Addr) (m c : Nat) (news : List Value) (hx : a.eval x = .slice A m c) (hr : Reads w B size A m news) (h1 : ∀ u ∈ news, u.oneCell' = true)
    (h63 : n + m ≤ maxLen) (hbytes : (n + m) * bytes ≤ 140737488355328) (hbase : base ≤ w.heap.size)
    (h : ∀ v' w', w'.ownsRow base e size v' (n + m) (xs ++ news) → w.grownBy w' v.ownBlock → (v'.ownBlock = v.ownBlock ∨ v'.ownBlock = some w.heap.size) → wpList P ops Q rest (a.put o.dst v') w') : wpList P ops Q (o :: rest) a w :=
  wpList_plain hgd fun _ hK => wp_append_any w s x t ho base e i z size bytes ht hi hz hsize hby hzs hsz v n xs hs hown B A m c news hx hr h1 h63 hbytes hbase fun v' w' h2 h3 h4 => hK _ _ (h v' w' h2 h3 h4)

theorem step_append_any {ops : Array Oper} {o : Oper} {a : Act} {K : Act → World → Prop} {Q : Exit → Act → World → Prop} {E : Prop} (hgd : o.guard = none) (s x : Operand) (t : TypeId)
    (ho : o.op = .call { callee := .builtin .append, args := #[s, x], argTypes := #[t, t] })
    (base : Nat) (e : TypeId) (i : TypeInfo) (z : Value) (size bytes : Nat) (ht : P.underlying t = some (.slice e)) (hi : P.info? e = some i) (hz : i.zero = some z)
    (hsize : i.size = size) (hby : i.bytes = bytes) (hzs : z.cells.size = size) (hsz : 0 < size)
    (v : Value) (n : Nat) (xs : List Value) (hs : a.eval s = v) (hown : w.ownsRow base e size v n xs)
    (B : Nat) (A : Option Addr) (m c : Nat) (news : List Value) (hx : a.eval x = .slice A m c) (hr : Reads w B size A m news) (h1 : ∀ u ∈ news, u.oneCell' = true)
    (h63 : n + m ≤ maxLen) (hbytes : (n + m) * bytes ≤ 140737488355328) (hbase : base ≤ w.heap.size)
    (h : ∀ v' w', w'.ownsRow base e size v' (n + m) (xs ++ news) → w.grownBy w' v.ownBlock → (v'.ownBlock = v.ownBlock ∨ v'.ownBlock = some w.heap.size) → K (a.put o.dst v') w') :
    if Region.wanted o (yielded ops a.tmps) = true then Oper.wp P o a w K Q else E := by
  have hw : Region.wanted o (yielded ops a.tmps) = true := by simp [Region.wanted, hgd]
  rw [if_pos hw]
  exact wp_append_any w s x t ho base e i z size bytes ht hi hz hsize hby hzs hsz v n xs hs hown B A m c news hx hr h1 h63 hbytes hbase h
end

theorem u32_info : (Try.prog.info? 77).map (fun i => (i.zero, i.size, i.bytes)) = some (some (.int .u32 0), 1, 4) := by kernel_rfl

theorem below_trans1 {B : Nat} {a b c : World} (k : Below B b c) (h : Below B a b) : Below B a c := h.trans k
theorem retB {a b : Bool} (h : a = b) : Ending.returned (.bool a) = .returned (.bool b) := by rw [h]
theorem retI {k : IntKind} {a b : Int} (h : a = b) : Ending.returned (.int k a) = .returned (.int k b) := by rw [h]
/-- A limb as a value. -/
def lv (x : Nat) : Value := .int .u32 (x : Int)
theorem made_zero (n : Nat) : (madeCells (Value.int .u32 0).cells (n * 1)).toList = (List.replicate n 0).map lv := by
  rw [Nat.mul_one]
  apply List.ext_getElem
  · simp [madeCells]
  · intro i h1 h2
    simp [madeCells, lv, Value.cells, Nat.mod_one]
/-- A slice of n cells at A reads as the limbs l. -/
structure Lim (w : World) (A : Option Addr) (n : Nat) (l : List Nat) : Prop where
  len : l.length = n
  fit : Pl.Fit l
  reads : Reads w w.heap.size 1 A n (l.map lv)
theorem Lim.nil (w : World) : Lim w none 0 [] := ⟨rfl, Pl.Fit.nil, Reads.none_⟩
theorem Lim.below {w w' : World} {A : Option Addr} {n : Nat} {l : List Nat} (h : Lim w A n l) (hb : Below w.heap.size w w') : Lim w' A n l := ⟨h.len, h.fit, (h.reads.below hb).more hb.size⟩
theorem Lim.below' {B : Nat} {w w' : World} {A : Option Addr} {n : Nat} {l : List Nat} (h : Lim w A n l) (hb : Below B w w') (hB : w.heap.size ≤ B) : Lim w' A n l := h.below (hb.mono hB)
theorem Lim.drewN {w : World} {A : Option Addr} {n : Nat} {l : List Nat} (h : Lim w A n l) (k : Nat) : Lim (w.drewN k) A n l := ⟨h.len, h.fit, h.reads.drewN k⟩
theorem Lim.alloc {w : World} {A : Option Addr} {n : Nat} {l : List Nat} (h : Lim w A n l) (o : Obj) : Lim (w.alloc o) A n l := h.below ((Below.refl _ _).alloc (Nat.le_refl _) o)
theorem Lim.at_ {w : World} {A : Option Addr} {n : Nat} {l : List Nat} (h : Lim w A n l) {k : Nat} (hk : k < n) : ∃ ad, A = some ad ∧ ad.block < w.heap.size ∧ w.cell? (ad.add k) = some (.int .u32 ((l.getD k 0 : Nat) : Int)) := by
  obtain ⟨ad, u, hA, hb, hx, hc⟩ := h.reads.at_ hk
  refine ⟨ad, hA, hb, ?_⟩
  have hl := h.len
  rw [List.getElem?_map, List.getElem?_eq_getElem (by omega)] at hx
  rw [hc, ← hx, List.getD_eq_getElem?_getD, List.getElem?_eq_getElem (by omega)]; rfl
theorem one_limbs (l : List Nat) : ∀ u ∈ l.map lv, u.oneCell' = true := by
  intro u hu
  obtain ⟨x, _, rfl⟩ := List.mem_map.1 hu
  rfl
theorem Lim.take {w : World} {A : Option Addr} {n : Nat} {l : List Nat} (h : Lim w A n l) {k : Nat} (hk : k ≤ n) : Lim w A k (l.take k) := by
  refine ⟨by rw [List.length_take, h.len]; omega, h.fit.take k, ?_, fun h0 => ?_⟩
  · rw [List.length_map, List.length_take, h.len]; omega
  · obtain ⟨ad, hA, hb, hc⟩ := h.reads.2 (by omega)
    refine ⟨ad, hA, hb, fun j u hu => hc j u ?_⟩
    rw [List.map_take] at hu
    exact (List.getElem?_take_of_lt (by
      rcases Nat.lt_or_ge j k with g | g
      · exact g
      · rw [List.getElem?_eq_none (by rw [List.length_take]; omega)] at hu; cases hu)).symm.trans hu
theorem Lim.of_own {w : World} {base : Nat} {e : TypeId} {A : Option Addr} {c n : Nat} {l : List Nat} (h : w.ownsRow base e 1 (.slice A n c) n (l.map lv)) (hf : Pl.Fit l) : Lim w A n l :=
  ⟨by have := h.1; rw [List.length_map] at this; omega, hf, Reads.of_own h⟩
/-- A value that owns a row is a slice whose length is not above its room. -/
theorem own_slice {w : World} {base : Nat} {e : TypeId} {size n : Nat} {v : Value} {xs : List Value} (h : w.ownsRow base e size v n xs) : ∃ A c, v = .slice A n c ∧ n ≤ c ∧ c ≤ maxLen := by
  rcases h.2 with ⟨rfl, rfl⟩ | ⟨g, cap, cur, rfl, _, _, h1, h2, _⟩
  · exact ⟨none, 0, rfl, Nat.le_refl _, Nat.zero_le _⟩
  · exact ⟨_, cap, rfl, h1, h2⟩
/-- An empty literal's row. -/
theorem own_empty (w : World) (e : TypeId) (size : Nat) : (w.alloc (.cells #[] e)).ownsRow w.heap.size e size (.slice (some ⟨w.heap.size, 0, none⟩) 0 0) 0 [] :=
  ⟨by simp, .inr ⟨_, 0, #[], rfl, Nat.le_refl _, heap_alloc_new w _, Nat.le_refl _, Nat.zero_le _, by simp, by simp⟩⟩

/-- What a function answers that answers a natural: its limbs, without noughts at the end. -/
def NatV (w : World) (v : Value) (N : Nat) : Prop := ∃ A n c, v = .slice A n c ∧ n ≤ c ∧ c ≤ maxLen ∧ Lim w A n (Pl.limbs N)
def RetNat (N : Nat) (w : World) (e : Ending) (w' : World) : Prop := ∃ v, e = .returned v ∧ NatV w' v N ∧ Below w.heap.size w w'
theorem NatV.of_own {w : World} {base : Nat} {e : TypeId} {v : Value} {n : Nat} {l : List Nat} {N : Nat} (h : w.ownsRow base e 1 v n (l.map lv)) (hl : l = Pl.limbs N) : NatV w v N := by
  subst hl
  obtain ⟨A, c, rfl, h1, h2⟩ := own_slice h
  exact ⟨A, n, c, rfl, h1, h2, Lim.of_own h (Pl.fit_limbs N)⟩
end Go.Proofs.Ytmjaoeafompclaa

namespace Go.Proofs.Ytmjaoeafompclaa
open Go.RowKit Go.Shelf

theorem below_own {w w1 : World} {o : Obj} {row : Option Nat} (hg : (w.alloc o).grownBy w1 row) (hr : ∀ k, row = some k → w.heap.size ≤ k) : Below w.heap.size w w1 :=
  ((Below.refl _ _).alloc (Nat.le_refl _) _).grown hg (by simp) hr
theorem own_at {g : Nat} {n c : Nat} {k : Nat} (h : (Value.slice (some ⟨g, 0, none⟩) n c).ownBlock = some k) : g ≤ k := by
  simp [Value.ownBlock] at h; omega

/-- The value leads to no older block. -/
def Fresh (B : Nat) (v : Value) : Prop := ∀ ad n c, v = .slice (some ad) n c → B ≤ ad.block
theorem Fresh.of_own {w : World} {base : Nat} {e : TypeId} {size n : Nat} {v : Value} {xs : List Value} (h : w.ownsRow base e size v n xs) : Fresh base v := by
  intro ad n c hv
  rcases h.2 with ⟨rfl, rfl⟩ | ⟨g, cap, cur, rfl, hb, _⟩
  · cases hv
  · injection hv with h1
    injection h1 with h1
    subst h1
    exact hb
theorem Fresh.mono {B B' : Nat} {v : Value} (h : Fresh B v) (hB : B' ≤ B) : Fresh B' v := fun ad n c hv => Nat.le_trans hB (h ad n c hv)
def RetNatF (N : Nat) (w : World) (e : Ending) (w' : World) : Prop := ∃ v, e = .returned v ∧ NatV w' v N ∧ Below w.heap.size w w' ∧ Fresh w.heap.size v

set_option maxHeartbeats 1000000 in
theorem trim_fresh (A : Option Addr) (n c : Nat) (l : List Nat) (w : World) (hl : Lim w A n l) (hc : n ≤ c) (hcm : c ≤ maxLen) (hn : n ≤ 1048576) :
    Calls Try.prog 73 #[.slice A n c] w (RetNatF (Pl.val l) w) := by
  obtain ⟨i0, hi0, hz0, hz1, hz2⟩ := info_parts u32_info
  have hlen := Lib.hid hl.len
  have hfit := hl.fit
  have HL := Lib.hid hl
  have hcm' := Lib.hid hcm
  unfold maxLen at hcm
  clear hl
  go_enter Try.func73, Try.ntmps73
  go_wp2
  go_loop [3] (fun nv => ∃ k : Nat, nv = .int .i64 k ∧ k ≤ n ∧ ∀ i, k ≤ i → i < n → l.getD i 0 = 0) (fun nv => (intOf nv).toNat)
  case atStart => exact ⟨n, rfl, Nat.le_refl _, fun i h1 h2 => by omega⟩
  case round =>
    obtain ⟨k, rfl, hk, hz⟩ := hrel
    have HZ := Lib.hid hz
    clear hz
    rcases Nat.eq_zero_or_pos k with h0 | h0
    · subst h0
      go_wp2_with (at_builtin; refine wpList_append_any _ rfl (.tmp 18) (.tmp 21) _ rfl w.heap.size 77 i0 _ 1 4 Try.underlying45 hi0 hz0 hz1 hz2 rfl (by omega) (.slice (some ⟨w.heap.size, 0, none⟩) 0 0) 0 [] rfl (own_empty w _ 1) w.heap.size A 0 c ((l.take 0).map lv) rfl ((HL.out.take hk).reads.alloc (Nat.le_refl _) _) (one_limbs _) (by unfold maxLen; omega) (by omega) (by simp) ?_; intro v1 w1 hown1 hg1 hat1)
      go_ret
      exact ⟨v1, rfl, NatV.of_own hown1 (Pl.limbs_take hfit (by have := hlen.out; omega) (fun i h1 h2 => HZ.out i h1 (by have := hlen.out; omega)) (fun h => absurd h (by omega))), below_own hg1 (fun k h => own_at h), Fresh.of_own hown1⟩
    · obtain ⟨j, rfl⟩ : ∃ j, k = j + 1 := ⟨k - 1, by omega⟩
      obtain ⟨ad, hA, hadb, hcell⟩ := HL.out.at_ (k := j) (by omega)
      subst hA
      have hx := hfit.get j
      obtain ⟨x, hxe⟩ : ∃ x, l.getD j 0 = x := ⟨_, rfl⟩
      rw [hxe] at hcell hx
      have HX := Lib.hid hxe
      clear hxe
      rcases Nat.eq_zero_or_pos x with hx0 | hx0
      · subst hx0
        go_wp2
        go_round
        case rel => exact ⟨j, by go_num, by omega, fun i h1 h2 => by
          rcases Nat.eq_or_lt_of_le h1 with g | g
          · subst g; exact HX.out
          · exact HZ.out i g h2⟩
        case measure => simp [intOf]
      · have hne : ((x : Int) == 0) = false := by simp; omega
        go_wp2_with (at_builtin; refine wpList_append_any _ rfl (.tmp 18) (.tmp 21) _ rfl w.heap.size 77 i0 _ 1 4 Try.underlying45 hi0 hz0 hz1 hz2 rfl (by omega) (.slice (some ⟨w.heap.size, 0, none⟩) 0 0) 0 [] rfl (own_empty w _ 1) w.heap.size (some ad) (j + 1) c ((l.take (j + 1)).map lv) rfl ((HL.out.take hk).reads.alloc (Nat.le_refl _) _) (one_limbs _) (by unfold maxLen; omega) (by omega) (by simp) ?_; intro v1 w1 hown1 hg1 hat1)
        go_ret
        exact ⟨v1, rfl, NatV.of_own hown1 (Pl.limbs_take hfit (by have := hlen.out; omega) (fun i h1 h2 => HZ.out i h1 (by have := hlen.out; omega)) (fun h => by rw [Nat.add_sub_cancel, HX.out]; omega)), below_own hg1 (fun k h => own_at h), Fresh.of_own hown1⟩

theorem trim_any (A : Option Addr) (n c : Nat) (l : List Nat) (w : World) (hl : Lim w A n l) (hc : n ≤ c) (hcm : c ≤ maxLen) (hn : n ≤ 1048576) :
    Calls Try.prog 73 #[.slice A n c] w (RetNat (Pl.val l) w) :=
  (trim_fresh A n c l w hl hc hcm hn).mono fun _ _ ⟨v, he, hv, hb, _⟩ => ⟨v, he, hv, hb⟩

theorem getD_out {l : List Nat} {i : Nat} (h : l.length ≤ i) : l.getD i 0 = 0 := by
  rw [List.getD_eq_getElem?_getD, List.getElem?_eq_none h]; rfl
set_option maxHeartbeats 400000 in
theorem limb_any (A : Option Addr) (n c i : Nat) (l : List Nat) (w : World) (hl : Lim w A n l) (hi : i < 4611686018427387904) :
    Calls Try.prog 98 #[.slice A n c, .int .i64 i] w fun e w' => e = .returned (.int .u64 (l.getD i 0 : Nat)) ∧ w = w' := by
  have hlen := Lib.hid hl.len
  have hf := hl.fit.get i
  have HL := Lib.hid hl
  clear hl
  by_cases h : i < n
  · obtain ⟨ad, hA, hadb, hcell⟩ := HL.out.at_ h
    subst hA
    obtain ⟨x, hxe⟩ : ∃ x, l.getD i 0 = x := ⟨_, rfl⟩
    rw [hxe] at hcell hf ⊢
    unfold Pl.B32 at hf
    have HX := Lib.hid hxe
    clear hxe HL hlen
    go_enter Try.func98, Try.ntmps98
    go_wp2
    go_ret
    exact ⟨rfl, rfl⟩
  · have HX := Lib.hid (getD_out (l := l) (i := i) (by have := hlen.out; omega))
    go_enter Try.func98, Try.ntmps98
    go_wp2
    go_ret
    exact ⟨by rw [HX.out]; rfl, rfl⟩

/-- The i-th bit. -/
def bitB (N i : Nat) : Bool := decide (N / 2 ^ i % 2 = 1)
set_option maxHeartbeats 400000 in
theorem bit_any (A : Option Addr) (n c i : Nat) (l : List Nat) (w : World) (hl : Lim w A n l) (hi : i < 4611686018427387904) :
    Calls Try.prog 71 #[.slice A n c, .int .i64 i] w fun e w' => e = .returned (.bool (bitB (Pl.val l) i)) ∧ w = w' := by
  obtain ⟨q, hq⟩ : ∃ q : Nat, (i : Int) / 32 = q := ⟨i / 32, by omega⟩
  obtain ⟨r, hr⟩ : ∃ r : Nat, (i : Int) % 32 = r := ⟨i % 32, by omega⟩
  have hr1 : r < 32 := by omega
  have hq1 : q ≤ i := by omega
  have hb := Pl.bit_val hl.fit i
  have hf := hl.fit.get q
  have eq1 : i / 32 = q := by omega
  have eq2 : i % 32 = r := by omega
  rw [eq1, eq2] at hb
  have HB := Lib.hid hb
  have HL := Lib.hid hl
  clear hb hl eq1 eq2
  obtain ⟨x, hxe⟩ : ∃ x, l.getD q 0 = x := ⟨_, rfl⟩
  rw [hxe] at hf
  unfold Pl.B32 at hf
  have HX := Lib.hid hxe
  clear hxe
  have h9 : 0 ≤ (x : Int) / 2 ^ r := Int.ediv_nonneg (by omega) (Int.le_of_lt (Int.pow_pos (by decide)))
  go_enter Try.func71, Try.ntmps71
  go_wp2_with (go_at_call 98; refine (limb_any A n c q l _ HL.out (by omega)).mono ?_; rw [HX.out]; rintro e w' ⟨rfl, rfl⟩)
  go_ret
  refine ⟨retB ?_, rfl⟩
  unfold bitB
  rw [← HB.out, HX.out]
  have e9 : (x : Int) / 2 ^ r = ((x / 2 ^ r : Nat) : Int) := by simp
  rw [e9]
  generalize x / 2 ^ r = y
  rw [Bool.eq_iff_iff]
  simp
  omega
end Go.Proofs.Ytmjaoeafompclaa

namespace Go.Proofs.Ytmjaoeafompclaa
open Go.RowKit Go.Shelf

/-- A new block of one limb, as a slice's cells. -/
theorem reads_new (w : World) (x : Int) (e : TypeId) : Reads (w.alloc (.cells #[.int .u32 x] e)) (w.heap.size + 1) 1 (some ⟨w.heap.size, 0, none⟩) 1 [.int .u32 x] := by
  refine ⟨rfl, fun _ => ⟨_, rfl, by simp, fun j u hu => ?_⟩⟩
  obtain rfl : j = 0 := by
    rcases Nat.eq_zero_or_pos j with h | h
    · exact h
    · rw [List.getElem?_eq_none (by simp; omega)] at hu; cases hu
  simp at hu
  subst hu
  simp [go_sem, Addr.add]

/-- Behind k rounds of Twice. -/
structure TwiceAt (l : List Nat) (c0 k : Nat) (o : List Nat) (c : Nat) : Prop where
  len : o.length = k
  fit : Pl.Fit o
  le : c ≤ 1
  val : Pl.val o + Pl.B32 ^ k * c = 2 * Pl.val (l.take k) + c0
theorem TwiceAt.start (l : List Nat) {c0 : Nat} (h : c0 ≤ 1) : TwiceAt l c0 0 [] c0 := ⟨rfl, Pl.Fit.nil, h, by simp [Pl.val]⟩
theorem TwiceAt.step {l : List Nat} {c0 k : Nat} {o : List Nat} {c x : Nat} (h : TwiceAt l c0 k o c) (hk : k < l.length) (hx : l.getD k 0 = x) (hf : x < 4294967296) : TwiceAt l c0 (k + 1) (o ++ [(2 * x + c) % 4294967296]) ((2 * x + c) / 4294967296) := by
  obtain ⟨hl, hfit, hc, hv⟩ := h
  refine ⟨by simp [hl], hfit.append (Pl.Fit.cons (Nat.mod_lt _ Pl.B32_pos) Pl.Fit.nil), by omega, ?_⟩
  rw [Pl.val_snoc, hl, Pl.val_take_succ l k hk, hx, Nat.pow_succ]
  have e := Nat.mod_add_div (2 * x + c) 4294967296
  have eB : Pl.B32 = 4294967296 := rfl
  rw [eB] at hv ⊢
  generalize (2 * x + c) % 4294967296 = a at *
  generalize (2 * x + c) / 4294967296 = b at *
  generalize 4294967296 ^ k = P at *
  have : P * 4294967296 * b = P * (4294967296 * b) := Nat.mul_assoc _ _ _
  rw [this, Nat.add_assoc, ← Nat.mul_add, e]
  have h2 : P * (2 * x + c) = 2 * (P * x) + P * c := by rw [Nat.mul_add, Nat.mul_left_comm]
  omega
theorem TwiceAt.done {l : List Nat} {c0 k : Nat} {o : List Nat} {c : Nat} (h : TwiceAt l c0 k o c) (hk : k = l.length) : Pl.val (o ++ [c]) = 2 * Pl.val l + c0 ∧ Pl.Fit (o ++ [c]) ∧ (o ++ [c]).length = k + 1 := by
  obtain ⟨hl, hfit, hc, hv⟩ := h
  rw [hk, List.take_length] at hv
  rw [Pl.val_snoc, hl, hk]
  exact ⟨hv, hfit.append (Pl.Fit.cons (show c < 4294967296 by omega) Pl.Fit.nil), by simp [hl, hk]⟩
def b01 (b : Bool) : Nat := if b then 1 else 0
theorem b01_le (b : Bool) : b01 b ≤ 1 := by unfold b01; split <;> omega

theorem reads_new' {w : World} {x : Int} {y : Nat} {e : TypeId} (h : x = y) : Reads (w.alloc (.cells #[.int .u32 x] e)) (w.heap.size + 1) 1 (some ⟨w.heap.size, 0, none⟩) 1 [lv y] := by
  subst h; exact reads_new w _ e
theorem below_row {B : Nat} {w0 w w1 : World} {o : Obj} {v : Value} {row : Option Nat} (hb : Below B w0 w) (hB : B ≤ w.heap.size) (hg : (w.alloc o).grownBy w1 row) (hv : row = v.ownBlock) (ho : v.ownBlock = none ∨ ∃ k, v.ownBlock = some k ∧ B ≤ k) : Below B w0 w1 :=
  (hb.alloc hB o).grown hg (by simp; omega) (fun k h => by
    subst hv
    rcases ho with g | ⟨j, g, hj⟩
    · rw [g] at h; cases h
    · rw [g] at h; injection h with h; omega)
theorem own_base {w : World} {base : Nat} {e : TypeId} {size n : Nat} {v : Value} {xs : List Value} (h : w.ownsRow base e size v n xs) : v.ownBlock = none ∨ ∃ k, v.ownBlock = some k ∧ base ≤ k := by
  rcases h.2 with ⟨rfl, rfl⟩ | ⟨g, cap, cur, rfl, hb, _⟩
  · exact .inl rfl
  · exact .inr ⟨g, rfl, hb⟩
theorem map_snoc (o : List Nat) (y : Nat) : (o ++ [y]).map lv = o.map lv ++ [lv y] := by rw [List.map_append]; rfl
theorem own_snoc {w : World} {base : Nat} {e : TypeId} {v : Value} {k : Nat} {o : List Nat} {y : Nat} (h : w.ownsRow base e 1 v (k + 1) (o.map lv ++ [lv y])) : w.ownsRow base e 1 v (k + 1) ((o ++ [y]).map lv) := by rw [map_snoc]; exact h

theorem trim_own {w : World} {base : Nat} {e : TypeId} {v : Value} {k : Nat} {o : List Nat} (h : w.ownsRow base e 1 v k (o.map lv)) (hf : Pl.Fit o) (hk : k ≤ 1048576) : Calls Try.prog 73 #[v] w (RetNat (Pl.val o) w) := by
  obtain ⟨A, c, rfl, h1, h2⟩ := own_slice h
  exact trim_any A k c o w (Lim.of_own h hf) h1 h2 hk

set_option maxHeartbeats 4000000 in
theorem twice_any (A : Option Addr) (n c : Nat) (l : List Nat) (more : Bool) (w : World) (hl : Lim w A n l) (hn : n ≤ 1048575) :
    Calls Try.prog 70 #[.slice A n c, .bool more] w (RetNat (2 * Pl.val l + b01 more) w) := by
  obtain ⟨i0, hi0, hz0, hz1, hz2⟩ := info_parts u32_info
  have hlen := Lib.hid hl.len
  have hfit := hl.fit
  have HL := Lib.hid hl
  clear hl
  have START := Lib.hid (TwiceAt.start l (b01_le more))
  cases more
  all_goals
    go_enter Try.func70, Try.ntmps70
    go_wp2
    go_loopw [5, 6, 7] (fun v cv iv wr => ∃ (k cc : Nat) (o : List Nat), iv = .int .i64 k ∧ cv = .int .u64 cc ∧ k ≤ n ∧ TwiceAt l (b01 _) k o cc ∧ wr.ownsRow w.heap.size 77 1 v k (o.map lv) ∧ Below w.heap.size w wr) (fun _ _ iv _ => n - (intOf iv).toNat)
    case atStart => exact ⟨0, _, [], rfl, rfl, Nat.zero_le _, START.out, ⟨by simp, .inl ⟨rfl, rfl⟩⟩, Below.refl _ _⟩
    case round =>
      obtain ⟨k, cc, o, rfl, rfl, hk, hat, hown, hB⟩ := hrel
      have hcc := hat.le
      have hBs := hB.size
      have HA := Lib.hid hat
      have HB := Lib.hid hB
      clear hat hB
      by_cases hlt : k < n
      · obtain ⟨ad, hA, hadb, hcell⟩ := HL.out.at_ hlt
        have hcell : wr.cell? (ad.add k) = some (.int .u32 ((l.getD k 0 : Nat) : Int)) := (HB.out.cell (by rw [block_of_add]; exact hadb)).trans hcell
        subst hA
        have hx := hfit.get k
        unfold Pl.B32 at hx
        obtain ⟨x, hxe⟩ : ∃ x, l.getD k 0 = x := ⟨_, rfl⟩
        rw [hxe] at hcell hx
        have HX := Lib.hid hxe
        clear hxe
        have HS := Lib.hid (HA.out.step (by have := hlen.out; omega) HX.out hx)
        go_wp2_with (at_builtin; refine wpList_append_any _ rfl (.tmp 24) (.tmp 28) _ rfl w.heap.size 77 i0 _ 1 4 Try.underlying45 hi0 hz0 hz1 hz2 rfl (by omega) _ k (o.map lv) rfl (hown.alloc _) (wr.heap.size + 1) (some ⟨wr.heap.size, 0, none⟩) 1 1 [lv ((2 * x + cc) % 4294967296)] rfl (reads_new' (by omega)) (by simp [lv, Value.oneCell']) (by unfold maxLen; omega) (by omega) (by simp; omega) ?_; intro v1 w1 hown1 hg1 hat1)
        exact ⟨⟨k + 1, _, _, by go_num, by go_num, by omega, HS.out, own_snoc hown1, below_row HB.out hBs hg1 rfl (own_base hown)⟩, by simp [intOf]; omega⟩
      · obtain ⟨d1, d2, d3⟩ := HA.out.done (show k = l.length by have := hlen.out; omega)
        have D1 := Lib.hid d1
        clear d1 d3
        go_wp2_with (first | (at_builtin; refine wpList_append_any _ rfl (.tmp 32) (.tmp 35) _ rfl w.heap.size 77 i0 _ 1 4 Try.underlying45 hi0 hz0 hz1 hz2 rfl (by omega) _ k (o.map lv) rfl (hown.alloc _) (wr.heap.size + 1) (some ⟨wr.heap.size, 0, none⟩) 1 1 [lv cc] rfl (reads_new' (by omega)) (by simp [lv, Value.oneCell']) (by unfold maxLen; omega) (by omega) (by simp; omega) ?_; intro v1 w1 hown1 hg1 hat1; have hB1 := below_row HB.out hBs hg1 rfl (own_base hown)) | (go_at_call 73; refine (trim_own (own_snoc hown1) d2 (by omega)).mono ?_; rw [D1.out]; rintro e w2 ⟨v2, rfl, hv2, hb2⟩))
        go_ret
        exact ⟨v2, rfl, hv2, hB1.trans (hb2.mono hB1.size)⟩
end Go.Proofs.Ytmjaoeafompclaa

namespace Go.Proofs.Ytmjaoeafompclaa
open Go.RowKit Go.Shelf

theorem bl_top {l : List Nat} {m x : Nat} (hf : Pl.Fit l) (hl : l.length = m + 1) (hx : l.getD m 0 = x) (h0 : x ≠ 0) : Pl.bl (Pl.val l) = 32 * m + Pl.bl x := by
  have e := Pl.val_take_succ l m (by omega)
  have e2 : l.take (m + 1) = l := by rw [← hl, List.take_length]
  rw [e2, hx] at e
  have h1 := Pl.val_lt (hf.take m)
  rw [List.length_take, hl, Nat.min_eq_left (by omega)] at h1
  have h2 := Pl.two_bl_le h0
  have h3 := Pl.lt_two_bl x
  have h4 := Pl.bl_pos h0
  rw [Pl.B32_pow] at e h1
  have p1 : 2 ^ (32 * m + Pl.bl x - 1) = 2 ^ (32 * m) * 2 ^ (Pl.bl x - 1) := by rw [← Nat.pow_add]; congr 1; omega
  have p2 : 2 ^ (32 * m + Pl.bl x - 1 + 1) = 2 ^ (32 * m) * 2 ^ Pl.bl x := by rw [← Nat.pow_add]; congr 1; omega
  have q1 := Nat.mul_le_mul_left (2 ^ (32 * m)) h2
  have q2 := Nat.mul_le_mul_left (2 ^ (32 * m)) (show x + 1 ≤ 2 ^ Pl.bl x from h3)
  rw [Nat.mul_add] at q2
  have := Pl.bl_eq (n := Pl.val l) (k := 32 * m + Pl.bl x - 1) (by rw [p1]; omega) (by rw [p2]; omega)
  omega
theorem last_limb {N m : Nat} (hl : (Pl.limbs N).length = m + 1) : (Pl.limbs N).getD m 0 ≠ 0 := by
  have h : Pl.limbs N ≠ [] := by intro h; rw [h] at hl; simp at hl
  have := Pl.limbs_last h
  rw [List.getLast_eq_getElem] at this
  rw [List.getD_eq_getElem?_getD, List.getElem?_eq_getElem (by omega)]
  simpa [hl] using this

set_option maxHeartbeats 1000000 in
theorem rlen_any (A : Option Addr) (n c : Nat) (l : List Nat) (w : World) (hl : Lim w A n l) (hc : n ≤ c) (hcm : c ≤ maxLen) (hn : n ≤ 1048575) :
    Calls Try.prog 75 #[.slice A n c] w fun e w' => e = .returned (.int .i64 (Pl.bl (Pl.val l))) ∧ Below w.heap.size w w' := by
  have hle : (Pl.limbs (Pl.val l)).length ≤ n := by
    have := Pl.limbs_len_le (Pl.val_lt hl.fit)
    rw [hl.len] at this; exact this
  have HL := Lib.hid hl
  clear hl
  by_cases h0 : Pl.val l = 0
  · have hz : (Pl.limbs (Pl.val l)).length = 0 := by rw [h0, Pl.limbs_zero]; rfl
    have HB := Lib.hid (show Pl.bl (Pl.val l) = 0 by rw [h0]; rfl)
    have HZ := Lib.hid hz
    clear h0 hz
    go_enter Try.func75, Try.ntmps75
    go_wp2_with (go_at_call 73; refine (trim_any A n c l _ HL.out hc hcm (by omega)).mono ?_; rintro e w1 ⟨v, rfl, ⟨A1, n1, c1, rfl, h1, h2, hl1⟩, hb1⟩; obtain rfl : n1 = 0 := hl1.len.symm.trans HZ.out)
    go_ret
    exact ⟨retI (by rw [HB.out]; rfl), hb1⟩
  · obtain ⟨m, hm⟩ : ∃ m, (Pl.limbs (Pl.val l)).length = m + 1 := by
      cases h : (Pl.limbs (Pl.val l)).length with
      | zero => exact absurd (Pl.limbs_nil (List.eq_nil_of_length_eq_zero h)) h0
      | succ m => exact ⟨m, rfl⟩
    have hla := last_limb hm
    have hfx := (Pl.fit_limbs (Pl.val l)).get m
    obtain ⟨x, hx⟩ : ∃ x, (Pl.limbs (Pl.val l)).getD m 0 = x := ⟨_, rfl⟩
    have htop := bl_top (Pl.fit_limbs _) hm hx (by rw [← hx]; exact hla)
    rw [Pl.val_limbs] at htop
    rw [hx] at hla hfx
    unfold Pl.B32 at hfx
    have hbx : Pl.bl x ≤ 32 := Pl.bl_le_of_lt (by omega)
    have hmn : m + 1 ≤ n := by omega
    have HM := Lib.hid hm
    have HX := Lib.hid hx
    have HT := Lib.hid htop
    clear hm hx htop h0 hle
    go_enter Try.func75, Try.ntmps75
    go_wp2_with (go_at_call 73; refine (trim_any A n c l _ HL.out hc hcm (by omega)).mono ?_; rintro e w1 ⟨v, rfl, ⟨A1, n1, c1, rfl, h1, h2, hl1⟩, hb1⟩; obtain rfl : n1 = m + 1 := hl1.len.symm.trans HM.out; obtain ⟨ad, hA, hadb, hcell⟩ := hl1.at_ (show m < m + 1 by omega); subst hA; rw [HX.out] at hcell)
    go_loop [4, 5] (fun nv xv => ∃ j y : Nat, nv = .int .i64 (32 * m + j : Nat) ∧ xv = .int .u32 y ∧ y < 4294967296 ∧ j ≤ 32 ∧ Pl.bl x = j + Pl.bl y) (fun _ xv => (intOf xv).toNat)
    case atStart => exact ⟨0, x, by go_num, rfl, hfx, by omega, by omega⟩
    case round =>
      obtain ⟨j, y, rfl, rfl, hy, hj, hbl⟩ := hrel
      have HBL := Lib.hid hbl
      clear hbl
      rcases Nat.eq_zero_or_pos y with h0 | h0
      · subst h0
        go_wp2
        go_ret
        exact ⟨retI (by rw [HT.out, HBL.out]; simp [Pl.bl]), hb1⟩
      · have hb2 := bl_half y (by omega)
        have hb3 : j + 1 ≤ 32 := by have := HBL.out; omega
        have HB2 := Lib.hid hb2
        clear hb2
        go_wp2
        go_round
        case rel => exact ⟨j + 1, y / 2, by go_num, by go_num, by omega, hb3, by rw [HBL.out, HB2.out]; omega⟩
        case measure => simp [intOf]; omega
end Go.Proofs.Ytmjaoeafompclaa

namespace Go.Proofs.Ytmjaoeafompclaa
open Go.RowKit Go.Shelf

/-- The value is a slice of at most d limbs that mean N. -/
def SliceV (w : World) (v : Value) (N d : Nat) : Prop := ∃ A n c l, v = .slice A n c ∧ n ≤ c ∧ c ≤ maxLen ∧ Lim w A n l ∧ Pl.val l = N ∧ n ≤ d
theorem SliceV.below {w w' : World} {v : Value} {N d : Nat} (h : SliceV w v N d) (hb : Below w.heap.size w w') : SliceV w' v N d := by
  obtain ⟨A, n, c, l, hv, h1, h2, hl, hN, hd⟩ := h
  exact ⟨A, n, c, l, hv, h1, h2, hl.below hb, hN, hd⟩
theorem SliceV.below' {B : Nat} {w w' : World} {v : Value} {N d : Nat} (h : SliceV w v N d) (hb : Below B w w') (hB : w.heap.size ≤ B) : SliceV w' v N d := h.below (hb.mono hB)
theorem SliceV.drewN {w : World} {v : Value} {N d : Nat} (h : SliceV w v N d) (k : Nat) : SliceV (w.drewN k) v N d := by
  obtain ⟨A, n, c, l, hv, h1, h2, hl, hN, hd⟩ := h
  exact ⟨A, n, c, l, hv, h1, h2, hl.drewN k, hN, hd⟩
theorem SliceV.alloc {w : World} {v : Value} {N d : Nat} (h : SliceV w v N d) (o : Obj) : SliceV (w.alloc o) v N d := h.below ((Below.refl _ _).alloc (Nat.le_refl _) o)
theorem SliceV.lt {w : World} {v : Value} {N d : Nat} (h : SliceV w v N d) : N < Pl.B32 ^ d := by
  obtain ⟨A, n, c, l, hv, h1, h2, hl, hN, hd⟩ := h
  rw [← hN]
  have := Pl.val_lt hl.fit
  rw [hl.len] at this
  exact Nat.lt_of_lt_of_le this (Nat.pow_le_pow_right Pl.B32_pos hd)
theorem SliceV.more {w : World} {v : Value} {N d d' : Nat} (h : SliceV w v N d) (hd : d ≤ d') : SliceV w v N d' := by
  obtain ⟨A, n, c, l, hv, h1, h2, hl, hN, hd'⟩ := h
  exact ⟨A, n, c, l, hv, h1, h2, hl, hN, by omega⟩
theorem NatV.slice {w : World} {v : Value} {N d : Nat} (h : NatV w v N) (hN : N < Pl.B32 ^ d) : SliceV w v N d := by
  obtain ⟨A, n, c, hv, h1, h2, hl⟩ := h
  exact ⟨A, n, c, _, hv, h1, h2, hl, Pl.val_limbs N, by rw [← hl.len]; exact Pl.limbs_len_le hN⟩
theorem SliceV.of_own {w : World} {base : Nat} {e : TypeId} {v : Value} {n : Nat} {l : List Nat} (h : w.ownsRow base e 1 v n (l.map lv)) (hf : Pl.Fit l) : SliceV w v (Pl.val l) n := by
  obtain ⟨A, c, rfl, h1, h2⟩ := own_slice h
  exact ⟨A, n, c, l, rfl, h1, h2, Lim.of_own h hf, rfl, Nat.le_refl _⟩

theorem trim_v {w : World} {v : Value} {N d : Nat} (h : SliceV w v N d) (hd : d ≤ 1048576) : Calls Try.prog 73 #[v] w (RetNat N w) := by
  obtain ⟨A, n, c, l, rfl, h1, h2, hl, rfl, hd'⟩ := h
  exact trim_any A n c l w hl h1 h2 (by omega)
theorem trim_vF {w : World} {v : Value} {N d : Nat} (h : SliceV w v N d) (hd : d ≤ 1048576) : Calls Try.prog 73 #[v] w (RetNatF N w) := by
  obtain ⟨A, n, c, l, rfl, h1, h2, hl, rfl, hd'⟩ := h
  exact trim_fresh A n c l w hl h1 h2 (by omega)
theorem twice_v {w : World} {v : Value} {N d : Nat} (b : Bool) (h : SliceV w v N d) (hd : d ≤ 1048575) : Calls Try.prog 70 #[v, .bool b] w (RetNat (2 * N + b01 b) w) := by
  obtain ⟨A, n, c, l, rfl, h1, h2, hl, rfl, hd'⟩ := h
  exact twice_any A n c l b w hl (by omega)
theorem bit_v {w : World} {v : Value} {N d : Nat} (i : Nat) (h : SliceV w v N d) (hi : i < 4611686018427387904) : Calls Try.prog 71 #[v, .int .i64 i] w fun e w' => e = .returned (.bool (bitB N i)) ∧ w = w' := by
  obtain ⟨A, n, c, l, rfl, h1, h2, hl, rfl, hd'⟩ := h
  exact bit_any A n c i l w hl hi
theorem rlen_v {w : World} {v : Value} {N d : Nat} (h : SliceV w v N d) (hd : d ≤ 1048575) : Calls Try.prog 75 #[v] w fun e w' => e = .returned (.int .i64 (Pl.bl N)) ∧ Below w.heap.size w w' := by
  obtain ⟨A, n, c, l, rfl, h1, h2, hl, rfl, hd'⟩ := h
  exact rlen_any A n c l w hl h1 h2 (by omega)
end Go.Proofs.Ytmjaoeafompclaa

namespace Go.Proofs.Ytmjaoeafompclaa.Pl

theorem take_getD (l : List Nat) (k : Nat) : val (l.take (k + 1)) = val (l.take k) + B32 ^ k * l.getD k 0 := by
  rcases Nat.lt_or_ge k l.length with h | h
  · exact val_take_succ l k h
  · rw [List.take_of_length_le (by omega), List.take_of_length_le h, List.getD_eq_getElem?_getD, List.getElem?_eq_none h]; simp

/-- Behind k rounds of Plus. -/
structure PlusAt (a b : List Nat) (k : Nat) (o : List Nat) (c : Nat) : Prop where
  len : o.length = k
  fit : Fit o
  le : c ≤ 1
  val : val o + B32 ^ k * c = val (a.take k) + val (b.take k)
theorem PlusAt.start (a b : List Nat) : PlusAt a b 0 [] 0 := ⟨rfl, Fit.nil, by omega, by simp [Pl.val]⟩
theorem PlusAt.step {a b o : List Nat} {k c x y : Nat} (h : PlusAt a b k o c) (hx : a.getD k 0 = x) (hy : b.getD k 0 = y) (x1 : x < 4294967296) (y1 : y < 4294967296) :
    PlusAt a b (k + 1) (o ++ [(x + y + c) % 4294967296]) ((x + y + c) / 4294967296) := by
  obtain ⟨hl, hfit, hc, hv⟩ := h
  refine ⟨by simp [hl], hfit.append (Fit.cons (Nat.mod_lt _ B32_pos) Fit.nil), by omega, ?_⟩
  rw [val_snoc, hl, take_getD, take_getD, hx, hy, Nat.pow_succ]
  have e := Nat.mod_add_div (x + y + c) 4294967296
  have eB : B32 = 4294967296 := rfl
  rw [eB] at hv ⊢
  generalize (x + y + c) % 4294967296 = p at *
  generalize (x + y + c) / 4294967296 = q at *
  generalize 4294967296 ^ k = P at *
  grind
theorem PlusAt.done {a b o : List Nat} {k c : Nat} (h : PlusAt a b k o c) (ha : a.length ≤ k) (hb : b.length ≤ k) : Pl.val (o ++ [c]) = Pl.val a + Pl.val b ∧ Fit (o ++ [c]) ∧ (o ++ [c]).length = k + 1 := by
  obtain ⟨hl, hfit, hc, hv⟩ := h
  rw [List.take_of_length_le ha, List.take_of_length_le hb] at hv
  rw [val_snoc, hl]
  exact ⟨hv, hfit.append (Fit.cons (show c < 4294967296 by omega) Fit.nil), by simp [hl]⟩

/-- Behind k rounds of Less. -/
structure LessAt (a b : List Nat) (k : Nat) (o : List Nat) (c : Nat) : Prop where
  len : o.length = k
  fit : Fit o
  le : c ≤ 1
  val : val o + val (b.take k) = val (a.take k) + B32 ^ k * c
theorem LessAt.start (a b : List Nat) : LessAt a b 0 [] 0 := ⟨rfl, Fit.nil, by omega, by simp [Pl.val]⟩
theorem LessAt.yes {a b o : List Nat} {k c x y : Nat} (h : LessAt a b k o c) (hx : a.getD k 0 = x) (hy : b.getD k 0 = y) (x1 : x < 4294967296) (y1 : y < 4294967296) (hlt : x < y + c) :
    LessAt a b (k + 1) (o ++ [x + 4294967296 - (y + c)]) 1 := by
  obtain ⟨hl, hfit, hc, hv⟩ := h
  refine ⟨by simp [hl], hfit.append (Fit.cons (show _ < 4294967296 by omega) Fit.nil), by omega, ?_⟩
  rw [val_snoc, hl, take_getD, take_getD, hx, hy, Nat.pow_succ]
  obtain ⟨d, hd⟩ : ∃ d, x + 4294967296 - (y + c) = d := ⟨_, rfl⟩
  have hd' : d + (y + c) = x + 4294967296 := by omega
  rw [hd]
  have eB : B32 = 4294967296 := rfl
  rw [eB] at hv ⊢
  generalize 4294967296 ^ k = P at *
  grind
theorem LessAt.no {a b o : List Nat} {k c x y : Nat} (h : LessAt a b k o c) (hx : a.getD k 0 = x) (hy : b.getD k 0 = y) (x1 : x < 4294967296) (hlt : ¬ x < y + c) :
    LessAt a b (k + 1) (o ++ [x - (y + c)]) 0 := by
  obtain ⟨hl, hfit, hc, hv⟩ := h
  refine ⟨by simp [hl], hfit.append (Fit.cons (show _ < 4294967296 by omega) Fit.nil), by omega, ?_⟩
  rw [val_snoc, hl, take_getD, take_getD, hx, hy, Nat.pow_succ]
  obtain ⟨d, hd⟩ : ∃ d, x - (y + c) = d := ⟨_, rfl⟩
  have hd' : d + (y + c) = x := by omega
  rw [hd]
  have eB : B32 = 4294967296 := rfl
  rw [eB] at hv ⊢
  generalize 4294967296 ^ k = P at *
  grind
theorem LessAt.done {a b o : List Nat} {k c : Nat} (h : LessAt a b k o c) (hk : k = a.length) (hfa : Fit a) (hab : Pl.val b ≤ Pl.val a) : Pl.val o = Pl.val a - Pl.val b := by
  obtain ⟨hl, hfit, hc, hv⟩ := h
  have h1 := val_lt hfit
  have h2 := val_lt hfa
  rw [hk, List.take_length] at hv
  rw [hl, hk] at h1
  have h3 : Pl.val b = Pl.val (b.take a.length) + B32 ^ a.length * Pl.val (b.drop a.length) := by
    rcases Nat.lt_or_ge b.length a.length with g | g
    · rw [List.take_of_length_le (by omega), List.drop_eq_nil_of_le (by omega)]; simp [Pl.val]
    · exact val_take_drop b _ g
  have h4 : Pl.val (b.drop a.length) = 0 := by
    rcases Nat.eq_zero_or_pos (Pl.val (b.drop a.length)) with g | g
    · exact g
    · have := Nat.mul_le_mul_left (B32 ^ a.length) g; omega
  rw [h4, Nat.mul_zero, Nat.add_zero] at h3
  obtain rfl | rfl : c = 0 ∨ c = 1 := by omega
  · rw [Nat.mul_zero] at hv; omega
  · rw [Nat.mul_one] at hv; omega

theorem val_set : ∀ (l : List Nat) (j x : Nat), j < l.length → val (l.set j x) + B32 ^ j * l.getD j 0 = val l + B32 ^ j * x
  | [], j, x, h => by simp at h
  | y :: l, 0, x, _ => by simp [val]; omega
  | y :: l, j + 1, x, h => by
    have := val_set l j x (by simpa using h)
    simp only [List.set_cons_succ, val, List.getD_cons_succ, Nat.pow_succ]
    generalize B32 ^ j = P at *
    grind
theorem Fit.set {l : List Nat} (h : Fit l) (j : Nat) {x : Nat} (hx : x < B32) : Fit (l.set j x) := fun y hy => by
  rcases List.mem_or_eq_of_mem_set hy with g | g
  · exact h y g
  · subst g; exact hx
theorem getD_set_ne {l : List Nat} {i j : Nat} (x : Nat) (h : i ≠ j) : (l.set i x).getD j 0 = l.getD j 0 := by
  rw [List.getD_eq_getElem?_getD, List.getD_eq_getElem?_getD, List.getElem?_set_ne h]

/-- Ahead of the i-th round of a product's outer loop. -/
structure MulOut (a b : List Nat) (i : Nat) (o : List Nat) : Prop where
  len : o.length = a.length + b.length + 1
  fit : Fit o
  zero : ∀ j, i + b.length ≤ j → o.getD j 0 = 0
  val : val o = val (a.take i) * val b
/-- Ahead of the k-th round of its inner loop. -/
structure MulIn (a b : List Nat) (i k : Nat) (o : List Nat) (c : Nat) : Prop where
  len : o.length = a.length + b.length + 1
  fit : Fit o
  car : c < B32
  zero : ∀ j, i + b.length ≤ j → o.getD j 0 = 0
  val : val o + B32 ^ (i + k) * c = val (a.take i) * val b + B32 ^ i * (a.getD i 0 * val (b.take k))
theorem MulOut.start (a b : List Nat) : MulOut a b 0 (List.replicate (a.length + b.length + 1) 0) :=
  ⟨by simp, fun x hx => by rw [(List.mem_replicate.1 hx).2]; exact B32_pos, fun j _ => by
    rw [List.getD_eq_getElem?_getD, List.getElem?_replicate]; split <;> rfl, by simp [Pl.val, val_zeros]⟩
theorem MulOut.inn {a b o : List Nat} {i : Nat} (h : MulOut a b i o) : MulIn a b i 0 o 0 :=
  ⟨h.len, h.fit, B32_pos, h.zero, by rw [h.val]; simp [Pl.val]⟩
theorem MulIn.step {a b o : List Nat} {i k c x y z : Nat} (h : MulIn a b i k o c) (hx : a.getD i 0 = x) (hy : b.getD k 0 = y) (hz : o.getD (i + k) 0 = z) (x1 : x < 4294967296) (y1 : y < 4294967296) (hi : i < a.length) (hk : k < b.length) :
    MulIn a b i (k + 1) (o.set (i + k) ((x * y + z + c) % 4294967296)) ((x * y + z + c) / 4294967296) := by
  obtain ⟨hl, hfit, hc, h0, hv⟩ := h
  have z1 : z < 4294967296 := by rw [← hz]; exact hfit.get _
  have hxy : x * y ≤ 4294967295 * 4294967295 := Nat.mul_le_mul (by omega) (by omega)
  unfold B32 at hc
  refine ⟨by simp [hl], hfit.set _ (Nat.mod_lt _ B32_pos), by unfold B32; omega, fun j hj => by rw [getD_set_ne _ (by omega)]; exact h0 j hj, ?_⟩
  have hs := val_set o (i + k) ((x * y + z + c) % 4294967296) (by omega)
  rw [hz] at hs
  rw [take_getD, hy, ← Nat.add_assoc, Nat.pow_succ]
  rw [hx] at hv ⊢
  have e := Nat.mod_add_div (x * y + z + c) 4294967296
  have eP : B32 ^ (i + k) = B32 ^ i * B32 ^ k := Nat.pow_add _ _ _
  rw [eP] at hs hv ⊢
  have eB : B32 = 4294967296 := rfl
  rw [eB] at hs hv ⊢
  generalize (x * y + z + c) % 4294967296 = p at *
  generalize (x * y + z + c) / 4294967296 = q at *
  generalize 4294967296 ^ k = P at *
  generalize 4294967296 ^ i = R at *
  grind
theorem MulIn.out {a b o : List Nat} {i c : Nat} (h : MulIn a b i b.length o c) (hi : i < a.length) : MulOut a b (i + 1) (o.set (i + b.length) c) := by
  obtain ⟨hl, hfit, hc, h0, hv⟩ := h
  have hs := val_set o (i + b.length) c (by omega)
  rw [h0 _ (Nat.le_refl _), Nat.mul_zero, Nat.add_zero] at hs
  refine ⟨by simp [hl], hfit.set _ hc, fun j hj => by rw [getD_set_ne _ (by omega)]; exact h0 j (by omega), ?_⟩
  rw [hs, hv, take_getD, List.take_length]
  grind
theorem MulOut.done {a b o : List Nat} {i : Nat} (h : MulOut a b i o) (hi : a.length ≤ i) : Pl.val o = Pl.val a * Pl.val b := by
  rw [h.val, List.take_of_length_le hi]

theorem dvd_mod_pow {n a b : Nat} (h : b ≤ a) (hn : n % 2 ^ a = 0) : n % 2 ^ b = 0 := by
  obtain ⟨c, rfl⟩ := Nat.dvd_of_mod_eq_zero hn
  obtain ⟨d, rfl⟩ : ∃ d, a = b + d := ⟨a - b, by omega⟩
  rw [Nat.pow_add, Nat.mul_assoc]; exact Nat.mul_mod_right _ _
/-- The limb of the i-th bit, of a number that has no bit below and at it. -/
theorem limb_low {l : List Nat} (hf : Fit l) {i q r : Nat} (hi : i = 32 * q + r) (hr : r < 32) (h : val l % 2 ^ (i + 1) = 0) : l.getD q 0 % 2 ^ (r + 1) = 0 := by
  rw [limb_val hf, B32_pow]
  obtain ⟨c, hc⟩ := Nat.dvd_of_mod_eq_zero h
  have e : 2 ^ (i + 1) = 2 ^ (32 * q) * 2 ^ (r + 1) := by rw [← Nat.pow_add]; congr 1; omega
  rw [hc, e, Nat.mul_assoc, Nat.mul_div_cancel_left _ (Nat.two_pow_pos _)]
  have e2 : B32 = 2 ^ (r + 1) * 2 ^ (31 - r) := by rw [← Nat.pow_add, B32_eq]; congr 1; omega
  rw [e2, Nat.mod_mul, Nat.mul_mod_right, Nat.zero_add]
  rw [Nat.mul_mod_right]
theorem limb_high {l : List Nat} (hf : Fit l) {i q r : Nat} (hi : i = 32 * q + r) (h : val l < 2 ^ i) : l.getD q 0 < 2 ^ r := by
  rw [limb_val hf, B32_pow]
  have e : 2 ^ i = 2 ^ (32 * q) * 2 ^ r := by rw [← Nat.pow_add]; congr 1
  rw [e] at h
  exact Nat.lt_of_le_of_lt (Nat.mod_le _ _) (Nat.div_lt_of_lt_mul h)
theorem low_lt {x r : Nat} (hr : r < 32) (hx : x < B32) (h : x % 2 ^ (r + 1) = 0) : x + 2 ^ r < B32 := by
  obtain ⟨c, rfl⟩ := Nat.dvd_of_mod_eq_zero h
  have e2 : B32 = 2 ^ (r + 1) * 2 ^ (31 - r) := by rw [← Nat.pow_add, B32_eq]; congr 1; omega
  rw [e2] at hx ⊢
  have h1 : c < 2 ^ (31 - r) := Nat.lt_of_mul_lt_mul_left hx
  have h2 := Nat.mul_le_mul_left (2 ^ (r + 1)) (show c + 1 ≤ 2 ^ (31 - r) from h1)
  have h3 : 2 ^ r < 2 ^ (r + 1) := Nat.pow_lt_pow_right (by omega) (by omega)
  rw [Nat.mul_add] at h2
  omega
theorem high_lt {x r : Nat} (hr : r < 32) (h : x < 2 ^ r) : x + 2 ^ r < B32 ∨ x + 2 ^ r ≤ B32 - 1 := by
  left
  have : 2 ^ (r + 1) ≤ 2 ^ 32 := Nat.pow_le_pow_right (by omega) (by omega)
  rw [Nat.pow_succ] at this
  unfold B32; omega
/-- A bit that is set. -/
theorem val_bit {l : List Nat} {i q r : Nat} (hi : i = 32 * q + r) (hq : q < l.length) : val (l.set q (l.getD q 0 + 2 ^ r)) = val l + 2 ^ i := by
  have h := val_set l q (l.getD q 0 + 2 ^ r) hq
  have e : 2 ^ i = B32 ^ q * 2 ^ r := by rw [B32_pow, ← Nat.pow_add]; congr 1
  rw [e]
  rw [Nat.mul_add] at h
  omega

/-- Ahead of a round of Parts: the bits from the j-th on are done. -/
structure PartsAt (N M j r Q : Nat) : Prop where
  eq : N / 2 ^ j % M = r
  val : Q = N / 2 ^ j / M * 2 ^ j
theorem PartsAt.start {N M j : Nat} (h : N < 2 ^ j) : PartsAt N M j 0 0 := ⟨by rw [Nat.div_eq_of_lt h]; exact Nat.zero_mod _, by rw [Nat.div_eq_of_lt h, Nat.zero_div, Nat.zero_mul]⟩
theorem half_step (N j : Nat) : N / 2 ^ j = 2 * (N / 2 ^ (j + 1)) + N / 2 ^ j % 2 := by
  have e1 : N / 2 ^ (j + 1) = N / 2 ^ j / 2 := by rw [Nat.pow_succ, Nat.div_div_eq_div_mul]
  omega
theorem PartsAt.lt {N M j r Q : Nat} (h : PartsAt N M j r Q) (hM : 0 < M) : r < M := by rw [← h.eq]; exact Nat.mod_lt _ hM
theorem PartsAt.dvd {N M j r Q : Nat} (h : PartsAt N M (j + 1) r Q) : Q % 2 ^ (j + 1) = 0 := by rw [h.val]; exact Nat.mul_mod_left _ _
theorem PartsAt.no {N M j r Q t : Nat} (h : PartsAt N M (j + 1) r Q) (ht : t = N / 2 ^ j % 2) (hlt : 2 * r + t < M) : PartsAt N M j (2 * r + t) Q := by
  obtain ⟨h1, h2⟩ := h
  have hs := half_step N j
  rw [← ht] at hs
  have e := Nat.div_add_mod (N / 2 ^ (j + 1)) M
  rw [h1] at e
  obtain ⟨q, hq⟩ : ∃ q, N / 2 ^ (j + 1) / M = q := ⟨_, rfl⟩
  rw [hq] at e h2
  have e2 : N / 2 ^ j = M * (2 * q) + (2 * r + t) := by rw [hs, ← e]; grind
  refine ⟨?_, ?_⟩
  · rw [e2, Nat.mul_add_mod, Nat.mod_eq_of_lt hlt]
  · rw [e2, Nat.mul_add_div (by omega), Nat.div_eq_of_lt hlt, Nat.add_zero, h2, Nat.pow_succ]; grind
theorem PartsAt.yes {N M j r Q t : Nat} (h : PartsAt N M (j + 1) r Q) (hM : 0 < M) (ht : t = N / 2 ^ j % 2) (hle : M ≤ 2 * r + t) : PartsAt N M j (2 * r + t - M) (Q + 2 ^ j) := by
  have hr := h.lt hM
  obtain ⟨h1, h2⟩ := h
  have hs := half_step N j
  rw [← ht] at hs
  have ht2 : t < 2 := by omega
  have e := Nat.div_add_mod (N / 2 ^ (j + 1)) M
  rw [h1] at e
  obtain ⟨q, hq⟩ : ∃ q, N / 2 ^ (j + 1) / M = q := ⟨_, rfl⟩
  rw [hq] at e h2
  obtain ⟨d, hd⟩ : ∃ d, 2 * r + t = M + d := ⟨2 * r + t - M, by omega⟩
  have hdM : d < M := by omega
  have e3 : 2 * r + t - M = d := by omega
  have e2 : N / 2 ^ j = M * (2 * q + 1) + d := by rw [hs, ← e]; grind
  rw [e3]
  refine ⟨?_, ?_⟩
  · rw [e2, Nat.mul_add_mod, Nat.mod_eq_of_lt hdM]
  · rw [e2, Nat.mul_add_div (by omega), Nat.div_eq_of_lt hdM, Nat.add_zero, h2, Nat.pow_succ]; grind
theorem PartsAt.done {N M r Q : Nat} (h : PartsAt N M 0 r Q) : Q = N / M ∧ r = N % M := by
  obtain ⟨h1, h2⟩ := h
  rw [Nat.pow_zero, Nat.div_one] at h1 h2
  exact ⟨by omega, h1.symm⟩

/-- Ahead of a round of Shr: the bits below the i-th are done. -/
structure ShrAt (N n i Q : Nat) (lost : Bool) : Prop where
  val : Q = N % 2 ^ i / 2 ^ n
  lost : lost = decide (N % 2 ^ (min i n) ≠ 0)
theorem ShrAt.start (N n : Nat) : ShrAt N n 0 0 false := ⟨by simp [Nat.mod_one], by simp [Nat.mod_one]⟩
theorem mod_step (N i : Nat) : N % 2 ^ (i + 1) = N % 2 ^ i + 2 ^ i * (N / 2 ^ i % 2) := by rw [Nat.pow_succ, Nat.mod_mul]
theorem ShrAt.no {N n i Q : Nat} {t : Bool} (h : ShrAt N n i Q t) (hb : N / 2 ^ i % 2 = 0) : ShrAt N n (i + 1) Q t := by
  obtain ⟨h1, h2⟩ := h
  have e : N % 2 ^ (i + 1) = N % 2 ^ i := by rw [mod_step N i, hb, Nat.mul_zero]; rfl
  refine ⟨by rw [h1, e], ?_⟩
  rw [h2]
  rcases Nat.lt_or_ge i n with g | g
  · rw [Nat.min_eq_left (by omega), Nat.min_eq_left (by omega), e]
  · rw [Nat.min_eq_right (by omega), Nat.min_eq_right (by omega)]
theorem ShrAt.low {N n i Q : Nat} {t : Bool} (h : ShrAt N n i Q t) (hb : N / 2 ^ i % 2 = 1) (hi : i < n) : ShrAt N n (i + 1) Q true := by
  obtain ⟨h1, h2⟩ := h
  have e := mod_step N i
  rw [hb, Nat.mul_one] at e
  have p : 2 ^ (i + 1) ≤ 2 ^ n := Nat.pow_le_pow_right (by omega) (by omega)
  have p2 : 2 ^ i < 2 ^ (i + 1) := Nat.pow_lt_pow_right (by omega) (by omega)
  have m1 := Nat.mod_lt N (Nat.two_pow_pos i)
  have m2 := Nat.mod_lt N (Nat.two_pow_pos (i + 1))
  refine ⟨?_, ?_⟩
  · rw [h1, Nat.div_eq_of_lt (by omega), Nat.div_eq_of_lt (by omega)]
  · rw [Nat.min_eq_left (by omega), e]
    simp
theorem ShrAt.high {N n i Q : Nat} {t : Bool} (h : ShrAt N n i Q t) (hb : N / 2 ^ i % 2 = 1) (hi : n ≤ i) : ShrAt N n (i + 1) (Q + 2 ^ (i - n)) t := by
  obtain ⟨h1, h2⟩ := h
  have e := mod_step N i
  rw [hb, Nat.mul_one] at e
  refine ⟨?_, ?_⟩
  · have p : 2 ^ i = 2 ^ n * 2 ^ (i - n) := by rw [← Nat.pow_add]; congr 1; omega
    rw [h1, e]
    conv => rhs; rw [p]
    rw [Nat.add_mul_div_left _ _ (Nat.two_pow_pos n)]
    rw [← p]
  · rw [h2, Nat.min_eq_right (by omega), Nat.min_eq_right (by omega)]
theorem ShrAt.lt {N n i Q : Nat} {t : Bool} (h : ShrAt N n i Q t) (hi : n ≤ i) : Q < 2 ^ (i - n) := by
  rw [h.val]
  have p : 2 ^ i = 2 ^ n * 2 ^ (i - n) := by rw [← Nat.pow_add]; congr 1; omega
  have m1 := Nat.mod_lt N (Nat.two_pow_pos i)
  rw [p] at m1 ⊢
  exact Nat.div_lt_of_lt_mul m1
theorem ShrAt.done {N n i Q : Nat} {t : Bool} (h : ShrAt N n i Q t) (hN : N < 2 ^ i) : Q = N / 2 ^ n ∧ t = decide (N % 2 ^ n ≠ 0) := by
  obtain ⟨h1, h2⟩ := h
  rw [Nat.mod_eq_of_lt hN] at h1
  refine ⟨h1, ?_⟩
  rw [h2]
  rcases Nat.lt_or_ge i n with g | g
  · have p : 2 ^ i ≤ 2 ^ n := Nat.pow_le_pow_right (by omega) (by omega)
    rw [Nat.min_eq_left (by omega), Nat.mod_eq_of_lt hN, Nat.mod_eq_of_lt (by omega)]
  · rw [Nat.min_eq_right g]

/-- Comparing from the top: above the k-th limbs both are alike. -/
theorem cmp_top {a b : List Nat} {n k x y : Nat} (ha : a.length = n) (hb : b.length = n) (hfa : Fit a) (hk : k < n) (hd : a.drop (k + 1) = b.drop (k + 1)) (hx : a.getD k 0 = x) (hy : b.getD k 0 = y) (hlt : x < y) : val a < val b := by
  have e1 := val_take_drop a (k + 1) (by omega)
  have e2 := val_take_drop b (k + 1) (by omega)
  rw [take_getD, hx] at e1
  rw [take_getD, hy] at e2
  rw [hd] at e1
  have l1 := val_lt (hfa.take k)
  rw [List.length_take, ha, Nat.min_eq_left (by omega)] at l1
  have l2 := Nat.mul_le_mul_left (B32 ^ k) (show x + 1 ≤ y from hlt)
  rw [Nat.mul_add] at l2
  omega
theorem drop_eq {a b : List Nat} {n k x : Nat} (ha : a.length = n) (hb : b.length = n) (hk : k < n) (hd : a.drop (k + 1) = b.drop (k + 1)) (hx : a.getD k 0 = x) (hy : b.getD k 0 = x) : a.drop k = b.drop k := by
  rw [drop_getD a k (by omega), drop_getD b k (by omega), hx, hy, hd]
theorem len_lt {N M : Nat} (h : (limbs N).length < (limbs M).length) : N < M := by
  rcases Nat.lt_or_ge N M with g | g
  · exact g
  · have h1 := lt_of_limbs_len (Nat.le_refl (limbs N).length)
    have := limbs_len_le (Nat.lt_of_le_of_lt g h1)
    omega
end Go.Proofs.Ytmjaoeafompclaa.Pl

namespace Go.Proofs.Ytmjaoeafompclaa
open Go.RowKit Go.Shelf

theorem natcast_val {N : Nat} : (N : Int) = (Pl.val (Pl.limbs N) : Nat) := by rw [Pl.val_limbs]
theorem cmp_lt' {a b : Nat} (h : a < b) : cmpI (a : Int) b = -1 := by unfold cmpI; rw [if_pos (by omega)]
theorem cmp_gt' {a b : Nat} (h : b < a) : cmpI (a : Int) b = 1 := by unfold cmpI; rw [if_neg (by omega), if_neg (by omega)]
theorem cmp_eq' {a b : Nat} (h : a = b) : cmpI (a : Int) b = 0 := by unfold cmpI; rw [if_neg (by omega), if_pos (by omega)]

set_option maxHeartbeats 2000000 in
theorem rcmp_len {w : World} {a b : Value} {N M d : Nat} (ha : SliceV w a N d) (hb : SliceV w b M d) (hd : d ≤ 1048576) (hne : (Pl.limbs N).length ≠ (Pl.limbs M).length) :
    Calls Try.prog 47 #[a, b] w fun e w' => e = .returned (.int .i64 (cmpI N M)) ∧ Below w.heap.size w w' := by
  have HA := Lib.hid ha
  have HB := Lib.hid hb
  obtain ⟨p, hp⟩ : ∃ p, (Pl.limbs N).length = p := ⟨_, rfl⟩
  obtain ⟨q, hq⟩ : ∃ q, (Pl.limbs M).length = q := ⟨_, rfl⟩
  rw [hp, hq] at hne
  have hpd : p ≤ d := by rw [← hp]; exact Pl.limbs_len_le ha.lt
  have hqd : q ≤ d := by rw [← hq]; exact Pl.limbs_len_le hb.lt
  have HP := Lib.hid hp
  have HQ := Lib.hid hq
  clear ha hb hp hq
  rcases Nat.lt_or_ge p q with g | g
  · have hn : ((p : Int) == (q : Int)) = false := by simp; omega
    have hr := Lib.hid (cmp_lt' (Pl.len_lt (N := N) (M := M) (by rw [HP.out, HQ.out]; exact g)))
    go_enter Try.func47, Try.ntmps47
    go_wp2_with fail
    (with_reducible refine (trim_v HA.out hd).mono ?_)
    rintro e w1 ⟨v1, rfl, ⟨A1, n1, c1, rfl, h1, h2, hl1⟩, hb1⟩
    obtain rfl : n1 = p := hl1.len.symm.trans HP.out
    go_wp2_with fail
    (with_reducible refine (trim_v (HB.out.below hb1) hd).mono ?_)
    rintro e w2 ⟨v2, rfl, ⟨A2, n2, c2, rfl, h3, h4, hl2⟩, hb2⟩
    obtain rfl : n2 = q := hl2.len.symm.trans HQ.out
    go_wp2
    go_ret
    exact ⟨retI hr.out.symm, hb1.trans (hb2.mono hb1.size)⟩
  · have hn : ((p : Int) == (q : Int)) = false := by simp; omega
    have hn2 : ¬ p < q := by omega
    have hr := Lib.hid (cmp_gt' (Pl.len_lt (N := M) (M := N) (by rw [HP.out, HQ.out]; omega)))
    go_enter Try.func47, Try.ntmps47
    go_wp2_with fail
    (with_reducible refine (trim_v HA.out hd).mono ?_)
    rintro e w1 ⟨v1, rfl, ⟨A1, n1, c1, rfl, h1, h2, hl1⟩, hb1⟩
    obtain rfl : n1 = p := hl1.len.symm.trans HP.out
    go_wp2_with fail
    (with_reducible refine (trim_v (HB.out.below hb1) hd).mono ?_)
    rintro e w2 ⟨v2, rfl, ⟨A2, n2, c2, rfl, h3, h4, hl2⟩, hb2⟩
    obtain rfl : n2 = q := hl2.len.symm.trans HQ.out
    go_wp2
    go_ret
    exact ⟨retI hr.out.symm, hb1.trans (hb2.mono hb1.size)⟩

set_option maxHeartbeats 4000000 in
theorem rcmp_same {w : World} {a b : Value} {N M d : Nat} (ha : SliceV w a N d) (hb : SliceV w b M d) (hd : d ≤ 1048576) (hne : (Pl.limbs N).length = (Pl.limbs M).length) :
    Calls Try.prog 47 #[a, b] w fun e w' => e = .returned (.int .i64 (cmpI N M)) ∧ Below w.heap.size w w' := by
  have HA := Lib.hid ha
  have HB := Lib.hid hb
  obtain ⟨p, hp⟩ : ∃ p, (Pl.limbs N).length = p := ⟨_, rfl⟩
  have hq := hne.symm.trans hp
  have hpd : p ≤ d := by rw [← hp]; exact Pl.limbs_len_le ha.lt
  have HP := Lib.hid hp
  have HQ := Lib.hid hq
  clear ha hb hp hq hne
  have hn : ((p : Int) == (p : Int)) = true := by simp
  go_enter Try.func47, Try.ntmps47
  go_wp2_with fail
  (with_reducible refine (trim_v HA.out hd).mono ?_)
  rintro e w1 ⟨v1, rfl, ⟨A1, n1, c1, rfl, h1, h2, hl1⟩, hb1⟩
  obtain rfl : n1 = p := hl1.len.symm.trans HP.out
  go_wp2_with fail
  (with_reducible refine (trim_v (HB.out.below hb1) hd).mono ?_)
  rintro e w2 ⟨v2, rfl, ⟨A2, n2, c2, rfl, h3, h4, hl2⟩, hb2⟩
  obtain rfl : n2 = n1 := hl2.len.symm.trans HQ.out
  have hBB := hb1.trans (hb2.mono hb1.size)
  have HL1 := Lib.hid (hl1.below hb2)
  have HL2 := Lib.hid hl2
  have HBB := Lib.hid hBB
  clear hl1 hl2 hb1 hb2 hBB
  go_wp2
  go_loopw [7] (fun iv wr => ∃ k m : Nat, iv = .int .i64 ((k : Int) - 1) ∧ k ≤ n2 ∧ (Pl.limbs N).drop k = (Pl.limbs M).drop k ∧ wr = w2.drewN m) (fun iv _ => (intOf iv + 1).toNat)
  case atStart => exact ⟨n2, 0, by go_num, Nat.le_refl _, by rw [List.drop_eq_nil_of_le (by rw [HP.out]; omega), List.drop_eq_nil_of_le (by rw [HQ.out]; omega)], rfl⟩
  case round =>
    obtain ⟨k, m, rfl, hk, hdr, rfl⟩ := hrel
    have HD := Lib.hid hdr
    clear hdr
    rcases Nat.eq_zero_or_pos k with h0 | h0
    · subst h0
      have hNM : N = M := by
        have := HD.out
        rw [List.drop_zero, List.drop_zero] at this
        rw [← Pl.val_limbs N, this, Pl.val_limbs]
      have HR := Lib.hid (cmp_eq' hNM)
      clear hNM
      go_wp2
      go_ret
      exact ⟨retI HR.out.symm, below_drewN HBB.out m⟩
    · obtain ⟨j, rfl⟩ : ∃ j, k = j + 1 := ⟨k - 1, by omega⟩
      obtain ⟨ad1, hA1, hadb1, hcell1⟩ := HL1.out.at_ (k := j) (by omega)
      obtain ⟨ad2, hA2, hadb2, hcell2⟩ := HL2.out.at_ (k := j) (by omega)
      subst hA1 hA2
      have hx := (Pl.fit_limbs N).get j
      have hy := (Pl.fit_limbs M).get j
      obtain ⟨x, hxe⟩ : ∃ x, (Pl.limbs N).getD j 0 = x := ⟨_, rfl⟩
      obtain ⟨y, hye⟩ : ∃ y, (Pl.limbs M).getD j 0 = y := ⟨_, rfl⟩
      rw [hxe] at hcell1 hx
      rw [hye] at hcell2 hy
      unfold Pl.B32 at hx hy
      have HX := Lib.hid hxe
      have HY := Lib.hid hye
      clear hxe hye
      rcases Nat.lt_trichotomy x y with g | g | g
      · have HR := Lib.hid (cmp_lt' (a := N) (b := M) (by
          have := Pl.cmp_top HP.out HQ.out (Pl.fit_limbs N) (by omega) HD.out HX.out HY.out g
          rwa [Pl.val_limbs, Pl.val_limbs] at this))
        go_wp2
        go_quiet (fail)
        go_wp2
        go_ret
        exact ⟨retI HR.out.symm, below_drewN (below_drewN HBB.out m) _⟩
      · subst g
        have hn1 : ¬ x < x := by omega
        go_wp2
        go_quiet (fail)
        go_wp2
        go_quiet (fail)
        go_wp2
        go_roundw
        case rel => exact ⟨j, _, by go_num, by omega, Pl.drop_eq HP.out HQ.out (by omega) HD.out HX.out HY.out, rfl⟩
        case measure => simp [intOf]
      · have HR := Lib.hid (cmp_gt' (a := N) (b := M) (by
          have := Pl.cmp_top HQ.out HP.out (Pl.fit_limbs M) (by omega) HD.out.symm HY.out HX.out g
          rwa [Pl.val_limbs, Pl.val_limbs] at this))
        have hn1 : ¬ x < y := by omega
        go_wp2
        go_quiet (fail)
        go_wp2
        go_quiet (fail)
        go_wp2
        go_ret
        exact ⟨retI HR.out.symm, below_drewN (below_drewN (below_drewN HBB.out m) _) _⟩
theorem rcmp_v {w : World} {a b : Value} {N M d : Nat} (ha : SliceV w a N d) (hb : SliceV w b M d) (hd : d ≤ 1048576) :
    Calls Try.prog 47 #[a, b] w fun e w' => e = .returned (.int .i64 (cmpI N M)) ∧ Below w.heap.size w w' := by
  by_cases h : (Pl.limbs N).length = (Pl.limbs M).length
  · exact rcmp_same ha hb hd h
  · exact rcmp_len ha hb hd h

theorem trim_ownF {w : World} {base : Nat} {e : TypeId} {v : Value} {k : Nat} {o : List Nat} (h : w.ownsRow base e 1 v k (o.map lv)) (hf : Pl.Fit o) (hk : k ≤ 1048576) : Calls Try.prog 73 #[v] w (RetNatF (Pl.val o) w) := by
  obtain ⟨A, c, rfl, h1, h2⟩ := own_slice h
  exact trim_fresh A k c o w (Lim.of_own h hf) h1 h2 hk
set_option maxRecDepth 100000 in
set_option maxHeartbeats 4000000 in
theorem plus_fresh {w : World} {a b : Value} {N M d : Nat} (ha : SliceV w a N d) (hb : SliceV w b M d) (hd : d ≤ 100000) : Calls Try.prog 87 #[a, b] w (RetNatF (N + M) w) := by
  obtain ⟨i0, hi0, hz0, hz1, hz2⟩ := info_parts u32_info
  obtain ⟨A1, n1, c1, l1, rfl, h1, h2, hl1, rfl, hd1⟩ := ha
  obtain ⟨A2, n2, c2, l2, rfl, h3, h4, hl2, rfl, hd2⟩ := hb
  have len1 := Lib.hid hl1.len
  have len2 := Lib.hid hl2.len
  have fit1 := Lib.hid hl1.fit
  have fit2 := Lib.hid hl2.fit
  have HL1 := Lib.hid hl1
  have HL2 := Lib.hid hl2
  clear hl1 hl2
  go_enter Try.func87, Try.ntmps87
  go_wp2
  go_loopw [5, 6, 7] (fun v cv iv wr => ∃ (k cc : Nat) (o : List Nat), iv = .int .i64 k ∧ cv = .int .u64 cc ∧ (k ≤ n1 ∨ k ≤ n2) ∧ Pl.PlusAt l1 l2 k o cc ∧ wr.ownsRow w.heap.size 77 1 v k (o.map lv) ∧ Below w.heap.size w wr) (fun _ _ iv _ => n1 + n2 - (intOf iv).toNat)
  case atStart => exact ⟨0, 0, [], rfl, rfl, .inl (Nat.zero_le _), Pl.PlusAt.start _ _, ⟨by simp, .inl ⟨rfl, rfl⟩⟩, Below.refl _ _⟩
  case round =>
    obtain ⟨k, cc, o, rfl, rfl, hk, hat, hown, hB⟩ := hrel
    have hcc := hat.le
    have hBs := hB.size
    have HA := Lib.hid hat
    have HB := Lib.hid hB
    clear hat hB
    by_cases hlt : k < n1 ∨ k < n2
    · have L1 := Lib.hid (HL1.out.below HB.out)
      have L2 := Lib.hid (HL2.out.below HB.out)
      have hx := fit1.out.get k
      have hy := fit2.out.get k
      obtain ⟨x, hxe⟩ : ∃ x, l1.getD k 0 = x := ⟨_, rfl⟩
      obtain ⟨y, hye⟩ : ∃ y, l2.getD k 0 = y := ⟨_, rfl⟩
      rw [hxe] at hx
      rw [hye] at hy
      unfold Pl.B32 at hx hy
      have HX := Lib.hid hxe
      have HY := Lib.hid hye
      clear hxe hye
      have HS := Lib.hid (HA.out.step HX.out HY.out hx hy)
      by_cases hlt1 : k < n1
      all_goals try have hlt2 : k < n2 := by omega
      all_goals
        go_wp2_with fail
        (with_reducible refine (limb_any A1 n1 c1 k l1 _ L1.out (by omega)).mono ?_)
        rw [HX.out]
        rintro e w3 ⟨rfl, rfl⟩
        go_wp2_with fail
        (with_reducible refine (limb_any A2 n2 c2 k l2 _ L2.out (by omega)).mono ?_)
        rw [HY.out]
        rintro e w3 ⟨rfl, rfl⟩
        go_wp2_with (at_builtin; refine wpList_append_any _ rfl (.tmp 30) (.tmp 34) _ rfl w.heap.size 77 i0 _ 1 4 Try.underlying45 hi0 hz0 hz1 hz2 rfl (by omega) _ k (o.map lv) rfl (hown.alloc _) (wr.heap.size + 1) (some ⟨wr.heap.size, 0, none⟩) 1 1 [lv ((x + y + cc) % 4294967296)] rfl (reads_new' (by omega)) (by simp [lv, Value.oneCell']) (by unfold maxLen; omega) (by omega) (by simp; omega) ?_; intro v1 w1 hown1 hg1 hat1)
        exact ⟨⟨k + 1, _, _, by go_num, by go_num, by omega, HS.out, own_snoc hown1, below_row HB.out hBs hg1 rfl (own_base hown)⟩, by simp [intOf]; omega⟩
    · obtain ⟨d1, d2, d3⟩ := HA.out.done (show l1.length ≤ k by have := len1.out; omega) (show l2.length ≤ k by have := len2.out; omega)
      have D1 := Lib.hid d1
      have hq1 : ¬ k < n1 := by omega
      have hq2 : ¬ k < n2 := by omega
      clear d1 d3 hlt
      go_wp2_with (first | (at_builtin; refine wpList_append_any _ rfl (.tmp 38) (.tmp 41) _ rfl w.heap.size 77 i0 _ 1 4 Try.underlying45 hi0 hz0 hz1 hz2 rfl (by omega) _ k (o.map lv) rfl (hown.alloc _) (wr.heap.size + 1) (some ⟨wr.heap.size, 0, none⟩) 1 1 [lv cc] rfl (reads_new' (by omega)) (by simp [lv, Value.oneCell']) (by unfold maxLen; omega) (by omega) (by simp; omega) ?_; intro v1 w1 hown1 hg1 hat1; have hB1 := below_row HB.out hBs hg1 rfl (own_base hown)) | (go_at_call 73; refine (trim_ownF (own_snoc hown1) d2 (by omega)).mono ?_; rw [D1.out]; rintro e w2 ⟨v2, rfl, hv2, hb2, hf2⟩))
      go_ret
      exact ⟨v2, rfl, hv2, hB1.trans (hb2.mono hB1.size), hf2.mono hB1.size⟩

theorem plus_v {w : World} {a b : Value} {N M d : Nat} (ha : SliceV w a N d) (hb : SliceV w b M d) (hd : d ≤ 100000) : Calls Try.prog 87 #[a, b] w (RetNat (N + M) w) :=
  (plus_fresh ha hb hd).mono fun _ _ ⟨v, he, hv, hb, _⟩ => ⟨v, he, hv, hb⟩

set_option maxRecDepth 100000 in
set_option maxHeartbeats 4000000 in
theorem less_fresh {w : World} {a b : Value} {N M d : Nat} (ha : SliceV w a N d) (hb : SliceV w b M d) (hd : d ≤ 100000) (hMN : M ≤ N) : Calls Try.prog 72 #[a, b] w (RetNatF (N - M) w) := by
  obtain ⟨i0, hi0, hz0, hz1, hz2⟩ := info_parts u32_info
  obtain ⟨A1, n1, c1, l1, rfl, h1, h2, hl1, rfl, hd1⟩ := ha
  obtain ⟨A2, n2, c2, l2, rfl, h3, h4, hl2, rfl, hd2⟩ := hb
  have len1 := Lib.hid hl1.len
  have fit1 := Lib.hid hl1.fit
  have fit2 := Lib.hid hl2.fit
  have HL1 := Lib.hid hl1
  have HL2 := Lib.hid hl2
  have HMN := Lib.hid hMN
  clear hl1 hl2 hMN
  go_enter Try.func72, Try.ntmps72
  go_wp2
  go_loopw [5, 6, 7] (fun v cv iv wr => ∃ (k cc : Nat) (o : List Nat), iv = .int .i64 k ∧ cv = .int .u64 cc ∧ k ≤ n1 ∧ Pl.LessAt l1 l2 k o cc ∧ wr.ownsRow w.heap.size 77 1 v k (o.map lv) ∧ Below w.heap.size w wr) (fun _ _ iv _ => n1 - (intOf iv).toNat)
  case atStart => exact ⟨0, 0, [], rfl, rfl, Nat.zero_le _, Pl.LessAt.start _ _, ⟨by simp, .inl ⟨rfl, rfl⟩⟩, Below.refl _ _⟩
  case round =>
    obtain ⟨k, cc, o, rfl, rfl, hk, hat, hown, hB⟩ := hrel
    have hcc := hat.le
    have hBs := hB.size
    have HA := Lib.hid hat
    have HB := Lib.hid hB
    clear hat hB
    by_cases hlt : k < n1
    · have L1 := Lib.hid (HL1.out.below HB.out)
      have L2 := Lib.hid (HL2.out.below HB.out)
      have hx := fit1.out.get k
      have hy := fit2.out.get k
      obtain ⟨x, hxe⟩ : ∃ x, l1.getD k 0 = x := ⟨_, rfl⟩
      obtain ⟨y, hye⟩ : ∃ y, l2.getD k 0 = y := ⟨_, rfl⟩
      rw [hxe] at hx
      rw [hye] at hy
      unfold Pl.B32 at hx hy
      have HX := Lib.hid hxe
      have HY := Lib.hid hye
      clear hxe hye
      by_cases hxy : x < y + cc
      · have HS := Lib.hid (HA.out.yes HX.out HY.out hx hy hxy)
        have hxy' : (x : Int) < (y : Int) + (cc : Int) := by omega
        go_wp2_with fail
        (with_reducible refine (limb_any A1 n1 c1 k l1 _ L1.out (by omega)).mono ?_)
        rw [HX.out]
        rintro e w3 ⟨rfl, rfl⟩
        go_wp2_with fail
        (with_reducible refine (limb_any A2 n2 c2 k l2 _ L2.out (by omega)).mono ?_)
        rw [HY.out]
        rintro e w3 ⟨rfl, rfl⟩
        go_wp2_with (at_builtin; refine wpList_append_any _ rfl (.tmp 29) (.tmp 34) _ rfl w.heap.size 77 i0 _ 1 4 Try.underlying45 hi0 hz0 hz1 hz2 rfl (by omega) _ k (o.map lv) rfl (hown.alloc _) (wr.heap.size + 1) (some ⟨wr.heap.size, 0, none⟩) 1 1 [lv (x + 4294967296 - (y + cc))] rfl (reads_new' (by omega)) (by simp [lv, Value.oneCell']) (by unfold maxLen; omega) (by omega) (by simp; omega) ?_; intro v1 w1 hown1 hg1 hat1)
        exact ⟨⟨k + 1, 1, _, by go_num, rfl, by omega, HS.out, own_snoc hown1, below_row HB.out hBs hg1 rfl (own_base hown)⟩, by simp [intOf]; omega⟩
      · have HS := Lib.hid (HA.out.no HX.out HY.out hx hxy)
        have hxy' : ¬ (x : Int) < (y : Int) + (cc : Int) := by omega
        have hxy2 : (y : Int) + (cc : Int) ≤ (x : Int) := by omega
        clear hxy
        go_wp2_with fail
        (with_reducible refine (limb_any A1 n1 c1 k l1 _ L1.out (by omega)).mono ?_)
        rw [HX.out]
        rintro e w3 ⟨rfl, rfl⟩
        go_wp2_with fail
        (with_reducible refine (limb_any A2 n2 c2 k l2 _ L2.out (by omega)).mono ?_)
        rw [HY.out]
        rintro e w3 ⟨rfl, rfl⟩
        go_wp2_with (at_builtin; refine wpList_append_any _ rfl (.tmp 29) (.tmp 34) _ rfl w.heap.size 77 i0 _ 1 4 Try.underlying45 hi0 hz0 hz1 hz2 rfl (by omega) _ k (o.map lv) rfl (hown.alloc _) (wr.heap.size + 1) (some ⟨wr.heap.size, 0, none⟩) 1 1 [lv (x - (y + cc))] rfl (reads_new' (by omega)) (by simp [lv, Value.oneCell']) (by unfold maxLen; omega) (by omega) (by simp; omega) ?_; intro v1 w1 hown1 hg1 hat1)
        exact ⟨⟨k + 1, 0, _, by go_num, rfl, by omega, HS.out, own_snoc hown1, below_row HB.out hBs hg1 rfl (own_base hown)⟩, by simp [intOf]; omega⟩
    · have D1 := Lib.hid (HA.out.done (show k = l1.length by have := len1.out; omega) fit1.out HMN.out)
      have D2 := HA.out.fit
      go_wp2_with (go_at_call 73; refine (trim_ownF hown D2 (by omega)).mono ?_; rw [D1.out]; rintro e w2 ⟨v2, rfl, hv2, hb2, hf2⟩)
      go_ret
      exact ⟨v2, rfl, hv2, HB.out.trans (hb2.mono hBs), hf2.mono hBs⟩
theorem less_v {w : World} {a b : Value} {N M d : Nat} (ha : SliceV w a N d) (hb : SliceV w b M d) (hd : d ≤ 100000) (hMN : M ≤ N) : Calls Try.prog 72 #[a, b] w (RetNat (N - M) w) :=
  (less_fresh ha hb hd hMN).mono fun _ _ ⟨v, he, hv, hb, _⟩ => ⟨v, he, hv, hb⟩
end Go.Proofs.Ytmjaoeafompclaa

namespace Go.Proofs.Ytmjaoeafompclaa
open Go.RowKit Go.Shelf

/-- Block g holds the limbs o. -/
def Blk (w : World) (g : Nat) (o : List Nat) : Prop := w.heap[g]? = some (.cells (o.map lv).toArray 77 (0, 0))
section
variable {w w' : World} {g : Nat} {o : List Nat}
theorem Blk.lt (h : Blk w g o) : g < w.heap.size := by
  unfold Blk at h
  rcases Nat.lt_or_ge g w.heap.size with k | k
  · exact k
  · rw [Array.getElem?_eq_none k] at h; cases h
theorem Blk.cell (h : Blk w g o) {j : Nat} (hj : j < o.length) : w.cell? ⟨g, j, none⟩ = some (.int .u32 ((o.getD j 0 : Nat) : Int)) := by
  unfold Blk at h
  unfold World.cell?
  rw [h]
  simp [List.getD_eq_getElem?_getD, List.getElem?_eq_getElem hj, lv]
theorem Blk.free (h : Blk w g o) (j : Nat) : w.frozen? ⟨g, j, none⟩ = false := frozen_of_row w g j _ _ h
theorem Blk.set (h : Blk w g o) (j : Nat) {z : Int} {x : Nat} (hz : z = x) : Blk (w.setCell ⟨g, j, none⟩ (.int .u32 z)) g (o.set j x) := by
  subst hz
  unfold Blk
  rw [heap_setCell_same w g j _ _ _ h]
  congr 2
  simp [List.map_set, lv]
theorem Blk.drewN (h : Blk w g o) (n : Nat) : Blk (w.drewN n) g o := h
theorem Blk.below (h : Blk w g o) (hb : Below w.heap.size w w') : Blk w' g o := (hb.block g h.lt).trans h
theorem Blk.own (h : Blk w g o) {base n : Nat} (hb : base ≤ g) (hk : o.length = n) (hm : n ≤ maxLen) : w.ownsRow base 77 1 (.slice (some ⟨g, 0, none⟩) n n) n (o.map lv) :=
  ⟨by rw [List.length_map]; omega, .inr ⟨g, n, (o.map lv).toArray, rfl, hb, h, Nat.le_refl _, hm, by simp [hk], by rw [← hk, Nat.mul_one, List.take_of_length_le (by simp)]⟩⟩
theorem Blk.slice (h : Blk w g o) {n : Nat} (hk : o.length = n) (hm : n ≤ maxLen) (hf : Pl.Fit o) : SliceV w (.slice (some ⟨g, 0, none⟩) n n) (Pl.val o) n := SliceV.of_own (h.own (Nat.le_refl _) hk hm) hf
theorem Blk.of_own {base n : Nat} {xs : List Nat} (h : w.ownsRow base 77 1 (.slice (some ⟨g, 0, none⟩) n n) n (xs.map lv)) : Blk w g xs := by
  rcases h.2 with ⟨h0, _⟩ | ⟨g', cap, cur, h1, h2, h3, h4, h5, h6, h7⟩
  · cases h0
  · injection h1 with h1 _ hcap
    injection h1 with h1
    injection h1 with h1
    subst h1
    subst hcap
    unfold Blk
    have : cur = (xs.map lv).toArray := by
      rw [← h7, Nat.mul_one, List.take_of_length_le (by rw [Array.length_toList]; omega)]
    rw [← this]
    exact h3
end

set_option maxRecDepth 100000 in
set_option maxHeartbeats 8000000 in
theorem times1_v {w : World} {a b : Value} {N M d : Nat} (ha : SliceV w a N d) (hb : SliceV w b M d) (hd : d ≤ 100000) : Calls Try.prog 48 #[a, b] w (RetNat (N * M) w) := by
  obtain ⟨i0, hi0, hz0, hz1, hz2⟩ := info_parts u32_info
  obtain ⟨A1, n1, c1, l1, rfl, h1, h2, hl1, rfl, hd1⟩ := ha
  obtain ⟨A2, n2, c2, l2, rfl, h3, h4, hl2, rfl, hd2⟩ := hb
  have len1 := Lib.hid hl1.len
  have len2 := Lib.hid hl2.len
  have fit1 := Lib.hid hl1.fit
  have fit2 := Lib.hid hl2.fit
  have HL1 := Lib.hid hl1
  have HL2 := Lib.hid hl2
  clear hl1 hl2
  go_enter Try.func48, Try.ntmps48
  go_wp2_with (at_make; refine wpList_make_full _ rfl _ _ _ rfl w.heap.size 77 i0 _ 1 Try.underlying45 hi0 hz0 hz1 .i64 .i64 _ _ (n1 + n2 + 1) rfl rfl rfl rfl (by rw [hz2]; omega) (by unfold maxLen; omega) (Nat.le_refl _) ?_; intro w1 hown1 hg1; rw [made_zero] at hown1; have hB1 := (Below.refl w.heap.size w).grown hg1 (Nat.le_refl _) (by simp))
  have HB1 := Lib.hid hB1
  have BK := Lib.hid (Blk.of_own hown1)
  clear hown1 hg1 hB1
  go_loopg [6] n1 (fun g iv wr => ∃ (i : Nat) (o : List Nat), i ≤ n1 ∧ g = n1 - i ∧ iv = .int .i64 i ∧ Pl.MulOut l1 l2 i o ∧ Blk wr w.heap.size o ∧ Below w.heap.size w wr)
  case atStart => exact ⟨0, _, Nat.zero_le _, rfl, rfl, (by have := Pl.MulOut.start l1 l2; rw [len1.out, len2.out] at this; exact this), BK.out, HB1.out⟩
  case round =>
    obtain ⟨i, o, hi, rfl, rfl, hat, hbk, hB⟩ := hrel
    have HA := Lib.hid hat
    have HK := Lib.hid hbk
    have HB := Lib.hid hB
    clear hat hbk hB BK HB1
    by_cases hlt : i < n1
    · go_wp2
      go_loopg [7, 8] n2 (fun g cv kv wr => ∃ (k c : Nat) (o : List Nat), k ≤ n2 ∧ g = n2 - k ∧ kv = .int .i64 k ∧ cv = .int .u64 c ∧ Pl.MulIn l1 l2 i k o c ∧ Blk wr w.heap.size o ∧ Below w.heap.size w wr)
      case atStart => exact ⟨0, 0, o, Nat.zero_le _, rfl, rfl, rfl, HA.out.inn, HK.out, HB.out⟩
      case round =>
        obtain ⟨k, c, o2, hk, rfl, rfl, rfl, hat2, hbk2, hB2⟩ := hrel
        have hc := hat2.car
        unfold Pl.B32 at hc
        have HA2 := Lib.hid hat2
        have HK2 := Lib.hid hbk2
        have HB2 := Lib.hid hB2
        clear hat2 hbk2 hB2
        by_cases hlt2 : k < n2
        · obtain ⟨ad1, hA1, hadb1, hcell1⟩ := (HL1.out.below HB2.out).at_ hlt
          obtain ⟨ad2, hA2, hadb2, hcell2⟩ := (HL2.out.below HB2.out).at_ hlt2
          subst hA1 hA2
          obtain ⟨p, hp⟩ : ∃ p, i + k = p := ⟨_, rfl⟩
          have hpl : p < o2.length := by have := HA2.out.len; have := len1.out; have := len2.out; omega
          have hcell3 := HK2.out.cell hpl
          have hfz := HK2.out.free p
          have hx := fit1.out.get i
          have hy := fit2.out.get k
          have hz := HA2.out.fit.get p
          obtain ⟨x, hxe⟩ : ∃ x, l1.getD i 0 = x := ⟨_, rfl⟩
          obtain ⟨y, hye⟩ : ∃ y, l2.getD k 0 = y := ⟨_, rfl⟩
          obtain ⟨z, hze⟩ : ∃ z, o2.getD p 0 = z := ⟨_, rfl⟩
          rw [hxe] at hcell1 hx
          rw [hye] at hcell2 hy
          rw [hze] at hcell3 hz
          unfold Pl.B32 at hx hy hz
          have HS := HA2.out.step hxe hye (show o2.getD (i + k) 0 = z by rw [hp]; exact hze) hx hy (by rw [len1.out]; exact hlt) (by rw [len2.out]; exact hlt2)
          rw [hp] at HS
          obtain ⟨t, ht⟩ : ∃ t, x * y = t := ⟨_, rfl⟩
          have htb : t ≤ 4294967295 * 4294967295 := by rw [← ht]; exact Nat.mul_le_mul (by omega) (by omega)
          rw [ht] at HS
          have HT := HS
          obtain ⟨s, hs⟩ : ∃ s, t + z + c = s := ⟨_, rfl⟩
          rw [hs] at HT
          have HSS := Lib.hid HT
          have q1 : (x : Int) * (y : Int) = (t : Int) := by rw [← ht]; simp
          have q2 : (t : Int) + (z : Int) + (c : Int) = (s : Int) := by omega
          have q3 : IntKind.u64.wrap ((t : Int) + (z : Int)) = (t : Int) + (z : Int) := wraps_u64 _ (by omega) (by omega)
          have q4 : IntKind.u64.wrap (s : Int) = (s : Int) := wraps_u64 _ (by omega) (by omega)
          have q5 : IntKind.u64.wrap (t : Int) = (t : Int) := wraps_u64 _ (by omega) (by omega)
          have q6 : (i : Int) + (k : Int) = (p : Int) := by omega
          have q7 : IntKind.i64.wrap (p : Int) = (p : Int) := by rw [IntKind.wrap_i64]; omega
          have hsb : s < 18446744073709551616 := by omega
          clear HS HT hxe hye hze hs ht htb hp
          go_wp2
          go_quiet (fail)
          go_wp2
          go_roundg (n2 - (k + 1))
          case measure => go_light; omega
          case rel => go_light; exact ⟨k + 1, s / 4294967296, _, by omega, rfl, by go_num, by go_num, HSS.out, (HK2.out.drewN _).set p (by omega), (below_drewN HB2.out _).setCell (Nat.le_refl _) _⟩
        · obtain rfl : k = n2 := by omega
          obtain ⟨p, hp⟩ : ∃ p, i + k = p := ⟨_, rfl⟩
          have hpl : p < o2.length := by have := HA2.out.len; have := len1.out; have := len2.out; omega
          have hcell3 := HK2.out.cell hpl
          have hfz := HK2.out.free p
          have q6 : (i : Int) + (k : Int) = (p : Int) := by omega
          have HS := HA2.out
          rw [← len2.out] at HS
          have HT := HS.out (by rw [len1.out]; exact hlt)
          rw [len2.out, hp] at HT
          have HSS := Lib.hid HT
          clear HS HT hp
          go_wp2
          go_roundg (n1 - (i + 1))
          case measure => go_light; omega
          case rel => go_light; exact ⟨i + 1, _, by omega, rfl, by go_num, HSS.out, HK2.out.set p (by omega), HB2.out.setCell (Nat.le_refl _) _⟩
    · have hln := HA.out.len
      rw [len1.out, len2.out] at hln
      have HV := Lib.hid (HA.out.done (show l1.length ≤ i by rw [len1.out]; omega))
      have HSL := Lib.hid (HK.out.slice hln (by unfold maxLen; omega) HA.out.fit)
      clear hln
      go_wp2_with (go_at_call 73; refine (trim_v HSL.out (by omega)).mono ?_; rw [HV.out]; rintro e w2 ⟨v2, rfl, hv2, hb2⟩)
      go_ret
      exact ⟨v2, rfl, hv2, HB.out.trans (hb2.mono HB.out.size)⟩
end Go.Proofs.Ytmjaoeafompclaa
