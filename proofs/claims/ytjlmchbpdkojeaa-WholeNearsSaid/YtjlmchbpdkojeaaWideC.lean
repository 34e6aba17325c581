/-
  More walks of package wide: what is dropped.
-/
import Derived.Test.YtjlmchbpdkojeaaWideB
namespace Go.Proofs.Ytjlmchbpdkojeaa
open Go.RowKit Go.Shelf

/-! ### Drop, Shr -/
def bit192 : Int := 6277101735386680763835789423207666416102355444464034512896
def num3 (h m l : Int) : Int := num (num h m) l
theorem drop_step (h m l : Int) (k : Nat) (l0 : 0 ≤ l) (l1 : l < 18446744073709551616) : num3 0 h m / 2 ^ k = num3 h m l / 2 ^ (k + 64) := by
  have e : (2 : Int) ^ (k + 64) = 18446744073709551616 * 2 ^ k := by rw [Int.pow_add, Int.mul_comm]; rfl
  rw [e, ← Int.ediv_ediv_of_nonneg (by decide)]
  congr 1
  unfold num3 num; omega

/-- Behind some rounds: j places are still to go; a, b, c is what is left, t whether anything was. -/
structure DropAt (h m l : Int) (k j : Nat) (a b c : Int) (t : Bool) : Prop where
  le : j ≤ k
  wa : Wd a
  wb : Wd b
  wc : Wd c
  val : num3 a b c = num3 h m l / 2 ^ (k - j)
  lost : t = decide (0 < num3 h m l % 2 ^ (k - j))
theorem DropAt.small {h m l : Int} {k j : Nat} {a b c : Int} {t : Bool} (d : DropAt h m l k j a b c t) : j ≤ k ∧ 0 ≤ a ∧ 0 ≤ b ∧ 0 ≤ c := ⟨d.le, d.wa.1, d.wb.1, d.wc.1⟩
theorem dropAt_start {h m l : Int} {k : Nat} (hh : Wd h) (hm : Wd m) (hl : Wd l) : DropAt h m l k k h m l false := ⟨Nat.le_refl _, hh, hm, hl, by simp, by simp⟩

theorem num3_ge {h m l : Int} (hh : Wd h) (hm : Wd m) (hl : Wd l) : 0 ≤ num3 h m l := by
  obtain ⟨a, _⟩ := hh; obtain ⟨b, _⟩ := hm; obtain ⟨c, _⟩ := hl
  unfold num3 num; omega
theorem pow_pos' (n : Nat) : (0 : Int) < 2 ^ n := Int.pow_pos (by decide)
theorem DropAt.step {h m l : Int} {k j : Nat} {a b c : Int} {t : Bool} (d : DropAt h m l k j a b c t) (hj : 64 ≤ j) : DropAt h m l k (j - 64) 0 a b (t || decide (0 < c)) := by
  obtain ⟨le, wa, wb, wc, val, lost⟩ := d
  have e : k - (j - 64) = (k - j) + 64 := by omega
  have e2 : (2 : Int) ^ (k - j + 64) = 2 ^ (k - j) * 18446744073709551616 := by rw [Int.pow_add]; rfl
  have hP := pow_pos' (k - j)
  obtain ⟨c0, c1⟩ := wc
  refine ⟨by omega, ⟨by decide, by decide⟩, wa, wb, ?_, ?_⟩
  · rw [e, e2, ← Int.ediv_ediv_of_nonneg (Int.le_of_lt hP), ← val]
    unfold num3 num; omega
  · rw [e, e2, lost]
    generalize num3 h m l = A at *
    generalize (2 : Int) ^ (k - j) = P at *
    have hm1 : A % (P * 18446744073709551616) = P * ((A / P) % 18446744073709551616) + A % P := by
      have h1 := Int.emod_add_mul_ediv A (P * 18446744073709551616)
      have h2 := Int.emod_add_mul_ediv A P
      have h3 := Int.emod_add_mul_ediv (A / P) 18446744073709551616
      rw [Int.ediv_ediv_of_nonneg (Int.le_of_lt hP)] at h3
      generalize A / (P * 18446744073709551616) = X at *
      generalize A / P = Y at *
      generalize A % P = R at *
      generalize Y % 18446744073709551616 = S at *
      generalize A % (P * 18446744073709551616) = T at *
      subst h3
      grind
    have hc : (A / P) % 18446744073709551616 = c := by rw [← val]; unfold num3 num; omega
    have hr := Int.emod_nonneg A (Int.ne_of_gt hP)
    rw [hm1, hc]
    by_cases h0 : 0 < A % P
    · have := Int.mul_nonneg (Int.le_of_lt hP) c0
      simp [h0]; omega
    · have h1 : A % P = 0 := by omega
      rw [h1]
      by_cases h2 : 0 < c
      · have := Int.mul_pos hP h2
        simp [h2]; omega
      · have h3 : c = 0 := by omega
        subst h3; simp
theorem DropAt.zero {h m l : Int} {k j : Nat} {t : Bool} (d : DropAt h m l k j 0 0 0 t) (hA : 0 ≤ num3 h m l) : (0 = hiOf (hiOf (num3 h m l / 2 ^ k)) ∧ 0 = loOf (hiOf (num3 h m l / 2 ^ k)) ∧ 0 = loOf (num3 h m l / 2 ^ k)) ∧ t = decide (0 < num3 h m l % 2 ^ k) := by
  obtain ⟨le, _, _, _, val, lost⟩ := d
  rw [lost]
  have hP := pow_pos' (k - j)
  have hQ := pow_pos' j
  have e2 : (2 : Int) ^ k = 2 ^ (k - j) * 2 ^ j := by rw [← Int.pow_add]; congr 1; omega
  generalize num3 h m l = A at *
  have hv : A / 2 ^ (k - j) = 0 := by rw [← val]; rfl
  have hlt : A < 2 ^ (k - j) := by
    have := Int.lt_ediv_add_one_mul_self A hP
    rw [hv] at this; omega
  have hle : (2 : Int) ^ (k - j) ≤ 2 ^ k := by
    rw [e2]
    have := Int.mul_le_mul_of_nonneg_left (show (1 : Int) ≤ 2 ^ j by omega) (Int.le_of_lt hP)
    omega
  rw [Int.ediv_eq_zero_of_lt hA (by omega), Int.emod_eq_of_lt hA hlt, Int.emod_eq_of_lt hA (by omega)]
  exact ⟨⟨rfl, rfl, rfl⟩, rfl⟩

theorem shr_int (x l : Int) (j : Nat) (hj : j ≤ 64) (hx : 0 ≤ x) (hl : 0 ≤ l) : num x l / 2 ^ j = num (x / 2 ^ j) ((x * 2 ^ (64 - j)) % 18446744073709551616 + l / 2 ^ j) := by
  obtain ⟨x, rfl⟩ := Int.eq_ofNat_of_zero_le hx
  obtain ⟨l, rfl⟩ := Int.eq_ofNat_of_zero_le hl
  have := Pl.shr_nat x l (2 ^ j) (2 ^ (64 - j)) (Nat.two_pow_pos _)
  unfold num
  rw [bit64_nat j hj]
  have e := congrArg (fun n : Nat => (n : Int)) this
  simp only [Int.natCast_add, Int.natCast_ediv, Int.natCast_emod, Int.natCast_mul, Int.natCast_pow] at e ⊢
  exact e
theorem or_down (a b : Int) (j : Nat) (hj : j ≤ 64) (ha : Wd a) (hb : Wd b) : bits .or .u64 (b / 2 ^ j) (IntKind.u64.wrap (a * 2 ^ (64 - j))) = (a * 2 ^ (64 - j)) % 18446744073709551616 + b / 2 ^ j := by
  have e : 64 - (64 - j) = j := by omega
  have := or_shift a b (64 - j) (by omega) ha hb
  rw [e] at this
  rw [bits_or_comm, this]
theorem mul_low (a b : Int) (q : Int) : (num a b * q) % 18446744073709551616 = (b * q) % 18446744073709551616 := by
  have e : num a b * q = b * q + 18446744073709551616 * (a * q) := by unfold num; grind
  rw [e, Int.add_mul_emod_self_left]
theorem DropAt.last {h m l : Int} {k j : Nat} {a b c : Int} {t : Bool} (d : DropAt h m l k j a b c t) (hj : j < 64) :
    a / 2 ^ j = hiOf (hiOf (num3 h m l / 2 ^ k)) ∧ bits .or .u64 (b / 2 ^ j) (IntKind.u64.wrap (a * 2 ^ (64 - j))) = loOf (hiOf (num3 h m l / 2 ^ k)) ∧
      bits .or .u64 (c / 2 ^ j) (IntKind.u64.wrap (b * 2 ^ (64 - j))) = loOf (num3 h m l / 2 ^ k) := by
  obtain ⟨le, wa, wb, wc, val, _⟩ := d
  have hP := pow_pos' (k - j)
  have e2 : (2 : Int) ^ k = 2 ^ (k - j) * 2 ^ j := by rw [← Int.pow_add]; congr 1; omega
  have hab : 0 ≤ num a b := by
    have := wa.1; have := wb.1; unfold num; omega
  have m1 := bits_lo_u64 .or (b / 2 ^ j) (IntKind.u64.wrap (a * 2 ^ (64 - j)))
  have m2 := bits_hi_u64 .or (b / 2 ^ j) (IntKind.u64.wrap (a * 2 ^ (64 - j)))
  have m3 := bits_lo_u64 .or (c / 2 ^ j) (IntKind.u64.wrap (b * 2 ^ (64 - j)))
  have m4 := bits_hi_u64 .or (c / 2 ^ j) (IntKind.u64.wrap (b * 2 ^ (64 - j)))
  rw [or_down a b j (by omega) wa wb] at m1 m2 ⊢
  rw [or_down b c j (by omega) wb wc] at m3 m4 ⊢
  rw [e2, ← Int.ediv_ediv_of_nonneg (Int.le_of_lt hP), ← val]
  unfold num3
  rw [shr_int _ c j (by omega) hab wc.1, shr_int a b j (by omega) wa.1 wb.1, mul_low]
  rw [hi_num m3 (by omega), lo_num m3 (by omega), hi_num m1 (by omega), lo_num m1 (by omega)]
  exact ⟨rfl, rfl, rfl⟩
theorem wrap_mask (j : Nat) (hj : j < 64) : IntKind.u64.wrap (IntKind.u64.wrap (2 ^ j) - 1) = 2 ^ j - 1 := by
  have hP := pow_pos' j
  have hle : (2 : Int) ^ j < 18446744073709551616 := by
    have := Nat.pow_lt_pow_right (a := 2) (by omega) hj
    have e : ((2 ^ j : Nat) : Int) < ((2 ^ 64 : Nat) : Int) := by omega
    simpa using e
  rw [IntKind.wrap_u64, IntKind.wrap_u64]
  omega
theorem DropAt.lost_last {h m l : Int} {k j : Nat} {a b c : Int} {t : Bool} (d : DropAt h m l k j a b c t) (hj : j < 64) :
    (t || decide (0 < bits .and .u64 c (IntKind.u64.wrap (IntKind.u64.wrap (2 ^ j) - 1)))) = decide (0 < num3 h m l % 2 ^ k) := by
  obtain ⟨le, wa, wb, wc, val, lost⟩ := d
  rw [wrap_mask j hj, and_pow c j (by omega) wc.1 wc.2, lost]
  have hP := pow_pos' (k - j)
  have hQ := pow_pos' j
  have e2 : (2 : Int) ^ k = 2 ^ (k - j) * 2 ^ j := by rw [← Int.pow_add]; congr 1; omega
  have hlow : (num3 h m l / 2 ^ (k - j)) % 2 ^ j = c % 2 ^ j := by
    rw [← val]
    unfold num3 num
    have e : (18446744073709551616 : Int) = 2 ^ j * 2 ^ (64 - j) := (p2_split (by omega)).symm
    rw [e]
    have e3 : (a * (2 ^ j * 2 ^ (64 - j)) + b) * (2 ^ j * 2 ^ (64 - j)) + c = c + 2 ^ j * ((a * (2 ^ j * 2 ^ (64 - j)) + b) * 2 ^ (64 - j)) := by grind
    rw [e3, Int.add_mul_emod_self_left]
  rw [e2, ← hlow]
  generalize num3 h m l = A at *
  generalize (2 : Int) ^ (k - j) = P at *
  generalize (2 : Int) ^ j = Q at *
  have hm1 : A % (P * Q) = P * ((A / P) % Q) + A % P := by
    have h1 := Int.emod_add_mul_ediv A (P * Q)
    have h2 := Int.emod_add_mul_ediv A P
    have h3 := Int.emod_add_mul_ediv (A / P) Q
    rw [Int.ediv_ediv_of_nonneg (Int.le_of_lt hP)] at h3
    generalize A / (P * Q) = X at *
    generalize A / P = Y at *
    generalize A % P = R at *
    generalize Y % Q = S at *
    generalize A % (P * Q) = T at *
    subst h3
    grind
  have c0 := Int.emod_nonneg (A / P) (Int.ne_of_gt hQ)
  have hr := Int.emod_nonneg A (Int.ne_of_gt hP)
  rw [hm1]
  generalize (A / P) % Q = c' at *
  by_cases h0 : 0 < A % P
  · have := Int.mul_nonneg (Int.le_of_lt hP) c0
    simp [h0]; omega
  · have h1 : A % P = 0 := by omega
    rw [h1]
    by_cases h2 : 0 < c'
    · have := Int.mul_pos hP h2
      simp [h2]; omega
    · have h3 : c' = 0 := by omega
      subst h3; simp
theorem below_drewN {B : Nat} {a w : World} (h : Below B a w) (n : Nat) : Below B a (w.drewN n) := ⟨h.os, h.tape, h.output, h.size, h.block⟩
theorem wrap0 : IntKind.u64.wrap 0 = 0 := by rw [IntKind.wrap_u64]; rfl

set_option maxHeartbeats 1000000 in
theorem drop_any (h m l n : Int) (w : World) (hh : Wd h) (hm : Wd m) (hl : Wd l) (n1 : n < 9223372036854775808) :
    Calls Try.prog 73 #[.agg #[.int .u64 h, .int .u64 m, .int .u64 l], .int .i64 n] w fun e w' =>
      e = .returned (.tuple #[.agg #[.int .u64 (hiOf (hiOf (num3 h m l / 2 ^ n.toNat))), .int .u64 (loOf (hiOf (num3 h m l / 2 ^ n.toNat))), .int .u64 (loOf (num3 h m l / 2 ^ n.toNat))], .bool (decide (0 < num3 h m l % 2 ^ n.toNat))]) ∧ Below w.heap.size w w' := by
  have hA : 0 ≤ num3 h m l := num3_ge hh hm hl
  obtain ⟨k, hk⟩ : ∃ k : Nat, max n 0 = k := ⟨n.toNat, by omega⟩
  have ek : n.toNat = k := by omega
  have k1 : k < 9223372036854775808 := by omega
  rw [ek]
  clear ek n1
  go_enter Try.func73, Try.ntmps73
  go_wp2
  go_loopw [1, 6] (fun nv tv wr => ∃ (j : Nat) (a b c : Int) (t : Bool), nv = .int .i64 j ∧ tv = .bool t ∧ DropAt h m l k j a b c t ∧
      wr = (w.alloc (.cells #[.int .u64 a, .int .u64 b, .int .u64 c] 81)).alloc (.cells #[.int .u64 0, .int .u64 0, .int .u64 0] 81))
    (fun nv _ _ => (intOf nv).toNat)
  case atStart => exact ⟨k, h, m, l, false, rfl, rfl, dropAt_start hh hm hl, rfl⟩
  case round =>
    obtain ⟨j, a, b, c, t, rfl, rfl, hat, rfl⟩ := hrel
    obtain ⟨q1, q2, q3, q4⟩ := hat.small
    have HA := Lib.hid hat
    clear hat
    by_cases h64 : 64 ≤ j
    · cases t
      all_goals go_wp2
      all_goals (try subst_vars)
      all_goals first
        | (go_roundw
           case rel => exact ⟨j - 64, _, _, _, _, by go_num, rfl, HA.out.step h64, rfl⟩
           case measure => simp [intOf]; omega)
        | skip
      all_goals
        simp [bodyPost, results, Try.results73, go_sem]
        have Z := HA.out.zero hA
        exact ⟨⟨Z.1, by simpa using Z.2⟩, ((Below.refl _ _).alloc (Nat.le_refl _) _).alloc (by simp) _⟩
    · cases t
      all_goals go_wp2
      all_goals first | go_quiet (fail) | skip
      all_goals try go_wp2
      all_goals first | go_region | skip
      all_goals try go_wp2
      all_goals (try subst_vars)
      all_goals simp [bodyPost, results, Try.results73, go_sem]
      all_goals first
        | (have Z := HA.out.zero hA
           exact ⟨⟨Z.1, by simpa using Z.2⟩, ((Below.refl _ _).alloc (Nat.le_refl _) _).alloc (by simp) _⟩)
        | (have L := HA.out.last (by omega)
           have M := HA.out.lost_last (by omega)
           try simp only [Int.zero_ediv, Int.zero_mul, wrap0] at L
           exact ⟨⟨L, by simpa using M⟩, (((below_drewN (((Below.refl _ _).alloc (Nat.le_refl _) _).alloc (by simp) _) _).setCell (by simp) _).setCell (by simp) _).setCell (by simp) _⟩)

end Go.Proofs.Ytjlmchbpdkojeaa
