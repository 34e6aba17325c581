/-
  More walks of package wide: Root.
-/
import Derived.Test.YteikkoiaeejgaaaWideD
import Derived.Test.YteikkoiaeejgaaaPlainR
namespace Go.Proofs.Yteikkoiaeejgaaa
open Go.RowKit Go.Shelf

/-- Half of 2^j; nothing at 0. -/
def half (j : Nat) : Int := if j = 0 then 0 else 2 ^ (j - 1)
/-- Behind some rounds of Root: j bits are still to be found. -/
structure RootAt (A : Int) (j : Nat) (r b : Int) : Prop where
  le : j ≤ 64
  b : b = half j
  r0 : 0 ≤ r
  dvd : r % 2 ^ j = 0
  top : r + 2 ^ j ≤ 18446744073709551616
  low : r * r ≤ A
  high : A < (r + 2 ^ j) * (r + 2 ^ j)

theorem rootAt_start {A : Int} (h0 : 0 ≤ A) (h1 : A < 340282366920938463463374607431768211456) : RootAt A 64 0 9223372036854775808 :=
  ⟨by omega, by decide, by decide, by decide, by decide, by omega, by
    have : ((0 : Int) + 2 ^ 64) * (0 + 2 ^ 64) = 340282366920938463463374607431768211456 := by decide
    omega⟩
theorem RootAt.facts {A : Int} {j : Nat} {r b : Int} (d : RootAt A j r b) : 0 ≤ r ∧ r < 18446744073709551616 ∧ 0 ≤ b ∧ b ≤ 9223372036854775808 ∧ (b = 0 → j = 0) ∧ (0 < b → bits .or .u64 r b = r + b ∧ r + b < 18446744073709551616) := by
  obtain ⟨le, hb, r0, dvd, top, low, high⟩ := d
  have hp := pow_pos' j
  have hr : r < 18446744073709551616 := by omega
  cases j with
  | zero => simp [half] at hb; subst hb; exact ⟨r0, hr, by decide, by decide, fun _ => rfl, fun h => absurd h (by decide)⟩
  | succ j =>
    have e : (2 : Int) ^ (j + 1) = 2 ^ j * 2 := Int.pow_succ 2 j
    have hb' : b = 2 ^ j := by rw [hb]; simp [half]
    have hp' := pow_pos' j
    rw [e, ← hb'] at dvd top
    rw [← hb'] at hp'
    refine ⟨r0, hr, by omega, by omega, by omega, fun _ => ⟨?_, by omega⟩⟩
    refine or_join r b (j + 1) r0 ?_ hr (by omega) ?_ (by omega)
    · rw [e, ← hb']; exact dvd
    · rw [e, ← hb']; omega
theorem half_succ (j : Nat) (hj : j + 1 ≤ 64) : half (j + 1) / 2 = half j := by
  cases j with
  | zero => decide
  | succ j =>
    simp only [half, Nat.add_one_ne_zero, if_false, Nat.add_sub_cancel]
    rw [Int.pow_succ]; omega
theorem RootAt.yes {A : Int} {j : Nat} {r b : Int} (d : RootAt A j r b) (hb0 : 0 < b) (h : (r + b) * (r + b) ≤ A) : ∃ k, RootAt A k (r + b) (b / 2) := by
  obtain ⟨le, hb, r0, dvd, top, low, high⟩ := d
  cases j with
  | zero => simp [half] at hb; omega
  | succ j =>
    have e : (2 : Int) ^ (j + 1) = 2 ^ j * 2 := Int.pow_succ 2 j
    have hb' : b = 2 ^ j := by rw [hb]; simp [half]
    have e2 : r + b + 2 ^ j = r + 2 ^ (j + 1) := by omega
    refine ⟨j, by omega, by rw [hb]; exact half_succ j le, by omega, ?_, by rw [e2]; exact top, h, by rw [e2]; exact high⟩
    rw [hb', Int.add_emod_right]
    have : r % 2 ^ j = (r % (2 ^ j * 2)) % 2 ^ j := (Int.emod_emod_of_dvd r ⟨2, rfl⟩).symm
    rw [this, ← e, dvd, Int.zero_emod]
theorem RootAt.no {A : Int} {j : Nat} {r b : Int} (d : RootAt A j r b) (hb0 : 0 < b) (h : A < (r + b) * (r + b)) : ∃ k, RootAt A k r (b / 2) := by
  obtain ⟨le, hb, r0, dvd, top, low, high⟩ := d
  cases j with
  | zero => simp [half] at hb; omega
  | succ j =>
    have e : (2 : Int) ^ (j + 1) = 2 ^ j * 2 := Int.pow_succ 2 j
    have hb' : b = 2 ^ j := by rw [hb]; simp [half]
    have hp' := pow_pos' j
    refine ⟨j, by omega, by rw [hb]; exact half_succ j le, r0, ?_, by omega, low, by rw [← hb']; exact h⟩
    have : r % 2 ^ j = (r % (2 ^ j * 2)) % 2 ^ j := (Int.emod_emod_of_dvd r ⟨2, rfl⟩).symm
    rw [this, ← e, dvd, Int.zero_emod]
theorem RootAt.done {A : Int} {r : Int} {j : Nat} (d : RootAt A j r 0) : r = (Pl.rt A.toNat : Int) := by
  obtain ⟨hr, _, _, _, hj, _⟩ := d.facts
  obtain ⟨le, hb, r0, dvd, top, low, high⟩ := d
  have := hj rfl
  subst this
  obtain ⟨r, rfl⟩ := Int.eq_ofNat_of_zero_le r0
  have hA : 0 ≤ A := Int.le_trans (Int.mul_nonneg r0 r0) low
  obtain ⟨A, rfl⟩ := Int.eq_ofNat_of_zero_le hA
  have h1 : r * r ≤ A := by exact_mod_cast low
  have h2 : A < (r + 1) * (r + 1) := by
    have : (A : Int) < ((r : Int) + 1) * (r + 1) := by simpa using high
    exact_mod_cast this
  rw [Pl.rt_unique h1 h2]; rfl
theorem cmp_le {x A : Int} (h : x ≤ A) : cmpI x A ≤ 0 := by unfold cmpI; (repeat' split) <;> omega
theorem cmp_gt {x A : Int} (h : A < x) : ¬ cmpI x A ≤ 0 := by unfold cmpI; (repeat' split) <;> omega

theorem ret_ib {k : IntKind} {a c : Int} {b d : Bool} (h1 : a = c) (h2 : b = d) : Ending.returned (.tuple #[.int k a, .bool b]) = .returned (.tuple #[.int k c, .bool d]) := by rw [h1, h2]

set_option maxHeartbeats 1000000 in
theorem root_any (h l : Int) (w : World) (hh : Wd h) (hl : Wd l) :
    Calls Try.prog 29 #[.agg #[.int .u64 h, .int .u64 l]] w fun e w' =>
      e = .returned (.tuple #[.int .u64 (Pl.rt (num h l).toNat), .bool (decide ((Pl.rt (num h l).toNat : Int) * (Pl.rt (num h l).toNat : Int) = num h l))]) ∧ Below w.heap.size w w' := by
  obtain ⟨h0, h1⟩ := hh
  obtain ⟨l0, l1⟩ := hl
  have hA0 : 0 ≤ num h l := by unfold num; omega
  have hA1 : num h l < 340282366920938463463374607431768211456 := by unfold num; omega
  go_enter Try.func29, Try.ntmps29
  go_wp2
  go_loopw [4, 5] (fun rv bv wr => ∃ (j : Nat) (r b : Int), rv = .int .u64 r ∧ bv = .int .u64 b ∧ RootAt (num h l) j r b ∧ wr.cell? ⟨w.heap.size, 0, none⟩ = some (.int .u64 h) ∧ wr.cell? ⟨w.heap.size, 1, none⟩ = some (.int .u64 l) ∧ w.heap.size < wr.heap.size ∧ Below w.heap.size w wr)
    (fun _ bv _ => (intOf bv).toNat)
  case atStart => exact ⟨64, 0, _, rfl, rfl, rootAt_start hA0 hA1, by simp [go_sem], by simp [go_sem], by simp, (Below.refl _ _).alloc (Nat.le_refl _) _⟩
  case round =>
    obtain ⟨j, r, b, rfl, rfl, hat, hc0, hc1, hsz, hbl⟩ := hrel
    obtain ⟨f1, f2, f3, f4, f5, f6⟩ := hat.facts
    have HA := Lib.hid hat
    clear hat f5
    by_cases hb0 : 0 < b
    · obtain ⟨f7, f8⟩ := f6 hb0
      clear f6
      have wd1 : Wd (r + b) := ⟨by omega, f8⟩
      have wd2 := Wd.hi (prod_bd wd1 wd1).1 (by have := (prod_bd wd1 wd1).2; omega)
      have wd3 := Wd.lo ((r + b) * (r + b))
      by_cases ht : (r + b) * (r + b) ≤ num h l
      · obtain ⟨k, hk⟩ := HA.out.yes hb0 ht
        have HK := Lib.hid hk
        have hcm : cmpI (num (hiOf ((r + b) * (r + b))) (loOf ((r + b) * (r + b)))) (num h l) ≤ 0 := by rw [num_parts]; exact cmp_le ht
        clear hk ht
        go_wp2
        go_region_held3 (fun w' => w'.cell? ⟨w.heap.size, 0, none⟩ = some (.int .u64 h) ∧ w'.cell? ⟨w.heap.size, 1, none⟩ = some (.int .u64 l) ∧ w.heap.size < w'.heap.size ∧ Below w.heap.size w w') (refine ⟨?_, ?_, ?_, ?_⟩ <;> (first | assumption | (go_keep; done) | omega | (simp; omega) | exact Below.drew (by assumption)))
          (first | (go_at_call 15; refine (wmul_any _ _ _ (by assumption) (by assumption)).mono ?_; rintro e w1 ⟨rfl, hbw1⟩; have qw1 := hbw1.cell (p := ⟨w.heap.size, 0, none⟩) (by first | assumption | omega | (simp; omega)); have pw1 := hbw1.cell (p := ⟨w.heap.size, 1, none⟩) (by first | assumption | omega | (simp; omega)); have zw1 : w.heap.size < w1.heap.size := Nat.lt_of_lt_of_le (by first | assumption | omega | (simp; omega)) hbw1.size; have Bw1 : Below w.heap.size w w1 := below_trans' (hbw1.mono (by omega)) (by first | assumption | exact Below.drew (by assumption))) | (go_at_call 18; refine (cmp_any _ _ _ _ _ (by assumption) ⟨l0, l1⟩).mono ?_; rintro e w2 ⟨rfl, hbw2⟩; have qw2 := hbw2.cell (p := ⟨w.heap.size, 0, none⟩) (by first | assumption | omega | (simp; omega)); have pw2 := hbw2.cell (p := ⟨w.heap.size, 1, none⟩) (by first | assumption | omega | (simp; omega)); have zw2 : w.heap.size < w2.heap.size := Nat.lt_of_lt_of_le (by first | assumption | omega | (simp; omega)) hbw2.size; have Bw2 : Below w.heap.size w w2 := below_trans' (hbw2.mono (by omega)) (by first | assumption | exact Below.drew (by assumption))))
        go_wp2
        exact ⟨⟨k, _, _, rfl, rfl, HK.out, by rw [qw2, qw1]; exact hc0, by rw [pw2, pw1]; exact hc1, zw2, Bw2⟩, by simp [intOf]; omega⟩
      · obtain ⟨k, hk⟩ := HA.out.no hb0 (by omega)
        have HK := Lib.hid hk
        have hcm : ¬ cmpI (num (hiOf ((r + b) * (r + b))) (loOf ((r + b) * (r + b)))) (num h l) ≤ 0 := by rw [num_parts]; exact cmp_gt (by omega)
        clear hk ht
        go_wp2
        go_region_held3 (fun w' => w'.cell? ⟨w.heap.size, 0, none⟩ = some (.int .u64 h) ∧ w'.cell? ⟨w.heap.size, 1, none⟩ = some (.int .u64 l) ∧ w.heap.size < w'.heap.size ∧ Below w.heap.size w w') (refine ⟨?_, ?_, ?_, ?_⟩ <;> (first | assumption | (go_keep; done) | omega | (simp; omega) | exact Below.drew (by assumption)))
          (first | (go_at_call 15; refine (wmul_any _ _ _ (by assumption) (by assumption)).mono ?_; rintro e w1 ⟨rfl, hbw1⟩; have qw1 := hbw1.cell (p := ⟨w.heap.size, 0, none⟩) (by first | assumption | omega | (simp; omega)); have pw1 := hbw1.cell (p := ⟨w.heap.size, 1, none⟩) (by first | assumption | omega | (simp; omega)); have zw1 : w.heap.size < w1.heap.size := Nat.lt_of_lt_of_le (by first | assumption | omega | (simp; omega)) hbw1.size; have Bw1 : Below w.heap.size w w1 := below_trans' (hbw1.mono (by omega)) (by first | assumption | exact Below.drew (by assumption))) | (go_at_call 18; refine (cmp_any _ _ _ _ _ (by assumption) ⟨l0, l1⟩).mono ?_; rintro e w2 ⟨rfl, hbw2⟩; have qw2 := hbw2.cell (p := ⟨w.heap.size, 0, none⟩) (by first | assumption | omega | (simp; omega)); have pw2 := hbw2.cell (p := ⟨w.heap.size, 1, none⟩) (by first | assumption | omega | (simp; omega)); have zw2 : w.heap.size < w2.heap.size := Nat.lt_of_lt_of_le (by first | assumption | omega | (simp; omega)) hbw2.size; have Bw2 : Below w.heap.size w w2 := below_trans' (hbw2.mono (by omega)) (by first | assumption | exact Below.drew (by assumption))))
        go_wp2
        exact ⟨⟨k, _, _, rfl, rfl, HK.out, by rw [qw2, qw1]; exact hc0, by rw [pw2, pw1]; exact hc1, zw2, Bw2⟩, by simp [intOf]; omega⟩
    · have hb1 : b = 0 := by omega
      subst hb1
      have HR := Lib.hid HA.out.done
      have wd1 : Wd r := ⟨f1, f2⟩
      clear f6
      by_cases e1 : hiOf (r * r) = h
      · by_cases e2 : loOf (r * r) = l
        · have hd : decide (r * r = num h l) = true := by rw [← num_parts (r * r), e1, e2]; simp
          have HD := Lib.hid hd
          clear hd
          go_wp2
          go_region_held3 (fun w' => w'.cell? ⟨w.heap.size, 0, none⟩ = some (.int .u64 h) ∧ w'.cell? ⟨w.heap.size, 1, none⟩ = some (.int .u64 l) ∧ w.heap.size < w'.heap.size ∧ Below w.heap.size w w') (refine ⟨?_, ?_, ?_, ?_⟩ <;> (first | assumption | (go_keep; done) | omega | (simp; omega) | exact Below.drew (by assumption)))
            (first | (go_at_call 15; refine (wmul_any _ _ _ (by assumption) (by assumption)).mono ?_; rintro e w1 ⟨rfl, hbw1⟩; have qw1 := hbw1.cell (p := ⟨w.heap.size, 0, none⟩) (by first | assumption | omega | (simp; omega)); have pw1 := hbw1.cell (p := ⟨w.heap.size, 1, none⟩) (by first | assumption | omega | (simp; omega)); have zw1 : w.heap.size < w1.heap.size := Nat.lt_of_lt_of_le (by first | assumption | omega | (simp; omega)) hbw1.size; have Bw1 : Below w.heap.size w w1 := below_trans' (hbw1.mono (by omega)) (by first | assumption | exact Below.drew (by assumption))))
          go_wp2
          go_ret2
          exact ⟨ret_ib HR.out (by rw [← HR.out]; exact HD.out.symm), Bw1⟩
        · have hd : decide (r * r = num h l) = false := by simp; intro h'; rw [h', lo_num l0 l1] at e2; exact e2 rfl
          have HD := Lib.hid hd
          clear hd
          go_wp2
          go_region_held3 (fun w' => w'.cell? ⟨w.heap.size, 0, none⟩ = some (.int .u64 h) ∧ w'.cell? ⟨w.heap.size, 1, none⟩ = some (.int .u64 l) ∧ w.heap.size < w'.heap.size ∧ Below w.heap.size w w') (refine ⟨?_, ?_, ?_, ?_⟩ <;> (first | assumption | (go_keep; done) | omega | (simp; omega) | exact Below.drew (by assumption)))
            (first | (go_at_call 15; refine (wmul_any _ _ _ (by assumption) (by assumption)).mono ?_; rintro e w1 ⟨rfl, hbw1⟩; have qw1 := hbw1.cell (p := ⟨w.heap.size, 0, none⟩) (by first | assumption | omega | (simp; omega)); have pw1 := hbw1.cell (p := ⟨w.heap.size, 1, none⟩) (by first | assumption | omega | (simp; omega)); have zw1 : w.heap.size < w1.heap.size := Nat.lt_of_lt_of_le (by first | assumption | omega | (simp; omega)) hbw1.size; have Bw1 : Below w.heap.size w w1 := below_trans' (hbw1.mono (by omega)) (by first | assumption | exact Below.drew (by assumption))))
          go_wp2
          go_ret2
          exact ⟨ret_ib HR.out (by rw [← HR.out]; exact HD.out.symm), Bw1⟩
      · have hd : decide (r * r = num h l) = false := by simp; intro h'; rw [h', hi_num l0 l1] at e1; exact e1 rfl
        have HD := Lib.hid hd
        clear hd
        go_wp2
        go_region_held3 (fun w' => w'.cell? ⟨w.heap.size, 0, none⟩ = some (.int .u64 h) ∧ w'.cell? ⟨w.heap.size, 1, none⟩ = some (.int .u64 l) ∧ w.heap.size < w'.heap.size ∧ Below w.heap.size w w') (refine ⟨?_, ?_, ?_, ?_⟩ <;> (first | assumption | (go_keep; done) | omega | (simp; omega) | exact Below.drew (by assumption)))
          (first | (go_at_call 15; refine (wmul_any _ _ _ (by assumption) (by assumption)).mono ?_; rintro e w1 ⟨rfl, hbw1⟩; have qw1 := hbw1.cell (p := ⟨w.heap.size, 0, none⟩) (by first | assumption | omega | (simp; omega)); have pw1 := hbw1.cell (p := ⟨w.heap.size, 1, none⟩) (by first | assumption | omega | (simp; omega)); have zw1 : w.heap.size < w1.heap.size := Nat.lt_of_lt_of_le (by first | assumption | omega | (simp; omega)) hbw1.size; have Bw1 : Below w.heap.size w w1 := below_trans' (hbw1.mono (by omega)) (by first | assumption | exact Below.drew (by assumption))))
        go_wp2
        go_ret2
        exact ⟨ret_ib HR.out (by rw [← HR.out]; exact HD.out.symm), Bw1⟩
end Go.Proofs.Yteikkoiaeejgaaa
