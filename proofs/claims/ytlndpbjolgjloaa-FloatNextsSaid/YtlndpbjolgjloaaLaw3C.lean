/-
  FloatNexts: the walk.
-/
import Derived.Test.YtlndpbjolgjloaaLaw3B
namespace Go.Proofs.Ytlndpbjolgjloaa
open Go.RowKit Go.Shelf

theorem fb_lo {X : Int} (h0 : 0 < X) (h1 : X < 9218868437227405311) : fbits false (num 0 (mant X + 1)).toNat (expo X) false = X + 1 := by
  obtain ⟨J, t, hX, hm, he, ht, hJ, _, _, hlt⟩ := parts_lo (X := X) (by omega) (by omega)
  have hR : J * 2 ^ 52 + (t + 1) ≤ Pl.INF := by clear hm he; rw [Pl.INF_eq] at *; omega
  have ht' : t + 1 ≤ 2 ^ 53 := ht
  have := join_exact ht' (by omega) hR
  rw [hm, he, num_zero]
  have e1 : ((t : Int) + 1).toNat = t + 1 := by omega
  rw [e1]
  unfold fbits sb
  rw [this, hX]
  simp; omega
theorem fb_hi {x : Int} (h0 : 9223372036854775808 < x) (h1 : x < 18442240474082181120) : fbits true (num 0 (4 * mant x - 1)).toNat (expo x - 2) true = x := by
  obtain ⟨m1, m2⟩ := mant_high (x := x) (by omega) (by omega)
  rw [m1, m2]
  obtain ⟨X, hx⟩ : ∃ X, x - 9223372036854775808 = X := ⟨_, rfl⟩
  rw [hx]
  obtain ⟨J, t, hX, hm, he, ht, hJ, _, hpos, hlt⟩ := parts_lo (X := X) (by omega) (by omega)
  have t0 : 0 < t := hpos (by omega)
  have := join_below ht hJ t0 (Nat.le_of_lt hlt)
  rw [hm, he, num_zero]
  have e1 : (4 * (t : Int) - 1).toNat = 4 * t - 1 := by omega
  rw [e1]
  unfold fbits sb
  rw [this]
  simp
  clear this hlt
  omega
theorem mant_bd {x : Int} : 0 ≤ mant x ∧ mant x ≤ 9007199254740991 := by unfold mant; (repeat' split) <;> omega
theorem expo_bd {x : Int} : -1074 ≤ expo x ∧ expo x ≤ 971 := by unfold expo kd; (repeat' split) <;> omega
theorem mant_pos {x : Int} (h0 : 9223372036854775808 < x) (h1 : x < 18442240474082181120) : 1 ≤ mant x := by
  obtain ⟨m1, m2⟩ := mant_high (x := x) (by omega) (by omega)
  rw [m1]
  obtain ⟨J, t, hX, hm, _, _, _, _, hpos, _⟩ := parts_lo (X := x - 9223372036854775808) (by omega) (by omega)
  have := hpos (by omega)
  omega

set_option maxRecDepth 100000 in
set_option maxHeartbeats 4000000 in
theorem nexts_walk (x : Int) (w : World) (hx : Wd x) : Calls Try.prog 4 #[.int .u64 x] w fun e w' => e = .returned (.bool true) ∧ Below w.heap.size w w' := by
  obtain ⟨x0, x1⟩ := id hx
  have hy := wd_next hx
  by_cases k4 : kd x = 4
  · have n1 : nextI x = 9221120237041090560 := by unfold nextI NAN; rw [if_pos k4]
    have n2 : prevI x = 9221120237041090560 := by unfold prevI; have : negI x = 9221120237041090560 := by { unfold negI NAN; rw [if_pos k4] }; rw [this]; decide
    go_enter Try.func4, Try.ntmps4
    go_wp2_with (first
      | (go_at_call 9; refine (shown3_any _).mono ?_; rintro e w1 ⟨rfl, hB⟩)
      | (go_at_call 13; refine (kind_any _ _ (by assumption)).mono ?_; rintro e w' ⟨rfl, rfl⟩)
      | (go_at_call 14; refine (next_any _ _ (by assumption)).mono ?_; rintro e w' ⟨rfl, rfl⟩)
      | (go_at_call 15; refine (prev_any _ _ (by assumption)).mono ?_; rintro e w' ⟨rfl, rfl⟩)
      | (go_at_call 16; refine (split_any _ _ (by assumption)).mono ?_; rintro e w' ⟨rfl, rfl⟩)
      | (go_at_call 10; refine (join_any _ _ _ _ _ _ (Wd.mk (by omega) (by omega)) (Wd.mk (by omega) (by omega)) (by omega) (by omega)).mono ?_; rintro e w1 ⟨rfl, hb⟩; replace hB := below_step hB hb; clear hb))
    go_ret
    exact ⟨ret_bool (by first | rfl | exact decide_eq_true (by omega)), hB⟩
  have k4' : (kd x == 4) = false := by simpa using k4
  by_cases gc0 : x = 0
  · subst gc0
    clear k4 k4'
    have f1 : kd 0 = 0 := by decide
    have f2 : nextI 0 = 1 := by decide
    have f3 : prevI 0 = 9223372036854775809 := by decide
    have hy' : Wd 1 := ⟨by decide, by decide⟩
    go_enter Try.func4, Try.ntmps4
    go_wp2_with (first
      | (go_at_call 9; refine (shown3_any _).mono ?_; rintro e w1 ⟨rfl, hB⟩)
      | (go_at_call 13; refine (kind_any _ _ (by assumption)).mono ?_; rintro e w' ⟨rfl, rfl⟩)
      | (go_at_call 14; refine (next_any _ _ (by assumption)).mono ?_; rintro e w' ⟨rfl, rfl⟩)
      | (go_at_call 15; refine (prev_any _ _ (by assumption)).mono ?_; rintro e w' ⟨rfl, rfl⟩)
      | (go_at_call 16; refine (split_any _ _ (by assumption)).mono ?_; rintro e w' ⟨rfl, rfl⟩)
      | (go_at_call 10; refine (join_any _ _ _ _ _ _ (Wd.mk (by omega) (by omega)) (Wd.mk (by omega) (by omega)) (by omega) (by omega)).mono ?_; rintro e w1 ⟨rfl, hb⟩; replace hB := below_step hB hb; clear hb))
    go_ret
    exact ⟨ret_bool (by first | rfl | exact decide_eq_true (by omega)), hB⟩
  by_cases gc1 : x = 9223372036854775808
  · subst gc1
    clear k4 k4'
    have f1 : kd 9223372036854775808 = 0 := by decide
    have f2 : nextI 9223372036854775808 = 1 := by decide
    have f3 : prevI 9223372036854775808 = 9223372036854775809 := by decide
    have hy' : Wd 1 := ⟨by decide, by decide⟩
    go_enter Try.func4, Try.ntmps4
    go_wp2_with (first
      | (go_at_call 9; refine (shown3_any _).mono ?_; rintro e w1 ⟨rfl, hB⟩)
      | (go_at_call 13; refine (kind_any _ _ (by assumption)).mono ?_; rintro e w' ⟨rfl, rfl⟩)
      | (go_at_call 14; refine (next_any _ _ (by assumption)).mono ?_; rintro e w' ⟨rfl, rfl⟩)
      | (go_at_call 15; refine (prev_any _ _ (by assumption)).mono ?_; rintro e w' ⟨rfl, rfl⟩)
      | (go_at_call 16; refine (split_any _ _ (by assumption)).mono ?_; rintro e w' ⟨rfl, rfl⟩)
      | (go_at_call 10; refine (join_any _ _ _ _ _ _ (Wd.mk (by omega) (by omega)) (Wd.mk (by omega) (by omega)) (by omega) (by omega)).mono ?_; rintro e w1 ⟨rfl, hb⟩; replace hB := below_step hB hb; clear hb))
    go_ret
    exact ⟨ret_bool (by first | rfl | exact decide_eq_true (by omega)), hB⟩
  by_cases gc2 : x = 9218868437227405312
  · subst gc2
    clear k4 k4'
    have f1 : kd 9218868437227405312 = 3 := by decide
    have f2 : nextI 9218868437227405312 = 9218868437227405312 := by decide
    have f3 : prevI 9218868437227405312 = 9218868437227405311 := by decide
    have hy' : Wd 9218868437227405312 := ⟨by decide, by decide⟩
    go_enter Try.func4, Try.ntmps4
    go_wp2_with (first
      | (go_at_call 9; refine (shown3_any _).mono ?_; rintro e w1 ⟨rfl, hB⟩)
      | (go_at_call 13; refine (kind_any _ _ (by assumption)).mono ?_; rintro e w' ⟨rfl, rfl⟩)
      | (go_at_call 14; refine (next_any _ _ (by assumption)).mono ?_; rintro e w' ⟨rfl, rfl⟩)
      | (go_at_call 15; refine (prev_any _ _ (by assumption)).mono ?_; rintro e w' ⟨rfl, rfl⟩)
      | (go_at_call 16; refine (split_any _ _ (by assumption)).mono ?_; rintro e w' ⟨rfl, rfl⟩)
      | (go_at_call 10; refine (join_any _ _ _ _ _ _ (Wd.mk (by omega) (by omega)) (Wd.mk (by omega) (by omega)) (by omega) (by omega)).mono ?_; rintro e w1 ⟨rfl, hb⟩; replace hB := below_step hB hb; clear hb))
    go_ret
    exact ⟨ret_bool (by first | rfl | exact decide_eq_true (by omega)), hB⟩
  by_cases gc3 : x = 18442240474082181120
  · subst gc3
    clear k4 k4'
    have f1 : kd 18442240474082181120 = 3 := by decide
    have f2 : nextI 18442240474082181120 = 18442240474082181119 := by decide
    have f3 : prevI 18442240474082181119 = 18442240474082181120 := by decide
    have hy' : Wd 18442240474082181119 := ⟨by decide, by decide⟩
    go_enter Try.func4, Try.ntmps4
    go_wp2_with (first
      | (go_at_call 9; refine (shown3_any _).mono ?_; rintro e w1 ⟨rfl, hB⟩)
      | (go_at_call 13; refine (kind_any _ _ (by assumption)).mono ?_; rintro e w' ⟨rfl, rfl⟩)
      | (go_at_call 14; refine (next_any _ _ (by assumption)).mono ?_; rintro e w' ⟨rfl, rfl⟩)
      | (go_at_call 15; refine (prev_any _ _ (by assumption)).mono ?_; rintro e w' ⟨rfl, rfl⟩)
      | (go_at_call 16; refine (split_any _ _ (by assumption)).mono ?_; rintro e w' ⟨rfl, rfl⟩)
      | (go_at_call 10; refine (join_any _ _ _ _ _ _ (Wd.mk (by omega) (by omega)) (Wd.mk (by omega) (by omega)) (by omega) (by omega)).mono ?_; rintro e w1 ⟨rfl, hb⟩; replace hB := below_step hB hb; clear hb))
    go_ret
    exact ⟨ret_bool (by first | rfl | exact decide_eq_true (by omega)), hB⟩
  by_cases gc4 : x = 9218868437227405311
  · subst gc4
    clear k4 k4'
    have f1 : kd 9218868437227405311 = 2 := by decide
    have f2 : nextI 9218868437227405311 = 9218868437227405312 := by decide
    have f3 : prevI 9218868437227405312 = 9218868437227405311 := by decide
    have f4 : kd 9218868437227405312 = 3 := by decide
    have hy' : Wd 9218868437227405312 := ⟨by decide, by decide⟩
    go_enter Try.func4, Try.ntmps4
    go_wp2_with (first
      | (go_at_call 9; refine (shown3_any _).mono ?_; rintro e w1 ⟨rfl, hB⟩)
      | (go_at_call 13; refine (kind_any _ _ (by assumption)).mono ?_; rintro e w' ⟨rfl, rfl⟩)
      | (go_at_call 14; refine (next_any _ _ (by assumption)).mono ?_; rintro e w' ⟨rfl, rfl⟩)
      | (go_at_call 15; refine (prev_any _ _ (by assumption)).mono ?_; rintro e w' ⟨rfl, rfl⟩)
      | (go_at_call 16; refine (split_any _ _ (by assumption)).mono ?_; rintro e w' ⟨rfl, rfl⟩)
      | (go_at_call 10; refine (join_any _ _ _ _ _ _ (Wd.mk (by omega) (by omega)) (Wd.mk (by omega) (by omega)) (by omega) (by omega)).mono ?_; rintro e w1 ⟨rfl, hb⟩; replace hB := below_step hB hb; clear hb))
    go_ret
    exact ⟨ret_bool (by first | rfl | exact decide_eq_true (by omega)), hB⟩
  by_cases gc5 : x = 9223372036854775809
  · subst gc5
    clear k4 k4'
    have f1 : kd 9223372036854775809 = 1 := by decide
    have f2 : nextI 9223372036854775809 = 9223372036854775808 := by decide
    have hy' : Wd 9223372036854775808 := ⟨by decide, by decide⟩
    go_enter Try.func4, Try.ntmps4
    go_wp2_with (first
      | (go_at_call 9; refine (shown3_any _).mono ?_; rintro e w1 ⟨rfl, hB⟩)
      | (go_at_call 13; refine (kind_any _ _ (by assumption)).mono ?_; rintro e w' ⟨rfl, rfl⟩)
      | (go_at_call 14; refine (next_any _ _ (by assumption)).mono ?_; rintro e w' ⟨rfl, rfl⟩)
      | (go_at_call 15; refine (prev_any _ _ (by assumption)).mono ?_; rintro e w' ⟨rfl, rfl⟩)
      | (go_at_call 16; refine (split_any _ _ (by assumption)).mono ?_; rintro e w' ⟨rfl, rfl⟩)
      | (go_at_call 10; refine (join_any _ _ _ _ _ _ (Wd.mk (by omega) (by omega)) (Wd.mk (by omega) (by omega)) (by omega) (by omega)).mono ?_; rintro e w1 ⟨rfl, hb⟩; replace hB := below_step hB hb; clear hb))
    go_ret
    exact ⟨ret_bool (by first | rfl | exact decide_eq_true (by omega)), hB⟩
  have kr := kd_bd x
  have ml := @mant_bd x
  have el := @expo_bd x
  by_cases hs : 9223372036854775808 ≤ x
  · have hx2 : x < 18442240474082181120 := by
      by_cases q : x < 18442240474082181120
      · exact q
      · exfalso
        rw [kd_high hs x1, kd_pos (X := x - 9223372036854775808) (by omega) (by omega)] at k4
        (repeat' split at k4) <;> omega
    have hx3 : 9223372036854775809 < x := by omega
    have hk := kd_high hs x1
    rw [kd_pos (X := x - 9223372036854775808) (by omega) (by omega)] at hk
    have k0 : (kd x == 0) = false := by rw [hk]; (repeat' split) <;> first | rfl | omega
    have k3 : (kd x == 3) = false := by rw [hk]; (repeat' split) <;> first | rfl | omega
    have n1 := next_hi (x := x) (by omega) (by omega)
    have hk2 := kd_high (x := x - 1) (by omega) (by omega)
    rw [kd_pos (X := x - 1 - 9223372036854775808) (by omega) (by omega)] at hk2
    have k5 : (kd (x - 1) == 3) = false := by rw [hk2]; (repeat' split) <;> first | rfl | omega
    have n2 : prevI (x - 1) = x := by rw [prev_hi (x := x - 1) (by omega) (by omega)]; omega
    have sg : sgn x = true := by unfold sgn; simpa using hs
    have fj := fb_hi (x := x) (by omega) hx2
    have mp := mant_pos (x := x) (by omega) hx2
    have hy' : Wd (x - 1) := ⟨by omega, by omega⟩
    clear hk hk2 k4 hy kr
    go_enter Try.func4, Try.ntmps4
    go_wp2_with (first
      | (go_at_call 9; refine (shown3_any _).mono ?_; rintro e w1 ⟨rfl, hB⟩)
      | (go_at_call 13; refine (kind_any _ _ (by assumption)).mono ?_; rintro e w' ⟨rfl, rfl⟩)
      | (go_at_call 14; refine (next_any _ _ (by assumption)).mono ?_; rintro e w' ⟨rfl, rfl⟩)
      | (go_at_call 15; refine (prev_any _ _ (by assumption)).mono ?_; rintro e w' ⟨rfl, rfl⟩)
      | (go_at_call 16; refine (split_any _ _ (by assumption)).mono ?_; rintro e w' ⟨rfl, rfl⟩)
      | (go_at_call 10; refine (join_any _ _ _ _ _ _ (Wd.mk (by omega) (by omega)) (Wd.mk (by omega) (by omega)) (by omega) (by omega)).mono ?_; rintro e w1 ⟨rfl, hb⟩; replace hB := below_step hB hb; clear hb))
    go_ret
    exact ⟨ret_bool (by first | rfl | exact decide_eq_true (by omega)), hB⟩
  · have hx2 : x < 9218868437227405311 := by
      by_cases q : x < 9218868437227405311
      · exact q
      · exfalso
        rw [kd_pos (X := x) (by omega) (by omega)] at k4
        (repeat' split at k4) <;> omega
    have hx3 : 0 < x := by omega
    have hk := kd_pos (X := x) (by omega) (by omega)
    have k0 : (kd x == 0) = false := by rw [hk]; (repeat' split) <;> first | rfl | omega
    have k3 : (kd x == 3) = false := by rw [hk]; (repeat' split) <;> first | rfl | omega
    have n1 := next_lo (x := x) (by omega) (by omega)
    have hk2 := kd_pos (X := x + 1) (by omega) (by omega)
    have k5 : (kd (x + 1) == 3) = false := by rw [hk2]; (repeat' split) <;> first | rfl | omega
    have n2 : prevI (x + 1) = x := by rw [prev_lo (x := x + 1) (by omega) (by omega)]; omega
    have sg : sgn x = false := by unfold sgn; simpa using hs
    have fj := fb_lo (X := x) (by omega) hx2
    have hy' : Wd (x + 1) := ⟨by omega, by omega⟩
    clear hk hk2 k4 hy kr
    go_enter Try.func4, Try.ntmps4
    go_wp2_with (first
      | (go_at_call 9; refine (shown3_any _).mono ?_; rintro e w1 ⟨rfl, hB⟩)
      | (go_at_call 13; refine (kind_any _ _ (by assumption)).mono ?_; rintro e w' ⟨rfl, rfl⟩)
      | (go_at_call 14; refine (next_any _ _ (by assumption)).mono ?_; rintro e w' ⟨rfl, rfl⟩)
      | (go_at_call 15; refine (prev_any _ _ (by assumption)).mono ?_; rintro e w' ⟨rfl, rfl⟩)
      | (go_at_call 16; refine (split_any _ _ (by assumption)).mono ?_; rintro e w' ⟨rfl, rfl⟩)
      | (go_at_call 10; refine (join_any _ _ _ _ _ _ (Wd.mk (by omega) (by omega)) (Wd.mk (by omega) (by omega)) (by omega) (by omega)).mono ?_; rintro e w1 ⟨rfl, hb⟩; replace hB := below_step hB hb; clear hb))
    go_ret
    exact ⟨ret_bool (by first | rfl | exact decide_eq_true (by omega)), hB⟩
end Go.Proofs.Ytlndpbjolgjloaa
