/-
  The walks of package float: Prev, pack, far, Join.
-/
import Derived.Test.YtjlmchbpdkojeaaFloat
namespace Go.Proofs.Ytjlmchbpdkojeaa
open Go.RowKit Go.Shelf

theorem wd_neg {x : Int} (hx : Wd x) : Wd (negI x) := by
  obtain ⟨h0, h1⟩ := hx
  unfold negI NAN Wd
  split <;> omega
theorem wd_abs {x : Int} (hx : Wd x) : Wd (absI x) := by
  obtain ⟨h0, h1⟩ := hx
  unfold absI NAN Wd
  split <;> omega
theorem wd_next {x : Int} (hx : Wd x) : Wd (nextI x) := by
  obtain ⟨h0, h1⟩ := hx
  have ht := @kd_top x
  unfold nextI NAN Wd
  (repeat' split) <;> omega
def prevI (x : Int) : Int := negI (nextI (negI x))
theorem wd_prev {x : Int} (hx : Wd x) : Wd (prevI x) := wd_neg (wd_next (wd_neg hx))

/-- The bits of a sign, an int of the last places, their exponent. -/
def packI (neg : Bool) (m e : Int) : Int := sb neg + (if m < 4503599627370496 then m else min INFI ((e + 1074) * 4503599627370496 + m))

set_option maxHeartbeats 1000000 in
theorem pack_any (neg : Bool) (m e : Int) (w : World) (m0 : 0 ≤ m) (m1 : m ≤ 9007199254740992) (e0 : -1074 ≤ e) (e1 : e ≤ 100000) :
    Calls Try.prog 78 #[.bool neg, .int .u64 m, .int .i64 e] w fun r w' => r = .returned (.int .u64 (packI neg m e)) ∧ w = w' := by
  have s1 := or_sign 9218868437227405312 (by decide) (by decide)
  have s2 := or_sign m m0 (by omega)
  have s3 : e + 1 + 1075 < 2047 → bits .or .u64 (4503599627370496 + (e + 1 + 1075 - 1) * 4503599627370496) 9223372036854775808 = 4503599627370496 + (e + 1 + 1075 - 1) * 4503599627370496 + 9223372036854775808 := fun h => or_sign _ (by omega) (by omega)
  have s4 : e + 1075 < 2047 → bits .or .u64 (m + (e + 1075 - 1) * 4503599627370496) 9223372036854775808 = m + (e + 1075 - 1) * 4503599627370496 + 9223372036854775808 := fun h => or_sign _ (by omega) (by omega)
  cases neg
  all_goals
    go_enter Try.func78, Try.ntmps78
    go_wp2
    all_goals
      go_ret
      exact ⟨ret_int (by clear s1 s2 s3 s4; unfold packI sb INFI; (repeat' split) <;> simp_all <;> omega), rfl⟩

/-! ### far: what is beyond all doubt -/
def isFar (long e : Int) : Prop := long = 0 ∨ e < -10000 ∧ e + long < -2000
theorem ret_ib' {a c : Int} {b d : Bool} (h1 : a = c) (h2 : b = d) : Ending.returned (.tuple #[.int .u64 a, .bool b]) = .returned (.tuple #[.int .u64 c, .bool d]) := by rw [h1, h2]

set_option maxHeartbeats 1000000 in
theorem far_low (neg : Bool) (long e : Int) (w : World) (l0 : 0 ≤ long) (l1 : long ≤ 128) (e0 : -9223372036854775808 ≤ e) (h : long = 0 ∨ e < -10000) :
    Calls Try.prog 76 #[.bool neg, .int .i64 long, .int .i64 e] w fun r w' => r = .returned (.tuple #[.int .u64 (sb neg), .bool true]) ∧ w = w' := by
  have hp : packI neg 0 0 = sb neg := by unfold packI; simp
  have HP := Lib.hid hp
  clear hp
  by_cases hz : long = 0
  · subst hz
    go_enter Try.func76, Try.ntmps76
    go_wp2_with (go_at_call 78; refine (pack_any neg 0 0 _ (by decide) (by decide) (by decide) (by decide)).mono ?_; rintro e w' ⟨rfl, rfl⟩)
    go_ret2
    exact ⟨ret_ib' HP.out rfl, rfl⟩
  · have he : e < -10000 := by omega
    have hz' : (long == 0) = false := by simpa using hz
    have hs : e + long < -2000 := by omega
    go_enter Try.func76, Try.ntmps76
    go_wp2_with (go_at_call 78; refine (pack_any neg 0 0 _ (by decide) (by decide) (by decide) (by decide)).mono ?_; rintro e w' ⟨rfl, rfl⟩)
    go_ret2
    exact ⟨ret_ib' HP.out rfl, rfl⟩

set_option maxHeartbeats 1000000 in
theorem far_high (neg : Bool) (long e : Int) (w : World) (l0 : 0 < long) (h : 2000 < e) :
    Calls Try.prog 76 #[.bool neg, .int .i64 long, .int .i64 e] w fun r w' => r = .returned (.tuple #[.int .u64 (sb neg + INFI), .bool true]) ∧ w = w' := by
  have hp : packI neg 4503599627370496 2047 = sb neg + INFI := by unfold packI INFI; simp; decide
  have HP := Lib.hid hp
  clear hp
  have hz' : (long == 0) = false := by simp; omega
  have he : decide (e < -10000) = false := by simp; omega
  go_enter Try.func76, Try.ntmps76
  go_wp2_with (go_at_call 78; refine (pack_any neg 4503599627370496 2047 _ (by decide) (by decide) (by decide) (by decide)).mono ?_; rintro e w' ⟨rfl, rfl⟩)
  go_ret2
  exact ⟨ret_ib' HP.out rfl, rfl⟩

set_option maxHeartbeats 1000000 in
theorem far_no (neg : Bool) (long e : Int) (w : World) (l0 : 0 < long) (h0 : -10000 ≤ e) (h1 : e ≤ 2000) :
    Calls Try.prog 76 #[.bool neg, .int .i64 long, .int .i64 e] w fun r w' => r = .returned (.tuple #[.int .u64 0, .bool false]) ∧ w = w' := by
  have hz' : (long == 0) = false := by simp; omega
  have he : decide (e < -10000) = false := by simp; omega
  go_enter Try.func76, Try.ntmps76
  go_wp2
  go_ret2
  exact ⟨rfl, rfl⟩

set_option maxHeartbeats 400000 in
theorem unit_any (long e : Int) (w : World) (l0 : 0 ≤ long) (l1 : long ≤ 128) (h0 : -10000 ≤ e) (h1 : e ≤ 2000) :
    Calls Try.prog 77 #[.int .i64 long, .int .i64 e] w fun r w' => r = .returned (.int .i64 (max (e + long - 53) (-1074))) ∧ w = w' := by
  go_enter Try.func77, Try.ntmps77
  go_wp2
  go_ret
  exact ⟨rfl, rfl⟩

end Go.Proofs.Ytjlmchbpdkojeaa
