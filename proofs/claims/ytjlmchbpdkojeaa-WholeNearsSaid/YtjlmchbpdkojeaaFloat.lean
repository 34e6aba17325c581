/-
  The walks of package float: kinds, parts, neighbours.
-/
import Derived.Test.YtjlmchbpdkojeaaWideF
namespace Go.Proofs.Ytjlmchbpdkojeaa
open Go.RowKit Go.Shelf

/-- A number's kind, its parts. -/
def kd (x : Int) : Int := if x / 4503599627370496 % 2048 = 2047 then (if x % 4503599627370496 = 0 then 3 else 4) else if x / 4503599627370496 % 2048 = 0 then (if x % 4503599627370496 = 0 then 0 else 1) else 2
def sgn (x : Int) : Bool := decide (9223372036854775808 ≤ x)
def mant (x : Int) : Int := if kd x ≤ 1 then x % 4503599627370496 else if kd x = 2 then 4503599627370496 + x % 4503599627370496 else 0
def expo (x : Int) : Int := if kd x ≤ 1 then -1074 else if kd x = 2 then x / 4503599627370496 % 2048 - 1075 else 0
def NAN : Int := 9221120237041090560
def INFI : Int := 9218868437227405312
def sb (neg : Bool) : Int := if neg then 9223372036854775808 else 0

theorem and_f_bd {x : Int} : 0 ≤ x % 4503599627370496 ∧ x % 4503599627370496 < 4503599627370496 := by omega

set_option maxHeartbeats 400000 in
theorem kind_any (x : Int) (w : World) (hx : Wd x) : Calls Try.prog 29 #[.int .u64 x] w fun e w' => e = .returned (.int .i64 (kd x)) ∧ w = w' := by
  obtain ⟨h0, h1⟩ := hx
  have e1 := and_2047 (x / 4503599627370496) (by omega) (by omega)
  have e2 := and_f x h0 h1
  have hk : kd x = if x / 4503599627370496 % 2048 = 2047 then (if x % 4503599627370496 = 0 then 3 else 4) else if x / 4503599627370496 % 2048 = 0 then (if x % 4503599627370496 = 0 then 0 else 1) else 2 := rfl
  have HK := Lib.hid hk
  clear hk
  generalize kd x = k at *
  go_enter Try.func29, Try.ntmps29
  go_wp2
  all_goals
    go_ret
    exact ⟨ret_int (by rw [HK.out]; first | (repeat' split) <;> simp_all <;> omega), rfl⟩

theorem kd_bd (x : Int) : 0 ≤ kd x ∧ kd x ≤ 4 := by unfold kd; (repeat' split) <;> omega
def rightI (x : Int) : Int := if kd x = 4 then NAN else x

theorem ret_bii {k1 k2 : IntKind} {a b : Bool} {c d f g : Int} (h1 : a = b) (h2 : c = d) (h3 : f = g) : Ending.returned (.tuple #[.bool a, .int k1 c, .int k2 f]) = .returned (.tuple #[.bool b, .int k1 d, .int k2 g]) := by rw [h1, h2, h3]

set_option maxHeartbeats 400000 in
theorem split_any (x : Int) (w : World) (hx : Wd x) : Calls Try.prog 43 #[.int .u64 x] w fun e w' => e = .returned (.tuple #[.bool (sgn x), .int .u64 (mant x), .int .i64 (expo x)]) ∧ w = w' := by
  obtain ⟨h0, h1⟩ := id hx
  have e1 := and_2047 (x / 4503599627370496) (by omega) (by omega)
  have e2 := and_f x h0 h1
  have e3 := or_one (x % 4503599627370496) (by omega) (by omega)
  have hb := kd_bd x
  have hm : mant x = if kd x ≤ 1 then x % 4503599627370496 else if kd x = 2 then 4503599627370496 + x % 4503599627370496 else 0 := rfl
  have he : expo x = if kd x ≤ 1 then -1074 else if kd x = 2 then x / 4503599627370496 % 2048 - 1075 else 0 := rfl
  have HM := Lib.hid hm
  have HE := Lib.hid he
  clear hm he
  go_enter Try.func43, Try.ntmps43
  go_wp2_with (go_at_call 29; refine (kind_any x _ hx).mono ?_; rintro e w' ⟨rfl, rfl⟩)
  all_goals
    go_ret3
    exact ⟨ret_bii rfl (by rw [HM.out]; first | (repeat' split) <;> simp_all <;> omega) (by rw [HE.out]; first | (repeat' split) <;> simp_all <;> omega), rfl⟩

def negI (x : Int) : Int := if kd x = 4 then NAN else (x + 9223372036854775808) % 18446744073709551616
def absI (x : Int) : Int := if kd x = 4 then NAN else x % 9223372036854775808
def nextI (x : Int) : Int := if kd x = 4 then NAN else if kd x = 0 then 1 else if x = 9218868437227405312 then x else if 9223372036854775808 ≤ x then x - 1 else x + 1

set_option maxHeartbeats 400000 in
theorem neg_any (x : Int) (w : World) (hx : Wd x) : Calls Try.prog 46 #[.int .u64 x] w fun e w' => e = .returned (.int .u64 (negI x)) ∧ w = w' := by
  obtain ⟨h0, h1⟩ := id hx
  have e1 := xor_sign x h0 h1
  have hn : negI x = if kd x = 4 then NAN else (x + 9223372036854775808) % 18446744073709551616 := rfl
  have HN := Lib.hid hn
  clear hn
  go_enter Try.func46, Try.ntmps46
  go_wp2_with (go_at_call 29; refine (kind_any x _ hx).mono ?_; rintro e w' ⟨rfl, rfl⟩)
  all_goals
    go_ret
    exact ⟨ret_int (by rw [HN.out]; simp_all [NAN]), rfl⟩

set_option maxHeartbeats 400000 in
theorem abs_any (x : Int) (w : World) (hx : Wd x) : Calls Try.prog 47 #[.int .u64 x] w fun e w' => e = .returned (.int .u64 (absI x)) ∧ w = w' := by
  obtain ⟨h0, h1⟩ := id hx
  have e1 := andNot_sign x h0 h1
  have hn : absI x = if kd x = 4 then NAN else x % 9223372036854775808 := rfl
  have HN := Lib.hid hn
  clear hn
  go_enter Try.func47, Try.ntmps47
  go_wp2_with (go_at_call 29; refine (kind_any x _ hx).mono ?_; rintro e w' ⟨rfl, rfl⟩)
  all_goals
    go_ret
    exact ⟨ret_int (by rw [HN.out]; simp_all [NAN]), rfl⟩

theorem kd_top {x : Int} (h : x = 18446744073709551615) : kd x = 4 := by subst h; decide
end Go.Proofs.Ytjlmchbpdkojeaa
