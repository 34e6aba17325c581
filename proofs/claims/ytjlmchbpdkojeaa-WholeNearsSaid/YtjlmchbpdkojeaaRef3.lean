/-
  The reference of chapter 3: kinds, parts, neighbours, signs: the same numbers as the program's.
-/
import Derived.Test.YtjlmchbpdkojeaaFloatB
namespace Go.Proofs.Ytjlmchbpdkojeaa
open Go.RowKit Go.Shelf

set_option maxHeartbeats 400000 in
theorem rkind_any (x : Int) (w : World) (hx : Wd x) : Calls Try.prog 26 #[.int .u64 x] w fun e w' => e = .returned (.int .i64 (kd x)) ∧ w = w' := by
  obtain ⟨h0, h1⟩ := hx
  have hk : kd x = if x / 4503599627370496 % 2048 = 2047 then (if x % 4503599627370496 = 0 then 3 else 4) else if x / 4503599627370496 % 2048 = 0 then (if x % 4503599627370496 = 0 then 0 else 1) else 2 := rfl
  have HK := Lib.hid hk
  clear hk
  generalize kd x = k at *
  go_enter Try.func26, Try.ntmps26
  go_wp2
  all_goals
    go_ret
    exact ⟨ret_int (by rw [HK.out]; first | (repeat' split) <;> simp_all <;> omega), rfl⟩
theorem ris_any (x : Int) (w : World) : Calls Try.prog 36 #[.int .u64 x] w fun e w' => e = .returned (.bool (sgn x)) ∧ w = w' := by
  go_enter Try.func36, Try.ntmps36
  go_wp2
  go_ret
  exact ⟨rfl, rfl⟩
set_option maxHeartbeats 400000 in
theorem rright_any (x : Int) (w : World) (hx : Wd x) : Calls Try.prog 27 #[.int .u64 x] w fun e w' => e = .returned (.int .u64 (rightI x)) ∧ w = w' := by
  have hn : rightI x = if kd x = 4 then NAN else x := rfl
  have HN := Lib.hid hn
  clear hn
  go_enter Try.func27, Try.ntmps27
  go_wp2_with (go_at_call 26; refine (rkind_any x _ hx).mono ?_; rintro e w' ⟨rfl, rfl⟩)
  all_goals
    go_ret
    exact ⟨ret_int (by rw [HN.out]; simp_all [NAN]), rfl⟩
set_option maxHeartbeats 400000 in
theorem rsplit_any (x : Int) (w : World) (hx : Wd x) : Calls Try.prog 49 #[.int .u64 x] w fun e w' => e = .returned (.tuple #[.bool (sgn x), .int .u64 (mant x), .int .i64 (expo x)]) ∧ w = w' := by
  obtain ⟨h0, h1⟩ := id hx
  have hb := kd_bd x
  have hm : mant x = if kd x ≤ 1 then x % 4503599627370496 else if kd x = 2 then 4503599627370496 + x % 4503599627370496 else 0 := rfl
  have he : expo x = if kd x ≤ 1 then -1074 else if kd x = 2 then x / 4503599627370496 % 2048 - 1075 else 0 := rfl
  have HM := Lib.hid hm
  have HE := Lib.hid he
  clear hm he
  go_enter Try.func49, Try.ntmps49
  go_wp2_with (first | (go_at_call 26; refine (rkind_any x _ hx).mono ?_; rintro e w' ⟨rfl, rfl⟩) | (go_at_call 36; refine (ris_any x _).mono ?_; rintro e w' ⟨rfl, rfl⟩))
  all_goals
    go_ret3
    exact ⟨ret_bii rfl (by rw [HM.out]; first | (repeat' split) <;> simp_all <;> omega) (by rw [HE.out]; first | (repeat' split) <;> simp_all <;> omega), rfl⟩
end Go.Proofs.Ytjlmchbpdkojeaa
