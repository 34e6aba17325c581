/-
  WholeOrders: the walk.
-/
import Derived.Test.YtjlmchbpdkojeaaLaw6
namespace Go.Proofs.Ytjlmchbpdkojeaa
open Go.RowKit Go.Shelf

theorem cmpV_turn (a b : Int) : cmpV b a = -cmpV a b ∧ cmpOk b a = cmpOk a b := by
  unfold cmpV cmpOk cmpW
  by_cases h : kd a = 4 ∨ kd b = 4
  · rw [if_pos h, if_pos h.symm, if_pos h, if_pos h.symm]; exact ⟨rfl, rfl⟩
  · have h' : ¬ (kd b = 4 ∨ kd a = 4) := by omega
    rw [if_neg h, if_neg h', if_neg h, if_neg h']
    refine ⟨?_, rfl⟩
    rcases Int.lt_trichotomy (rankI a) (rankI b) with g | g | g
    · rw [cmp_lt2 g, cmp_gt2 g]; rfl
    · rw [cmp_eq2 g, cmp_eq2 g.symm]; rfl
    · rw [cmp_gt2 g, cmp_lt2 g]
theorem cmpV_three (a b : Int) : cmpV a b = -1 ∨ cmpV a b = 0 ∨ cmpV a b = 1 := by
  unfold cmpV cmpW cmpI
  (repeat' split) <;> simp
/-- It goes on. -/
theorem cmpV_on (a b c : Int) (h1 : cmpOk a b = true) (h2 : cmpOk b c = true) : cmpOk a c = true ∧ (cmpV a b ≤ 0 → cmpV b c ≤ 0 → cmpV a c ≤ 0) ∧ (cmpV a b < 0 → cmpV b c ≤ 0 → cmpV a c < 0) := by
  unfold cmpOk at *
  unfold cmpV cmpW
  have g1 : ¬ (kd a = 4 ∨ kd b = 4) := by intro g; rw [if_pos g] at h1; cases h1
  have g2 : ¬ (kd b = 4 ∨ kd c = 4) := by intro g; rw [if_pos g] at h2; cases h2
  have g3 : ¬ (kd a = 4 ∨ kd c = 4) := by omega
  rw [if_neg g1, if_neg g2, if_neg g3, if_neg g3]
  refine ⟨rfl, ?_, ?_⟩
  all_goals
    intro k1 k2
    unfold cmpI at *
    (repeat' split) <;> (repeat' split at k1) <;> (repeat' split at k2) <;> omega

set_option maxRecDepth 100000 in
set_option maxHeartbeats 2000000 in
theorem ord6_none0 (a b c k j : Int) {o3 o4 : Bool} (w : World) (C1 : Hid (∀ v, Calls Try.prog 10 #[.int .u64 a, .int .u64 b] v fun e w' => e = .returned (.tuple #[.int .i64 0, .bool false]) ∧ v = w')) (C2 : Hid (∀ v, Calls Try.prog 10 #[.int .u64 b, .int .u64 a] v fun e w' => e = .returned (.tuple #[.int .i64 (-0), .bool false]) ∧ v = w')) (C3 : Hid (∀ v, Calls Try.prog 10 #[.int .u64 b, .int .u64 c] v fun e w' => e = .returned (.tuple #[.int .i64 k, .bool o3]) ∧ v = w')) (C4 : Hid (∀ v, Calls Try.prog 10 #[.int .u64 a, .int .u64 c] v fun e w' => e = .returned (.tuple #[.int .i64 j, .bool o4]) ∧ v = w')) (MI : Hid (∀ v, Calls Try.prog 16 #[.int .u64 a, .int .u64 b] v fun e w' => e = .returned (.int .u64 9221120237041090560) ∧ v = w')) (MA : Hid (∀ v, Calls Try.prog 18 #[.int .u64 a, .int .u64 b] v fun e w' => e = .returned (.int .u64 9221120237041090560) ∧ v = w')) : Calls Try.prog 6 #[.int .u64 a, .int .u64 b, .int .u64 c] w fun e w' => e = .returned (.bool true) ∧ Below w.heap.size w w' := by
  go_enter Try.func6, Try.ntmps6
  go_wp2_with (first | (go_at_call 9; (with_reducible refine (shown6_any _).mono ?_); rintro e w1 ⟨rfl, hb⟩; have hB := hb; clear hb) | (go_at_call 10; (first | (with_reducible refine (C1.out _).mono ?_) | (with_reducible refine (C2.out _).mono ?_) | (with_reducible refine (C3.out _).mono ?_) | (with_reducible refine (C4.out _).mono ?_)); rintro e w' ⟨rfl, rfl⟩) | (go_at_call 16; (with_reducible refine (MI.out _).mono ?_); rintro e w' ⟨rfl, rfl⟩) | (go_at_call 18; (with_reducible refine (MA.out _).mono ?_); rintro e w' ⟨rfl, rfl⟩))
  go_ret
  exact ⟨retB (by simp), hB⟩
set_option maxRecDepth 100000 in
set_option maxHeartbeats 2000000 in
theorem ord6_fpm (a b c k j : Int) {o4 : Bool} (w : World)  (C1 : Hid (∀ v, Calls Try.prog 10 #[.int .u64 a, .int .u64 b] v fun e w' => e = .returned (.tuple #[.int .i64 (-1), .bool true]) ∧ v = w')) (C2 : Hid (∀ v, Calls Try.prog 10 #[.int .u64 b, .int .u64 a] v fun e w' => e = .returned (.tuple #[.int .i64 (-(-1)), .bool true]) ∧ v = w')) (C3 : Hid (∀ v, Calls Try.prog 10 #[.int .u64 b, .int .u64 c] v fun e w' => e = .returned (.tuple #[.int .i64 k, .bool false]) ∧ v = w')) (C4 : Hid (∀ v, Calls Try.prog 10 #[.int .u64 a, .int .u64 c] v fun e w' => e = .returned (.tuple #[.int .i64 j, .bool o4]) ∧ v = w')) (MI : Hid (∀ v, Calls Try.prog 16 #[.int .u64 a, .int .u64 b] v fun e w' => e = .returned (.int .u64 a) ∧ v = w')) (MA : Hid (∀ v, Calls Try.prog 18 #[.int .u64 a, .int .u64 b] v fun e w' => e = .returned (.int .u64 b) ∧ v = w')) : Calls Try.prog 6 #[.int .u64 a, .int .u64 b, .int .u64 c] w fun e w' => e = .returned (.bool true) ∧ Below w.heap.size w w' := by
  go_enter Try.func6, Try.ntmps6
  go_wp2_with (first | (go_at_call 9; (with_reducible refine (shown6_any _).mono ?_); rintro e w1 ⟨rfl, hb⟩; have hB := hb; clear hb) | (go_at_call 10; (first | (with_reducible refine (C1.out _).mono ?_) | (with_reducible refine (C2.out _).mono ?_) | (with_reducible refine (C3.out _).mono ?_) | (with_reducible refine (C4.out _).mono ?_)); rintro e w' ⟨rfl, rfl⟩) | (go_at_call 16; (with_reducible refine (MI.out _).mono ?_); rintro e w' ⟨rfl, rfl⟩) | (go_at_call 18; (with_reducible refine (MA.out _).mono ?_); rintro e w' ⟨rfl, rfl⟩))
  go_ret
  exact ⟨retB (by simp), hB⟩
set_option maxRecDepth 100000 in
set_option maxHeartbeats 2000000 in
theorem ord6_tpmk (a b c k j : Int) (w : World)  (hk : decide (k ≤ 0) = false) (C1 : Hid (∀ v, Calls Try.prog 10 #[.int .u64 a, .int .u64 b] v fun e w' => e = .returned (.tuple #[.int .i64 (-1), .bool true]) ∧ v = w')) (C2 : Hid (∀ v, Calls Try.prog 10 #[.int .u64 b, .int .u64 a] v fun e w' => e = .returned (.tuple #[.int .i64 (-(-1)), .bool true]) ∧ v = w')) (C3 : Hid (∀ v, Calls Try.prog 10 #[.int .u64 b, .int .u64 c] v fun e w' => e = .returned (.tuple #[.int .i64 k, .bool true]) ∧ v = w')) (C4 : Hid (∀ v, Calls Try.prog 10 #[.int .u64 a, .int .u64 c] v fun e w' => e = .returned (.tuple #[.int .i64 j, .bool true]) ∧ v = w')) (MI : Hid (∀ v, Calls Try.prog 16 #[.int .u64 a, .int .u64 b] v fun e w' => e = .returned (.int .u64 a) ∧ v = w')) (MA : Hid (∀ v, Calls Try.prog 18 #[.int .u64 a, .int .u64 b] v fun e w' => e = .returned (.int .u64 b) ∧ v = w')) : Calls Try.prog 6 #[.int .u64 a, .int .u64 b, .int .u64 c] w fun e w' => e = .returned (.bool true) ∧ Below w.heap.size w w' := by
  go_enter Try.func6, Try.ntmps6
  go_wp2_with (first | (go_at_call 9; (with_reducible refine (shown6_any _).mono ?_); rintro e w1 ⟨rfl, hb⟩; have hB := hb; clear hb) | (go_at_call 10; (first | (with_reducible refine (C1.out _).mono ?_) | (with_reducible refine (C2.out _).mono ?_) | (with_reducible refine (C3.out _).mono ?_) | (with_reducible refine (C4.out _).mono ?_)); rintro e w' ⟨rfl, rfl⟩) | (go_at_call 16; (with_reducible refine (MI.out _).mono ?_); rintro e w' ⟨rfl, rfl⟩) | (go_at_call 18; (with_reducible refine (MA.out _).mono ?_); rintro e w' ⟨rfl, rfl⟩))
  go_ret
  exact ⟨retB (by simp), hB⟩
set_option maxRecDepth 100000 in
set_option maxHeartbeats 2000000 in
theorem ord6_tpmj (a b c k j : Int) (w : World)  (hk : decide (k ≤ 0) = true) (hj : decide (0 < j) = false) (hj2 : decide (0 ≤ j) = false) (C1 : Hid (∀ v, Calls Try.prog 10 #[.int .u64 a, .int .u64 b] v fun e w' => e = .returned (.tuple #[.int .i64 (-1), .bool true]) ∧ v = w')) (C2 : Hid (∀ v, Calls Try.prog 10 #[.int .u64 b, .int .u64 a] v fun e w' => e = .returned (.tuple #[.int .i64 (-(-1)), .bool true]) ∧ v = w')) (C3 : Hid (∀ v, Calls Try.prog 10 #[.int .u64 b, .int .u64 c] v fun e w' => e = .returned (.tuple #[.int .i64 k, .bool true]) ∧ v = w')) (C4 : Hid (∀ v, Calls Try.prog 10 #[.int .u64 a, .int .u64 c] v fun e w' => e = .returned (.tuple #[.int .i64 j, .bool true]) ∧ v = w')) (MI : Hid (∀ v, Calls Try.prog 16 #[.int .u64 a, .int .u64 b] v fun e w' => e = .returned (.int .u64 a) ∧ v = w')) (MA : Hid (∀ v, Calls Try.prog 18 #[.int .u64 a, .int .u64 b] v fun e w' => e = .returned (.int .u64 b) ∧ v = w')) : Calls Try.prog 6 #[.int .u64 a, .int .u64 b, .int .u64 c] w fun e w' => e = .returned (.bool true) ∧ Below w.heap.size w w' := by
  go_enter Try.func6, Try.ntmps6
  go_wp2_with (first | (go_at_call 9; (with_reducible refine (shown6_any _).mono ?_); rintro e w1 ⟨rfl, hb⟩; have hB := hb; clear hb) | (go_at_call 10; (first | (with_reducible refine (C1.out _).mono ?_) | (with_reducible refine (C2.out _).mono ?_) | (with_reducible refine (C3.out _).mono ?_) | (with_reducible refine (C4.out _).mono ?_)); rintro e w' ⟨rfl, rfl⟩) | (go_at_call 16; (with_reducible refine (MI.out _).mono ?_); rintro e w' ⟨rfl, rfl⟩) | (go_at_call 18; (with_reducible refine (MA.out _).mono ?_); rintro e w' ⟨rfl, rfl⟩))
  go_ret
  exact ⟨retB (by simp), hB⟩
set_option maxRecDepth 100000 in
set_option maxHeartbeats 2000000 in
theorem ord6_fpz (a b c k j : Int) {o4 : Bool} (w : World)  (C1 : Hid (∀ v, Calls Try.prog 10 #[.int .u64 a, .int .u64 b] v fun e w' => e = .returned (.tuple #[.int .i64 0, .bool true]) ∧ v = w')) (C2 : Hid (∀ v, Calls Try.prog 10 #[.int .u64 b, .int .u64 a] v fun e w' => e = .returned (.tuple #[.int .i64 (-0), .bool true]) ∧ v = w')) (C3 : Hid (∀ v, Calls Try.prog 10 #[.int .u64 b, .int .u64 c] v fun e w' => e = .returned (.tuple #[.int .i64 k, .bool false]) ∧ v = w')) (C4 : Hid (∀ v, Calls Try.prog 10 #[.int .u64 a, .int .u64 c] v fun e w' => e = .returned (.tuple #[.int .i64 j, .bool o4]) ∧ v = w')) (MI : Hid (∀ v, Calls Try.prog 16 #[.int .u64 a, .int .u64 b] v fun e w' => e = .returned (.int .u64 a) ∧ v = w')) (MA : Hid (∀ v, Calls Try.prog 18 #[.int .u64 a, .int .u64 b] v fun e w' => e = .returned (.int .u64 b) ∧ v = w')) : Calls Try.prog 6 #[.int .u64 a, .int .u64 b, .int .u64 c] w fun e w' => e = .returned (.bool true) ∧ Below w.heap.size w w' := by
  go_enter Try.func6, Try.ntmps6
  go_wp2_with (first | (go_at_call 9; (with_reducible refine (shown6_any _).mono ?_); rintro e w1 ⟨rfl, hb⟩; have hB := hb; clear hb) | (go_at_call 10; (first | (with_reducible refine (C1.out _).mono ?_) | (with_reducible refine (C2.out _).mono ?_) | (with_reducible refine (C3.out _).mono ?_) | (with_reducible refine (C4.out _).mono ?_)); rintro e w' ⟨rfl, rfl⟩) | (go_at_call 16; (with_reducible refine (MI.out _).mono ?_); rintro e w' ⟨rfl, rfl⟩) | (go_at_call 18; (with_reducible refine (MA.out _).mono ?_); rintro e w' ⟨rfl, rfl⟩))
  go_ret
  exact ⟨retB (by simp), hB⟩
set_option maxRecDepth 100000 in
set_option maxHeartbeats 2000000 in
theorem ord6_tpzk (a b c k j : Int) (w : World)  (hk : decide (k ≤ 0) = false) (C1 : Hid (∀ v, Calls Try.prog 10 #[.int .u64 a, .int .u64 b] v fun e w' => e = .returned (.tuple #[.int .i64 0, .bool true]) ∧ v = w')) (C2 : Hid (∀ v, Calls Try.prog 10 #[.int .u64 b, .int .u64 a] v fun e w' => e = .returned (.tuple #[.int .i64 (-0), .bool true]) ∧ v = w')) (C3 : Hid (∀ v, Calls Try.prog 10 #[.int .u64 b, .int .u64 c] v fun e w' => e = .returned (.tuple #[.int .i64 k, .bool true]) ∧ v = w')) (C4 : Hid (∀ v, Calls Try.prog 10 #[.int .u64 a, .int .u64 c] v fun e w' => e = .returned (.tuple #[.int .i64 j, .bool true]) ∧ v = w')) (MI : Hid (∀ v, Calls Try.prog 16 #[.int .u64 a, .int .u64 b] v fun e w' => e = .returned (.int .u64 a) ∧ v = w')) (MA : Hid (∀ v, Calls Try.prog 18 #[.int .u64 a, .int .u64 b] v fun e w' => e = .returned (.int .u64 b) ∧ v = w')) : Calls Try.prog 6 #[.int .u64 a, .int .u64 b, .int .u64 c] w fun e w' => e = .returned (.bool true) ∧ Below w.heap.size w w' := by
  go_enter Try.func6, Try.ntmps6
  go_wp2_with (first | (go_at_call 9; (with_reducible refine (shown6_any _).mono ?_); rintro e w1 ⟨rfl, hb⟩; have hB := hb; clear hb) | (go_at_call 10; (first | (with_reducible refine (C1.out _).mono ?_) | (with_reducible refine (C2.out _).mono ?_) | (with_reducible refine (C3.out _).mono ?_) | (with_reducible refine (C4.out _).mono ?_)); rintro e w' ⟨rfl, rfl⟩) | (go_at_call 16; (with_reducible refine (MI.out _).mono ?_); rintro e w' ⟨rfl, rfl⟩) | (go_at_call 18; (with_reducible refine (MA.out _).mono ?_); rintro e w' ⟨rfl, rfl⟩))
  go_ret
  exact ⟨retB (by simp), hB⟩
set_option maxRecDepth 100000 in
set_option maxHeartbeats 2000000 in
theorem ord6_tpzj (a b c k j : Int) (w : World)  (hk : decide (k ≤ 0) = true) (hj : decide (0 < j) = false) (C1 : Hid (∀ v, Calls Try.prog 10 #[.int .u64 a, .int .u64 b] v fun e w' => e = .returned (.tuple #[.int .i64 0, .bool true]) ∧ v = w')) (C2 : Hid (∀ v, Calls Try.prog 10 #[.int .u64 b, .int .u64 a] v fun e w' => e = .returned (.tuple #[.int .i64 (-0), .bool true]) ∧ v = w')) (C3 : Hid (∀ v, Calls Try.prog 10 #[.int .u64 b, .int .u64 c] v fun e w' => e = .returned (.tuple #[.int .i64 k, .bool true]) ∧ v = w')) (C4 : Hid (∀ v, Calls Try.prog 10 #[.int .u64 a, .int .u64 c] v fun e w' => e = .returned (.tuple #[.int .i64 j, .bool true]) ∧ v = w')) (MI : Hid (∀ v, Calls Try.prog 16 #[.int .u64 a, .int .u64 b] v fun e w' => e = .returned (.int .u64 a) ∧ v = w')) (MA : Hid (∀ v, Calls Try.prog 18 #[.int .u64 a, .int .u64 b] v fun e w' => e = .returned (.int .u64 b) ∧ v = w')) : Calls Try.prog 6 #[.int .u64 a, .int .u64 b, .int .u64 c] w fun e w' => e = .returned (.bool true) ∧ Below w.heap.size w w' := by
  go_enter Try.func6, Try.ntmps6
  go_wp2_with (first | (go_at_call 9; (with_reducible refine (shown6_any _).mono ?_); rintro e w1 ⟨rfl, hb⟩; have hB := hb; clear hb) | (go_at_call 10; (first | (with_reducible refine (C1.out _).mono ?_) | (with_reducible refine (C2.out _).mono ?_) | (with_reducible refine (C3.out _).mono ?_) | (with_reducible refine (C4.out _).mono ?_)); rintro e w' ⟨rfl, rfl⟩) | (go_at_call 16; (with_reducible refine (MI.out _).mono ?_); rintro e w' ⟨rfl, rfl⟩) | (go_at_call 18; (with_reducible refine (MA.out _).mono ?_); rintro e w' ⟨rfl, rfl⟩))
  go_ret
  exact ⟨retB (by simp), hB⟩
set_option maxRecDepth 100000 in
set_option maxHeartbeats 2000000 in
theorem ord6_fqz (a b c k j : Int) {o4 : Bool} (w : World) (hab : (b == a) = false) (C1 : Hid (∀ v, Calls Try.prog 10 #[.int .u64 a, .int .u64 b] v fun e w' => e = .returned (.tuple #[.int .i64 0, .bool true]) ∧ v = w')) (C2 : Hid (∀ v, Calls Try.prog 10 #[.int .u64 b, .int .u64 a] v fun e w' => e = .returned (.tuple #[.int .i64 (-0), .bool true]) ∧ v = w')) (C3 : Hid (∀ v, Calls Try.prog 10 #[.int .u64 b, .int .u64 c] v fun e w' => e = .returned (.tuple #[.int .i64 k, .bool false]) ∧ v = w')) (C4 : Hid (∀ v, Calls Try.prog 10 #[.int .u64 a, .int .u64 c] v fun e w' => e = .returned (.tuple #[.int .i64 j, .bool o4]) ∧ v = w')) (MI : Hid (∀ v, Calls Try.prog 16 #[.int .u64 a, .int .u64 b] v fun e w' => e = .returned (.int .u64 b) ∧ v = w')) (MA : Hid (∀ v, Calls Try.prog 18 #[.int .u64 a, .int .u64 b] v fun e w' => e = .returned (.int .u64 a) ∧ v = w')) : Calls Try.prog 6 #[.int .u64 a, .int .u64 b, .int .u64 c] w fun e w' => e = .returned (.bool true) ∧ Below w.heap.size w w' := by
  go_enter Try.func6, Try.ntmps6
  go_wp2_with (first | (go_at_call 9; (with_reducible refine (shown6_any _).mono ?_); rintro e w1 ⟨rfl, hb⟩; have hB := hb; clear hb) | (go_at_call 10; (first | (with_reducible refine (C1.out _).mono ?_) | (with_reducible refine (C2.out _).mono ?_) | (with_reducible refine (C3.out _).mono ?_) | (with_reducible refine (C4.out _).mono ?_)); rintro e w' ⟨rfl, rfl⟩) | (go_at_call 16; (with_reducible refine (MI.out _).mono ?_); rintro e w' ⟨rfl, rfl⟩) | (go_at_call 18; (with_reducible refine (MA.out _).mono ?_); rintro e w' ⟨rfl, rfl⟩))
  go_ret
  exact ⟨retB (by simp), hB⟩
set_option maxRecDepth 100000 in
set_option maxHeartbeats 2000000 in
theorem ord6_tqzk (a b c k j : Int) (w : World) (hab : (b == a) = false) (hk : decide (k ≤ 0) = false) (C1 : Hid (∀ v, Calls Try.prog 10 #[.int .u64 a, .int .u64 b] v fun e w' => e = .returned (.tuple #[.int .i64 0, .bool true]) ∧ v = w')) (C2 : Hid (∀ v, Calls Try.prog 10 #[.int .u64 b, .int .u64 a] v fun e w' => e = .returned (.tuple #[.int .i64 (-0), .bool true]) ∧ v = w')) (C3 : Hid (∀ v, Calls Try.prog 10 #[.int .u64 b, .int .u64 c] v fun e w' => e = .returned (.tuple #[.int .i64 k, .bool true]) ∧ v = w')) (C4 : Hid (∀ v, Calls Try.prog 10 #[.int .u64 a, .int .u64 c] v fun e w' => e = .returned (.tuple #[.int .i64 j, .bool true]) ∧ v = w')) (MI : Hid (∀ v, Calls Try.prog 16 #[.int .u64 a, .int .u64 b] v fun e w' => e = .returned (.int .u64 b) ∧ v = w')) (MA : Hid (∀ v, Calls Try.prog 18 #[.int .u64 a, .int .u64 b] v fun e w' => e = .returned (.int .u64 a) ∧ v = w')) : Calls Try.prog 6 #[.int .u64 a, .int .u64 b, .int .u64 c] w fun e w' => e = .returned (.bool true) ∧ Below w.heap.size w w' := by
  go_enter Try.func6, Try.ntmps6
  go_wp2_with (first | (go_at_call 9; (with_reducible refine (shown6_any _).mono ?_); rintro e w1 ⟨rfl, hb⟩; have hB := hb; clear hb) | (go_at_call 10; (first | (with_reducible refine (C1.out _).mono ?_) | (with_reducible refine (C2.out _).mono ?_) | (with_reducible refine (C3.out _).mono ?_) | (with_reducible refine (C4.out _).mono ?_)); rintro e w' ⟨rfl, rfl⟩) | (go_at_call 16; (with_reducible refine (MI.out _).mono ?_); rintro e w' ⟨rfl, rfl⟩) | (go_at_call 18; (with_reducible refine (MA.out _).mono ?_); rintro e w' ⟨rfl, rfl⟩))
  go_ret
  exact ⟨retB (by simp), hB⟩
set_option maxRecDepth 100000 in
set_option maxHeartbeats 2000000 in
theorem ord6_tqzj (a b c k j : Int) (w : World) (hab : (b == a) = false) (hk : decide (k ≤ 0) = true) (hj : decide (0 < j) = false) (C1 : Hid (∀ v, Calls Try.prog 10 #[.int .u64 a, .int .u64 b] v fun e w' => e = .returned (.tuple #[.int .i64 0, .bool true]) ∧ v = w')) (C2 : Hid (∀ v, Calls Try.prog 10 #[.int .u64 b, .int .u64 a] v fun e w' => e = .returned (.tuple #[.int .i64 (-0), .bool true]) ∧ v = w')) (C3 : Hid (∀ v, Calls Try.prog 10 #[.int .u64 b, .int .u64 c] v fun e w' => e = .returned (.tuple #[.int .i64 k, .bool true]) ∧ v = w')) (C4 : Hid (∀ v, Calls Try.prog 10 #[.int .u64 a, .int .u64 c] v fun e w' => e = .returned (.tuple #[.int .i64 j, .bool true]) ∧ v = w')) (MI : Hid (∀ v, Calls Try.prog 16 #[.int .u64 a, .int .u64 b] v fun e w' => e = .returned (.int .u64 b) ∧ v = w')) (MA : Hid (∀ v, Calls Try.prog 18 #[.int .u64 a, .int .u64 b] v fun e w' => e = .returned (.int .u64 a) ∧ v = w')) : Calls Try.prog 6 #[.int .u64 a, .int .u64 b, .int .u64 c] w fun e w' => e = .returned (.bool true) ∧ Below w.heap.size w w' := by
  go_enter Try.func6, Try.ntmps6
  go_wp2_with (first | (go_at_call 9; (with_reducible refine (shown6_any _).mono ?_); rintro e w1 ⟨rfl, hb⟩; have hB := hb; clear hb) | (go_at_call 10; (first | (with_reducible refine (C1.out _).mono ?_) | (with_reducible refine (C2.out _).mono ?_) | (with_reducible refine (C3.out _).mono ?_) | (with_reducible refine (C4.out _).mono ?_)); rintro e w' ⟨rfl, rfl⟩) | (go_at_call 16; (with_reducible refine (MI.out _).mono ?_); rintro e w' ⟨rfl, rfl⟩) | (go_at_call 18; (with_reducible refine (MA.out _).mono ?_); rintro e w' ⟨rfl, rfl⟩))
  go_ret
  exact ⟨retB (by simp), hB⟩
set_option maxRecDepth 100000 in
set_option maxHeartbeats 2000000 in
theorem ord6_fqg (a b c k j : Int) {o4 : Bool} (w : World) (hab : (b == a) = false) (C1 : Hid (∀ v, Calls Try.prog 10 #[.int .u64 a, .int .u64 b] v fun e w' => e = .returned (.tuple #[.int .i64 1, .bool true]) ∧ v = w')) (C2 : Hid (∀ v, Calls Try.prog 10 #[.int .u64 b, .int .u64 a] v fun e w' => e = .returned (.tuple #[.int .i64 (-1), .bool true]) ∧ v = w')) (C3 : Hid (∀ v, Calls Try.prog 10 #[.int .u64 b, .int .u64 c] v fun e w' => e = .returned (.tuple #[.int .i64 k, .bool false]) ∧ v = w')) (C4 : Hid (∀ v, Calls Try.prog 10 #[.int .u64 a, .int .u64 c] v fun e w' => e = .returned (.tuple #[.int .i64 j, .bool o4]) ∧ v = w')) (MI : Hid (∀ v, Calls Try.prog 16 #[.int .u64 a, .int .u64 b] v fun e w' => e = .returned (.int .u64 b) ∧ v = w')) (MA : Hid (∀ v, Calls Try.prog 18 #[.int .u64 a, .int .u64 b] v fun e w' => e = .returned (.int .u64 a) ∧ v = w')) : Calls Try.prog 6 #[.int .u64 a, .int .u64 b, .int .u64 c] w fun e w' => e = .returned (.bool true) ∧ Below w.heap.size w w' := by
  go_enter Try.func6, Try.ntmps6
  go_wp2_with (first | (go_at_call 9; (with_reducible refine (shown6_any _).mono ?_); rintro e w1 ⟨rfl, hb⟩; have hB := hb; clear hb) | (go_at_call 10; (first | (with_reducible refine (C1.out _).mono ?_) | (with_reducible refine (C2.out _).mono ?_) | (with_reducible refine (C3.out _).mono ?_) | (with_reducible refine (C4.out _).mono ?_)); rintro e w' ⟨rfl, rfl⟩) | (go_at_call 16; (with_reducible refine (MI.out _).mono ?_); rintro e w' ⟨rfl, rfl⟩) | (go_at_call 18; (with_reducible refine (MA.out _).mono ?_); rintro e w' ⟨rfl, rfl⟩))
  go_ret
  exact ⟨retB (by simp), hB⟩
set_option maxRecDepth 100000 in
set_option maxHeartbeats 2000000 in
theorem ord6_tqg (a b c k j : Int) (w : World) (hab : (b == a) = false) (C1 : Hid (∀ v, Calls Try.prog 10 #[.int .u64 a, .int .u64 b] v fun e w' => e = .returned (.tuple #[.int .i64 1, .bool true]) ∧ v = w')) (C2 : Hid (∀ v, Calls Try.prog 10 #[.int .u64 b, .int .u64 a] v fun e w' => e = .returned (.tuple #[.int .i64 (-1), .bool true]) ∧ v = w')) (C3 : Hid (∀ v, Calls Try.prog 10 #[.int .u64 b, .int .u64 c] v fun e w' => e = .returned (.tuple #[.int .i64 k, .bool true]) ∧ v = w')) (C4 : Hid (∀ v, Calls Try.prog 10 #[.int .u64 a, .int .u64 c] v fun e w' => e = .returned (.tuple #[.int .i64 j, .bool true]) ∧ v = w')) (MI : Hid (∀ v, Calls Try.prog 16 #[.int .u64 a, .int .u64 b] v fun e w' => e = .returned (.int .u64 b) ∧ v = w')) (MA : Hid (∀ v, Calls Try.prog 18 #[.int .u64 a, .int .u64 b] v fun e w' => e = .returned (.int .u64 a) ∧ v = w')) : Calls Try.prog 6 #[.int .u64 a, .int .u64 b, .int .u64 c] w fun e w' => e = .returned (.bool true) ∧ Below w.heap.size w w' := by
  go_enter Try.func6, Try.ntmps6
  go_wp2_with (first | (go_at_call 9; (with_reducible refine (shown6_any _).mono ?_); rintro e w1 ⟨rfl, hb⟩; have hB := hb; clear hb) | (go_at_call 10; (first | (with_reducible refine (C1.out _).mono ?_) | (with_reducible refine (C2.out _).mono ?_) | (with_reducible refine (C3.out _).mono ?_) | (with_reducible refine (C4.out _).mono ?_)); rintro e w' ⟨rfl, rfl⟩) | (go_at_call 16; (with_reducible refine (MI.out _).mono ?_); rintro e w' ⟨rfl, rfl⟩) | (go_at_call 18; (with_reducible refine (MA.out _).mono ?_); rintro e w' ⟨rfl, rfl⟩))
  go_ret
  exact ⟨retB (by simp), hB⟩
theorem orders_walk6 (a b c : Int) (w : World) (ha : Wd a) (hb : Wd b) (hc : Wd c) : Calls Try.prog 6 #[.int .u64 a, .int .u64 b, .int .u64 c] w fun e w' => e = .returned (.bool true) ∧ Below w.heap.size w w' := by
  have C1 := fun v => wcmp_any a b v ha hb
  have C2 := fun v => wcmp_any b a v hb ha
  have C3 := fun v => wcmp_any b c v hb hc
  have C4 := fun v => wcmp_any a c v ha hc
  have MI := fun v => wmin_any a b v ha hb
  have MA := fun v => wmax_any a b v ha hb
  have hm := min_cases a b
  have hon := cmpV_on a b c
  have hz : cmpOk a b = false → cmpV a b = 0 := by
    unfold cmpOk cmpV; intro g; by_cases h : kd a = 4 ∨ kd b = 4
    · rw [if_pos h]
    · rw [if_neg h] at g; cases g
  obtain ⟨t1, t2⟩ := cmpV_turn a b
  have hne : cmpV a b = 1 → a ≠ b := by
    intro h g
    subst g
    omega
  have hnl : cmpV a b = -1 → a ≠ b := by
    intro h g
    subst g
    omega
  rw [t1, t2] at C2
  generalize cmpV a b = n at *
  generalize cmpV b c = k at *
  generalize cmpV a c = j at *
  generalize cmpOk a b = o1 at *
  generalize cmpOk b c = o3 at *
  generalize cmpOk a c = o4 at *
  generalize minI a b = X at *
  generalize maxI a b = Y at *
  rcases hm with ⟨rfl, h1, h2⟩ | ⟨rfl, hm⟩
  · obtain rfl := hz rfl
    unfold NAN at h1 h2
    subst h1 h2
    exact ord6_none0 a b c k j w (Lib.hid C1) (Lib.hid C2) (Lib.hid C3) (Lib.hid C4) (Lib.hid MI) (Lib.hid MA)
  · have key : (X = a ∧ Y = b ∧ (n = -1 ∨ n = 0)) ∨ (X = b ∧ Y = a ∧ a ≠ b ∧ (n = 0 ∨ n = 1)) := by
      rcases hm with ⟨g, h1, h2⟩ | ⟨g, h1, h2⟩ | ⟨g, h1, h2⟩
      · exact .inl ⟨h1, h2, .inl g⟩
      · exact .inr ⟨h1, h2, hne g, .inr g⟩
      · by_cases hab : a = b
        · left; subst hab; exact ⟨by rw [h1]; split <;> rfl, by rw [h2]; split <;> rfl, .inr g⟩
        · by_cases s : sgn a = true
          · rw [if_pos s] at h1 h2; exact .inl ⟨h1, h2, .inr g⟩
          · rw [if_neg s] at h1 h2; exact .inr ⟨h1, h2, hab, .inl g⟩
    clear hm hne hnl hz t1 t2
    rcases key with ⟨rfl, rfl, hn⟩ | ⟨rfl, rfl, hab, hn⟩
    · cases o3
      · rcases hn with rfl | rfl
        · exact ord6_fpm _ _ c k j w (Lib.hid C1) (Lib.hid C2) (Lib.hid C3) (Lib.hid C4) (Lib.hid MI) (Lib.hid MA)
        · exact ord6_fpz _ _ c k j w (Lib.hid C1) (Lib.hid C2) (Lib.hid C3) (Lib.hid C4) (Lib.hid MI) (Lib.hid MA)
      · obtain ⟨q1, q2, q3⟩ := hon rfl rfl
        subst q1
        by_cases hk : k ≤ 0
        · rcases hn with rfl | rfl
          · exact ord6_tpmj _ _ c k j w (by simpa using hk) (by simpa using q2 (by omega) hk) (by simpa using q3 (by omega) hk) (Lib.hid C1) (Lib.hid C2) (Lib.hid C3) (Lib.hid C4) (Lib.hid MI) (Lib.hid MA)
          · exact ord6_tpzj _ _ c k j w (by simpa using hk) (by simpa using q2 (by omega) hk) (Lib.hid C1) (Lib.hid C2) (Lib.hid C3) (Lib.hid C4) (Lib.hid MI) (Lib.hid MA)
        · rcases hn with rfl | rfl
          · exact ord6_tpmk _ _ c k j w (by simpa using hk) (Lib.hid C1) (Lib.hid C2) (Lib.hid C3) (Lib.hid C4) (Lib.hid MI) (Lib.hid MA)
          · exact ord6_tpzk _ _ c k j w (by simpa using hk) (Lib.hid C1) (Lib.hid C2) (Lib.hid C3) (Lib.hid C4) (Lib.hid MI) (Lib.hid MA)
    · have hba : ∀ p q : Int, p ≠ q → (q == p) = false := fun p q h => by simpa using Ne.symm h
      cases o3
      · rcases hn with rfl | rfl
        · exact ord6_fqz _ _ c k j w (hba _ _ hab) (Lib.hid C1) (Lib.hid C2) (Lib.hid C3) (Lib.hid C4) (Lib.hid MI) (Lib.hid MA)
        · exact ord6_fqg _ _ c k j w (hba _ _ hab) (Lib.hid C1) (Lib.hid C2) (Lib.hid C3) (Lib.hid C4) (Lib.hid MI) (Lib.hid MA)
      · obtain ⟨q1, q2, q3⟩ := hon rfl rfl
        subst q1
        rcases hn with rfl | rfl
        · by_cases hk : k ≤ 0
          · exact ord6_tqzj _ _ c k j w (hba _ _ hab) (by simpa using hk) (by simpa using q2 (by omega) hk) (Lib.hid C1) (Lib.hid C2) (Lib.hid C3) (Lib.hid C4) (Lib.hid MI) (Lib.hid MA)
          · exact ord6_tqzk _ _ c k j w (hba _ _ hab) (by simpa using hk) (Lib.hid C1) (Lib.hid C2) (Lib.hid C3) (Lib.hid C4) (Lib.hid MI) (Lib.hid MA)
        · exact ord6_tqg _ _ c k j w (hba _ _ hab) (Lib.hid C1) (Lib.hid C2) (Lib.hid C3) (Lib.hid C4) (Lib.hid MI) (Lib.hid MA)
end Go.Proofs.Ytjlmchbpdkojeaa
