/-
  The walks of package arith: kind, adds, muls.
-/
import Derived.Test.YtjlmchbpdkojeaaKit
import Derived.Test.YtjlmchbpdkojeaaArithP
namespace Go.Proofs.Ytjlmchbpdkojeaa
open Go.RowKit Go.Shelf

/-- A number's kind, the two finite ones taken for one. -/
def kc (k : Int) : Nat := if k = 0 then 0 else if k ≤ 2 then 1 else if k = 3 then 2 else 3
theorem kc_lt (k : Int) : kc k < 4 := by unfold kc; (repeat' split) <;> omega
set_option maxHeartbeats 1000000 in
theorem akind_any (x : Int) (w : World) (hx : Wd x) : Calls Try.prog 81 #[.int .u64 x] w fun e w' => e = .returned (.int .i64 (kc (kd x) : Nat)) ∧ w = w' := by
  have hb := kd_bd x
  have CK := fun v => kind_any x v hx
  obtain ⟨k, hk⟩ : ∃ k, kd x = k := ⟨_, rfl⟩
  rw [hk] at CK hb ⊢
  replace CK := Lib.hid CK
  clear hk hx
  have ix0 : ∀ w, (Instr.index 92 (.agg #[.int .i64 0, .int .i64 1, .int .i64 1, .int .i64 2, .int .i64 3]) (.int .i64 0)).run Try.prog w = .ok (.int .i64 0) w := fun _ => by kernel_rfl
  have ix1 : ∀ w, (Instr.index 92 (.agg #[.int .i64 0, .int .i64 1, .int .i64 1, .int .i64 2, .int .i64 3]) (.int .i64 1)).run Try.prog w = .ok (.int .i64 1) w := fun _ => by kernel_rfl
  have ix2 : ∀ w, (Instr.index 92 (.agg #[.int .i64 0, .int .i64 1, .int .i64 1, .int .i64 2, .int .i64 3]) (.int .i64 2)).run Try.prog w = .ok (.int .i64 1) w := fun _ => by kernel_rfl
  have ix3 : ∀ w, (Instr.index 92 (.agg #[.int .i64 0, .int .i64 1, .int .i64 1, .int .i64 2, .int .i64 3]) (.int .i64 3)).run Try.prog w = .ok (.int .i64 2) w := fun _ => by kernel_rfl
  have ix4 : ∀ w, (Instr.index 92 (.agg #[.int .i64 0, .int .i64 1, .int .i64 1, .int .i64 2, .int .i64 3]) (.int .i64 4)).run Try.prog w = .ok (.int .i64 3) w := fun _ => by kernel_rfl
  obtain rfl | rfl | rfl | rfl | rfl : k = 0 ∨ k = 1 ∨ k = 2 ∨ k = 3 ∨ k = 4 := by omega
  all_goals
    go_enter Try.func81, Try.ntmps81
    go_wp2_with (go_at_call 29; refine (CK.out _).mono ?_; rintro e w' ⟨rfl, rfl⟩)
    go_ret
    exact ⟨rfl, rfl⟩
def addT : List Int := [4, 0, 3, 1, 0, 0, 3, 1, 2, 2, 4, 1, 1, 1, 1, 1]
def mulT : List Int := [6, 6, 1, 1, 6, 0, 5, 1, 1, 5, 5, 1, 1, 1, 1, 1]
def addC (a b : Int) : Int := addT.getD (kc (kd a) * 4 + kc (kd b)) 0
def mulC (a b : Int) : Int := mulT.getD (kc (kd a) * 4 + kc (kd b)) 0

set_option maxRecDepth 100000 in
set_option maxHeartbeats 2000000 in
theorem adds_any (a b : Int) (w : World) (ha : Wd a) (hb : Wd b) : Calls Try.prog 71 #[.int .u64 a, .int .u64 b] w fun e w' => e = .returned (.int .i64 (addC a b)) ∧ Below w.heap.size w w' := by
  have KA := fun v => akind_any a v ha
  have KB := fun v => akind_any b v hb
  have h1 := kc_lt (kd a)
  have h2 := kc_lt (kd b)
  unfold addC
  obtain ⟨i, hi⟩ : ∃ i, kc (kd a) = i := ⟨_, rfl⟩
  obtain ⟨j, hj⟩ : ∃ j, kc (kd b) = j := ⟨_, rfl⟩
  rw [hi] at KA h1 ⊢
  rw [hj] at KB h2 ⊢
  replace KA := Lib.hid KA
  replace KB := Lib.hid KB
  clear hi hj ha hb
  obtain ⟨R, hR⟩ : ∃ R, addT.getD (i * 4 + j) 0 = R := ⟨_, rfl⟩
  rw [hR]
  have i0 : (0 : Int) ≤ (i : Int) := by omega
  have i1 : (i : Int) < 4 := by omega
  have j0 : (0 : Int) ≤ (j : Int) := by omega
  have j1 : (j : Int) < 4 := by omega
  have hB : Below w.heap.size w (w.alloc (.cells #[.int .i64 4, .int .i64 0, .int .i64 3, .int .i64 1, .int .i64 0, .int .i64 0, .int .i64 3, .int .i64 1, .int .i64 2, .int .i64 2, .int .i64 4, .int .i64 1, .int .i64 1, .int .i64 1, .int .i64 1, .int .i64 1] 90)) := Bel.al (Bel.re w) _
  have hcell : (w.alloc (.cells #[.int .i64 4, .int .i64 0, .int .i64 3, .int .i64 1, .int .i64 0, .int .i64 0, .int .i64 3, .int .i64 1, .int .i64 2, .int .i64 2, .int .i64 4, .int .i64 1, .int .i64 1, .int .i64 1, .int .i64 1, .int .i64 1] 90)).cell? ⟨w.heap.size, i * 4 + j, none⟩ = some (.int .i64 R) := by
    rw [← hR]
    obtain rfl | rfl | rfl | rfl : i = 0 ∨ i = 1 ∨ i = 2 ∨ i = 3 := by omega
    all_goals
      obtain rfl | rfl | rfl | rfl : j = 0 ∨ j = 1 ∨ j = 2 ∨ j = 3 := by omega
    all_goals simp [go_sem, addT]
  clear hR
  go_enter Try.func71, Try.ntmps71
  go_wp2
  generalize World.alloc w _ = W at hB hcell ⊢
  go_quiet ((go_at_call 81; first | (with_reducible exact Calls.quiet_of_same ((KA.out _).mono fun _ _ ⟨he, hw⟩ => ⟨he, hw.symm⟩)) | (with_reducible exact Calls.quiet_of_same ((KB.out _).mono fun _ _ ⟨he, hw⟩ => ⟨he, hw.symm⟩))))
  go_wp2
  go_ret
  exact ⟨rfl, Bel.drN hB _⟩
end Go.Proofs.Ytjlmchbpdkojeaa
