/-
  The walk of wide.Div.
-/
import Derived.Test.YteikkoiaeejgaaaDiv
namespace Go.Proofs.Yteikkoiaeejgaaa
open Go.RowKit Go.Shelf

theorem div_parts (h l b : Nat) (hb : 0 < b) (hl : l < 18446744073709551616) :
    (h * 18446744073709551616 + l) / b = h / b * 18446744073709551616 + (h % b * 18446744073709551616 + l) / b ∧ (h * 18446744073709551616 + l) % b = (h % b * 18446744073709551616 + l) % b ∧ (h % b * 18446744073709551616 + l) / b < 18446744073709551616 := by
  have e := Nat.div_add_mod h b
  have e2 : h * 18446744073709551616 + l = b * (h / b * 18446744073709551616) + (h % b * 18446744073709551616 + l) := by
    conv => lhs; rw [← e]
    rw [Nat.add_mul, Nat.mul_assoc]; omega
  have hm := Nat.mod_lt h hb
  refine ⟨by rw [e2, Nat.mul_add_div hb], by rw [e2, Nat.mul_add_mod], ?_⟩
  rw [Nat.div_lt_iff_lt_mul hb]
  generalize h % b = r at *
  clear e e2
  have := Nat.mul_le_mul_right 18446744073709551616 (show r + 1 ≤ b from hm)
  rw [Nat.mul_comm 18446744073709551616 b]
  omega

set_option maxHeartbeats 1000000 in
theorem wdiv_zero (h l : Int) (w : World) :
    Calls Try.prog 26 #[.agg #[.int .u64 h, .int .u64 l], .int .u64 0] w fun e w' => e = .returned (.tuple #[.agg #[.int .u64 0, .int .u64 0], .int .u64 0, .int .i64 10]) ∧ Below w.heap.size w w' := by
  go_enter Try.func26, Try.ntmps26
  go_wp2
  simp [bodyPost, results, Try.results26, go_sem]
  exact ((Below.refl _ _).alloc (Nat.le_refl _) _).alloc (by simp) _
set_option maxHeartbeats 1000000 in
theorem wdiv_any (h l b : Nat) (w : World) (hh : h < 18446744073709551616) (hl : l < 18446744073709551616) (hb : 0 < b) (hb1 : b < 18446744073709551616) :
    Calls Try.prog 26 #[.agg #[.int .u64 h, .int .u64 l], .int .u64 b] w fun e w' =>
      e = .returned (.tuple #[.agg #[.int .u64 (hiOf (((h * 18446744073709551616 + l) / b : Nat) : Int)), .int .u64 (loOf (((h * 18446744073709551616 + l) / b : Nat) : Int))], .int .u64 (((h * 18446744073709551616 + l) % b : Nat) : Int), .int .i64 0]) ∧ Below w.heap.size w w' := by
  obtain ⟨p1, p2, p3⟩ := div_parts h l b hb hl
  have hm := Nat.mod_lt h hb
  have hq := Nat.div_le_self h b
  obtain ⟨q, hqe⟩ : ∃ q, h / b = q := ⟨_, rfl⟩
  obtain ⟨r, hre⟩ : ∃ r, h % b = r := ⟨_, rfl⟩
  have r1 : (h : Int) / (b : Int) = (q : Int) := by rw [← hqe]; simp
  have r2 : (h : Int) % (b : Int) = (r : Int) := by rw [← hre]; simp
  rw [hqe] at p1 hq
  rw [hre] at p1 p2 p3 hm
  have hb0 : (0 : Int) < b := by omega
  have hbz : ((b : Int) == 0) = false := by simp; omega
  have hbz' : decide (b = 0) = false := by simp; omega
  obtain ⟨X, hX⟩ : ∃ X, (r * 18446744073709551616 + l) / b = X := ⟨_, rfl⟩
  obtain ⟨Z, hZ⟩ : ∃ Z, (r * 18446744073709551616 + l) % b = Z := ⟨_, rfl⟩
  rw [hX] at p1 p3
  rw [hZ] at p2
  have HX := Lib.hid hX
  have HZ := Lib.hid hZ
  have F1 := Lib.hid (show hiOf (((h * 18446744073709551616 + l) / b : Nat) : Int) = (q : Int) by rw [p1]; unfold hiOf; omega)
  have F2 := Lib.hid (show loOf (((h * 18446744073709551616 + l) / b : Nat) : Int) = (X : Int) by rw [p1]; unfold loOf; omega)
  have P2 := Lib.hid p2
  have r3 : IntKind.u64.wrap (q : Int) = q := by rw [IntKind.wrap_u64]; omega
  clear p1 p2 p3 hqe hre hX hZ
  go_enter Try.func26, Try.ntmps26
  go_wp2
  go_quiet (fail)
  go_wp2_with (go_at_call 44; refine (div64_any r l b _ (by omega) (by omega) (by omega)).mono ?_; rw [HX.out, HZ.out]; rintro e w1 ⟨rfl, hb1'⟩; have d0 : w1.cell? ⟨w.heap.size + 1, 0, none⟩ = some (.int .u64 0) := (hb1'.cell (p := ⟨w.heap.size + 1, 0, none⟩) (by simp)).trans (by simp [go_sem]); have d1 : w1.cell? ⟨w.heap.size + 1, 1, none⟩ = some (.int .u64 0) := (hb1'.cell (p := ⟨w.heap.size + 1, 1, none⟩) (by simp)).trans (by simp [go_sem]); have f0 : w1.frozen? ⟨w.heap.size + 1, 0, none⟩ = false := (hb1'.frozen (p := ⟨w.heap.size + 1, 0, none⟩) (by simp)).trans (by simp [go_sem]); have f1 : w1.frozen? ⟨w.heap.size + 1, 1, none⟩ = false := (hb1'.frozen (p := ⟨w.heap.size + 1, 1, none⟩) (by simp)).trans (by simp [go_sem]))
  simp [bodyPost, results, Try.results26, go_sem, d0, d1]
  have eN : ((h : Int) * 18446744073709551616 + l) / b = (((h * 18446744073709551616 + l) / b : Nat) : Int) := by simp
  have eM : ((h : Int) * 18446744073709551616 + l) % b = (((h * 18446744073709551616 + l) % b : Nat) : Int) := by simp
  rw [eN, eM, F1.out, F2.out, P2.out]
  exact ⟨⟨⟨rfl, rfl⟩, rfl⟩, ((below_trans' (hb1'.mono (by simp; omega)) (below_drewN (((Below.refl _ _).alloc (Nat.le_refl _) _).alloc (by simp) _) _)).setCell (by simp) _).setCell (by simp) _⟩
end Go.Proofs.Yteikkoiaeejgaaa
