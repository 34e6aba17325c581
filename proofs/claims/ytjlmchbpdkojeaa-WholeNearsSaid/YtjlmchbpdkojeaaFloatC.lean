/-
  The walk of float.Join's closure, and of Join.
-/
import Derived.Test.YtjlmchbpdkojeaaFloatB
namespace Go.Proofs.Ytjlmchbpdkojeaa
open Go.RowKit Go.Shelf

theorem ret_ibb {a c : Int} {b d f g : Bool} (h1 : a = c) (h2 : b = d) (h3 : f = g) : Ending.returned (.tuple #[.int .u64 a, .bool b, .bool f]) = .returned (.tuple #[.int .u64 c, .bool d, .bool g]) := by rw [h1, h2, h3]

set_option maxHeartbeats 1000000 in
theorem clo_up (h l n : Int) (B k : Nat) (w : World) (hh : Wd h) (hl : Wd l) (hn : n ≤ 0) (hn' : -9223372036854775808 < n) (hk : max (-n) 0 = k)
    (c0 : w.cell? ⟨B, 0, none⟩ = some (.int .u64 h)) (c1 : w.cell? ⟨B, 1, none⟩ = some (.int .u64 l)) :
    Calls Try.prog 56 #[.int .i64 n, .pointer (some ⟨B, 0, none⟩)] w fun r w' => r = .returned (.tuple #[.int .u64 (loOf (shlN (num h l) k)), .bool false, .bool false]) ∧ Below w.heap.size w w' := by
  have HK := Lib.hid hk
  have fh := field_hi
  have fl := field_lo
  clear hk
  go_enter Try.func56, Try.ntmps56
  go_wp2_with (go_at_call 57; refine (shl_k h l (-n) k _ hh hl HK.out (by omega)).mono ?_; rintro e w1 ⟨rfl, hb1⟩)
  go_ret3
  exact ⟨rfl, hb1⟩

/-- What Join's closure tells of the bits that are taken off. -/
def hbit (A : Int) (k : Nat) : Bool := decide (shrN A k % 2 = 1)

theorem clo_m (X : Int) (h0 : 0 ≤ X) (h1 : X < 36893488147419103232) : hiOf (shlN (num (hiOf X) (loOf X)) 63) = X / 2 := by
  rw [num_parts]
  have e : (2 : Int) ^ 63 = 9223372036854775808 := by decide
  unfold shlN
  rw [e]; unfold hiOf bit128; omega
theorem half_pow (A : Int) (k : Nat) : shrN A k / 2 = shrN A (k + 1) := by
  unfold shrN
  rw [Int.ediv_ediv_of_nonneg (Int.le_of_lt (pow_pos' k)), ← Int.pow_succ]

set_option maxHeartbeats 1000000 in
theorem clo_down (h l n : Int) (B k : Nat) (w : World) (hh : Wd h) (hl : Wd l) (hn : 0 < n) (hk : max (n - 1) 0 = k) (hn' : n < 9223372036854775808)
    (hX : shrN (num h l) k < 36893488147419103232)
    (c0 : w.cell? ⟨B, 0, none⟩ = some (.int .u64 h)) (c1 : w.cell? ⟨B, 1, none⟩ = some (.int .u64 l)) :
    Calls Try.prog 56 #[.int .i64 n, .pointer (some ⟨B, 0, none⟩)] w fun r w' => r = .returned (.tuple #[.int .u64 (shrN (num h l) (k + 1)), .bool (hbit (num h l) k), .bool (lostN (num h l) k)]) ∧ Below w.heap.size w w' := by
  obtain ⟨A0, A1⟩ := num_bd hh hl
  obtain ⟨x0, x1⟩ := shrN_bd k A0 A1
  have HX1 := Lib.hid ((clo_m _ x0 hX).trans (half_pow (num h l) k))
  have wx := Wd.hi x0 x1
  have wy := Wd.lo (shrN (num h l) k)
  have hb : (loOf (shrN (num h l) k) % 2 == 1) = hbit (num h l) k := by
    have e2 : loOf (shrN (num h l) k) % 2 = shrN (num h l) k % 2 := by unfold loOf; omega
    rw [e2]; unfold hbit; simp [BEq.beq]
  have e1 := and_1 (loOf (shrN (num h l) k)) wy.1 wy.2
  have HK := Lib.hid hk
  have fh := field_hi
  have fl := field_lo
  clear hk hX A0 A1 x0 x1
  go_enter Try.func56, Try.ntmps56
  go_wp2_with (go_at_call 48; refine (shr_k h l (n - 1) k _ hh hl HK.out (by omega)).mono ?_; rintro e w1 ⟨rfl, hb1⟩)
  go_region_held3 (fun w' => w'.cell? ⟨w1.heap.size, 0, none⟩ = some (.int .u64 (hiOf (shrN (num h l) k))) ∧ w'.cell? ⟨w1.heap.size, 1, none⟩ = some (.int .u64 (loOf (shrN (num h l) k))) ∧ w1.heap.size < w'.heap.size ∧ Below w.heap.size w w') (refine ⟨?_, ?_, ?_, ?_⟩ <;> (first | assumption | (go_keep; done) | omega | (simp; omega) | exact (hb1.alloc hb1.size _).drew))
    (first | (go_at_call 57; refine (shl_k _ _ 63 63 _ wx wy (by decide) (by decide)).mono ?_; rintro e w2 ⟨rfl, hb2⟩; have q2 := hb2.cell (p := ⟨w1.heap.size, 0, none⟩) (by first | assumption | omega | simp); have p2 := hb2.cell (p := ⟨w1.heap.size, 1, none⟩) (by first | assumption | omega | simp); have z2 : w1.heap.size < w2.heap.size := Nat.lt_of_lt_of_le (by first | assumption | omega | simp) hb2.size; have B2 : Below w.heap.size w w2 := below_trans' (hb2.mono (by have := hb1.size; simp; omega)) (by first | assumption | exact (hb1.alloc hb1.size _).drew)))
  go_wp2
  go_ret3
  exact ⟨ret_ibb HX1.out rfl rfl, B2⟩
end Go.Proofs.Ytjlmchbpdkojeaa
