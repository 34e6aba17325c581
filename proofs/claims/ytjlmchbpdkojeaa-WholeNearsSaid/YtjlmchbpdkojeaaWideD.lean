/-
  More walks of package wide: Shr, Root.
-/
import Derived.Test.YtjlmchbpdkojeaaWideC
namespace Go.Proofs.Ytjlmchbpdkojeaa
open Go.RowKit Go.Shelf

theorem below_trans' {B : Nat} {a b c : World} (k : Below B b c) (h : Below B a b) : Below B a c := h.trans k
theorem shr_bd (A : Int) (n : Nat) (h0 : 0 ≤ A) (h1 : A < 340282366920938463463374607431768211456) : 0 ≤ A / 2 ^ n ∧ A / 2 ^ n < 340282366920938463463374607431768211456 :=
  ⟨Int.ediv_nonneg h0 (Int.le_of_lt (pow_pos' n)), Int.lt_of_le_of_lt (Int.ediv_le_self _ h0) h1⟩
theorem lo_hi {X : Int} (h0 : 0 ≤ X) (h1 : X < 340282366920938463463374607431768211456) : loOf (hiOf X) = hiOf X := by unfold loOf hiOf; omega

/-- An older block's number against newer ones', in whatever form the walk may ask it. -/
theorem sizes {a b : Nat} (h : a + 1 < b) : a < b ∧ a < b + 1 ∧ a < b + 1 + 1 ∧ a < b + 1 + 1 + 1 ∧ a + 1 < b ∧ a + 1 < b + 1 ∧ a + 1 < b + 1 + 1 ∧ a ≤ b ∧ a ≤ b + 1 ∧ a ≤ b + 1 + 1 ∧ a + 1 ≤ b ∧ a + 1 ≤ b + 1 := by omega

set_option maxHeartbeats 400000 in
theorem shr_any (h l n : Int) (w : World) (hh : Wd h) (hl : Wd l) (n1 : n < 9223372036854775808) :
    Calls Try.prog 48 #[.agg #[.int .u64 h, .int .u64 l], .int .i64 n] w fun e w' =>
      e = .returned (.tuple #[.agg #[.int .u64 (hiOf (num h l / 2 ^ n.toNat)), .int .u64 (loOf (num h l / 2 ^ n.toNat))], .bool (decide (0 < num h l % 2 ^ n.toNat))]) ∧ Below w.heap.size w w' := by
  have hz : Wd 0 := ⟨by decide, by decide⟩
  have e3 : num3 0 h l = num h l := by unfold num3 num; omega
  have H3 := Lib.hid e3
  clear e3
  go_enter Try.func48, Try.ntmps48
  go_wp2_with (first
    | (go_at_call 73; refine (drop_any 0 h l n _ hz hh hl n1).mono ?_; rintro e w1 ⟨rfl, hb1⟩; obtain ⟨z0, z1, z2, z3, z4, z5, z6, z7, z8, z9, z10, z11⟩ := sizes (a := w.heap.size) (b := w1.heap.size) (Nat.lt_of_lt_of_le (by simp) hb1.size); have d0 := hb1.cell (p := ⟨w.heap.size + 1, 0, none⟩) (by simp); have d1 := hb1.cell (p := ⟨w.heap.size + 1, 1, none⟩) (by simp); have f0 := hb1.frozen (p := ⟨w.heap.size + 1, 0, none⟩) (by simp); have f1 := hb1.frozen (p := ⟨w.heap.size + 1, 1, none⟩) (by simp))
    | (go_at_call 74; refine (low_at _ _ _ _).mono ?_; rintro e w2 ⟨rfl, rfl⟩))
  simp [bodyPost, results, Try.results48, go_sem, *]
  obtain ⟨h0, h1⟩ := hh
  obtain ⟨l0, l1⟩ := hl
  have hX := shr_bd (num h l) n.toNat (by unfold num; omega) (by unfold num; omega)
  rw [H3.out]
  refine ⟨⟨⟨lo_hi hX.1 hX.2, rfl⟩, Iff.rfl⟩, ?_⟩
  exact (((((below_trans' (hb1.mono (by simp; omega)) (((Below.refl _ _).alloc (Nat.le_refl _) _).alloc (by simp) _)).setCell (by simp) _).setCell (by simp) _).alloc (by simpa using z7) _).alloc (by simpa using z8) _).alloc (by simpa using z9) _
end Go.Proofs.Ytjlmchbpdkojeaa
