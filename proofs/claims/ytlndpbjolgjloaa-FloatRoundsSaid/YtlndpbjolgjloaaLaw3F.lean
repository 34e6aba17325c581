/-
  FloatJoins: the walk.
-/
import Derived.Test.YtlndpbjolgjloaaLaw3
import Derived.Test.YtlndpbjolgjloaaRef3U
namespace Go.Proofs.Ytlndpbjolgjloaa
open Go.RowKit Go.Shelf

theorem SliceV.drew {w : World} {v : Value} {N d : Nat} (h : SliceV w v N d) : SliceV w.drew v N d := by
  obtain ⟨A, n, c, l, hv, h1, h2, hl, hN, hd⟩ := h
  exact ⟨A, n, c, l, hv, h1, h2, ⟨hl.len, hl.fit, hl.reads⟩, hN, hd⟩

set_option maxRecDepth 100000 in
set_option maxHeartbeats 4000000 in
theorem joins_walk (neg : Bool) (h l e : Int) (more : Bool) (w : World) (hh : Wd h) (hl : Wd l) (e0 : -9223372036854775808 ≤ e) (e1 : e < 9223372036854775808) :
    Calls Try.prog 3 #[.bool neg, .agg #[.int .u64 h, .int .u64 l], .int .i64 e, .bool more] w fun r w' => r = .returned (.bool true) ∧ Below w.heap.size w w' := by
  obtain ⟨h0, h1⟩ := id hh
  obtain ⟨l0, l1⟩ := id hl
  obtain ⟨h, rfl⟩ := Int.eq_ofNat_of_zero_le h0
  obtain ⟨l, rfl⟩ := Int.eq_ofNat_of_zero_le l0
  obtain ⟨N, hN⟩ : ∃ N, (num h l).toNat = N := ⟨_, rfl⟩
  have hN2 : 0 * 340282366920938463463374607431768211456 + h * 18446744073709551616 + l = N := by unfold num at hN; omega
  have hlt : N < Pl.B32 ^ 4 := by unfold Pl.B32; omega
  have HN := Lib.hid hN
  have HN2 := Lib.hid hN2
  have HLT := Lib.hid hlt
  clear hN hN2 hlt
  go_enter Try.func3, Try.ntmps3
  go_wp2_with (go_at_call 9; refine (shown3_any _).mono ?_; rintro r w1 ⟨rfl, hB⟩; have d0 : w1.cell? ⟨w.heap.size, 0, none⟩ = some (.int .u64 h) := (hB.cell (p := ⟨w.heap.size, 0, none⟩) (by simp)).trans (by simp [go_sem]); have d1 : w1.cell? ⟨w.heap.size, 1, none⟩ = some (.int .u64 l) := (hB.cell (p := ⟨w.heap.size, 1, none⟩) (by simp)).trans (by simp [go_sem]); have z1 : w.heap.size < w1.heap.size := Nat.lt_of_lt_of_le (by simp) hB.size; have B1 : Below w.heap.size w w1 := below_trans' (hB.mono (by simp)) ((Below.refl _ _).alloc (Nat.le_refl _) _))
  go_region_held3 (fun w' => w'.cell? ⟨w.heap.size, 0, none⟩ = some (.int .u64 h) ∧ w'.cell? ⟨w.heap.size, 1, none⟩ = some (.int .u64 l) ∧ w.heap.size < w'.heap.size ∧ Below w.heap.size w w') (refine ⟨?_, ?_, ?_, ?_⟩ <;> (first | assumption | (go_keep; done) | omega | (simp; omega) | exact Below.drew (by assumption)))
    (first | (go_at_call 10; refine (join_any _ _ _ _ _ _ hh hl e0 e1).mono ?_; rw [HN.out]; rintro r w2 ⟨rfl, hb2⟩; have q2 := hb2.cell (p := ⟨w.heap.size, 0, none⟩) (by first | assumption | omega | (simp; omega)); have p2 := hb2.cell (p := ⟨w.heap.size, 1, none⟩) (by first | assumption | omega | (simp; omega)); have z2 : w.heap.size < w2.heap.size := Nat.lt_of_lt_of_le (by first | assumption | omega | (simp; omega)) hb2.size; have B2 : Below w.heap.size w w2 := below_trans' (hb2.mono (by omega)) (by first | assumption | exact Below.drew (by assumption))) | (go_at_call 12; refine (nat2_any 0 h l _ (by decide) (by omega) (by omega)).mono ?_; rw [HN2.out]; rintro r w3 ⟨v3, rfl, hv3, hb3⟩; have q3 := hb3.cell (p := ⟨w.heap.size, 0, none⟩) (by first | assumption | omega | (simp; omega)); have p3 := hb3.cell (p := ⟨w.heap.size, 1, none⟩) (by first | assumption | omega | (simp; omega)); have z3 : w.heap.size < w3.heap.size := Nat.lt_of_lt_of_le (by first | assumption | omega | (simp; omega)) hb3.size; have B3 : Below w.heap.size w w3 := below_trans' (hb3.mono (by omega)) (by first | assumption | exact Below.drew (by assumption))) | (go_at_call 11; refine (round_any neg more e _ (by first | exact (hv3.slice HLT.out) | exact (hv3.slice HLT.out).drew) (by decide) e0).mono ?_; rintro r w4 ⟨rfl, hb4⟩; have q4 := hb4.cell (p := ⟨w.heap.size, 0, none⟩) (by first | assumption | omega | (simp; omega)); have p4 := hb4.cell (p := ⟨w.heap.size, 1, none⟩) (by first | assumption | omega | (simp; omega)); have z4 : w.heap.size < w4.heap.size := Nat.lt_of_lt_of_le (by first | assumption | omega | (simp; omega)) hb4.size; have B4 : Below w.heap.size w w4 := below_trans' (hb4.mono (by omega)) (by first | assumption | exact Below.drew (by assumption))))
  all_goals go_wp2
  all_goals go_ret
  all_goals exact ⟨retB (by simp), by assumption⟩
end Go.Proofs.Ytlndpbjolgjloaa
