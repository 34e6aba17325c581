/-
  What the law's own functions nat and is answer.
-/
import Derived.Test.YteikkoiaeejgaaaRef2C
namespace Go.Proofs.Yteikkoiaeejgaaa
open Go.RowKit Go.Shelf

/-! ### The law's own functions -/
theorem nat_law (h l : Nat) (w : World) (hh : h < 18446744073709551616) (hl : l < 18446744073709551616) :
    Calls Try.prog 9 #[.agg #[.int .u64 h, .int .u64 l]] w (RetNat (h * 18446744073709551616 + l) w) := by
  have HH := Lib.hid hh
  have HL := Lib.hid hl
  clear hh hl
  obtain ⟨N, hN⟩ : ∃ N, h * 18446744073709551616 + l = N := ⟨_, rfl⟩
  have HN := Lib.hid hN
  rw [hN]
  clear hN
  go_enter Try.func9, Try.ntmps9
  go_wp2_with fail
  (with_reducible refine (nat2_0 h l _ HH.out HL.out).mono ?_)
  rw [HN.out]
  rintro e w1 ⟨v1, rfl, hv1, hb1⟩
  go_wp2
  go_ret
  exact ⟨v1, rfl, hv1, below_trans1 (hb1.mono (by simp)) ((Below.refl _ _).alloc (Nat.le_refl _) _)⟩
theorem part_hi {N : Nat} (h : N < E128) : (partN N 1 : Int) = hiOf (N : Int) := by unfold partN hiOf; unfold E128 at h; rw [Nat.pow_one]; omega
theorem part_lo (N : Nat) : (partN N 0 : Int) = loOf (N : Int) := by unfold partN loOf; rw [Nat.pow_zero]; omega

set_option maxHeartbeats 1000000 in
theorem is_yes {w : World} {v : Value} {N : Nat} {h l : Int} (hv : NatV w v N) (hN : N < E128) (hh : hiOf (N : Int) = h) (hl : loOf (N : Int) = l) :
    Calls Try.prog 14 #[.agg #[.int .u64 h, .int .u64 l], v] w fun e w' => e = .returned (.bool true) ∧ Below w.heap.size w w' := by
  have e4 : Pl.B32 ^ 4 = E128 := by decide
  have HV := Lib.hid (hv.slice (d := 4) (by rw [e4]; exact hN))
  have HH := Lib.hid ((part_hi hN).trans hh)
  have HL := Lib.hid ((part_lo N).trans hl)
  obtain ⟨A, n, c, rfl, h1, h2, hlm⟩ := hv
  have hn4 : n ≤ 4 := by rw [← hlm.len]; exact Pl.limbs_len_le (by rw [e4]; exact hN)
  have hn4i : (n : Int) ≤ 4 := by omega
  clear hlm hh hl e4 hN
  have CP1 := fun (w0 : World) (hw : SliceV w0 (.slice A n c) N 4) => (part_1 hw).mono fun _ _ ⟨he, hw⟩ => (⟨he, hw.symm⟩ : _ ∧ _ = w0)
  have CP0 := fun (w0 : World) (hw : SliceV w0 (.slice A n c) N 4) => (part_0 hw).mono fun _ _ ⟨he, hw⟩ => (⟨he, hw.symm⟩ : _ ∧ _ = w0)
  rw [HH.out] at CP1
  rw [HL.out] at CP0
  have C1 := Lib.hid CP1
  have C0 := Lib.hid CP0
  clear CP1 CP0
  go_enter Try.func14, Try.ntmps14
  go_wp2
  go_quiet ((go_at_call 28; first | (with_reducible exact Calls.quiet_of_same (C1.out _ ((HV.out.alloc _).drewN _))) | (with_reducible exact Calls.quiet_of_same (C0.out _ ((HV.out.alloc _).drewN _)))))
  go_wp2
  go_ret
  exact ⟨retB (by simp), below_drewN ((Below.refl _ _).alloc (Nat.le_refl _) _) _⟩
end Go.Proofs.Yteikkoiaeejgaaa
