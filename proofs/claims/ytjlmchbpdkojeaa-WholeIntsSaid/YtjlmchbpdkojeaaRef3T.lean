/-
  The reference of chapter 3: Round answers the nearest number.
-/
import Derived.Test.YtjlmchbpdkojeaaRef3S
import Derived.Test.YtjlmchbpdkojeaaRef2
import Derived.Test.YtjlmchbpdkojeaaFloatD
namespace Go.Proofs.Ytjlmchbpdkojeaa
open Go.RowKit Go.Shelf

theorem bl_slice {w : World} {v : Value} {N d : Nat} (h : SliceV w v N d) : Pl.bl N ≤ 32 * d := by
  have := h.lt
  rw [Pl.B32_pow] at this
  exact Pl.bl_le_of_lt this
theorem from_small {N k : Nat} (h : N / 2 ^ k < 9007199254740992) : fromN N k = N / 2 ^ k := Nat.mod_eq_of_lt (by omega)
theorem from_zero {M : Nat} (h : M < 9007199254740992) : fromN M 0 = M := by unfold fromN; rw [Nat.pow_zero, Nat.div_one]; omega

set_option maxRecDepth 100000 in
set_option maxHeartbeats 4000000 in
theorem round_far (neg more : Bool) {v : Value} {N d : Nat} (e : Int) (w : World) (hs : SliceV w v N d) (hd : d ≤ 3000) (e0 : -9223372036854775808 ≤ e) (h : N = 0 ∨ e < -100000) :
    Calls Try.prog 40 #[.bool neg, v, .int .i64 e, .bool more] w fun r w' => r = .returned (.int .u64 (fbits neg N e more)) ∧ Below w.heap.size w w' := by
  have hb := bl_slice hs
  obtain ⟨L, hL⟩ : ∃ L, Pl.bl N = L := ⟨_, rfl⟩
  have hf : fbits neg N e more = sb neg := by
    unfold fbits
    rcases h with h0 | h0
    · rw [h0, mag_zero]; simp
    · rw [mag_low (by omega) (by omega)]; simp
  have hz : (L : Int) = 0 ∨ e < -100000 := by
    rcases h with h0 | h0
    · left; rw [← hL, h0]; rfl
    · exact .inr h0
  rw [hL] at hb
  have HL := Lib.hid hL
  have HS := Lib.hid hs
  have HF := Lib.hid hf
  clear hL hs hf h
  have hL1 : (L : Int) ≤ 96000 := by omega
  by_cases h0 : L = 0
  · subst h0
    cases neg
    all_goals
      go_enter Try.func40, Try.ntmps40
      go_wp2_with (go_at_call 66; refine (rlen_v HS.out (by omega)).mono ?_; rw [HL.out]; rintro r w1 ⟨rfl, hb1⟩)
      go_ret
      exact ⟨retI (by rw [HF.out]; rfl), hb1⟩
  · have h1 : e < -100000 := by omega
    have h2 : e + (L : Int) < -2000 := by omega
    have h3 : ((L : Int) == 0) = false := by simp; omega
    clear hz
    cases neg
    all_goals
      go_enter Try.func40, Try.ntmps40
      go_wp2_with (go_at_call 66; refine (rlen_v HS.out (by omega)).mono ?_; rw [HL.out]; rintro r w1 ⟨rfl, hb1⟩)
      go_ret
      exact ⟨retI (by rw [HF.out]; rfl), hb1⟩

set_option maxRecDepth 100000 in
set_option maxHeartbeats 4000000 in
theorem round_high (neg more : Bool) {v : Value} {N d : Nat} (e : Int) (w : World) (hs : SliceV w v N d) (hd : d ≤ 3000) (hN : N ≠ 0) (e1 : 2000 < e) :
    Calls Try.prog 40 #[.bool neg, v, .int .i64 e, .bool more] w fun r w' => r = .returned (.int .u64 (fbits neg N e more)) ∧ Below w.heap.size w w' := by
  have hb := bl_slice hs
  obtain ⟨L, hL⟩ : ∃ L, Pl.bl N = L := ⟨_, rfl⟩
  have hf : fbits neg N e more = sb neg + INFI := by
    unfold fbits
    rw [mag_high hN e1]; rfl
  have h0 : 0 < L := by rw [← hL]; exact Pl.bl_pos hN
  rw [hL] at hb
  have HL := Lib.hid hL
  have HS := Lib.hid hs
  have HF := Lib.hid hf
  clear hL hs hf
  have hL1 : (L : Int) ≤ 96000 := by omega
  have h3 : ((L : Int) == 0) = false := by simp; omega
  have h4 : decide (e < -100000) = false := by simp; omega
  cases neg
  all_goals
    go_enter Try.func40, Try.ntmps40
    go_wp2_with (go_at_call 66; refine (rlen_v HS.out (by omega)).mono ?_; rw [HL.out]; rintro r w1 ⟨rfl, hb1⟩)
    go_ret
    exact ⟨retI (by rw [HF.out]; rfl), hb1⟩
end Go.Proofs.Ytjlmchbpdkojeaa
