/-
  FloatRounds: the walk.
-/
import Derived.Test.YtlndpbjolgjloaaLaw3F
import Derived.Test.YtlndpbjolgjloaaFloatF
namespace Go.Proofs.Ytlndpbjolgjloaa
open Go.RowKit Go.Shelf

set_option maxRecDepth 100000 in
set_option maxHeartbeats 4000000 in
theorem rounds_walk (neg : Bool) (A : Option Addr) (n c : Nat) (l : List Nat) (e : Int) (more : Bool) (w : World) (hl : Lim w A n l) (hc : n ≤ c) (hcm : c ≤ maxLen) (e0 : -9223372036854775808 ≤ e) (e1 : e < 9223372036854775808) :
    Calls Try.prog 7 #[.bool neg, .slice A n c, .int .i64 e, .bool more] w fun r w' => r = .returned (.bool true) ∧ Below w.heap.size w w' := by
  have HL := Lib.hid hl
  clear hl
  have HM := Lib.hid hcm
  unfold maxLen at hcm
  by_cases h : 300 < n
  · have h3 : decide (300 < (n : Int)) = true := by simp; omega
    go_enter Try.func7, Try.ntmps7
    go_wp2_with (go_at_call 9; refine (shown3_any _).mono ?_; rintro r w1 ⟨rfl, hB⟩)
    go_ret
    exact ⟨rfl, hB⟩
  · have h3 : decide (300 < (n : Int)) = false := by simp; omega
    have hn : n ≤ 300 := by omega
    have hs : SliceV w (.slice A n c) (Pl.val l) 300 := ⟨A, n, c, l, rfl, hc, HM.out, HL.out, rfl, hn⟩
    have HS := Lib.hid hs
    clear hs
    go_enter Try.func7, Try.ntmps7
    go_wp2_with (first | (go_at_call 9; refine (shown3_any _).mono ?_; rintro r w1 ⟨rfl, hB⟩) | (go_at_call 28; refine (fround_any neg more e _ (HS.out.below hB) (by decide) e0 e1).mono ?_; rintro r w2 ⟨rfl, hB2⟩; have hB3 := below_step hB hB2) | (go_at_call 11; refine (round_any neg more e _ (HS.out.below hB3) (by decide) e0).mono ?_; rintro r w3 ⟨rfl, hB4⟩; have hB5 := below_step hB3 hB4))
    go_ret
    exact ⟨retB (by simp), hB5⟩
end Go.Proofs.Ytlndpbjolgjloaa
