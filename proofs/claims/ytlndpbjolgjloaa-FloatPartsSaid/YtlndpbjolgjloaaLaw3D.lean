/-
  FloatParts: the walk.
-/
import Derived.Test.YtlndpbjolgjloaaLaw3
import Derived.Test.YtlndpbjolgjloaaRef3
namespace Go.Proofs.Ytlndpbjolgjloaa
open Go.RowKit Go.Shelf

set_option maxRecDepth 100000 in
set_option maxHeartbeats 4000000 in
theorem parts_walk (x : Int) (w : World) (hx : Wd x) : Calls Try.prog 6 #[.int .u64 x] w fun e w' => e = .returned (.bool true) ∧ Below w.heap.size w w' := by
  go_enter Try.func6, Try.ntmps6
  go_wp2_with (first
    | (go_at_call 9; refine (shown3_any _).mono ?_; rintro e w1 ⟨rfl, hB⟩)
    | (go_at_call 13; refine (kind_any _ _ hx).mono ?_; rintro e w' ⟨rfl, rfl⟩)
    | (go_at_call 19; refine (rkind_any _ _ hx).mono ?_; rintro e w' ⟨rfl, rfl⟩)
    | (go_at_call 20; refine (right_any _ _ hx).mono ?_; rintro e w' ⟨rfl, rfl⟩)
    | (go_at_call 21; refine (rright_any _ _ hx).mono ?_; rintro e w' ⟨rfl, rfl⟩)
    | (go_at_call 16; refine (split_any _ _ hx).mono ?_; rintro e w' ⟨rfl, rfl⟩)
    | (go_at_call 18; refine (rsplit_any _ _ hx).mono ?_; rintro e w' ⟨rfl, rfl⟩)
    | (go_at_call 22; refine (neg_any _ _ hx).mono ?_; rintro e w' ⟨rfl, rfl⟩)
    | (go_at_call 23; refine (rneg_any _ _ hx).mono ?_; rintro e w' ⟨rfl, rfl⟩)
    | (go_at_call 24; refine (abs_any _ _ hx).mono ?_; rintro e w' ⟨rfl, rfl⟩)
    | (go_at_call 25; refine (rabs_any _ _ hx).mono ?_; rintro e w' ⟨rfl, rfl⟩)
    | (go_at_call 14; refine (next_any _ _ hx).mono ?_; rintro e w' ⟨rfl, rfl⟩)
    | (go_at_call 26; refine (rnext_any _ _ hx).mono ?_; rintro e w' ⟨rfl, rfl⟩)
    | (go_at_call 15; refine (prev_any _ _ hx).mono ?_; rintro e w' ⟨rfl, rfl⟩)
    | (go_at_call 27; refine (rprev_any _ _ hx).mono ?_; rintro e w' ⟨rfl, rfl⟩))
  all_goals
    go_ret
    exact ⟨ret_bool (by first | rfl | simp), hB⟩
end Go.Proofs.Ytlndpbjolgjloaa
