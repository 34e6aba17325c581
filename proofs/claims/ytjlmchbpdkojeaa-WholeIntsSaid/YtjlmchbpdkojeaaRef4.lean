/-
  The reference of chapter 4: Of, Nat, Exact, Plus.
-/
import Derived.Test.YtjlmchbpdkojeaaKit
import Derived.Test.YtjlmchbpdkojeaaRef3S
import Derived.Test.YtjlmchbpdkojeaaRef3
import Derived.Test.YtjlmchbpdkojeaaRef2
import Derived.Test.YtjlmchbpdkojeaaArithP
namespace Go.Proofs.Ytjlmchbpdkojeaa
open Go.RowKit Go.Shelf

theorem stored2 {W : World} {n i j k G : Nat} {u x y : Value} (h : W.cell? ⟨n, i, none⟩ = some u) (hne : G ≠ n) : ((W.setCell ⟨G, j, none⟩ x).setCell ⟨G, k, none⟩ y).cell? ⟨n, i, none⟩ = some u := by
  rw [World.cell?_setCell_other _ _ _ _ (fun e => hne (congrArg Addr.block e)), World.cell?_setCell_other _ _ _ _ (fun e => hne (congrArg Addr.block e))]
  exact h
theorem val2 (a b : Nat) : Pl.val [a, b] = a + 4294967296 * b := by simp only [Pl.val, Pl.B32]; omega
set_option maxHeartbeats 1000000 in
theorem of_any (v : Nat) (w : World) (hv : v < 18446744073709551616) : Calls Try.prog 69 #[.int .u64 v] w (RetNat v w) := by
  have HF := Lib.hid (show Pl.Fit [v % 4294967296, v / 4294967296] by
    intro x hx
    simp only [List.mem_cons, List.not_mem_nil, or_false] at hx
    unfold Pl.B32
    omega)
  have HV := Lib.hid (show Pl.val [v % 4294967296, v / 4294967296] = v by rw [val2]; omega)
  go_enter Try.func69, Try.ntmps69
  go_wp2_with (go_at_call 70; refine (trim_v (slice_block w _ 2 _ _ HF.out rfl (by simp [lv]) (by omega)) (by omega)).mono ?_; rw [HV.out]; rintro e w2 ⟨v2, rfl, hv2, hb2⟩)
  go_ret
  exact ⟨v2, rfl, hv2, below_trans1 (hb2.mono (by simp)) ((Below.refl _ _).alloc (Nat.le_refl _) _)⟩
theorem rnat_any (v : Nat) (w : World) (hv : v < 18446744073709551616) : Calls Try.prog 42 #[.int .u64 v] w (RetNat v w) := by
  have HV := Lib.hid hv
  clear hv
  go_enter Try.func42, Try.ntmps42
  go_wp2_with (go_at_call 69; refine (of_any v _ HV.out).mono ?_; rintro e w2 ⟨v2, rfl, hv2, hb2⟩)
  go_ret
  exact ⟨v2, rfl, hv2, hb2⟩
theorem b32_2 : Pl.B32 ^ 2 = 18446744073709551616 := by decide

/-- What answers a natural with a sign. -/
def RetS (s : Bool) (N : Nat) (w : World) (e : Ending) (w' : World) : Prop := ∃ v, e = .returned (.agg #[.bool s, v]) ∧ NatV w' v N ∧ Below w.heap.size w w'

end Go.Proofs.Ytjlmchbpdkojeaa
