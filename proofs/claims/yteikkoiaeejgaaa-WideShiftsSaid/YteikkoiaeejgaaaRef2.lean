/-
  The reference of chapter 2: Nat.
-/
import Derived.Test.YteikkoiaeejgaaaRef1D
namespace Go.Proofs.Yteikkoiaeejgaaa
open Go.RowKit Go.Shelf

/-- A new block of limbs, as a slice. -/
theorem slice_block (w : World) (l : List Nat) (n : Nat) (cs : Array Value) (e : TypeId) (hf : Pl.Fit l) (hn : l.length = n) (hcs : cs.toList = l.map lv) (hm : n ≤ 1048576) : SliceV (w.alloc (.cells cs e)) (.slice (some ⟨w.heap.size, 0, none⟩) n n) (Pl.val l) n := by
  have hs : cs.size = n := by
    have := congrArg List.length hcs
    rw [List.length_map, hn] at this
    simpa using this
  have h : (w.alloc (.cells cs e)).ownsRow w.heap.size e 1 (.slice (some ⟨w.heap.size, 0, none⟩) n n) n (l.map lv) :=
    ⟨by rw [List.length_map, hn]; omega, .inr ⟨_, n, cs, rfl, Nat.le_refl _, heap_alloc_new w _, Nat.le_refl _, by unfold maxLen; omega, by omega, by rw [hcs, List.take_of_length_le (by rw [List.length_map, hn]; omega)]⟩⟩
  exact SliceV.of_own h hf

theorem val6 (a b c d e f : Nat) : Pl.val [a, b, c, d, e, f] = a + 4294967296 * b + 18446744073709551616 * c + 79228162514264337593543950336 * d + 340282366920938463463374607431768211456 * e + 1461501637330902918203684832716283019655932542976 * f := by
  simp only [Pl.val, Pl.B32]; omega

set_option maxHeartbeats 1000000 in
theorem nat2_any (a b c : Nat) (w : World) (ha : a < 18446744073709551616) (hb : b < 18446744073709551616) (hc : c < 18446744073709551616) :
    Calls Try.prog 17 #[.int .u64 a, .int .u64 b, .int .u64 c] w (RetNat (a * 340282366920938463463374607431768211456 + b * 18446744073709551616 + c) w) := by
  have hf : Pl.Fit [c % 4294967296, c / 4294967296, b % 4294967296, b / 4294967296, a % 4294967296, a / 4294967296] := by
    intro x hx
    simp only [List.mem_cons, List.not_mem_nil, or_false] at hx
    unfold Pl.B32
    omega
  have hv : Pl.val [c % 4294967296, c / 4294967296, b % 4294967296, b / 4294967296, a % 4294967296, a / 4294967296] = a * 340282366920938463463374607431768211456 + b * 18446744073709551616 + c := by
    rw [val6]; omega
  have HV := Lib.hid hv
  have HF := Lib.hid hf
  clear hv hf
  go_enter Try.func17, Try.ntmps17
  go_wp2_with (go_at_call 40; refine (trim_v (slice_block w _ 6 _ _ HF.out rfl (by simp [lv]) (by omega)) (by omega)).mono ?_; rw [HV.out]; rintro e w2 ⟨v2, rfl, hv2, hb2⟩)
  go_ret
  exact ⟨v2, rfl, hv2, below_trans1 (hb2.mono (by simp)) ((Below.refl _ _).alloc (Nat.le_refl _) _)⟩
end Go.Proofs.Yteikkoiaeejgaaa
