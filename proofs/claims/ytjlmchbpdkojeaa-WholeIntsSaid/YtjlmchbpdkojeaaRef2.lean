/-
  The reference of chapter 2: Nat.
-/
import Derived.Test.YtjlmchbpdkojeaaRef1D
namespace Go.Proofs.Ytjlmchbpdkojeaa
open Go.RowKit Go.Shelf

/-- A new block of limbs, as a slice. -/
theorem slice_block (w : World) (l : List Nat) (n : Nat) (cs : Array Value) (e : TypeId) (hf : Pl.Fit l) (hn : l.length = n) (hcs : cs.toList = l.map lv) (hm : n ≤ 1048576) : SliceV (w.alloc (.cells cs e)) (.slice (some ⟨w.heap.size, 0, none⟩) n n) (Pl.val l) n := by
  have hs : cs.size = n := by
    have := congrArg List.length hcs
    rw [List.length_map, hn] at this
    simpa using this
  have h : (w.alloc (.cells cs e)).ownsRow w.heap.size e 1 (.slice (some ⟨w.heap.size, 0, none⟩) n n) n (l.map lv) :=
    ⟨by rw [List.length_map, hn]; omega, .inr ⟨_, n, cs, rfl, Nat.le_refl _, heap_alloc_new w _, Nat.le_refl _, by unfold maxLen; omega, by omega, by rw [hcs, List.take_of_length_le (by rw [List.length_map, hn]; omega)]⟩⟩
  exact SliceV.of_own h hf

theorem val6 (a b c d e f : Nat) : Pl.val [a, b, c, d, e, f] = a + 4294967296 * b + 18446744073709551616 * c + 79228162514264337593543950336 * d + 340282366920938463463374607431768211456 * e + 1461501637330902918203684832716283019655932542976 * f := by
  simp only [Pl.val, Pl.B32]; omega

end Go.Proofs.Ytjlmchbpdkojeaa
