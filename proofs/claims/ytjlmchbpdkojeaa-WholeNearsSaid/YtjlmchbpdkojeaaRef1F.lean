/-
  The reference of chapter 1: Times. A block of limbs that the call itself writes.
-/
import Derived.Test.YtjlmchbpdkojeaaRef1E
import Derived.Deep.LoopGhost
import Derived.Deep.Light
import Derived.Laws.Rows
namespace Go.Proofs.Ytjlmchbpdkojeaa
open Go.RowKit Go.Shelf

/-- Block g holds the limbs o. -/
def Blk (w : World) (g : Nat) (o : List Nat) : Prop := w.heap[g]? = some (.cells (o.map lv).toArray 63 (0, 0))
section
variable {w w' : World} {g : Nat} {o : List Nat}
theorem Blk.lt (h : Blk w g o) : g < w.heap.size := by
  unfold Blk at h
  rcases Nat.lt_or_ge g w.heap.size with k | k
  · exact k
  · rw [Array.getElem?_eq_none k] at h; cases h
theorem Blk.cell (h : Blk w g o) {j : Nat} (hj : j < o.length) : w.cell? ⟨g, j, none⟩ = some (.int .u32 ((o.getD j 0 : Nat) : Int)) := by
  unfold Blk at h
  unfold World.cell?
  rw [h]
  simp [List.getD_eq_getElem?_getD, List.getElem?_eq_getElem hj, lv]
theorem Blk.free (h : Blk w g o) (j : Nat) : w.frozen? ⟨g, j, none⟩ = false := frozen_of_row w g j _ _ h
theorem Blk.set (h : Blk w g o) (j : Nat) {z : Int} {x : Nat} (hz : z = x) : Blk (w.setCell ⟨g, j, none⟩ (.int .u32 z)) g (o.set j x) := by
  subst hz
  unfold Blk
  rw [heap_setCell_same w g j _ _ _ h]
  congr 2
  simp [List.map_set, lv]
theorem Blk.drewN (h : Blk w g o) (n : Nat) : Blk (w.drewN n) g o := h
theorem Blk.below (h : Blk w g o) (hb : Below w.heap.size w w') : Blk w' g o := (hb.block g h.lt).trans h
theorem Blk.own (h : Blk w g o) {base n : Nat} (hb : base ≤ g) (hk : o.length = n) (hm : n ≤ maxLen) : w.ownsRow base 63 1 (.slice (some ⟨g, 0, none⟩) n n) n (o.map lv) :=
  ⟨by rw [List.length_map]; omega, .inr ⟨g, n, (o.map lv).toArray, rfl, hb, h, Nat.le_refl _, hm, by simp [hk], by rw [← hk, Nat.mul_one, List.take_of_length_le (by simp)]⟩⟩
theorem Blk.slice (h : Blk w g o) {n : Nat} (hk : o.length = n) (hm : n ≤ maxLen) (hf : Pl.Fit o) : SliceV w (.slice (some ⟨g, 0, none⟩) n n) (Pl.val o) n := SliceV.of_own (h.own (Nat.le_refl _) hk hm) hf
theorem Blk.of_own {base n : Nat} {xs : List Nat} (h : w.ownsRow base 63 1 (.slice (some ⟨g, 0, none⟩) n n) n (xs.map lv)) : Blk w g xs := by
  rcases h.2 with ⟨h0, _⟩ | ⟨g', cap, cur, h1, h2, h3, h4, h5, h6, h7⟩
  · cases h0
  · injection h1 with h1 _ hcap
    injection h1 with h1
    injection h1 with h1
    subst h1
    subst hcap
    unfold Blk
    have : cur = (xs.map lv).toArray := by
      rw [← h7, Nat.mul_one, List.take_of_length_le (by rw [Array.length_toList]; omega)]
    rw [← this]
    exact h3
end

end Go.Proofs.Ytjlmchbpdkojeaa
