/-
  Small words for walks call by call: what is older stays as it was.
-/
import Derived.Test.YteikkoiaeejgaaaRef1G
namespace Go.Proofs.Yteikkoiaeejgaaa
open Go.RowKit Go.Shelf

theorem Bel.al {w0 w : World} (h : Below w0.heap.size w0 w) (o : Obj) : Below w0.heap.size w0 (w.alloc o) := h.alloc h.size o
theorem Bel.st {w0 w w' : World} (h : Below w0.heap.size w0 w) (hb : Below w.heap.size w w') : Below w0.heap.size w0 w' := h.trans (hb.mono h.size)
theorem Bel.dr {w0 w : World} (h : Below w0.heap.size w0 w) : Below w0.heap.size w0 w.drew := ⟨h.os, h.tape, h.output, h.size, h.block⟩
theorem Bel.drN {w0 w : World} (h : Below w0.heap.size w0 w) (n : Nat) : Below w0.heap.size w0 (w.drewN n) := ⟨h.os, h.tape, h.output, h.size, h.block⟩
theorem Bel.re (w : World) : Below w.heap.size w w := Below.refl _ _
theorem NatV.alloc {w : World} {v : Value} {N : Nat} (h : NatV w v N) (o : Obj) : NatV (w.alloc o) v N := h.below ((Below.refl _ _).alloc (Nat.le_refl _) o)
theorem NatV.drewN {w : World} {v : Value} {N : Nat} (h : NatV w v N) (k : Nat) : NatV (w.drewN k) v N := by
  obtain ⟨A, n, c, hv, h1, h2, hl⟩ := h
  exact ⟨A, n, c, hv, h1, h2, hl.drewN k⟩
theorem NatV.drew {w : World} {v : Value} {N : Nat} (h : NatV w v N) : NatV w.drew v N := h.drewN 1
theorem SliceV.drew {w : World} {v : Value} {N d : Nat} (h : SliceV w v N d) : SliceV w.drew v N d := h.drewN 1
theorem shut_alt {p : Bool} (h : p = true) : Ending.returned (.bool p) = .returned (.bool true) := by rw [h]
end Go.Proofs.Yteikkoiaeejgaaa
