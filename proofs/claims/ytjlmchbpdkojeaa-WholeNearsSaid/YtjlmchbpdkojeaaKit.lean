/-
  Small words for walks call by call: what is older stays as it was.
-/
import Derived.Test.YtjlmchbpdkojeaaRef1G
namespace Go.Proofs.Ytjlmchbpdkojeaa
open Go.RowKit Go.Shelf

theorem Bel.al {w0 w : World} (h : Below w0.heap.size w0 w) (o : Obj) : Below w0.heap.size w0 (w.alloc o) := h.alloc h.size o
theorem Bel.st {w0 w w' : World} (h : Below w0.heap.size w0 w) (hb : Below w.heap.size w w') : Below w0.heap.size w0 w' := h.trans (hb.mono h.size)
theorem Bel.dr {w0 w : World} (h : Below w0.heap.size w0 w) : Below w0.heap.size w0 w.drew := ⟨h.os, h.tape, h.output, h.size, h.block⟩
theorem Bel.drN {w0 w : World} (h : Below w0.heap.size w0 w) (n : Nat) : Below w0.heap.size w0 (w.drewN n) := ⟨h.os, h.tape, h.output, h.size, h.block⟩
theorem Bel.re (w : World) : Below w.heap.size w w := Below.refl _ _
theorem NatV.alloc {w : World} {v : Value} {N : Nat} (h : NatV w v N) (o : Obj) : NatV (w.alloc o) v N := h.below ((Below.refl _ _).alloc (Nat.le_refl _) o)
theorem NatV.drewN {w : World} {v : Value} {N : Nat} (h : NatV w v N) (k : Nat) : NatV (w.drewN k) v N := by
  obtain ⟨A, n, c, hv, h1, h2, hl⟩ := h
  exact ⟨A, n, c, hv, h1, h2, hl.drewN k⟩
theorem NatV.drew {w : World} {v : Value} {N : Nat} (h : NatV w v N) : NatV w.drew v N := h.drewN 1
theorem SliceV.drew {w : World} {v : Value} {N d : Nat} (h : SliceV w v N d) : SliceV w.drew v N d := h.drewN 1
theorem shut_alt {p : Bool} (h : p = true) : Ending.returned (.bool p) = .returned (.bool true) := by rw [h]
theorem NatV.stored {w : World} {v : Value} {N B G j : Nat} {u : Value} (h : NatV w v N) (hf : Fresh B v) (hG : G < B) : NatV (w.setCell ⟨G, j, none⟩ u) v N := by
  obtain ⟨A, n, c, rfl, h1, h2, hl⟩ := h
  refine ⟨A, n, c, rfl, h1, h2, ⟨hl.len, hl.fit, hl.reads.1, fun h0 => ?_⟩⟩
  obtain ⟨ad, rfl, hb, hc⟩ := hl.reads.2 h0
  refine ⟨ad, rfl, by simpa using hb, fun i y hy => ?_⟩
  rw [World.cell?_setCell_other _ _ _ _ (fun e => by
    have e2 := congrArg Addr.block e
    rw [block_of_add] at e2
    have := hf ad n c rfl
    simp at e2
    omega)]
  exact hc i y hy
/-- A block of two cells that may be written. -/
structure HdV (w : World) (n : Nat) (u v : Value) : Prop where
  lt : n < w.heap.size
  c0 : w.cell? ⟨n, 0, none⟩ = some u
  c1 : w.cell? ⟨n, 1, none⟩ = some v
  f0 : w.frozen? ⟨n, 0, none⟩ = false
  f1 : w.frozen? ⟨n, 1, none⟩ = false
theorem HdV.below {w w' : World} {n : Nat} {u v : Value} (h : HdV w n u v) (hb : Below w.heap.size w w') : HdV w' n u v :=
  ⟨Nat.lt_of_lt_of_le h.lt hb.size, (hb.cell (p := ⟨n, 0, none⟩) h.lt).trans h.c0, (hb.cell (p := ⟨n, 1, none⟩) h.lt).trans h.c1, (hb.frozen (p := ⟨n, 0, none⟩) h.lt).trans h.f0, (hb.frozen (p := ⟨n, 1, none⟩) h.lt).trans h.f1⟩
theorem HdV.alloc {w : World} {n : Nat} {u v : Value} (h : HdV w n u v) (o : Obj) : HdV (w.alloc o) n u v := h.below ((Below.refl _ _).alloc (Nat.le_refl _) o)
theorem HdV.drew {w : World} {n : Nat} {u v : Value} (h : HdV w n u v) : HdV w.drew n u v := ⟨h.lt, h.c0, h.c1, h.f0, h.f1⟩
theorem HdV.drewN {w : World} {n : Nat} {u v : Value} (h : HdV w n u v) (k : Nat) : HdV (w.drewN k) n u v := ⟨h.lt, h.c0, h.c1, h.f0, h.f1⟩
theorem HdV.new (w : World) (u v : Value) (t : TypeId) : HdV (w.alloc (.cells #[u, v] t)) w.heap.size u v := ⟨by simp, by simp [go_sem], by simp [go_sem], by simp [go_sem], by simp [go_sem]⟩
theorem HdV.set {w : World} {n : Nat} {u v : Value} (h : HdV w n u v) (a b : Value) : HdV ((w.setCell ⟨n, 0, none⟩ a).setCell ⟨n, 1, none⟩ b) n a b := by
  have e1 : (w.setCell ⟨n, 0, none⟩ a).cell? ⟨n, 1, none⟩ = some v := (World.cell?_setCell_other _ _ _ _ (fun e => by have := congrArg Addr.off e; simp at this)).trans h.c1
  refine ⟨by simpa using h.lt, ?_, World.cell?_setCell_same _ _ _ e1, by simpa using h.f0, by simpa using h.f1⟩
  rw [World.cell?_setCell_other _ _ _ _ (fun e => by have := congrArg Addr.off e; simp at this)]
  exact World.cell?_setCell_same _ _ _ h.c0
theorem HdV.keep2 {w : World} {n G : Nat} {u v : Value} (h : HdV w n u v) (hne : G ≠ n) (a b : Value) : HdV ((w.setCell ⟨G, 0, none⟩ a).setCell ⟨G, 1, none⟩ b) n u v := by
  refine ⟨by simpa using h.lt, ?_, ?_, by simpa using h.f0, by simpa using h.f1⟩
  · rw [World.cell?_setCell_other _ _ _ _ (fun e => hne (congrArg Addr.block e)), World.cell?_setCell_other _ _ _ _ (fun e => hne (congrArg Addr.block e))]; exact h.c0
  · rw [World.cell?_setCell_other _ _ _ _ (fun e => hne (congrArg Addr.block e)), World.cell?_setCell_other _ _ _ _ (fun e => hne (congrArg Addr.block e))]; exact h.c1
theorem Bel.se2 {w0 w : World} {G : Nat} (h : Below w0.heap.size w0 w) (hG : w0.heap.size ≤ G) (a b : Value) : Below w0.heap.size w0 ((w.setCell ⟨G, 0, none⟩ a).setCell ⟨G, 1, none⟩ b) := (h.setCell hG _).setCell hG _
theorem HdV.new' {w w' : World} {u v : Value} {t : TypeId} {n : Nat} (hw : w' = w.alloc (.cells #[u, v] t)) (hn : n = w.heap.size) : HdV w' n u v := by
  subst hw hn; exact HdV.new w u v t
end Go.Proofs.Ytjlmchbpdkojeaa
