/-
  WideBack: the walk.
-/
import Derived.Test.YteikkoiaeejgaaaLaw2C
namespace Go.Proofs.Yteikkoiaeejgaaa
open Go.RowKit Go.Shelf

/-- Two blocks that came in, and what was there before. -/
structure Two (w w' : World) (ah al bh bl : Int) : Prop where
  a : Hd w' w.heap.size ah al
  b : Hd w' (w.heap.size + 1) bh bl
  below : Below w.heap.size w w'
theorem Two.step {w w' w'' : World} {ah al bh bl : Int} (h : Two w w' ah al bh bl) (hb : Below w'.heap.size w' w'') : Two w w'' ah al bh bl :=
  ⟨h.a.below hb, h.b.below hb, behind h.below hb h.below.size⟩
theorem Two.alloc {w w' : World} {ah al bh bl : Int} (h : Two w w' ah al bh bl) (o : Obj) : Two w (w'.alloc o) ah al bh bl := h.step ((Below.refl _ _).alloc (Nat.le_refl _) o)
theorem Two.start (w : World) (ah al bh bl : Int) (t : TypeId) : Two w ((w.alloc (.cells #[.int .u64 ah, .int .u64 al] t)).alloc (.cells #[.int .u64 bh, .int .u64 bl] t)) ah al bh bl :=
  ⟨(Hd.new w ah al t).alloc _, by have := Hd.new (w.alloc (.cells #[.int .u64 ah, .int .u64 al] t)) bh bl t; simpa using this, ((Below.refl _ _).alloc (Nat.le_refl _) _).alloc (by simp) _⟩
theorem bl_128 {h l : Int} (hh : Wd h) (hl : Wd l) : Pl.bl (num h l).toNat ≤ 128 := by
  obtain ⟨q1, q2⟩ := num_bd hh hl
  exact Pl.bl_le_of_lt (by
    have : (2 : Nat) ^ 128 = 340282366920938463463374607431768211456 := by decide
    omega)
/-- |n % 64|, as Go reckons it. -/
theorem tmod_cases (n : Int) : ∃ k : Nat, k < 64 ∧ (0 ≤ n → n % 64 = k) ∧ (n.tmod 64 = k ∨ (n.tmod 64 = -(k : Int) ∧ 0 < k)) := by
  rcases Int.le_total 0 n with h | h
  · exact ⟨(n % 64).toNat, by omega, fun _ => by omega, .inl (by rw [Int.tmod_eq_emod_of_nonneg h]; omega)⟩
  · have e : n.tmod 64 = -((-n) % 64) := by
      have := Int.neg_tmod (-n) 64
      rw [Int.neg_neg] at this
      rw [this, Int.tmod_eq_emod_of_nonneg (by omega)]
    by_cases hz : (-n) % 64 = 0
    · exact ⟨0, by decide, fun g => by omega, .inl (by rw [e, hz]; rfl)⟩
    · exact ⟨((-n) % 64).toNat, by omega, fun g => by omega, .inr ⟨by rw [e]; omega, by omega⟩⟩
end Go.Proofs.Yteikkoiaeejgaaa
