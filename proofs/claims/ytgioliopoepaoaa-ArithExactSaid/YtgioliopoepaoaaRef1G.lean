/-
  The reference of chapter 1: Parts.
-/
import Derived.Test.YtgioliopoepaoaaRef1F
namespace Go.Proofs.Ytgioliopoepaoaa
open Go.RowKit Go.Shelf

theorem NatV.below {w w' : World} {v : Value} {N : Nat} (h : NatV w v N) (hb : Below w.heap.size w w') : NatV w' v N := by
  obtain ⟨A, n, c, hv, h1, h2, hl⟩ := h
  exact ⟨A, n, c, hv, h1, h2, hl.below hb⟩
theorem NatV.nil (w : World) : NatV w (.slice none 0 0) 0 := ⟨none, 0, 0, rfl, Nat.le_refl _, Nat.zero_le _, by rw [Pl.limbs_zero]; exact Lim.nil w⟩
theorem SliceV.nil (w : World) (d : Nat) : SliceV w (.slice none 0 0) 0 d := (NatV.nil w).slice (Nat.pow_pos Pl.B32_pos)
theorem SliceV.stored {w : World} {v : Value} {N d B G j : Nat} {u : Value} (h : SliceV w v N d) (hf : Fresh B v) (hG : G < B) : SliceV (w.setCell ⟨G, j, none⟩ u) v N d := by
  obtain ⟨A, n, c, l, rfl, h1, h2, hl, hN, hd⟩ := h
  refine ⟨A, n, c, l, rfl, h1, h2, ⟨hl.len, hl.fit, hl.reads.1, fun h0 => ?_⟩, hN, hd⟩
  obtain ⟨ad, rfl, hb, hc⟩ := hl.reads.2 h0
  refine ⟨ad, rfl, by simpa using hb, fun i y hy => ?_⟩
  rw [World.cell?_setCell_other _ _ _ _ (fun e => by
    have e2 := congrArg Addr.block e
    rw [block_of_add] at e2
    have := hf ad n c rfl
    simp at e2
    omega)]
  exact hc i y hy
def RetTwo (N M : Nat) (w : World) (e : Ending) (w' : World) : Prop := ∃ v u, e = .returned (.tuple #[v, u]) ∧ NatV w' v N ∧ NatV w' u M ∧ Below w.heap.size w w'

theorem wraps_u32_ (n : Int) (h : 0 ≤ n ∧ n < 4294967296) : IntKind.u32.wrap n = n := by rw [IntKind.wrap_u32]; omega
theorem or_bit32 (x P r : Nat) (hr : r < 32) (hP : 2 ^ r = P) (hx : x < 4294967296) (h : x % 2 ^ (r + 1) = 0) : bits .or .u32 (x : Int) (P : Int) = ((x + P : Nat) : Int) := by
  have hp : (2 : Nat) ^ r < 2 ^ (r + 1) := Nat.pow_lt_pow_right (by omega) (by omega)
  have hp2 : (2 : Nat) ^ r < 2 ^ 32 := Nat.pow_lt_pow_right (by omega) (by omega)
  have hp3 : ((2 ^ (r + 1) : Nat) : Int) = (2 : Int) ^ (r + 1) := by simp
  have h2 : (x : Int) % (2 : Int) ^ (r + 1) = 0 := by rw [← hp3]; omega
  have := bits_join .u32 32 (by decide) wraps_u32 (r + 1) (x : Int) (P : Int) (by omega) h2 (by omega) (by omega) (by rw [← hp3]; omega) (by omega)
  rw [this]; omega
theorem or_new32 (x P r : Nat) (hr : r < 32) (hP : 2 ^ r = P) (h : x < 2 ^ r) : bits .or .u32 (x : Int) (P : Int) = ((x + P : Nat) : Int) := by
  have hp2 : (2 : Nat) ^ r < 2 ^ 32 := Nat.pow_lt_pow_right (by omega) (by omega)
  have hp3 : ((2 ^ r : Nat) : Int) = (2 : Int) ^ r := by simp
  have h2 : (P : Int) % (2 : Int) ^ r = 0 := by rw [← hp3, hP]; simp
  rw [bits_or_comm, bits_join .u32 32 (by decide) wraps_u32 r (P : Int) (x : Int) (by omega) h2 (by omega) (by omega) (by rw [← hp3]; omega) (by omega)]
  omega

theorem fit_zeros' (n : Nat) : Pl.Fit (List.replicate n 0) := fun x hx => by rw [(List.mem_replicate.1 hx).2]; exact Pl.B32_pos
theorem double_bd {R M d : Nat} {b : Bool} (h : R < M) (hM : M < Pl.B32 ^ d) : 2 * R + b01 b < Pl.B32 ^ (d + 1) := by
  have := b01_le b
  rw [Nat.pow_succ]
  have h2 : Pl.B32 ^ d * 2 ≤ Pl.B32 ^ d * Pl.B32 := Nat.mul_le_mul_left _ (by decide)
  omega
theorem b01_bit (N j : Nat) : b01 (bitB N j) = N / 2 ^ j % 2 := by
  unfold b01 bitB
  by_cases h : N / 2 ^ j % 2 = 1
  · simp [h]
  · have : N / 2 ^ j % 2 = 0 := by omega
    simp [this]
theorem cmp_ge' {a b : Nat} (h : b ≤ a) : 0 ≤ cmpI (a : Int) b := by unfold cmpI; (repeat' split) <;> omega

end Go.Proofs.Ytgioliopoepaoaa
