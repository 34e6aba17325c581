/-
  Slices that mean a natural; the reference's functions on them, said of any value.
-/
import Derived.Test.YtjlmchbpdkojeaaRef1C
namespace Go.Proofs.Ytjlmchbpdkojeaa
open Go.RowKit Go.Shelf

/-- The value is a slice of at most d limbs that mean N. -/
def SliceV (w : World) (v : Value) (N d : Nat) : Prop := ∃ A n c l, v = .slice A n c ∧ n ≤ c ∧ c ≤ maxLen ∧ Lim w A n l ∧ Pl.val l = N ∧ n ≤ d
theorem SliceV.below {w w' : World} {v : Value} {N d : Nat} (h : SliceV w v N d) (hb : Below w.heap.size w w') : SliceV w' v N d := by
  obtain ⟨A, n, c, l, hv, h1, h2, hl, hN, hd⟩ := h
  exact ⟨A, n, c, l, hv, h1, h2, hl.below hb, hN, hd⟩
theorem SliceV.below' {B : Nat} {w w' : World} {v : Value} {N d : Nat} (h : SliceV w v N d) (hb : Below B w w') (hB : w.heap.size ≤ B) : SliceV w' v N d := h.below (hb.mono hB)
theorem SliceV.drewN {w : World} {v : Value} {N d : Nat} (h : SliceV w v N d) (k : Nat) : SliceV (w.drewN k) v N d := by
  obtain ⟨A, n, c, l, hv, h1, h2, hl, hN, hd⟩ := h
  exact ⟨A, n, c, l, hv, h1, h2, hl.drewN k, hN, hd⟩
theorem SliceV.alloc {w : World} {v : Value} {N d : Nat} (h : SliceV w v N d) (o : Obj) : SliceV (w.alloc o) v N d := h.below ((Below.refl _ _).alloc (Nat.le_refl _) o)
theorem SliceV.lt {w : World} {v : Value} {N d : Nat} (h : SliceV w v N d) : N < Pl.B32 ^ d := by
  obtain ⟨A, n, c, l, hv, h1, h2, hl, hN, hd⟩ := h
  rw [← hN]
  have := Pl.val_lt hl.fit
  rw [hl.len] at this
  exact Nat.lt_of_lt_of_le this (Nat.pow_le_pow_right Pl.B32_pos hd)
theorem SliceV.more {w : World} {v : Value} {N d d' : Nat} (h : SliceV w v N d) (hd : d ≤ d') : SliceV w v N d' := by
  obtain ⟨A, n, c, l, hv, h1, h2, hl, hN, hd'⟩ := h
  exact ⟨A, n, c, l, hv, h1, h2, hl, hN, by omega⟩
theorem NatV.slice {w : World} {v : Value} {N d : Nat} (h : NatV w v N) (hN : N < Pl.B32 ^ d) : SliceV w v N d := by
  obtain ⟨A, n, c, hv, h1, h2, hl⟩ := h
  exact ⟨A, n, c, _, hv, h1, h2, hl, Pl.val_limbs N, by rw [← hl.len]; exact Pl.limbs_len_le hN⟩
theorem SliceV.of_own {w : World} {base : Nat} {e : TypeId} {v : Value} {n : Nat} {l : List Nat} (h : w.ownsRow base e 1 v n (l.map lv)) (hf : Pl.Fit l) : SliceV w v (Pl.val l) n := by
  obtain ⟨A, c, rfl, h1, h2⟩ := own_slice h
  exact ⟨A, n, c, l, rfl, h1, h2, Lim.of_own h hf, rfl, Nat.le_refl _⟩

theorem trim_v {w : World} {v : Value} {N d : Nat} (h : SliceV w v N d) (hd : d ≤ 1048576) : Calls Try.prog 70 #[v] w (RetNat N w) := by
  obtain ⟨A, n, c, l, rfl, h1, h2, hl, rfl, hd'⟩ := h
  exact trim_any A n c l w hl h1 h2 (by omega)
theorem trim_vF {w : World} {v : Value} {N d : Nat} (h : SliceV w v N d) (hd : d ≤ 1048576) : Calls Try.prog 70 #[v] w (RetNatF N w) := by
  obtain ⟨A, n, c, l, rfl, h1, h2, hl, rfl, hd'⟩ := h
  exact trim_fresh A n c l w hl h1 h2 (by omega)
theorem twice_v {w : World} {v : Value} {N d : Nat} (b : Bool) (h : SliceV w v N d) (hd : d ≤ 1048575) : Calls Try.prog 52 #[v, .bool b] w (RetNat (2 * N + b01 b) w) := by
  obtain ⟨A, n, c, l, rfl, h1, h2, hl, rfl, hd'⟩ := h
  exact twice_any A n c l b w hl (by omega)
theorem bit_v {w : World} {v : Value} {N d : Nat} (i : Nat) (h : SliceV w v N d) (hi : i < 4611686018427387904) : Calls Try.prog 64 #[v, .int .i64 i] w fun e w' => e = .returned (.bool (bitB N i)) ∧ w = w' := by
  obtain ⟨A, n, c, l, rfl, h1, h2, hl, rfl, hd'⟩ := h
  exact bit_any A n c i l w hl hi
theorem rlen_v {w : World} {v : Value} {N d : Nat} (h : SliceV w v N d) (hd : d ≤ 1048575) : Calls Try.prog 66 #[v] w fun e w' => e = .returned (.int .i64 (Pl.bl N)) ∧ Below w.heap.size w w' := by
  obtain ⟨A, n, c, l, rfl, h1, h2, hl, rfl, hd'⟩ := h
  exact rlen_any A n c l w hl h1 h2 (by omega)
end Go.Proofs.Ytjlmchbpdkojeaa
