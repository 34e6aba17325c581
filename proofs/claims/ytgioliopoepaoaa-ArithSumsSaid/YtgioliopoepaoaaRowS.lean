/-
  The row's last step where slices of integers come in: what they read as, and that they are handed back.
-/
import Derived.Test.YtgioliopoepaoaaRow
import Derived.Test.YtgioliopoepaoaaRef1D
import Derived.ChangeSlices
import Derived.WideKeyArgs
namespace Go.Proofs.Ytgioliopoepaoaa
open Go.ChangeShapes Go.WideShapes Go.ChangeAt Go.RowKit

theorem laid_out : laidOutB Try.prog = true := by kernel_rfl
theorem cells_u32 : Try.prog.cellsOf 66 = 1 := by kernel_rfl
section
variable {H : Type} {enc : TypeId × Value → H}
theorem cell_lt {W : World} {a : Addr} {v : Value} (h : W.cell? a = some v) : a.block < W.heap.size := by
  rcases Nat.lt_or_ge a.block W.heap.size with g | g
  · exact g
  · exfalso
    unfold World.cell? at h
    rw [Array.getElem?_eq_none g] at h
    cases h
theorem open_limbs {W : World} {t : TypeId} {A : Option Addr} {n c : Nat} {d : DataW H} {ps : List MemPlace} (ht : Try.prog.underlying t = some (.slice 66)) (h : DataW.Trod enc Try.prog W 0 (fun _ => true) true t (.slice A n c) d ps) : ∃ l, Lim W A n l ∧ n ≤ c ∧ c ≤ maxLen := by
  obtain ⟨fuel, hf⟩ := h
  rcases open_ints ht Try.underlying66 cells_u32 hf with ⟨hcs, _⟩ | ⟨a, len, cap, zs, hcs, _, hl, hm, hz, _, hcell, hwz⟩
  · simp [Value.cells] at hcs
    obtain ⟨rfl, rfl, rfl⟩ := hcs
    exact ⟨[], Lim.nil W, Nat.le_refl _, Nat.zero_le _⟩
  · simp [Value.cells] at hcs
    obtain ⟨rfl, rfl, rfl⟩ := hcs
    simp only [if_true] at hz
    have hlen : ((zs.take n).map Int.toNat).length = n := by simp; omega
    refine ⟨(zs.take n).map Int.toNat, ⟨hlen, fun x hx => ?_, ?_, fun h0 => ?_⟩, hl, hm⟩
    · obtain ⟨z, hz', rfl⟩ := List.mem_map.1 hx
      have := bounds_u32 (hwz z (List.mem_of_mem_take hz'))
      unfold Pl.B32
      omega
    · rw [List.length_map, hlen]; omega
    · have h1 := hcell 0 (by omega)
      refine ⟨a, rfl, by have := cell_lt h1; rwa [block_of_add] at this, fun j u hu => ?_⟩
      have hj : j < n := by
        have := (List.getElem?_eq_some_iff.1 hu).1
        rw [List.length_map, hlen] at this; exact this
      rw [hcell j (by omega)]
      rw [List.getElem?_map, List.getElem?_map, List.getElem?_take_of_lt hj, List.getElem?_eq_getElem (by omega)] at hu
      simp only [Option.map_some, Option.some.injEq] at hu
      rw [← hu]
      have hb := bounds_u32 (hwz zs[j] (List.getElem_mem (by omega)))
      have e1 : zs.getD j 0 = zs[j] := by rw [List.getD_eq_getElem?_getD, List.getElem?_eq_getElem (by omega)]; rfl
      rw [e1]
      unfold lv
      congr 2
      omega
/-- What only is read reads afterwards as it did. -/
theorem stays {W W' : World} {sp : Nat → Bool} {t : TypeId} {v : Value} {d : DataW H} {ps : List MemPlace} (hr : Try.prog.readableRec t = true) (hrow : t < Try.prog.types.size)
    (h : DataW.Trod enc Try.prog W 0 (fun _ => true) true t v d ps) (hb : Below W.heap.size W W') (hlt : ∀ x ∈ ps, x.block < W.heap.size) (hs : ∀ p ∈ ps, sp p.block = true) : DataW.Trod enc Try.prog W' 0 sp true t v d ps :=
  WideElems.Trod_stays laid_out hr hrow h (fun x hx => hb.same (hlt x hx)) hs
end
end Go.Proofs.Ytgioliopoepaoaa
