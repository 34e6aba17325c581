/-
  The row's last step where a slice of words comes in.
-/
import Derived.Test.YtgioliopoepaoaaRowS
import Derived.Test.YtgioliopoepaoaaLaw4
namespace Go.Proofs.Ytgioliopoepaoaa
open Go.ChangeShapes Go.WideShapes Go.ChangeAt Go.RowKit

theorem cells_u64 : Try.prog.cellsOf 22 = 1 := by kernel_rfl
section
variable {H : Type} {enc : TypeId × Value → H}
theorem open_words {W : World} {t : TypeId} {A : Option Addr} {n c : Nat} {d : DataW H} {ps : List MemPlace} (ht : Try.prog.underlying t = some (.slice 22)) (h : DataW.Trod enc Try.prog W 0 (fun _ => true) true t (.slice A n c) d ps) : ∃ l, WLim W A n l ∧ n ≤ c ∧ c ≤ maxLen := by
  obtain ⟨fuel, hf⟩ := h
  rcases open_ints ht Try.underlying22 cells_u64 hf with ⟨hcs, _⟩ | ⟨a, len, cap, zs, hcs, _, hl, hm, hz, _, hcell, hwz⟩
  · simp [Value.cells] at hcs
    obtain ⟨rfl, rfl, rfl⟩ := hcs
    exact ⟨[], WLim.nil W, Nat.le_refl _, Nat.zero_le _⟩
  · simp [Value.cells] at hcs
    obtain ⟨rfl, rfl, rfl⟩ := hcs
    simp only [if_true] at hz
    have hlen : (zs.take n).length = n := by simp; omega
    refine ⟨zs.take n, ⟨hlen, fun x hx => wd_wf (hwz x (List.mem_of_mem_take hx)), ?_, fun h0 => ?_⟩, hl, hm⟩
    · rw [List.length_map, hlen]; omega
    · have h1 := hcell 0 (by omega)
      refine ⟨a, rfl, by have := cell_lt h1; rwa [block_of_add] at this, fun j u hu => ?_⟩
      have hj : j < n := by
        have := (List.getElem?_eq_some_iff.1 hu).1
        rw [List.length_map, hlen] at this; exact this
      rw [hcell j (by omega)]
      rw [List.getElem?_map, List.getElem?_take_of_lt hj, List.getElem?_eq_getElem (by omega)] at hu
      simp only [Option.map_some, Option.some.injEq] at hu
      rw [← hu]
      have e1 : zs.getD j 0 = zs[j] := by rw [List.getD_eq_getElem?_getD, List.getElem?_eq_getElem (by omega)]; rfl
      rw [e1]
end
end Go.Proofs.Ytgioliopoepaoaa
