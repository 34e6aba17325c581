/-
  More walks of package wide.
-/
import Derived.Test.YtjlmchbpdkojeaaWide
import Derived.Deep.RegionWith
namespace Go.Proofs.Ytjlmchbpdkojeaa
open Go.RowKit Go.Shelf

theorem prod_bd {a b : Int} (ha : Wd a) (hb : Wd b) : 0 ≤ a * b ∧ a * b ≤ 340282366920938463426481119284349108225 := by
  obtain ⟨a0, a9⟩ := ha
  obtain ⟨b0, b9⟩ := hb
  refine ⟨Int.mul_nonneg a0 b0, ?_⟩
  have := Int.mul_le_mul (show a ≤ 18446744073709551615 by omega) (show b ≤ 18446744073709551615 by omega) b0 (by decide)
  omega
theorem hi_bd {x : Int} (h : 0 ≤ x ∧ x ≤ 340282366920938463426481119284349108225) : 0 ≤ hiOf x ∧ hiOf x ≤ 18446744073709551614 := by unfold hiOf; omega
theorem lo_bd (x : Int) : 0 ≤ loOf x ∧ loOf x ≤ 18446744073709551615 := by unfold loOf; omega
theorem Wd.hi {x : Int} (h0 : 0 ≤ x) (h1 : x < 340282366920938463463374607431768211456) : Wd (hiOf x) := by unfold Wd hiOf; omega
theorem Wd.lo (x : Int) : Wd (loOf x) := by unfold Wd loOf; omega
theorem times_hi (h l b : Int) : hiOf (h * b) + (hiOf (l * b) + loOf (h * b)) / 18446744073709551616 = hiOf (hiOf (num h l * b)) := by
  have e : num h l * b = (h * b) * 18446744073709551616 + l * b := by unfold num; grind
  rw [e]
  generalize h * b = X
  generalize l * b = Y
  unfold hiOf loOf; omega
theorem times_mid (h l b : Int) : (hiOf (l * b) + loOf (h * b)) % 18446744073709551616 = loOf (hiOf (num h l * b)) := by
  have e : num h l * b = (h * b) * 18446744073709551616 + l * b := by unfold num; grind
  rw [e]
  generalize h * b = X
  generalize l * b = Y
  unfold hiOf loOf; omega
theorem times_lo (h l b : Int) : loOf (l * b) = loOf (num h l * b) := by
  have e : num h l * b = (h * b) * 18446744073709551616 + l * b := by unfold num; grind
  rw [e]
  generalize h * b = X
  generalize l * b = Y
  unfold loOf; omega

end Go.Proofs.Ytjlmchbpdkojeaa
