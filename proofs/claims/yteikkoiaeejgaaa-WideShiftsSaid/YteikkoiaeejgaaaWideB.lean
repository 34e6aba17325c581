/-
  More walks of package wide.
-/
import Derived.Test.YteikkoiaeejgaaaWide
import Derived.Deep.RegionWith
namespace Go.Proofs.Yteikkoiaeejgaaa
open Go.RowKit Go.Shelf

theorem prod_bd {a b : Int} (ha : Wd a) (hb : Wd b) : 0 ≤ a * b ∧ a * b ≤ 340282366920938463426481119284349108225 := by
  obtain ⟨a0, a9⟩ := ha
  obtain ⟨b0, b9⟩ := hb
  refine ⟨Int.mul_nonneg a0 b0, ?_⟩
  have := Int.mul_le_mul (show a ≤ 18446744073709551615 by omega) (show b ≤ 18446744073709551615 by omega) b0 (by decide)
  omega
theorem hi_bd {x : Int} (h : 0 ≤ x ∧ x ≤ 340282366920938463426481119284349108225) : 0 ≤ hiOf x ∧ hiOf x ≤ 18446744073709551614 := by unfold hiOf; omega
theorem lo_bd (x : Int) : 0 ≤ loOf x ∧ loOf x ≤ 18446744073709551615 := by unfold loOf; omega
theorem Wd.hi {x : Int} (h0 : 0 ≤ x) (h1 : x < 340282366920938463463374607431768211456) : Wd (hiOf x) := by unfold Wd hiOf; omega
theorem Wd.lo (x : Int) : Wd (loOf x) := by unfold Wd loOf; omega
theorem times_hi (h l b : Int) : hiOf (h * b) + (hiOf (l * b) + loOf (h * b)) / 18446744073709551616 = hiOf (hiOf (num h l * b)) := by
  have e : num h l * b = (h * b) * 18446744073709551616 + l * b := by unfold num; grind
  rw [e]
  generalize h * b = X
  generalize l * b = Y
  unfold hiOf loOf; omega
theorem times_mid (h l b : Int) : (hiOf (l * b) + loOf (h * b)) % 18446744073709551616 = loOf (hiOf (num h l * b)) := by
  have e : num h l * b = (h * b) * 18446744073709551616 + l * b := by unfold num; grind
  rw [e]
  generalize h * b = X
  generalize l * b = Y
  unfold hiOf loOf; omega
theorem times_lo (h l b : Int) : loOf (l * b) = loOf (num h l * b) := by
  have e : num h l * b = (h * b) * 18446744073709551616 + l * b := by unfold num; grind
  rw [e]
  generalize h * b = X
  generalize l * b = Y
  unfold loOf; omega

set_option maxHeartbeats 2000000 in
theorem times_any (h l b : Int) (w : World) (hh : Wd h) (hl : Wd l) (hb : Wd b) :
    Calls Try.prog 31 #[.agg #[.int .u64 h, .int .u64 l], .int .u64 b] w fun e w' =>
      e = .returned (.agg #[.int .u64 (hiOf (hiOf (num h l * b))), .int .u64 (loOf (hiOf (num h l * b))), .int .u64 (loOf (num h l * b))]) ∧ Below w.heap.size w w' := by
  obtain ⟨p0, p1⟩ := hi_bd (prod_bd hh hb)
  obtain ⟨q0, q1⟩ := hi_bd (prod_bd hl hb)
  obtain ⟨r0, r1⟩ := lo_bd (h * b)
  have k0 : 0 ≤ (hiOf (l * b) + loOf (h * b)) / 18446744073709551616 := by omega
  have k1 : (hiOf (l * b) + loOf (h * b)) / 18446744073709551616 ≤ 1 := by omega
  have H1 := Lib.hid (times_hi h l b)
  have H2 := Lib.hid (times_mid h l b)
  have H3 := Lib.hid (times_lo h l b)
  go_enter Try.func31, Try.ntmps31
  go_wp2
  go_region_held3 (fun w' => w'.cell? ⟨w.heap.size, 0, none⟩ = some (.int .u64 h) ∧ w'.cell? ⟨w.heap.size, 1, none⟩ = some (.int .u64 l)) (simp [go_sem, World.cell?_alloc_past])
    (first | (go_at_call 15; refine (wmul_at _ _ _ (by assumption) (by assumption)).mono ?_; rintro e w1 ⟨rfl, c1, rfl⟩))
  all_goals go_wp2_with (simp only [add64_0 _ _ q0 r0])
  all_goals simp [bodyPost, results, Try.results31, go_sem]
  all_goals exact ⟨⟨H1.out, H2.out, H3.out⟩, by repeat (first | exact Below.refl _ _ | refine Below.drew ?_ | refine Below.alloc ?_ (by simp <;> omega) _)⟩

end Go.Proofs.Yteikkoiaeejgaaa
