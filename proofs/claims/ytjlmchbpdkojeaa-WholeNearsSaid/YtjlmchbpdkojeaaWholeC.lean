/-
  The walks of package whole: of.
-/
import Derived.Test.YtjlmchbpdkojeaaWholeB
namespace Go.Proofs.Ytjlmchbpdkojeaa
open Go.RowKit Go.Shelf

theorem and1_lo (n : Nat) (hn : n < 18446744073709551616) : (bits .and .u64 (n : Int) 1 == 1) = decide (n % 2 = 1) := qodd n hn
set_option maxRecDepth 100000 in
set_option maxHeartbeats 2000000 in
theorem of6_big (x : Int) (w : World) (hx : Wd x) (he : 0 ≤ expo x) : Calls Try.prog 33 #[.int .u64 x] w fun e w' => e = .returned (.tuple #[(spW x).val, .bool false]) ∧ Below w.heap.size w w' := by
  have CS := fun v => split_any x v hx
  have bm := mant_bd (x := x)
  have be := expo_bd (x := x)
  unfold spW
  rw [if_pos he]
  unfold Sp.val
  dsimp only
  obtain ⟨m, hm⟩ : ∃ m : Nat, mant x = m := ⟨(mant x).toNat, by omega⟩
  obtain ⟨e, hee⟩ : ∃ e, expo x = e := ⟨_, rfl⟩
  obtain ⟨s, hs⟩ : ∃ s, sgn x = s := ⟨_, rfl⟩
  rw [hm, hee, hs] at CS
  rw [hm, hs, Int.toNat_natCast]
  rw [hee] at he be
  replace CS := Lib.hid CS
  clear hm hee hs hx bm
  go_enter Try.func33, Try.ntmps33
  go_wp2_with (go_at_call 43; (with_reducible refine (CS.out _).mono ?_); rintro e w' ⟨rfl, rfl⟩)
  refine bodyPost_ret (v := .tuple #[.agg #[.bool s, .bool false, .bool false, .int .u64 m], .bool false]) (by simp [results, Try.results33, go_sem]) rfl ⟨rfl, Bel.al (Bel.re _) _⟩
theorem lo_nat {n : Nat} (h : n < 18446744073709551616) : loOf (n : Int) = n := by unfold loOf; omega
set_option maxRecDepth 100000 in
set_option maxHeartbeats 4000000 in
theorem of6_small (x : Int) (w : World) (hx : Wd x) (he : ¬ 0 ≤ expo x) : Calls Try.prog 33 #[.int .u64 x] w fun e w' => e = .returned (.tuple #[(spW x).val, .bool true]) ∧ Below w.heap.size w w' := by
  have CS := fun v => split_any x v hx
  have bm := mant_bd (x := x)
  have be := expo_bd (x := x)
  unfold spW
  rw [if_neg he]
  unfold Sp.val
  dsimp only
  obtain ⟨m, hm⟩ : ∃ m : Nat, mant x = m := ⟨(mant x).toNat, by omega⟩
  obtain ⟨k, hk⟩ : ∃ k : Nat, -expo x = ((k + 1 : Nat) : Int) := ⟨(-expo x - 1).toNat, by omega⟩
  obtain ⟨e, hee⟩ : ∃ e, expo x = e := ⟨_, rfl⟩
  obtain ⟨s, hs⟩ : ∃ s, sgn x = s := ⟨_, rfl⟩
  rw [hm, hee, hs] at CS
  rw [hm, hs, hk, Int.toNat_natCast, Int.toNat_natCast]
  rw [hm] at bm
  rw [hee] at he be hk
  have h1 := shr_k 0 (m : Int) (k : Int) k
  have CR := fun v => h1 v ⟨by decide, by decide⟩ ⟨by omega, by omega⟩ (by omega) (by omega)
  have e1 : num 0 (m : Int) = m := by unfold num; omega
  rw [e1, shrN_nat, lostN_nat] at CR
  obtain ⟨n0, hn0⟩ : ∃ n0, m / 2 ^ k = n0 := ⟨_, rfl⟩
  have hn1 : n0 ≤ m := by rw [← hn0]; exact Nat.div_le_self _ _
  obtain ⟨r, hr⟩ : ∃ r, decide (m % 2 ^ k ≠ 0) = r := ⟨_, rfl⟩
  rw [hn0, hr, lo_nat (by omega)] at CR
  have hH : hB m (k + 1) = decide (n0 % 2 = 1) := by unfold hB; rw [Nat.add_sub_cancel, hn0]
  have hR : rB m (k + 1) = r := by unfold rB; rw [Nat.add_sub_cancel]; exact hr
  have hQ : m / 2 ^ (k + 1) = n0 / 2 := by rw [Nat.pow_succ, ← Nat.div_div_eq_div_mul, hn0]
  rw [hH, hR, hQ]
  have ho := qodd n0 (by omega)
  obtain ⟨o, hoo⟩ : ∃ o, decide (n0 % 2 = 1) = o := ⟨_, rfl⟩
  rw [hoo] at ho ⊢
  obtain ⟨NH, hNH⟩ : ∃ NH, hiOf (n0 : Int) = NH := ⟨_, rfl⟩
  rw [hNH] at CR
  obtain ⟨n2, hn2⟩ : ∃ n2, n0 / 2 = n2 := ⟨_, rfl⟩
  have hq : (n0 : Int) / 2 = (n2 : Int) := by omega
  rw [hn2]
  have hw : IntKind.i64.wrap (-e) = -e := by rw [IntKind.wrap_i64]; omega
  have hkk : -e - 1 = (k : Int) := by omega
  replace CS := Lib.hid CS
  replace CR := Lib.hid CR
  have he1 : e < 0 := by omega
  clear hm hee hs hx bm hk h1 e1 hn2 hn0 hr hH hR hQ hoo hNH he
  go_enter Try.func33, Try.ntmps33
  go_wp2_with fail
  (with_reducible refine (CS.out _).mono ?_)
  rintro e w' ⟨rfl, rfl⟩
  go_wp2_with fail
  (with_reducible refine (CR.out _).mono ?_)
  rintro e w1 ⟨rfl, hb1⟩
  have T0 := Sp4.new w (.bool false) (.bool false) (.bool false) (.int .u64 0) 43
  have z0 : w.heap.size < w1.heap.size := Nat.lt_of_lt_of_le (by simp) hb1.size
  have c0 := (hb1.cell (p := ⟨w.heap.size, 0, none⟩) (by simp)).trans (T0.c0)
  have c1 := (hb1.cell (p := ⟨w.heap.size, 1, none⟩) (by simp)).trans (T0.c1)
  have c2 := (hb1.cell (p := ⟨w.heap.size, 2, none⟩) (by simp)).trans (T0.c2)
  have c3 := (hb1.cell (p := ⟨w.heap.size, 3, none⟩) (by simp)).trans (T0.c3)
  have f0 : w1.frozen? ⟨w.heap.size, 0, none⟩ = false := (hb1.frozen (p := ⟨w.heap.size, 0, none⟩) (by simp)).trans (by simp [go_sem])
  have f1 : w1.frozen? ⟨w.heap.size, 1, none⟩ = false := (hb1.frozen (p := ⟨w.heap.size, 1, none⟩) (by simp)).trans (by simp [go_sem])
  have f2 : w1.frozen? ⟨w.heap.size, 2, none⟩ = false := (hb1.frozen (p := ⟨w.heap.size, 2, none⟩) (by simp)).trans (by simp [go_sem])
  have f3 : w1.frozen? ⟨w.heap.size, 3, none⟩ = false := (hb1.frozen (p := ⟨w.heap.size, 3, none⟩) (by simp)).trans (by simp [go_sem])
  have hBB := Bel.st (Bel.al (Bel.re w) _) hb1
  clear T0 hb1
  go_wp2_with fail
  refine bodyPost_ret (v := .tuple #[.agg #[.bool s, .bool o, .bool r, .int .u64 n2], .bool true]) (by simp [results, Try.results33, go_sem, c0, c1, c2, c3, z0]) rfl ⟨rfl, ?_⟩
  exact Bel.al ((((hBB.setCell (Nat.le_refl _) _).setCell (Nat.le_refl _) _).setCell (Nat.le_refl _) _).setCell (Nat.le_refl _) _) _
theorem of6_any (x : Int) (w : World) (hx : Wd x) : Calls Try.prog 33 #[.int .u64 x] w fun e w' => e = .returned (.tuple #[(spW x).val, .bool (decide (expo x < 0))]) ∧ Below w.heap.size w w' := by
  by_cases h : 0 ≤ expo x
  · rw [decide_eq_false (by omega)]; exact of6_big x w hx h
  · rw [decide_eq_true (by omega)]; exact of6_small x w hx h
end Go.Proofs.Ytjlmchbpdkojeaa
