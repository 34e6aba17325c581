/-
  WideRoots: the walk.
-/
import Derived.Test.YteikkoiaeejgaaaLaw2
namespace Go.Proofs.Yteikkoiaeejgaaa
open Go.RowKit Go.Shelf

theorem root_facts {h l : Int} (hh : Wd h) (hl : Wd l) : ∃ R : Nat, Pl.rt (num h l).toNat = R ∧ R < 18446744073709551616 ∧ (R : Int) * R ≤ num h l ∧ num h l < ((R : Int) + 1) * ((R : Int) + 1) := by
  obtain ⟨h0, h1⟩ := hh
  obtain ⟨l0, l1⟩ := hl
  obtain ⟨s1, s2⟩ := Pl.rt_spec (num h l).toNat
  obtain ⟨N, hN⟩ : ∃ N : Nat, num h l = N := ⟨(num h l).toNat, by unfold num; omega⟩
  have hlt : N < 340282366920938463463374607431768211456 := by unfold num at hN; omega
  rw [hN, Int.toNat_natCast] at s1 s2 ⊢
  refine ⟨_, rfl, ?_, by exact_mod_cast s1, by exact_mod_cast s2⟩
  generalize Pl.rt N = R at *
  rcases Nat.lt_or_ge R 18446744073709551616 with g | g
  · exact g
  · have := Nat.mul_le_mul g g
    omega
theorem cmp_1 {x A : Int} (h : A < x) : cmpI x A = 1 := by unfold cmpI; rw [if_neg (by omega), if_neg (by omega)]
theorem cmp_0 (x : Int) : cmpI x x = 0 := by unfold cmpI; rw [if_neg (by omega), if_pos rfl]
theorem cmp_m {x A : Int} (h : x < A) : cmpI x A = -1 := by unfold cmpI; rw [if_pos h]

set_option maxRecDepth 100000 in
set_option maxHeartbeats 4000000 in
theorem roots_walk (h l : Int) (w : World) (hh : Wd h) (hl : Wd l) :
    Calls Try.prog 7 #[.agg #[.int .u64 h, .int .u64 l]] w fun r w' => r = .returned (.bool true) ∧ Below w.heap.size w w' := by
  obtain ⟨R, hR, hR1, hR2, hR3⟩ := root_facts hh hl
  obtain ⟨S, hS⟩ : ∃ S : Int, (R : Int) * (R : Int) = S := ⟨_, rfl⟩
  obtain ⟨E, hE⟩ : ∃ E : Bool, decide (S = num h l) = E := ⟨_, rfl⟩
  obtain ⟨C, hC⟩ : ∃ C : Int, cmpI S (num h l) = C := ⟨_, rfl⟩
  obtain ⟨SH, hSH⟩ : ∃ SH : Int, hiOf S = SH := ⟨_, rfl⟩
  obtain ⟨SL, hSL⟩ : ∃ SL : Int, loOf S = SL := ⟨_, rfl⟩
  rw [hS] at hR2
  have wR : Wd (R : Int) := ⟨by omega, by omega⟩
  have hnum : num SH SL = S := by rw [← hSH, ← hSL, num_parts]
  have wSL : Wd SL := by rw [← hSL]; exact Wd.lo S
  have hC0 : decide (0 < C) = false := by rw [← hC]; simp; unfold cmpI; (repeat' split) <;> omega
  have hEq : E = true → SH = h ∧ SL = l := fun g => by
    rw [← hE] at g
    have g := of_decide_eq_true g
    rw [← hSH, ← hSL, g]
    exact ⟨hi_num hl.1 hl.2, lo_num hl.1 hl.2⟩
  have hNe : E = false → SH = h → SL = l → False := fun g h1 h2 => by
    rw [← hE] at g
    have g := of_decide_eq_false g
    exact g (by rw [← hnum, h1, h2])
  have HR := Lib.hid hR
  have HS := Lib.hid hS
  have HE := Lib.hid hE
  have HC := Lib.hid hC
  have HSH := Lib.hid hSH
  have HSL := Lib.hid hSL
  have HNUM := Lib.hid hnum
  clear hR hS hE hC hSH hSL hnum
  obtain ⟨T, hT⟩ : ∃ T : Int, ((R : Int) + 1) * ((R : Int) + 1) = T := ⟨_, rfl⟩
  rw [hT] at hR3
  have wTL : Wd (loOf T) := Wd.lo T
  have HCT := Lib.hid (show cmpI (num (hiOf T) (loOf T)) (num h l) = 1 by rw [num_parts]; exact cmp_1 hR3)
  have HT := Lib.hid hT
  clear hT hR3 hR2
  cases E
  · by_cases e1 : SH = h
    · have e2 : SL ≠ l := fun g => hNe rfl e1 g
      have e3 : (SL == l) = false := by simpa using e2
      have e4 : (SH == h) = true := by simpa using e1
      have E1 := Lib.hid e1
      clear hEq hNe e1
      go_enter Try.func7, Try.ntmps7
      go_wp2_with fail
      (with_reducible refine (shown2_any _).mono ?_)
      rintro e w0 ⟨rfl, hb0⟩
      have hB := below_trans' (hb0.mono (B' := w.heap.size) (by simp)) ((Below.refl _ _).alloc (Nat.le_refl _) _)
      have BA := (Hd.new w h l _).below hb0
      obtain ⟨za, aa0, aa1⟩ := id BA
      clear hb0
      go_wp2_with fail
      (with_reducible refine (root_any h l _ hh hl).mono ?_)
      rw [HR.out, HS.out, HE.out]
      rintro e w1 ⟨rfl, hb1⟩
      replace hB := behind hB hb1 hB.size
      replace BA := BA.below hb1
      clear hb1 za aa0 aa1
      obtain ⟨za, aa0, aa1⟩ := id BA
      go_wp2_with fail
      (with_reducible refine (wmul_any (R : Int) (R : Int) _ wR wR).mono ?_)
      rw [HS.out, HSH.out, HSL.out]
      rintro e w2 ⟨rfl, hb2⟩
      replace hB := behind hB hb2 hB.size
      replace BA := BA.below hb2
      clear hb2 za aa0 aa1
      obtain ⟨za, aa0, aa1⟩ := id BA
      go_wp2_with fail
      (with_reducible refine (cmp_any SH SL h l _ wSL hl).mono ?_)
      rw [HNUM.out, HC.out]
      rintro e w3 ⟨rfl, hb3⟩
      replace hB := behind (hB.alloc hB.size _) hb3 (Nat.le_trans hB.size (by simp))
      have BS := (Hd.new w2 SH SL _).below hb3
      replace BA := (BA.alloc _).below hb3
      clear hb3 za aa0 aa1
      obtain ⟨za, aa0, aa1⟩ := id BA
      obtain ⟨zs, ss0, ss1⟩ := id BS
      go_wp2_with fail
      · go_ret
        exact ⟨rfl, hB⟩
      · have hx : ((R : Int) == 18446744073709551615) = false := by assumption
        have hx2 : (R : Int) ≠ 18446744073709551615 := fun g => by rw [g] at hx; revert hx; decide
        have wR1 : Wd ((R : Int) + 1) := ⟨by omega, by omega⟩
        have sR : IntKind.u64.wrap ((R : Int) + 1) = (R : Int) + 1 := by rw [IntKind.wrap_u64]; omega
        clear hx hx2
        go_region_held3 (fun w' => w'.cell? ⟨w.heap.size, 0, none⟩ = some (.int .u64 h) ∧ w'.cell? ⟨w.heap.size, 1, none⟩ = some (.int .u64 l) ∧ w.heap.size < w'.heap.size ∧ Below w.heap.size w w') (refine ⟨?_, ?_, ?_, ?_⟩ <;> (first | assumption | (go_keep; done) | omega | (simp; omega) | exact Below.drew (by assumption))) (first | (go_at_call 15; refine (wmul_any _ _ _ wR1 wR1).mono ?_; rw [HT.out]; rintro e w4 ⟨rfl, hb4⟩; have q4 := hb4.cell (p := ⟨w.heap.size, 0, none⟩) (by first | assumption | omega | (simp; omega)); have p4 := hb4.cell (p := ⟨w.heap.size, 1, none⟩) (by first | assumption | omega | (simp; omega)); have z4 : w.heap.size < w4.heap.size := Nat.lt_of_lt_of_le (by first | assumption | omega | (simp; omega)) hb4.size; have B4 : Below w.heap.size w w4 := below_trans' (hb4.mono (by omega)) (by first | assumption | exact Below.drew (by assumption))) | (go_at_call 18; refine (cmp_any _ _ _ _ _ wTL hl).mono ?_; rw [HCT.out]; rintro e w5 ⟨rfl, hb5⟩; have q5 := hb5.cell (p := ⟨w.heap.size, 0, none⟩) (by first | assumption | omega | (simp; omega)); have p5 := hb5.cell (p := ⟨w.heap.size, 1, none⟩) (by first | assumption | omega | (simp; omega)); have z5 : w.heap.size < w5.heap.size := Nat.lt_of_lt_of_le (by first | assumption | omega | (simp; omega)) hb5.size; have B5 : Below w.heap.size w w5 := below_trans' (hb5.mono (by omega)) (by first | assumption | exact Below.drew (by assumption))))
        all_goals go_wp2
        all_goals go_ret
        all_goals exact ⟨ret_bool (by simp), by assumption⟩
    · have e4 : (SH == h) = false := by simpa using e1
      clear hEq hNe
      go_enter Try.func7, Try.ntmps7
      go_wp2_with fail
      (with_reducible refine (shown2_any _).mono ?_)
      rintro e w0 ⟨rfl, hb0⟩
      have hB := below_trans' (hb0.mono (B' := w.heap.size) (by simp)) ((Below.refl _ _).alloc (Nat.le_refl _) _)
      have BA := (Hd.new w h l _).below hb0
      obtain ⟨za, aa0, aa1⟩ := id BA
      clear hb0
      go_wp2_with fail
      (with_reducible refine (root_any h l _ hh hl).mono ?_)
      rw [HR.out, HS.out, HE.out]
      rintro e w1 ⟨rfl, hb1⟩
      replace hB := behind hB hb1 hB.size
      replace BA := BA.below hb1
      clear hb1 za aa0 aa1
      obtain ⟨za, aa0, aa1⟩ := id BA
      go_wp2_with fail
      (with_reducible refine (wmul_any (R : Int) (R : Int) _ wR wR).mono ?_)
      rw [HS.out, HSH.out, HSL.out]
      rintro e w2 ⟨rfl, hb2⟩
      replace hB := behind hB hb2 hB.size
      replace BA := BA.below hb2
      clear hb2 za aa0 aa1
      obtain ⟨za, aa0, aa1⟩ := id BA
      go_wp2_with fail
      (with_reducible refine (cmp_any SH SL h l _ wSL hl).mono ?_)
      rw [HNUM.out, HC.out]
      rintro e w3 ⟨rfl, hb3⟩
      replace hB := behind (hB.alloc hB.size _) hb3 (Nat.le_trans hB.size (by simp))
      have BS := (Hd.new w2 SH SL _).below hb3
      replace BA := (BA.alloc _).below hb3
      clear hb3 za aa0 aa1
      obtain ⟨za, aa0, aa1⟩ := id BA
      obtain ⟨zs, ss0, ss1⟩ := id BS
      go_wp2_with fail
      · go_ret
        exact ⟨rfl, hB⟩
      · have hx : ((R : Int) == 18446744073709551615) = false := by assumption
        have hx2 : (R : Int) ≠ 18446744073709551615 := fun g => by rw [g] at hx; revert hx; decide
        have wR1 : Wd ((R : Int) + 1) := ⟨by omega, by omega⟩
        have sR : IntKind.u64.wrap ((R : Int) + 1) = (R : Int) + 1 := by rw [IntKind.wrap_u64]; omega
        clear hx hx2
        go_region_held3 (fun w' => w'.cell? ⟨w.heap.size, 0, none⟩ = some (.int .u64 h) ∧ w'.cell? ⟨w.heap.size, 1, none⟩ = some (.int .u64 l) ∧ w.heap.size < w'.heap.size ∧ Below w.heap.size w w') (refine ⟨?_, ?_, ?_, ?_⟩ <;> (first | assumption | (go_keep; done) | omega | (simp; omega) | exact Below.drew (by assumption))) (first | (go_at_call 15; refine (wmul_any _ _ _ wR1 wR1).mono ?_; rw [HT.out]; rintro e w4 ⟨rfl, hb4⟩; have q4 := hb4.cell (p := ⟨w.heap.size, 0, none⟩) (by first | assumption | omega | (simp; omega)); have p4 := hb4.cell (p := ⟨w.heap.size, 1, none⟩) (by first | assumption | omega | (simp; omega)); have z4 : w.heap.size < w4.heap.size := Nat.lt_of_lt_of_le (by first | assumption | omega | (simp; omega)) hb4.size; have B4 : Below w.heap.size w w4 := below_trans' (hb4.mono (by omega)) (by first | assumption | exact Below.drew (by assumption))) | (go_at_call 18; refine (cmp_any _ _ _ _ _ wTL hl).mono ?_; rw [HCT.out]; rintro e w5 ⟨rfl, hb5⟩; have q5 := hb5.cell (p := ⟨w.heap.size, 0, none⟩) (by first | assumption | omega | (simp; omega)); have p5 := hb5.cell (p := ⟨w.heap.size, 1, none⟩) (by first | assumption | omega | (simp; omega)); have z5 : w.heap.size < w5.heap.size := Nat.lt_of_lt_of_le (by first | assumption | omega | (simp; omega)) hb5.size; have B5 : Below w.heap.size w w5 := below_trans' (hb5.mono (by omega)) (by first | assumption | exact Below.drew (by assumption))))
        all_goals go_wp2
        all_goals go_ret
        all_goals exact ⟨ret_bool (by simp), by assumption⟩
  · obtain ⟨e1, e2⟩ := hEq rfl
    clear hEq hNe
    have e3 : (SL == l) = true := by simpa using e2
    have e4 : (SH == h) = true := by simpa using e1
    have E1 := Lib.hid e1
    have E2 := Lib.hid e2
    clear e1 e2
    go_enter Try.func7, Try.ntmps7
    go_wp2_with fail
    (with_reducible refine (shown2_any _).mono ?_)
    rintro e w0 ⟨rfl, hb0⟩
    have hB := below_trans' (hb0.mono (B' := w.heap.size) (by simp)) ((Below.refl _ _).alloc (Nat.le_refl _) _)
    have BA := (Hd.new w h l _).below hb0
    obtain ⟨za, aa0, aa1⟩ := id BA
    clear hb0
    go_wp2_with fail
    (with_reducible refine (root_any h l _ hh hl).mono ?_)
    rw [HR.out, HS.out, HE.out]
    rintro e w1 ⟨rfl, hb1⟩
    replace hB := behind hB hb1 hB.size
    replace BA := BA.below hb1
    clear hb1 za aa0 aa1
    obtain ⟨za, aa0, aa1⟩ := id BA
    go_wp2_with fail
    (with_reducible refine (wmul_any (R : Int) (R : Int) _ wR wR).mono ?_)
    rw [HS.out, HSH.out, HSL.out]
    rintro e w2 ⟨rfl, hb2⟩
    replace hB := behind hB hb2 hB.size
    replace BA := BA.below hb2
    clear hb2 za aa0 aa1
    obtain ⟨za, aa0, aa1⟩ := id BA
    go_wp2_with fail
    (with_reducible refine (cmp_any SH SL h l _ wSL hl).mono ?_)
    rw [HNUM.out, HC.out]
    rintro e w3 ⟨rfl, hb3⟩
    replace hB := behind (hB.alloc hB.size _) hb3 (Nat.le_trans hB.size (by simp))
    have BS := (Hd.new w2 SH SL _).below hb3
    replace BA := (BA.alloc _).below hb3
    clear hb3 za aa0 aa1
    obtain ⟨za, aa0, aa1⟩ := id BA
    obtain ⟨zs, ss0, ss1⟩ := id BS
    go_wp2_with fail
    · go_ret
      exact ⟨rfl, hB⟩
    · have hx : ((R : Int) == 18446744073709551615) = false := by assumption
      have hx2 : (R : Int) ≠ 18446744073709551615 := fun g => by rw [g] at hx; revert hx; decide
      have wR1 : Wd ((R : Int) + 1) := ⟨by omega, by omega⟩
      have sR : IntKind.u64.wrap ((R : Int) + 1) = (R : Int) + 1 := by rw [IntKind.wrap_u64]; omega
      clear hx hx2
      go_region_held3 (fun w' => w'.cell? ⟨w.heap.size, 0, none⟩ = some (.int .u64 h) ∧ w'.cell? ⟨w.heap.size, 1, none⟩ = some (.int .u64 l) ∧ w.heap.size < w'.heap.size ∧ Below w.heap.size w w') (refine ⟨?_, ?_, ?_, ?_⟩ <;> (first | assumption | (go_keep; done) | omega | (simp; omega) | exact Below.drew (by assumption))) (first | (go_at_call 15; refine (wmul_any _ _ _ wR1 wR1).mono ?_; rw [HT.out]; rintro e w4 ⟨rfl, hb4⟩; have q4 := hb4.cell (p := ⟨w.heap.size, 0, none⟩) (by first | assumption | omega | (simp; omega)); have p4 := hb4.cell (p := ⟨w.heap.size, 1, none⟩) (by first | assumption | omega | (simp; omega)); have z4 : w.heap.size < w4.heap.size := Nat.lt_of_lt_of_le (by first | assumption | omega | (simp; omega)) hb4.size; have B4 : Below w.heap.size w w4 := below_trans' (hb4.mono (by omega)) (by first | assumption | exact Below.drew (by assumption))) | (go_at_call 18; refine (cmp_any _ _ _ _ _ wTL hl).mono ?_; rw [HCT.out]; rintro e w5 ⟨rfl, hb5⟩; have q5 := hb5.cell (p := ⟨w.heap.size, 0, none⟩) (by first | assumption | omega | (simp; omega)); have p5 := hb5.cell (p := ⟨w.heap.size, 1, none⟩) (by first | assumption | omega | (simp; omega)); have z5 : w.heap.size < w5.heap.size := Nat.lt_of_lt_of_le (by first | assumption | omega | (simp; omega)) hb5.size; have B5 : Below w.heap.size w w5 := below_trans' (hb5.mono (by omega)) (by first | assumption | exact Below.drew (by assumption))))
      all_goals go_wp2
      all_goals go_ret
      all_goals exact ⟨ret_bool (by simp), by assumption⟩
end Go.Proofs.Yteikkoiaeejgaaa
