/-
  FloatOrders: the walk.
-/
import Derived.Test.YtlndpbjolgjloaaLaw3
import Derived.Test.YtlndpbjolgjloaaPlainB
namespace Go.Proofs.Ytlndpbjolgjloaa
open Go.RowKit Go.Shelf

/-- What FloatOrders asks, of the numbers of two ints in order. -/
theorem orders_plain {A B : Int} (e : Int) (hA : 0 ≤ A) (h : A ≤ B) : fbits false A.toNat e false ≤ fbits false B.toNat e false ∧ fbits false A.toNat e false ≤ fbits false A.toNat e true ∧
    (A < B → fbits false A.toNat e true ≤ fbits false B.toNat e false) ∧ fbits false B.toNat e false ≤ 9218868437227405312 ∧ fbits true A.toNat e true = fbits false A.toNat e true + 9223372036854775808 ∧
    0 ≤ fbits false A.toNat e true ∧ fbits false A.toNat e true ≤ 9218868437227405312 := by
  have h1 := Pl.mag_mono (e := e) (show A.toNat ≤ B.toNat by omega)
  have h2 := Pl.mag_more_ge A.toNat e
  have h3 : A < B → Pl.mag A.toNat e true ≤ Pl.mag B.toNat e false := fun h => Pl.mag_more_lt (by omega)
  have h4 := Pl.mag_le_inf B.toNat e false
  have h5 := Pl.mag_le_inf A.toNat e true
  have eI : Pl.INF = 9218868437227405312 := by decide
  rw [eI] at h4 h5
  unfold fbits sb
  simp only [if_true]
  refine ⟨by simp; omega, by simp; omega, fun h => ?_, by simp; omega, by simp; omega, by simp, by simp; omega⟩
  have := h3 h
  simp; omega

theorem two {a b : Nat} (h : a + 1 < b) : a < b ∧ a + 1 < b := ⟨by omega, h⟩

set_option maxRecDepth 100000 in
set_option maxHeartbeats 4000000 in
theorem orders_lt (ah al bh bl e : Int) (w : World) (hah : Wd ah) (hal : Wd al) (hbh : Wd bh) (hbl : Wd bl) (e0 : -9223372036854775808 ≤ e) (e1 : e < 9223372036854775808) (hlt : num ah al < num bh bl) :
    Calls Try.prog 5 #[.agg #[.int .u64 ah, .int .u64 al], .agg #[.int .u64 bh, .int .u64 bl], .int .i64 e] w fun r w' => r = .returned (.bool true) ∧ Below w.heap.size w w' := by
  obtain ⟨a0, a1⟩ := num_bd hah hal
  obtain ⟨b0, b1⟩ := num_bd hbh hbl
  · obtain ⟨p1, p2, q3, p4, p5, p6, p7⟩ := orders_plain e a0 (Int.le_of_lt hlt)
    have p3 := q3 (hlt)
    have c1 : cmpI (num ah al) (num bh bl) = -1 := by unfold cmpI; rw [if_pos hlt]
    obtain ⟨X, hX⟩ : ∃ X, fbits false (num ah al).toNat e false = X := ⟨_, rfl⟩
    obtain ⟨Y, hY⟩ : ∃ Y, fbits false (num bh bl).toNat e false = Y := ⟨_, rfl⟩
    obtain ⟨Z, hZ⟩ : ∃ Z, fbits false (num ah al).toNat e true = Z := ⟨_, rfl⟩
    rw [hX] at p1 p2
    rw [hY] at p1 p3 p4
    rw [hZ] at p2 p3 p5 p6 p7
    have HX := Lib.hid hX
    have HY := Lib.hid hY
    have HZ := Lib.hid hZ
    have HT := Lib.hid p5
    clear hX hY hZ p5 q3
    go_enter Try.func5, Try.ntmps5
    go_wp2_with (first
      | (go_at_call 9; refine (shown3_any _).mono ?_; rintro r w1 ⟨rfl, hB⟩; obtain ⟨hc, hf⟩ := bcell hB; obtain ⟨z0, z1⟩ := two (a := w.heap.size) (b := w1.heap.size) (Nat.lt_of_lt_of_le (by simp) hB.size); replace hB := hB.mono (B' := w.heap.size) (by simp; omega); have hB := below_trans' hB (((Below.refl _ _).alloc (Nat.le_refl _) _).alloc (by simp) _))
      | (go_at_call 17; refine (cmp_any _ _ _ _ _ (by assumption) (by assumption)).mono ?_; (first | rw [c1] | rw [c2]); rintro r w2 ⟨rfl, hb2⟩; obtain ⟨hc2, hf2⟩ := bcell hb2; obtain ⟨z2, z3⟩ := two (a := w.heap.size) (Nat.lt_of_lt_of_le (by assumption) hb2.size); have hB : Below w.heap.size w w2 := below_trans' (hb2.mono (Nat.le_of_lt (by assumption))) (by assumption))
      | (go_at_call 10; refine (join_any _ _ _ _ _ _ (by assumption) (by assumption) e0 e1).mono ?_; (first | rw [HX.out] | rw [HY.out] | rw [HZ.out] | rw [HT.out]); rintro r w2 ⟨rfl, hb2⟩; obtain ⟨hc2, hf2⟩ := bcell hb2; obtain ⟨z2, z3⟩ := two (a := w.heap.size) (Nat.lt_of_lt_of_le (by assumption) hb2.size); have hB : Below w.heap.size w w2 := below_trans' (hb2.mono (Nat.le_of_lt (by assumption))) (by assumption)))
    go_ret
    exact ⟨ret_bool (by first | rfl | exact decide_eq_true (by omega) | simp), hB⟩
set_option maxRecDepth 100000 in
set_option maxHeartbeats 4000000 in
theorem orders_eq (ah al bh bl e : Int) (w : World) (hah : Wd ah) (hal : Wd al) (hbh : Wd bh) (hbl : Wd bl) (e0 : -9223372036854775808 ≤ e) (e1 : e < 9223372036854775808) (hlt : num ah al = num bh bl) :
    Calls Try.prog 5 #[.agg #[.int .u64 ah, .int .u64 al], .agg #[.int .u64 bh, .int .u64 bl], .int .i64 e] w fun r w' => r = .returned (.bool true) ∧ Below w.heap.size w w' := by
  obtain ⟨a0, a1⟩ := num_bd hah hal
  obtain ⟨b0, b1⟩ := num_bd hbh hbl
  · obtain ⟨p1, p2, q3, p4, p5, p6, p7⟩ := orders_plain e a0 (Int.le_of_eq hlt)
    have c1 : cmpI (num ah al) (num bh bl) = 0 := by unfold cmpI; rw [if_neg (by omega), if_pos hlt]
    have hlt' := Lib.hid hlt
    clear hlt
    obtain ⟨X, hX⟩ : ∃ X, fbits false (num ah al).toNat e false = X := ⟨_, rfl⟩
    obtain ⟨Y, hY⟩ : ∃ Y, fbits false (num bh bl).toNat e false = Y := ⟨_, rfl⟩
    obtain ⟨Z, hZ⟩ : ∃ Z, fbits false (num ah al).toNat e true = Z := ⟨_, rfl⟩
    rw [hX] at p1 p2
    rw [hY] at p1  p4
    rw [hZ] at p2  p5 p6 p7
    have HX := Lib.hid hX
    have HY := Lib.hid hY
    have HZ := Lib.hid hZ
    have HT := Lib.hid p5
    clear hX hY hZ p5 q3
    go_enter Try.func5, Try.ntmps5
    go_wp2_with (first
      | (go_at_call 9; refine (shown3_any _).mono ?_; rintro r w1 ⟨rfl, hB⟩; obtain ⟨hc, hf⟩ := bcell hB; obtain ⟨z0, z1⟩ := two (a := w.heap.size) (b := w1.heap.size) (Nat.lt_of_lt_of_le (by simp) hB.size); replace hB := hB.mono (B' := w.heap.size) (by simp; omega); have hB := below_trans' hB (((Below.refl _ _).alloc (Nat.le_refl _) _).alloc (by simp) _))
      | (go_at_call 17; refine (cmp_any _ _ _ _ _ (by assumption) (by assumption)).mono ?_; (first | rw [c1] | rw [c2]); rintro r w2 ⟨rfl, hb2⟩; obtain ⟨hc2, hf2⟩ := bcell hb2; obtain ⟨z2, z3⟩ := two (a := w.heap.size) (Nat.lt_of_lt_of_le (by assumption) hb2.size); have hB : Below w.heap.size w w2 := below_trans' (hb2.mono (Nat.le_of_lt (by assumption))) (by assumption))
      | (go_at_call 10; refine (join_any _ _ _ _ _ _ (by assumption) (by assumption) e0 e1).mono ?_; (first | rw [HX.out] | rw [HY.out] | rw [HZ.out] | rw [HT.out]); rintro r w2 ⟨rfl, hb2⟩; obtain ⟨hc2, hf2⟩ := bcell hb2; obtain ⟨z2, z3⟩ := two (a := w.heap.size) (Nat.lt_of_lt_of_le (by assumption) hb2.size); have hB : Below w.heap.size w w2 := below_trans' (hb2.mono (Nat.le_of_lt (by assumption))) (by assumption)))
    go_ret
    exact ⟨ret_bool (by first | rfl | exact decide_eq_true (by omega) | simp), hB⟩
set_option maxRecDepth 100000 in
set_option maxHeartbeats 4000000 in
theorem orders_gt (ah al bh bl e : Int) (w : World) (hah : Wd ah) (hal : Wd al) (hbh : Wd bh) (hbl : Wd bl) (e0 : -9223372036854775808 ≤ e) (e1 : e < 9223372036854775808) (hlt : num bh bl < num ah al) :
    Calls Try.prog 5 #[.agg #[.int .u64 ah, .int .u64 al], .agg #[.int .u64 bh, .int .u64 bl], .int .i64 e] w fun r w' => r = .returned (.bool true) ∧ Below w.heap.size w w' := by
  obtain ⟨a0, a1⟩ := num_bd hah hal
  obtain ⟨b0, b1⟩ := num_bd hbh hbl
  · obtain ⟨p1, p2, q3, p4, p5, p6, p7⟩ := orders_plain e b0 (Int.le_of_lt hlt)
    have p3 := q3 (hlt)
    have c1 : cmpI (num ah al) (num bh bl) = 1 := by unfold cmpI; rw [if_neg (by omega), if_neg (by omega)]
    have c2 : cmpI (num bh bl) (num ah al) = -1 := by unfold cmpI; rw [if_pos hlt]
    obtain ⟨X, hX⟩ : ∃ X, fbits false (num bh bl).toNat e false = X := ⟨_, rfl⟩
    obtain ⟨Y, hY⟩ : ∃ Y, fbits false (num ah al).toNat e false = Y := ⟨_, rfl⟩
    obtain ⟨Z, hZ⟩ : ∃ Z, fbits false (num bh bl).toNat e true = Z := ⟨_, rfl⟩
    rw [hX] at p1 p2
    rw [hY] at p1 p3 p4
    rw [hZ] at p2 p3 p5 p6 p7
    have HX := Lib.hid hX
    have HY := Lib.hid hY
    have HZ := Lib.hid hZ
    have HT := Lib.hid p5
    clear hX hY hZ p5 q3
    go_enter Try.func5, Try.ntmps5
    go_wp2_with (first
      | (go_at_call 9; refine (shown3_any _).mono ?_; rintro r w1 ⟨rfl, hB⟩; have d0 : w1.cell? ⟨w.heap.size, 0, none⟩ = some (.int .u64 ah) := (hB.cell (p := ⟨w.heap.size, 0, none⟩) (by first | assumption | (simp; done) | (simp; omega))).trans (by simp [go_sem]); have f0 : w1.frozen? ⟨w.heap.size, 0, none⟩ = false := (hB.frozen (p := ⟨w.heap.size, 0, none⟩) (by first | assumption | (simp; done) | (simp; omega))).trans (by simp [go_sem]); have d1 : w1.cell? ⟨w.heap.size, 1, none⟩ = some (.int .u64 al) := (hB.cell (p := ⟨w.heap.size, 1, none⟩) (by first | assumption | (simp; done) | (simp; omega))).trans (by simp [go_sem]); have f1 : w1.frozen? ⟨w.heap.size, 1, none⟩ = false := (hB.frozen (p := ⟨w.heap.size, 1, none⟩) (by first | assumption | (simp; done) | (simp; omega))).trans (by simp [go_sem]); have d2 : w1.cell? ⟨w.heap.size + 1, 0, none⟩ = some (.int .u64 bh) := (hB.cell (p := ⟨w.heap.size + 1, 0, none⟩) (by first | assumption | (simp; done) | (simp; omega))).trans (by simp [go_sem]); have f2 : w1.frozen? ⟨w.heap.size + 1, 0, none⟩ = false := (hB.frozen (p := ⟨w.heap.size + 1, 0, none⟩) (by first | assumption | (simp; done) | (simp; omega))).trans (by simp [go_sem]); have d3 : w1.cell? ⟨w.heap.size + 1, 1, none⟩ = some (.int .u64 bl) := (hB.cell (p := ⟨w.heap.size + 1, 1, none⟩) (by first | assumption | (simp; done) | (simp; omega))).trans (by simp [go_sem]); have f3 : w1.frozen? ⟨w.heap.size + 1, 1, none⟩ = false := (hB.frozen (p := ⟨w.heap.size + 1, 1, none⟩) (by first | assumption | (simp; done) | (simp; omega))).trans (by simp [go_sem]); obtain ⟨z0, z1, z2, z3, z4, z5, z6, z7, z8, z9, z10, z11⟩ := sizes (a := w.heap.size) (b := w1.heap.size) (Nat.lt_of_lt_of_le (by simp) hB.size); replace hB := hB.mono (B' := w.heap.size) (by simp; omega); have hB := below_trans' hB (((Below.refl _ _).alloc (Nat.le_refl _) _).alloc (by simp) _))
      | (go_at_call 17; (with_reducible refine (cmp_any ah al bh bl _ (by assumption) (by assumption)).mono ?_); rw [c1]; rintro r w2 ⟨rfl, hb2⟩; have d0 : w2.cell? ⟨w.heap.size, 0, none⟩ = some (.int .u64 ah) := (hb2.cell (p := ⟨w.heap.size, 0, none⟩) (by first | assumption | (simp; done) | (simp; omega))).trans (by assumption); have f0 : w2.frozen? ⟨w.heap.size, 0, none⟩ = false := (hb2.frozen (p := ⟨w.heap.size, 0, none⟩) (by first | assumption | (simp; done) | (simp; omega))).trans (by assumption); have d1 : w2.cell? ⟨w.heap.size, 1, none⟩ = some (.int .u64 al) := (hb2.cell (p := ⟨w.heap.size, 1, none⟩) (by first | assumption | (simp; done) | (simp; omega))).trans (by assumption); have f1 : w2.frozen? ⟨w.heap.size, 1, none⟩ = false := (hb2.frozen (p := ⟨w.heap.size, 1, none⟩) (by first | assumption | (simp; done) | (simp; omega))).trans (by assumption); have d2 : w2.cell? ⟨w.heap.size + 1, 0, none⟩ = some (.int .u64 bh) := (hb2.cell (p := ⟨w.heap.size + 1, 0, none⟩) (by first | assumption | (simp; done) | (simp; omega))).trans (by assumption); have f2 : w2.frozen? ⟨w.heap.size + 1, 0, none⟩ = false := (hb2.frozen (p := ⟨w.heap.size + 1, 0, none⟩) (by first | assumption | (simp; done) | (simp; omega))).trans (by assumption); have d3 : w2.cell? ⟨w.heap.size + 1, 1, none⟩ = some (.int .u64 bl) := (hb2.cell (p := ⟨w.heap.size + 1, 1, none⟩) (by first | assumption | (simp; done) | (simp; omega))).trans (by assumption); have f3 : w2.frozen? ⟨w.heap.size + 1, 1, none⟩ = false := (hb2.frozen (p := ⟨w.heap.size + 1, 1, none⟩) (by first | assumption | (simp; done) | (simp; omega))).trans (by assumption); obtain ⟨z0, z1, z2, z3, z4, z5, z6, z7, z8, z9, z10, z11⟩ := sizes (a := w.heap.size) (b := w2.heap.size) (Nat.lt_of_lt_of_le (by assumption) hb2.size); have hB : Below w.heap.size w w2 := below_trans' (hb2.mono (Nat.le_of_lt (by assumption))) (by assumption))
      | (go_at_call 17; (with_reducible refine (cmp_any bh bl ah al _ (by assumption) (by assumption)).mono ?_); rw [c2]; rintro r w3 ⟨rfl, hb3⟩; obtain ⟨hc3, hf3⟩ := bcell hb3; obtain ⟨z0, z1⟩ := two (a := w.heap.size) (Nat.lt_of_lt_of_le (by assumption) hb3.size); have hB : Below w.heap.size w w3 := below_trans' (hb3.mono (Nat.le_of_lt (by assumption))) (by assumption))
      | (go_at_call 10; (with_reducible refine (join_any false bh bl e false _ (by assumption) (by assumption) e0 e1).mono ?_); rw [HX.out]; rintro r w3 ⟨rfl, hb3⟩; obtain ⟨hc3, hf3⟩ := bcell hb3; obtain ⟨z0, z1⟩ := two (a := w.heap.size) (b := w3.heap.size) (Nat.lt_of_lt_of_le (by simp; omega) hb3.size); have hB : Below w.heap.size w w3 := below_trans' (hb3.mono (by simp; omega)) ((((((by assumption : Below w.heap.size w _).setCell (by simp) _).setCell (by simp) _).setCell (by simp) _).setCell (by simp) _).alloc (by simp; omega) _))
      | (go_at_call 10; refine (join_any _ _ _ _ _ _ (by assumption) (by assumption) e0 e1).mono ?_; (first | rw [HY.out] | rw [HZ.out] | rw [HT.out]); rintro r w4 ⟨rfl, hb4⟩; obtain ⟨hc4, hf4⟩ := bcell hb4; obtain ⟨z0, z1⟩ := two (a := w.heap.size) (Nat.lt_of_lt_of_le (by assumption) hb4.size); have hB : Below w.heap.size w w4 := below_trans' (hb4.mono (Nat.le_of_lt (by assumption))) (by assumption)))
    go_ret
    exact ⟨ret_bool (by first | rfl | exact decide_eq_true (by omega) | simp), hB⟩
theorem orders_walk (ah al bh bl e : Int) (w : World) (hah : Wd ah) (hal : Wd al) (hbh : Wd bh) (hbl : Wd bl) (e0 : -9223372036854775808 ≤ e) (e1 : e < 9223372036854775808) :
    Calls Try.prog 5 #[.agg #[.int .u64 ah, .int .u64 al], .agg #[.int .u64 bh, .int .u64 bl], .int .i64 e] w fun r w' => r = .returned (.bool true) ∧ Below w.heap.size w w' := by
  rcases Int.lt_trichotomy (num ah al) (num bh bl) with h | h | h
  · exact orders_lt ah al bh bl e w hah hal hbh hbl e0 e1 h
  · exact orders_eq ah al bh bl e w hah hal hbh hbl e0 e1 h
  · exact orders_gt ah al bh bl e w hah hal hbh hbl e0 e1 h
end Go.Proofs.Ytlndpbjolgjloaa
