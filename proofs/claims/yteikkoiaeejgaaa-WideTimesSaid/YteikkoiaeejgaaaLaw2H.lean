/-
  WideTimes: the walk.
-/
import Derived.Test.YteikkoiaeejgaaaLaw2
import Derived.Test.YteikkoiaeejgaaaLaw2G
namespace Go.Proofs.Yteikkoiaeejgaaa
open Go.RowKit Go.Shelf

theorem Hd3.new2 (w : World) (o : Obj) (x y z : Int) (t : TypeId) : Hd3 ((w.alloc o).alloc (.cells #[.int .u64 x, .int .u64 y, .int .u64 z] t)) (w.heap.size + 1) x y z := by
  have := Hd3.new (w.alloc o) x y z t
  rwa [show (w.alloc o).heap.size = w.heap.size + 1 by simp] at this
theorem Hd3.drew {w : World} {n : Nat} {x y z : Int} (h : Hd3 w n x y z) : Hd3 w.drew n x y z := ⟨h.lt, h.c0, h.c1, h.c2⟩
theorem Hd3.drewN {w : World} {n : Nat} {x y z : Int} (h : Hd3 w n x y z) (k : Nat) : Hd3 (w.drewN k) n x y z := ⟨h.lt, h.c0, h.c1, h.c2⟩
theorem Hd.drewN {w : World} {n : Nat} {x y : Int} (h : Hd w n x y) (k : Nat) : Hd (w.drewN k) n x y := ⟨h.lt, h.c0, h.c1⟩
def E192 : Nat := 6277101735386680763835789423207666416102355444464034512896
theorem part3 {X : Nat} (h : X < E192) : hiOf (hiOf (X : Int)) = (partN X 2 : Nat) ∧ loOf (hiOf (X : Int)) = (partN X 1 : Nat) ∧ loOf (X : Int) = (partN X 0 : Nat) := by
  unfold partN hiOf loOf
  unfold E192 at h
  have e : (18446744073709551616 : Nat) ^ 2 = 340282366920938463463374607431768211456 := by decide
  rw [Nat.pow_zero, Nat.pow_one, e]
  omega
theorem shrQ_int (N k : Nat) : (N : Int) / 2 ^ k = (shrQ N k : Nat) := by unfold shrQ; simp
theorem lostB_int (N k : Nat) : decide (0 < (N : Int) % 2 ^ k) = lostB N k := by
  unfold lostB
  have e : (N : Int) % 2 ^ k = ((N % 2 ^ k : Nat) : Int) := by simp
  rw [e, decide_eq_decide]; omega
theorem quiet_part {v : Value} {N d : Nat} {w : World} (i : Nat) (hi : i ≤ 1000) (h : SliceV w v N d) (n : Nat) : Calls Try.prog 28 #[v, .int .i64 i] (w.drewN n) fun e w' => e = .returned (.int .u64 (partN N i : Nat)) ∧ w' = w.drewN n :=
  (part_v i (h.drewN n) hi).mono fun _ _ ⟨he, hw⟩ => ⟨he, hw.symm⟩

set_option maxRecDepth 100000 in
set_option maxHeartbeats 8000000 in
theorem times_walk (ah al b ch cm cl : Nat) (n : Int) (w : World) (hah : ah < 18446744073709551616) (hal : al < 18446744073709551616) (hb : b < 18446744073709551616) (hch : ch < 18446744073709551616) (hcm : cm < 18446744073709551616) (hcl : cl < 18446744073709551616) (n1 : n < 9223372036854775808) :
    Calls Try.prog 5 #[.agg #[.int .u64 ah, .int .u64 al], .int .u64 b, .agg #[.int .u64 ch, .int .u64 cm, .int .u64 cl], .int .i64 n] w fun r w' => r = .returned (.bool true) ∧ Below w.heap.size w w' := by
  have wah : Wd (ah : Int) := ⟨by omega, by omega⟩
  have wal : Wd (al : Int) := ⟨by omega, by omega⟩
  have wb : Wd (b : Int) := ⟨by omega, by omega⟩
  have wch : Wd (ch : Int) := ⟨by omega, by omega⟩
  have wcm : Wd (cm : Int) := ⟨by omega, by omega⟩
  have wcl : Wd (cl : Int) := ⟨by omega, by omega⟩
  obtain ⟨k, hk⟩ : ∃ k : Nat, max n 0 = k := ⟨n.toNat, by omega⟩
  have hkn : n.toNat = k := by omega
  have CNA := fun v => nat_law ah al v hah hal
  have CNB := fun v => nat2_00 b v hb
  have CNC := fun v => nat2_any ch cm cl v hch hcm hcl
  obtain ⟨N, hN⟩ : ∃ N, ah * 18446744073709551616 + al = N := ⟨_, rfl⟩
  obtain ⟨Q, hQ⟩ : ∃ Q, ch * 340282366920938463463374607431768211456 + cm * 18446744073709551616 + cl = Q := ⟨_, rfl⟩
  rw [hN] at CNA
  rw [hQ] at CNC
  have nN : num (ah : Int) al = (N : Int) := by unfold num; omega
  have nQ : num3 (ch : Int) cm cl = (Q : Int) := by unfold num3 num; omega
  have bQ : Q < E192 := by unfold E192; omega
  have bN : N < 340282366920938463463374607431768211456 := by omega
  have bX : N * b < E192 := by
    have := Nat.mul_le_mul (show N ≤ 340282366920938463463374607431768211455 by omega) (show b ≤ 18446744073709551615 by omega)
    unfold E192; omega
  have e6 : Pl.B32 ^ 6 = E192 := by decide
  have e4 : Pl.B32 ^ 4 = 340282366920938463463374607431768211456 := by decide
  have e2 : Pl.B32 ^ 2 = 18446744073709551616 := by decide
  have CT := fun v => times_any (ah : Int) al b v wah wal wb
  have CD := fun v => drop_any (ch : Int) cm cl n v wch wcm wcl n1
  have CS := fun (v : World) (x : Value) (h : SliceV v x Q 6) => shr2_v n k h (by omega) hk n1
  have CL := fun v => low_any (ch : Int) cm cl v
  have hX : (N : Int) * (b : Int) = ((N * b : Nat) : Int) := by simp
  obtain ⟨X, hX'⟩ : ∃ X, N * b = X := ⟨_, rfl⟩
  rw [hX'] at hX bX
  obtain ⟨x2, x1, x0⟩ := part3 bX
  rw [nN, hX, x2, x1, x0] at CT
  rw [nQ, hkn, shrQ_int, lostB_int] at CD
  obtain ⟨R, hR⟩ : ∃ R, shrQ Q k = R := ⟨_, rfl⟩
  obtain ⟨LO, hLO⟩ : ∃ LO, lostB Q k = LO := ⟨_, rfl⟩
  have bR : R < E192 := by rw [← hR]; unfold shrQ; exact Nat.lt_of_le_of_lt (Nat.div_le_self _ _) bQ
  rw [hR, hLO] at CD CS
  obtain ⟨r2, r1, r0⟩ := part3 bR
  rw [r2, r1, r0] at CD
  have CTT := fun (v : World) (x y : Value) (h1 : SliceV v x N 4) (h2 : SliceV v y b 4) => times1_v h1 h2 (by omega)
  rw [hX'] at CTT
  have QX := fun (v : World) (x : Value) (h : SliceV v x X 6) => (And.intro (quiet_part 2 (by omega) h) (And.intro (quiet_part 1 (by omega) h) (quiet_part 0 (by omega) h)))
  have QR := fun (v : World) (x : Value) (h : SliceV v x R 6) => (And.intro (quiet_part 2 (by omega) h) (And.intro (quiet_part 1 (by omega) h) (quiet_part 0 (by omega) h)))
  obtain ⟨X2, hX2⟩ : ∃ X2 : Int, (partN X 2 : Nat) = X2 := ⟨_, rfl⟩
  obtain ⟨X1, hX1⟩ : ∃ X1 : Int, (partN X 1 : Nat) = X1 := ⟨_, rfl⟩
  obtain ⟨X0, hX0⟩ : ∃ X0 : Int, (partN X 0 : Nat) = X0 := ⟨_, rfl⟩
  obtain ⟨R2, hR2⟩ : ∃ R2 : Int, (partN R 2 : Nat) = R2 := ⟨_, rfl⟩
  obtain ⟨R1, hR1⟩ : ∃ R1 : Int, (partN R 1 : Nat) = R1 := ⟨_, rfl⟩
  obtain ⟨R0, hR0⟩ : ∃ R0 : Int, (partN R 0 : Nat) = R0 := ⟨_, rfl⟩
  rw [hX2, hX1, hX0] at CT QX
  rw [hR2, hR1, hR0] at CD QR
  have FN := Lib.hid (show N < Pl.B32 ^ 4 by rw [e4]; exact bN)
  have FB := Lib.hid (show b < Pl.B32 ^ 4 by rw [e4]; omega)
  have FX := Lib.hid (show X < Pl.B32 ^ 6 by rw [e6]; exact bX)
  have FR := Lib.hid (show R < Pl.B32 ^ 6 by rw [e6]; exact bR)
  have FQ := Lib.hid (show Q < Pl.B32 ^ 6 by rw [e6]; exact bQ)
  replace CNA := Lib.hid CNA
  replace CNB := Lib.hid CNB
  replace CNC := Lib.hid CNC
  replace CT := Lib.hid CT
  replace CD := Lib.hid CD
  replace CS := Lib.hid CS
  replace CL := Lib.hid CL
  replace CTT := Lib.hid CTT
  replace QX := Lib.hid QX
  replace QR := Lib.hid QR
  clear hN hQ nN nQ bQ bN bX e6 e4 e2 hX hX' x2 x1 x0 hR hLO bR r2 r1 r0 hX2 hX1 hX0 hR2 hR1 hR0 hk hkn hah hal hb hch hcm hcl wah wal wb wch wcm wcl
  go_enter Try.func5, Try.ntmps5
  go_wp2_with fail
  (with_reducible refine (shown2_any _).mono ?_)
  rintro e w0 ⟨rfl, hb⟩
  have hB := Bel.st (Bel.al (Bel.al (Bel.re w) _) _) hb
  have T_a := ((Hd.new w (ah : Int) (al : Int) _).alloc _).below hb
  have T_c := (Hd3.new2 w _ (ch : Int) (cm : Int) (cl : Int) _).below hb
  clear hb
  obtain ⟨za, ca0, ca1⟩ := id T_a
  go_wp2_with fail
  (with_reducible refine (CT.out _).mono ?_)
  rintro e w1 ⟨rfl, hb⟩
  replace hB := Bel.st hB hb
  replace T_a := T_a.below hb
  replace T_c := T_c.below hb
  clear hb za ca0 ca1
  obtain ⟨za, ca0, ca1⟩ := id T_a
  go_wp2_with fail
  (with_reducible refine (CNA.out _).mono ?_)
  rintro e w2 ⟨vx, rfl, hvx, hb⟩
  replace hB := Bel.st (Bel.al hB _) hb
  replace T_a := (T_a.alloc _).below hb
  replace T_c := (T_c.alloc _).below hb
  have T_p := (Hd3.new w1 X2 X1 X0 _).below hb
  have T_x := hvx.slice FN.out
  clear hb za ca0 ca1
  clear hvx
  go_wp2_with fail
  (with_reducible refine (CNB.out _).mono ?_)
  rintro e w3 ⟨vy, rfl, hvy, hb⟩
  replace hB := Bel.st hB hb
  replace T_a := T_a.below hb
  replace T_c := T_c.below hb
  replace T_p := T_p.below hb
  replace T_x := T_x.below hb
  have T_y := hvy.slice FB.out
  clear hb
  clear hvy
  go_wp2_with fail
  (with_reducible refine (CTT.out _ _ _ T_x T_y).mono ?_)
  rintro e w4 ⟨vq, rfl, hvq, hb⟩
  replace hB := Bel.st hB hb
  replace T_a := T_a.below hb
  replace T_c := T_c.below hb
  replace T_p := T_p.below hb
  replace T_x := T_x.below hb
  replace T_y := T_y.below hb
  have T_q := hvq.slice FX.out
  clear hb
  clear hvq
  obtain ⟨zc, cc0, cc1, cc2⟩ := id T_c
  clear T_x
  clear T_y
  clear T_a
  go_wp2_with fail
  (with_reducible refine (CD.out _).mono ?_)
  rintro e w5 ⟨rfl, hb⟩
  replace hB := Bel.st hB hb
  replace T_c := T_c.below hb
  replace T_p := T_p.below hb
  replace T_q := T_q.below hb
  clear hb zc cc0 cc1 cc2
  obtain ⟨zc, cc0, cc1, cc2⟩ := id T_c
  go_wp2_with fail
  (with_reducible refine (CNC.out _).mono ?_)
  rintro e w6 ⟨vz, rfl, hvz, hb⟩
  replace hB := Bel.st (Bel.al hB _) hb
  replace T_c := (T_c.alloc _).below hb
  replace T_p := (T_p.alloc _).below hb
  replace T_q := (T_q.alloc _).below hb
  have T_d := (Hd3.new w5 R2 R1 R0 _).below hb
  have T_z := hvz.slice FQ.out
  clear hb zc cc0 cc1 cc2
  clear hvz
  go_wp2_with fail
  (with_reducible refine (CS.out _ _ T_z).mono ?_)
  rintro e w7 ⟨ve, rfl, hve, hb⟩
  replace hB := Bel.st hB hb
  replace T_c := T_c.below hb
  replace T_p := T_p.below hb
  replace T_q := T_q.below hb
  replace T_d := T_d.below hb
  replace T_z := T_z.below hb
  have T_e := hve.slice FR.out
  clear hb
  clear hve
  obtain ⟨zp, cp0, cp1, cp2⟩ := id T_p
  clear T_z
  go_wp2_with fail
  go_quiet ((go_at_call 28; first | (with_reducible exact Calls.quiet_of_same ((QX.out _ _ T_q).1 _)) | (with_reducible exact Calls.quiet_of_same ((QX.out _ _ T_q).2.1 _)) | (with_reducible exact Calls.quiet_of_same ((QX.out _ _ T_q).2.2 _))))
  clear zp cp0 cp1 cp2
  replace T_c := T_c.drewN nq
  replace T_p := T_p.drewN nq
  replace T_q := T_q.drewN nq
  replace T_d := T_d.drewN nq
  replace T_e := T_e.drewN nq
  replace hB := Bel.drN hB nq
  generalize World.drewN w7 nq = u1 at hB T_c T_p T_q T_d T_e ⊢
  clear nq
  obtain ⟨zd, cd0, cd1, cd2⟩ := id T_d
  go_wp2_with fail
  go_quiet ((go_at_call 28; first | (with_reducible exact Calls.quiet_of_same ((QR.out _ _ T_e).1 _)) | (with_reducible exact Calls.quiet_of_same ((QR.out _ _ T_e).2.1 _)) | (with_reducible exact Calls.quiet_of_same ((QR.out _ _ T_e).2.2 _))))
  clear zd cd0 cd1 cd2
  replace T_c := T_c.drewN nq
  replace T_p := T_p.drewN nq
  replace T_q := T_q.drewN nq
  replace T_d := T_d.drewN nq
  replace T_e := T_e.drewN nq
  replace hB := Bel.drN hB nq
  generalize World.drewN u1 nq = u2 at hB T_c T_p T_q T_d T_e ⊢
  obtain ⟨zc, cc0, cc1, cc2⟩ := id T_c
  go_wp2_with fail
  go_region_held3 (fun w' => w'.cell? ⟨w.heap.size + 1, 0, none⟩ = some (.int .u64 (ch : Int)) ∧ w'.cell? ⟨w.heap.size + 1, 1, none⟩ = some (.int .u64 (cm : Int)) ∧ w'.cell? ⟨w.heap.size + 1, 2, none⟩ = some (.int .u64 (cl : Int)) ∧ w.heap.size + 1 < w'.heap.size ∧ Below w.heap.size w w' ∧ Hd3 w' (w.heap.size + 1) ch cm cl) ((repeat' apply And.intro) <;> (first | assumption | exact T_c.c0 | exact T_c.c1 | exact T_c.c2 | exact T_c.lt | (go_keep; done) | omega | (simp; omega) | exact Bel.dr (by assumption) | exact Hd3.drew (by assumption))) (first | (go_at_call 33; (with_reducible refine (CL.out _).mono ?_); rintro e w9 ⟨rfl, hb9⟩; replace T_c := Hd3.below (by first | exact T_c | exact Hd3.drew T_c) hb9; replace hB := Bel.st (by first | exact hB | exact Bel.dr hB) hb9; obtain ⟨q1, q2, q3, q4⟩ := id T_c))
  all_goals go_wp2
  all_goals go_ret
  all_goals exact ⟨retB (by simp), by first | exact hB | exact Bel.dr hB | assumption⟩
theorem times_all (ah al b ch cm cl n : Int) (w : World) (hah : Wd ah) (hal : Wd al) (hb : Wd b) (hch : Wd ch) (hcm : Wd cm) (hcl : Wd cl) (n1 : n < 9223372036854775808) :
    Calls Try.prog 5 #[.agg #[.int .u64 ah, .int .u64 al], .int .u64 b, .agg #[.int .u64 ch, .int .u64 cm, .int .u64 cl], .int .i64 n] w fun r w' => r = .returned (.bool true) ∧ Below w.heap.size w w' := by
  obtain ⟨a0, a1⟩ := hah
  obtain ⟨b0, b1⟩ := hal
  obtain ⟨c0, c1⟩ := hb
  obtain ⟨d0, d1⟩ := hch
  obtain ⟨e0, e1⟩ := hcm
  obtain ⟨f0, f1⟩ := hcl
  obtain ⟨ah, rfl⟩ := Int.eq_ofNat_of_zero_le a0
  obtain ⟨al, rfl⟩ := Int.eq_ofNat_of_zero_le b0
  obtain ⟨b, rfl⟩ := Int.eq_ofNat_of_zero_le c0
  obtain ⟨ch, rfl⟩ := Int.eq_ofNat_of_zero_le d0
  obtain ⟨cm, rfl⟩ := Int.eq_ofNat_of_zero_le e0
  obtain ⟨cl, rfl⟩ := Int.eq_ofNat_of_zero_le f0
  exact times_walk ah al b ch cm cl n w (by omega) (by omega) (by omega) (by omega) (by omega) (by omega) n1
end Go.Proofs.Yteikkoiaeejgaaa
