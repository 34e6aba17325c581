/-
  WideSums: the walk.
-/
import Derived.Test.YteikkoiaeejgaaaLaw2
import Derived.Test.YteikkoiaeejgaaaLaw2F
import Derived.Test.YteikkoiaeejgaaaKit
import Derived.Deep.DeepCutAuto
namespace Go.Proofs.Yteikkoiaeejgaaa
open Go.RowKit Go.Shelf

theorem Hd.new2 (w : World) (o : Obj) (x y : Int) (t : TypeId) : Hd ((w.alloc o).alloc (.cells #[.int .u64 x, .int .u64 y] t)) (w.heap.size + 1) x y := by
  have := Hd.new (w.alloc o) x y t
  rwa [show (w.alloc o).heap.size = w.heap.size + 1 by simp] at this
theorem Hd.drew {w : World} {n : Nat} {x y : Int} (h : Hd w n x y) : Hd w.drew n x y := ⟨h.lt, h.c0, h.c1⟩
set_option maxRecDepth 100000 in
set_option maxHeartbeats 8000000 in
theorem sums_walk (ah al bh bl : Nat) (w : World) (hah : ah < 18446744073709551616) (hal : al < 18446744073709551616) (hbh : bh < 18446744073709551616) (hbl : bl < 18446744073709551616) :
    Calls Try.prog 3 #[.agg #[.int .u64 ah, .int .u64 al], .agg #[.int .u64 bh, .int .u64 bl]] w fun r w' => r = .returned (.bool true) ∧ Below w.heap.size w w' := by
  have wah : Wd (ah : Int) := ⟨by omega, by omega⟩
  have wal : Wd (al : Int) := ⟨by omega, by omega⟩
  have wbh : Wd (bh : Int) := ⟨by omega, by omega⟩
  have wbl : Wd (bl : Int) := ⟨by omega, by omega⟩
  have CNA := fun v => nat_law ah al v hah hal
  have CNB := fun v => nat_law bh bl v hbh hbl
  obtain ⟨N, hN⟩ : ∃ N, ah * 18446744073709551616 + al = N := ⟨_, rfl⟩
  obtain ⟨M, hM⟩ : ∃ M, bh * 18446744073709551616 + bl = M := ⟨_, rfl⟩
  rw [hN] at CNA
  rw [hM] at CNB
  have nN : num (ah : Int) al = (N : Int) := by unfold num; omega
  have nM : num (bh : Int) bl = (M : Int) := by unfold num; omega
  have bN : N < E128 := by unfold E128; omega
  have bM : M < E128 := by unfold E128; omega
  have e4 : Pl.B32 ^ 4 = E128 := by decide
  have CA := fun v => wadd_any (ah : Int) al bh bl v wah wal wbh wbl
  have CS := fun v => wsub_any (ah : Int) al bh bl v wah wal wbh wbl
  have CC := fun v => cmp_any (ah : Int) al bh bl v wal wbl
  have CL := fun v => wlen_any (ah : Int) al v wah wal
  have CM := fun v => wmul_any (ah : Int) bl v wah wbl
  have hS : (((N + M) % E128 : Nat) : Int) = (num (ah : Int) al + num (bh : Int) bl) % bit128 := by rw [nN, nM]; unfold E128 bit128; omega
  have hD : (((N + E128 - M) % E128 : Nat) : Int) = (num (ah : Int) al - num (bh : Int) bl) % bit128 := by rw [nN, nM]; unfold E128 at *; unfold bit128; omega
  have hO : decide (E128 ≤ N + M) = decide (bit128 ≤ num (ah : Int) al + num (bh : Int) bl) := by rw [nN, nM]; unfold E128 bit128; rw [decide_eq_decide]; omega
  have hU : decide (N < M) = decide (num (ah : Int) al < num (bh : Int) bl) := by rw [nN, nM, decide_eq_decide]; omega
  have hP : ((ah * bl : Nat) : Int) = (ah : Int) * (bl : Int) := by simp
  have bP : ah * bl < E128 := by
    have := Nat.mul_le_mul (show ah ≤ 18446744073709551615 by omega) (show bl ≤ 18446744073709551615 by omega)
    unfold E128; omega
  have bS : (N + M) % E128 < E128 := Nat.mod_lt _ (by decide)
  have bD : (N + E128 - M) % E128 < E128 := Nat.mod_lt _ (by decide)
  rw [← hS, ← hO] at CA
  rw [← hD, ← hU] at CS
  rw [nN, nM] at CC
  rw [nN, Int.toNat_natCast] at CL
  rw [← hP] at CM
  have CRA := fun (v : World) (x y : Value) (h1 : SliceV v x N 4) (h2 : SliceV v y M 4) => add2_v h1 h2 (by omega) bN bM
  have CRS := fun (v : World) (x y : Value) (h1 : SliceV v x N 4) (h2 : SliceV v y M 4) => sub2_v h1 h2 (by omega) bN bM
  have CRC := fun (v : World) (x y : Value) (h1 : SliceV v x N 4) (h2 : SliceV v y M 4) => rcmp_v h1 h2 (by omega)
  have CRL := fun (v : World) (x : Value) (h1 : SliceV v x N 4) => rlen_v h1 (by omega)
  have CI := fun (v : World) (x : Value) (Q : Nat) (h1 : NatV v x Q) (h2 : Q < E128) => is_yes (h := hiOf (Q : Int)) (l := loOf (Q : Int)) h1 h2 rfl rfl
  obtain ⟨S, hS'⟩ : ∃ S, (N + M) % E128 = S := ⟨_, rfl⟩
  obtain ⟨D, hD'⟩ : ∃ D, (N + E128 - M) % E128 = D := ⟨_, rfl⟩
  obtain ⟨OV, hOV⟩ : ∃ OV, decide (E128 ≤ N + M) = OV := ⟨_, rfl⟩
  obtain ⟨UN, hUN⟩ : ∃ UN, decide (N < M) = UN := ⟨_, rfl⟩
  obtain ⟨P, hP'⟩ : ∃ P, ah * bl = P := ⟨_, rfl⟩
  obtain ⟨C, hC⟩ : ∃ C, cmpI (N : Int) (M : Int) = C := ⟨_, rfl⟩
  obtain ⟨LL, hL⟩ : ∃ LL, Pl.bl N = LL := ⟨_, rfl⟩
  have CT := fun (v : World) (x y : Value) (h1 : SliceV v x ah 2) (h2 : SliceV v y bl 2) => times1_v h1 h2 (by omega)
  rw [hS'] at CA CRA bS
  rw [hOV] at CA CRA
  rw [hD'] at CS CRS bD
  rw [hUN] at CS CRS
  rw [hP'] at CM CT bP
  rw [hC] at CC CRC
  rw [hL] at CL CRL
  have KS := fun (v : World) (x : Value) (h1 : NatV v x S) => CI v x S h1 bS
  have KD := fun (v : World) (x : Value) (h1 : NatV v x D) => CI v x D h1 bD
  have KP := fun (v : World) (x : Value) (h1 : NatV v x P) => CI v x P h1 bP
  obtain ⟨SH, hSH⟩ : ∃ SH, hiOf (S : Int) = SH := ⟨_, rfl⟩
  obtain ⟨SL, hSL⟩ : ∃ SL, loOf (S : Int) = SL := ⟨_, rfl⟩
  obtain ⟨DH, hDH⟩ : ∃ DH, hiOf (D : Int) = DH := ⟨_, rfl⟩
  obtain ⟨DL, hDL⟩ : ∃ DL, loOf (D : Int) = DL := ⟨_, rfl⟩
  obtain ⟨PH, hPH⟩ : ∃ PH, hiOf (P : Int) = PH := ⟨_, rfl⟩
  obtain ⟨PL, hPL⟩ : ∃ PL, loOf (P : Int) = PL := ⟨_, rfl⟩
  rw [hSH, hSL] at CA KS
  rw [hDH, hDL] at CS KD
  rw [hPH, hPL] at CM KP
  have FN := Lib.hid (show N < Pl.B32 ^ 4 by rw [e4]; exact bN)
  have FM := Lib.hid (show M < Pl.B32 ^ 4 by rw [e4]; exact bM)
  have e2 : Pl.B32 ^ 2 = 18446744073709551616 := by decide
  have CQA := fun v => nat2_00 ah v hah
  have CQB := fun v => nat2_00 bl v hbl
  have FA := Lib.hid (show ah < Pl.B32 ^ 2 by rw [e2]; exact hah)
  have FB := Lib.hid (show bl < Pl.B32 ^ 2 by rw [e2]; exact hbl)
  replace CNA := Lib.hid CNA
  replace CNB := Lib.hid CNB
  replace CA := Lib.hid CA
  replace CS := Lib.hid CS
  replace CC := Lib.hid CC
  replace CL := Lib.hid CL
  replace CM := Lib.hid CM
  replace CRA := Lib.hid CRA
  replace CRS := Lib.hid CRS
  replace CRC := Lib.hid CRC
  replace CRL := Lib.hid CRL
  replace CT := Lib.hid CT
  replace KS := Lib.hid KS
  replace KD := Lib.hid KD
  replace KP := Lib.hid KP
  replace CQA := Lib.hid CQA
  replace CQB := Lib.hid CQB
  clear CI hN hM nN nM bN bM e4 hS hD hO hU hP bP bS bD hS' hD' hOV hUN hP' hC hL hSH hSL hDH hDL hPH hPL e2 hah hal hbh hbl wah wal wbh wbl
  go_enter Try.func3, Try.ntmps3
  go_wp2_with fail
  (with_reducible refine (shown2_any _).mono ?_)
  rintro e w0 ⟨rfl, hb⟩
  have hB := Bel.st (Bel.al (Bel.al (Bel.re w) _) _) hb
  have T_a := ((Hd.new w (ah : Int) (al : Int) _).alloc _).below hb
  have T_b := (Hd.new2 w _ (bh : Int) (bl : Int) _).below hb
  clear hb
  obtain ⟨za, ca0, ca1⟩ := id T_a
  obtain ⟨zb, cb0, cb1⟩ := id T_b
  go_wp2_with fail
  (with_reducible refine (CNA.out _).mono ?_)
  rintro e w1 ⟨vx, rfl, hvx, hb⟩
  replace hB := Bel.st hB hb
  replace T_a := T_a.below hb
  replace T_b := T_b.below hb
  have T_x := hvx.slice FN.out
  clear hb za ca0 ca1 zb cb0 cb1
  clear hvx
  obtain ⟨za, ca0, ca1⟩ := id T_a
  obtain ⟨zb, cb0, cb1⟩ := id T_b
  go_wp2_with fail
  (with_reducible refine (CNB.out _).mono ?_)
  rintro e w2 ⟨vy, rfl, hvy, hb⟩
  replace hB := Bel.st hB hb
  replace T_a := T_a.below hb
  replace T_b := T_b.below hb
  replace T_x := T_x.below hb
  have T_y := hvy.slice FM.out
  clear hb za ca0 ca1 zb cb0 cb1
  clear hvy
  obtain ⟨za, ca0, ca1⟩ := id T_a
  obtain ⟨zb, cb0, cb1⟩ := id T_b
  go_wp2_with fail
  (with_reducible refine (CA.out _).mono ?_)
  rintro e w3 ⟨rfl, hb⟩
  replace hB := Bel.st hB hb
  replace T_a := T_a.below hb
  replace T_b := T_b.below hb
  replace T_x := T_x.below hb
  replace T_y := T_y.below hb
  clear hb za ca0 ca1 zb cb0 cb1
  go_wp2_with fail
  (with_reducible refine (CRA.out _ _ _ (T_x.alloc _) (T_y.alloc _)).mono ?_)
  rintro e w4 ⟨vt, rfl, hvt, hb⟩
  replace hB := Bel.st (Bel.al hB _) hb
  replace T_a := (T_a.alloc _).below hb
  replace T_b := (T_b.alloc _).below hb
  replace T_x := (T_x.alloc _).below hb
  replace T_y := (T_y.alloc _).below hb
  have T_s := (Hd.new w3 SH SL _).below hb
  have T_t := hvt
  clear hb
  clear hvt
  obtain ⟨za, ca0, ca1⟩ := id T_a
  obtain ⟨zb, cb0, cb1⟩ := id T_b
  go_wp2_with fail
  (with_reducible refine (CS.out _).mono ?_)
  rintro e w5 ⟨rfl, hb⟩
  replace hB := Bel.st hB hb
  replace T_a := T_a.below hb
  replace T_b := T_b.below hb
  replace T_x := T_x.below hb
  replace T_y := T_y.below hb
  replace T_s := T_s.below hb
  replace T_t := T_t.below hb
  clear hb za ca0 ca1 zb cb0 cb1
  go_wp2_with fail
  (with_reducible refine (CRS.out _ _ _ (T_x.alloc _) (T_y.alloc _)).mono ?_)
  rintro e w6 ⟨vu, rfl, hvu, hb⟩
  replace hB := Bel.st (Bel.al hB _) hb
  replace T_a := (T_a.alloc _).below hb
  replace T_b := (T_b.alloc _).below hb
  replace T_x := (T_x.alloc _).below hb
  replace T_y := (T_y.alloc _).below hb
  replace T_s := (T_s.alloc _).below hb
  replace T_t := (T_t.alloc _).below hb
  have T_d := (Hd.new w5 DH DL _).below hb
  have T_u := hvu
  clear hb
  clear hvu
  obtain ⟨zs, cs0, cs1⟩ := id T_s
  go_wp2_with fail
  (with_reducible refine (KS.out _ _ T_t).mono ?_)
  rintro e w7 ⟨rfl, hb⟩
  replace hB := Bel.st hB hb
  replace T_a := T_a.below hb
  replace T_b := T_b.below hb
  replace T_x := T_x.below hb
  replace T_y := T_y.below hb
  replace T_s := T_s.below hb
  replace T_t := T_t.below hb
  replace T_d := T_d.below hb
  replace T_u := T_u.below hb
  clear hb zs cs0 cs1
  obtain ⟨zd, cd0, cd1⟩ := id T_d
  clear T_t
  clear T_s
  go_wp2_with fail
  (with_reducible refine (KD.out _ _ T_u).mono ?_)
  rintro e w8 ⟨rfl, hb⟩
  replace hB := Bel.st hB hb
  replace T_a := T_a.below hb
  replace T_b := T_b.below hb
  replace T_x := T_x.below hb
  replace T_y := T_y.below hb
  replace T_d := T_d.below hb
  replace T_u := T_u.below hb
  clear hb zd cd0 cd1
  obtain ⟨za, ca0, ca1⟩ := id T_a
  obtain ⟨zb, cb0, cb1⟩ := id T_b
  clear T_u
  clear T_d
  go_wp2_with fail
  have z1 : w.heap.size < w8.heap.size := za
  have z2 : w.heap.size + 1 < w8.heap.size := by simpa using zb
  go_region_held3 (fun w' => w'.cell? ⟨w.heap.size, 0, none⟩ = some (.int .u64 (ah : Int)) ∧ w'.cell? ⟨w.heap.size + 1, 1, none⟩ = some (.int .u64 (bl : Int)) ∧ w.heap.size < w'.heap.size ∧ w.heap.size + 1 < w'.heap.size ∧ Below w.heap.size w w' ∧ Hd w' w.heap.size ah al ∧ Hd w' (w.heap.size + 1) bh bl ∧ SliceV w' vx N 4 ∧ SliceV w' vy M 4) ((repeat' apply And.intro) <;> (first | assumption | exact T_a.c0 | exact T_b.c1 | exact T_a.lt | exact T_b.lt | (go_keep; done) | omega | (simp; omega) | exact Bel.dr (by assumption) | exact Hd.drew (by assumption) | exact SliceV.drewN (by assumption) 1)) (first | (go_at_call 15; (with_reducible refine (CM.out _).mono ?_); rintro e wM ⟨rfl, hbM⟩; replace T_a := Hd.below (by first | exact T_a | exact Hd.drew T_a) hbM; replace T_b := Hd.below (by first | exact T_b | exact Hd.drew T_b) hbM; replace T_x := SliceV.below (by first | exact T_x | exact T_x.drewN 1) hbM; replace T_y := SliceV.below (by first | exact T_y | exact T_y.drewN 1) hbM; replace hB := Bel.st (by first | exact hB | exact Bel.dr hB) hbM; (try replace hvA := SliceV.below (by first | exact hvA | exact SliceV.drewN hvA 1) hbM); (try replace hvB := SliceV.below (by first | exact hvB | exact SliceV.drewN hvB 1) hbM); (try replace hvT := NatV.below (by first | exact hvT) hbM); obtain ⟨q1, q2, q3⟩ := id T_a; obtain ⟨q4, q5, q6⟩ := id T_b) | (go_at_call_of 17 (Value.int IntKind.u64 (ah : Int)); (with_reducible refine (CQA.out _).mono ?_); rintro e wA ⟨vA, rfl, hvA0, hbA⟩; replace T_a := Hd.below (by first | exact T_a | exact Hd.drew T_a) hbA; replace T_b := Hd.below (by first | exact T_b | exact Hd.drew T_b) hbA; replace T_x := SliceV.below (by first | exact T_x | exact T_x.drewN 1) hbA; replace T_y := SliceV.below (by first | exact T_y | exact T_y.drewN 1) hbA; replace hB := Bel.st (by first | exact hB | exact Bel.dr hB) hbA; (try replace hvA := SliceV.below (by first | exact hvA | exact SliceV.drewN hvA 1) hbA); (try replace hvB := SliceV.below (by first | exact hvB | exact SliceV.drewN hvB 1) hbA); (try replace hvT := NatV.below (by first | exact hvT) hbA); obtain ⟨q1, q2, q3⟩ := id T_a; obtain ⟨q4, q5, q6⟩ := id T_b; have hvA := hvA0.slice FA.out; clear hvA0) | (go_at_call_of 17 (Value.int IntKind.u64 (bl : Int)); (with_reducible refine (CQB.out _).mono ?_); rintro e wB ⟨vB, rfl, hvB0, hbB⟩; replace T_a := Hd.below (by first | exact T_a | exact Hd.drew T_a) hbB; replace T_b := Hd.below (by first | exact T_b | exact Hd.drew T_b) hbB; replace T_x := SliceV.below (by first | exact T_x | exact T_x.drewN 1) hbB; replace T_y := SliceV.below (by first | exact T_y | exact T_y.drewN 1) hbB; replace hB := Bel.st (by first | exact hB | exact Bel.dr hB) hbB; (try replace hvA := SliceV.below (by first | exact hvA | exact SliceV.drewN hvA 1) hbB); (try replace hvB := SliceV.below (by first | exact hvB | exact SliceV.drewN hvB 1) hbB); (try replace hvT := NatV.below (by first | exact hvT) hbB); obtain ⟨q1, q2, q3⟩ := id T_a; obtain ⟨q4, q5, q6⟩ := id T_b; have hvB := hvB0.slice FB.out; clear hvB0) | (go_at_call 16; (with_reducible refine (CT.out _ _ _ hvA hvB).mono ?_); rintro e wT ⟨vT, rfl, hvT, hbT⟩; replace T_a := Hd.below (by first | exact T_a | exact Hd.drew T_a) hbT; replace T_b := Hd.below (by first | exact T_b | exact Hd.drew T_b) hbT; replace T_x := SliceV.below (by first | exact T_x | exact T_x.drewN 1) hbT; replace T_y := SliceV.below (by first | exact T_y | exact T_y.drewN 1) hbT; replace hB := Bel.st (by first | exact hB | exact Bel.dr hB) hbT; (try replace hvA := SliceV.below (by first | exact hvA | exact SliceV.drewN hvA 1) hbT); (try replace hvB := SliceV.below (by first | exact hvB | exact SliceV.drewN hvB 1) hbT); (try replace hvT := NatV.below (by first | exact hvT) hbT); obtain ⟨q1, q2, q3⟩ := id T_a; obtain ⟨q4, q5, q6⟩ := id T_b) | (go_at_call 14; (with_reducible refine (KP.out _ _ hvT).mono ?_); rintro e wI ⟨rfl, hbI⟩; replace T_a := Hd.below (by first | exact T_a | exact Hd.drew T_a) hbI; replace T_b := Hd.below (by first | exact T_b | exact Hd.drew T_b) hbI; replace T_x := SliceV.below (by first | exact T_x | exact T_x.drewN 1) hbI; replace T_y := SliceV.below (by first | exact T_y | exact T_y.drewN 1) hbI; replace hB := Bel.st (by first | exact hB | exact Bel.dr hB) hbI; (try replace hvA := SliceV.below (by first | exact hvA | exact SliceV.drewN hvA 1) hbI); (try replace hvB := SliceV.below (by first | exact hvB | exact SliceV.drewN hvB 1) hbI); (try replace hvT := NatV.below (by first | exact hvT) hbI); obtain ⟨q1, q2, q3⟩ := id T_a; obtain ⟨q4, q5, q6⟩ := id T_b))
  go_wp2_with fail
  (with_reducible refine (CC.out _).mono ?_)
  rintro e w9 ⟨rfl, hb⟩
  replace hB := Bel.st hB hb
  replace T_a := T_a.below hb
  replace T_b := T_b.below hb
  replace T_x := T_x.below hb
  replace T_y := T_y.below hb
  clear hb
  obtain ⟨za, ca0, ca1⟩ := id T_a
  go_wp2_with fail
  (with_reducible refine (CRC.out _ _ _ T_x T_y).mono ?_)
  rintro e w10 ⟨rfl, hb⟩
  replace hB := Bel.st hB hb
  replace T_a := T_a.below hb
  replace T_b := T_b.below hb
  replace T_x := T_x.below hb
  replace T_y := T_y.below hb
  clear hb za ca0 ca1
  obtain ⟨za, ca0, ca1⟩ := id T_a
  go_wp2_with fail
  (with_reducible refine (CL.out _).mono ?_)
  rintro e w11 ⟨rfl, hb⟩
  replace hB := Bel.st hB hb
  replace T_a := T_a.below hb
  replace T_b := T_b.below hb
  replace T_x := T_x.below hb
  replace T_y := T_y.below hb
  clear hb za ca0 ca1
  obtain ⟨za, ca0, ca1⟩ := id T_a
  go_wp2_with fail
  (with_reducible refine (CRL.out _ _ T_x).mono ?_)
  rintro e w12 ⟨rfl, hb⟩
  replace hB := Bel.st hB hb
  replace T_a := T_a.below hb
  replace T_b := T_b.below hb
  replace T_x := T_x.below hb
  replace T_y := T_y.below hb
  clear hb za ca0 ca1
  go_wp2_with fail
  go_ret
  exact ⟨retB (by simp), hB⟩
theorem sums_all (ah al bh bl : Int) (w : World) (hah : Wd ah) (hal : Wd al) (hbh : Wd bh) (hbl : Wd bl) :
    Calls Try.prog 3 #[.agg #[.int .u64 ah, .int .u64 al], .agg #[.int .u64 bh, .int .u64 bl]] w fun r w' => r = .returned (.bool true) ∧ Below w.heap.size w w' := by
  obtain ⟨a0, a1⟩ := hah
  obtain ⟨b0, b1⟩ := hal
  obtain ⟨c0, c1⟩ := hbh
  obtain ⟨d0, d1⟩ := hbl
  obtain ⟨ah, rfl⟩ := Int.eq_ofNat_of_zero_le a0
  obtain ⟨al, rfl⟩ := Int.eq_ofNat_of_zero_le b0
  obtain ⟨bh, rfl⟩ := Int.eq_ofNat_of_zero_le c0
  obtain ⟨bl, rfl⟩ := Int.eq_ofNat_of_zero_le d0
  exact sums_walk ah al bh bl w (by omega) (by omega) (by omega) (by omega)
end Go.Proofs.Yteikkoiaeejgaaa
