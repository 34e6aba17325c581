/-
  WideShifts: the walk.
-/
import Derived.Test.YteikkoiaeejgaaaLaw2
import Derived.Test.YteikkoiaeejgaaaLaw2G
namespace Go.Proofs.Yteikkoiaeejgaaa
open Go.RowKit Go.Shelf

theorem shlN_Q (N k : Nat) : shlN (N : Int) k = (shlQ N k : Nat) := by unfold shlN shlQ bit128 E128; simp
theorem shrN_Q (N k : Nat) : shrN (N : Int) k = (shrQ N k : Nat) := by unfold shrN shrQ; simp
theorem lostN_B (N k : Nat) : lostN (N : Int) k = lostB N k := by
  unfold lostN lostB
  have e : (N : Int) % 2 ^ k = ((N % 2 ^ k : Nat) : Int) := by simp
  rw [e, decide_eq_decide]; omega
theorem cmp_zero (A B : Nat) : (cmpI (A : Int) (B : Nat) == 0) = decide ((A : Int) = (B : Int)) := by
  unfold cmpI
  by_cases h1 : (A : Int) < B
  · have : ¬ (A : Int) = B := by omega
    simp [h1, this]
  · by_cases h2 : (A : Int) = B
    · simp [h2]
    · simp [h1, h2]
theorem rt_lt {N : Nat} (h : N < E128) : Pl.rt N < 18446744073709551616 := by
  have := (Pl.rt_spec N).1
  rcases Nat.lt_or_ge (Pl.rt N) 18446744073709551616 with g | g
  · exact g
  · have := Nat.mul_le_mul g g
    unfold E128 at h
    omega
def RetRest (w : World) (e : Ending) (w' : World) : Prop := e = .returned (.bool true) ∧ Below w.heap.size w w'

set_option maxRecDepth 100000 in
set_option maxHeartbeats 8000000 in
theorem shifts_pos (ah al b : Nat) (n : Int) (w : World) (hah : ah < 18446744073709551616) (hal : al < 18446744073709551616) (hb : b < 18446744073709551616) (n1 : n < 9223372036854775808) (hb0 : 0 < b) :
    Calls Try.prog 4 #[.agg #[.int .u64 ah, .int .u64 al], .int .u64 b, .int .i64 n] w fun r w' => r = .returned (.bool true) ∧ Below w.heap.size w w' := by
  have wah : Wd (ah : Int) := ⟨by omega, by omega⟩
  have wal : Wd (al : Int) := ⟨by omega, by omega⟩
  obtain ⟨k, hk⟩ : ∃ k : Nat, max n 0 = k := ⟨n.toNat, by omega⟩
  have CNA := fun v => nat_law ah al v hah hal
  have CNB := fun v => nat2_00 b v hb
  have CSH := fun v => shl_k (ah : Int) al n k v wah wal hk n1
  have CSR := fun v => shr_k (ah : Int) al n k v wah wal hk n1
  have CRT := fun v => root_any (ah : Int) al v wah wal
  obtain ⟨N, hN⟩ : ∃ N, ah * 18446744073709551616 + al = N := ⟨_, rfl⟩
  have CDV := fun v => wdiv_any ah al b v hah hal hb0 hb
  rw [hN] at CDV
  rw [hN] at CNA
  have nN : num (ah : Int) al = (N : Int) := by unfold num; omega
  have bN : N < E128 := by unfold E128; omega
  have e4 : Pl.B32 ^ 4 = E128 := by decide
  have e2 : Pl.B32 ^ 2 = 18446744073709551616 := by decide
  rw [nN, shlN_Q] at CSH
  rw [nN, shrN_Q, lostN_B] at CSR
  rw [nN, Int.toNat_natCast] at CRT
  have CQL := fun (v : World) (x : Value) (h : SliceV v x N 4) => shl2_v n k h (by omega) hk
  have CQR := fun (v : World) (x : Value) (h : SliceV v x N 4) => shr2_v n k h (by omega) hk n1
  have CQT := fun (v : World) (x : Value) (h : SliceV v x N 4) => root2_v h (by omega) bN
  have bR := rt_lt bN
  have bL : shlQ N k < E128 := Nat.mod_lt _ (by decide)
  have bS : shrQ N k < E128 := Nat.lt_of_le_of_lt (Nat.div_le_self _ _) bN
  obtain ⟨S, hS⟩ : ∃ S, shlQ N k = S := ⟨_, rfl⟩
  obtain ⟨D, hD⟩ : ∃ D, shrQ N k = D := ⟨_, rfl⟩
  obtain ⟨LO, hLO⟩ : ∃ LO, lostB N k = LO := ⟨_, rfl⟩
  obtain ⟨R, hR⟩ : ∃ R, Pl.rt N = R := ⟨_, rfl⟩
  rw [hS] at CSH CQL bL
  rw [hD] at CSR CQR bS
  rw [hLO] at CSR CQR
  rw [hR] at CRT CQT bR
  have KS := fun (v : World) (x : Value) (h : NatV v x S) => is_yes h bL (h := hiOf (S : Int)) (l := loOf (S : Int)) rfl rfl
  have KD := fun (v : World) (x : Value) (h : NatV v x D) => is_yes h bS (h := hiOf (D : Int)) (l := loOf (D : Int)) rfl rfl
  obtain ⟨SH, hSH⟩ : ∃ SH, hiOf (S : Int) = SH := ⟨_, rfl⟩
  obtain ⟨SL, hSL⟩ : ∃ SL, loOf (S : Int) = SL := ⟨_, rfl⟩
  obtain ⟨DH, hDH⟩ : ∃ DH, hiOf (D : Int) = DH := ⟨_, rfl⟩
  obtain ⟨DL, hDL⟩ : ∃ DL, loOf (D : Int) = DL := ⟨_, rfl⟩
  rw [hSH, hSL] at CSH KS
  rw [hDH, hDL] at CSR KD
  have CNR := fun v => nat2_00 R v bR
  have CTT := fun (v : World) (x y : Value) (h1 : SliceV v x R 4) (h2 : SliceV v y R 4) => times1_v h1 h2 (by omega)
  have bRR : R * R < E128 := by
    have := Nat.mul_le_mul (show R ≤ 18446744073709551615 by omega) (show R ≤ 18446744073709551615 by omega)
    unfold E128; omega
  have hRR : (R : Int) * (R : Int) = ((R * R : Nat) : Int) := by simp
  rw [hRR] at CRT
  have hCE := cmp_zero (R * R) N
  have CC := fun (v : World) (x y : Value) (h1 : SliceV v x (R * R) 4) (h2 : SliceV v y N 4) => rcmp_v h1 h2 (by omega)
  obtain ⟨RR, hRR'⟩ : ∃ RR, R * R = RR := ⟨_, rfl⟩
  rw [hRR'] at CTT bRR CC hCE CRT
  obtain ⟨C, hC⟩ : ∃ C, cmpI (RR : Int) (N : Int) = C := ⟨_, rfl⟩
  obtain ⟨E, hE⟩ : ∃ E, decide ((RR : Int) = (N : Int)) = E := ⟨_, rfl⟩
  rw [hC] at CC hCE
  rw [hE] at CRT hCE
  have FN := Lib.hid (show N < Pl.B32 ^ 4 by rw [e4]; exact bN)
  have FR := Lib.hid (show R < Pl.B32 ^ 4 by rw [e4]; unfold E128; omega)
  have FRR := Lib.hid (show RR < Pl.B32 ^ 4 by rw [e4]; exact bRR)
  have CPT := fun (v : World) (x y : Value) (h1 : SliceV v x N 4) (h2 : SliceV v y b 4) => parts_v h1 h2 (by omega) hb0
  have bQ : N / b < E128 := Nat.lt_of_le_of_lt (Nat.div_le_self _ _) bN
  have bM : N % b < 18446744073709551616 := Nat.lt_trans (Nat.mod_lt _ hb0) hb
  obtain ⟨Q, hQ⟩ : ∃ Q, N / b = Q := ⟨_, rfl⟩
  obtain ⟨M, hM⟩ : ∃ M, N % b = M := ⟨_, rfl⟩
  rw [hQ] at CPT CDV bQ
  rw [hM] at CPT CDV bM
  have KQ := fun (v : World) (x : Value) (h : NatV v x Q) => is_yes h bQ (h := hiOf (Q : Int)) (l := loOf (Q : Int)) rfl rfl
  have hpM : partN M 0 = M := by unfold partN; rw [Nat.pow_zero, Nat.div_one]; exact Nat.mod_eq_of_lt bM
  have KM := fun (v : World) (x : Value) (h : SliceV v x M 4) => part_0 h
  rw [hpM] at KM
  obtain ⟨QH, hQH⟩ : ∃ QH, hiOf (Q : Int) = QH := ⟨_, rfl⟩
  obtain ⟨QL, hQL⟩ : ∃ QL, loOf (Q : Int) = QL := ⟨_, rfl⟩
  rw [hQH, hQL] at CDV KQ
  have FB := Lib.hid (show b < Pl.B32 ^ 4 by rw [e4]; unfold E128; omega)
  have FM := Lib.hid (show M < Pl.B32 ^ 4 by rw [e4]; unfold E128; omega)
  have hbz : ((b : Int) == 0) = false := by simp; omega
  have hbp : (0 : Int) < (b : Int) := by omega

  replace CNA := Lib.hid CNA
  replace CNB := Lib.hid CNB
  replace CSH := Lib.hid CSH
  replace CSR := Lib.hid CSR
  replace CRT := Lib.hid CRT
  replace CQL := Lib.hid CQL
  replace CQR := Lib.hid CQR
  replace CQT := Lib.hid CQT
  replace KS := Lib.hid KS
  replace KD := Lib.hid KD
  replace CNR := Lib.hid CNR
  replace CTT := Lib.hid CTT
  replace CC := Lib.hid CC
  replace CDV := Lib.hid CDV
  replace CPT := Lib.hid CPT
  replace KQ := Lib.hid KQ
  replace KM := Lib.hid KM
  clear hN nN bN e4 e2 bR bL bS hS hD hLO hR hSH hSL hDH hDL bRR hRR hRR' hC hE bQ bM hQ hM hpM hQH hQL hk hah hal hb hb0 wah wal
  go_enter Try.func4, Try.ntmps4
  go_wp2_with fail
  (with_reducible refine (shown2_any _).mono ?_)
  rintro e w0 ⟨rfl, hb⟩
  have hB := Bel.st (Bel.al (Bel.re w) _) hb
  have T_a := (Hd.new w (ah : Int) (al : Int) _).below hb
  clear hb
  obtain ⟨za, ca0, ca1⟩ := id T_a
  go_wp2_with fail
  (with_reducible refine (CNA.out _).mono ?_)
  rintro e w1 ⟨vx, rfl, hvx, hb⟩
  replace hB := Bel.st hB hb
  replace T_a := T_a.below hb
  have T_x := hvx.slice FN.out
  clear hb za ca0 ca1
  clear hvx
  obtain ⟨za, ca0, ca1⟩ := id T_a
  go_wp2_with fail
  (with_reducible refine (CSR.out _).mono ?_)
  rintro e w2 ⟨rfl, hb⟩
  replace hB := Bel.st hB hb
  replace T_a := T_a.below hb
  replace T_x := T_x.below hb
  clear hb za ca0 ca1
  go_wp2_with fail
  (with_reducible refine (CQR.out _ _ (T_x.alloc _)).mono ?_)
  rintro e w3 ⟨vt, rfl, hvt, hb⟩
  replace hB := Bel.st (Bel.al hB _) hb
  replace T_a := (T_a.alloc _).below hb
  replace T_x := (T_x.alloc _).below hb
  have T_r := (Hd.new w2 DH DL _).below hb
  have T_t := hvt
  clear hb
  clear hvt
  obtain ⟨za, ca0, ca1⟩ := id T_a
  go_wp2_with fail
  (with_reducible refine (CSH.out _).mono ?_)
  rintro e w4 ⟨rfl, hb⟩
  replace hB := Bel.st hB hb
  replace T_a := T_a.below hb
  replace T_x := T_x.below hb
  replace T_r := T_r.below hb
  replace T_t := T_t.below hb
  clear hb za ca0 ca1
  go_wp2_with fail
  (with_reducible refine (CQL.out _ _ T_x).mono ?_)
  rintro e w5 ⟨vs, rfl, hvs, hb⟩
  replace hB := Bel.st hB hb
  replace T_a := T_a.below hb
  replace T_x := T_x.below hb
  replace T_r := T_r.below hb
  replace T_t := T_t.below hb
  have T_s := hvs
  clear hb
  clear hvs
  go_wp2_with fail
  (with_reducible refine (KS.out _ _ T_s).mono ?_)
  rintro e w6 ⟨rfl, hb⟩
  replace hB := Bel.st hB hb
  replace T_a := T_a.below hb
  replace T_x := T_x.below hb
  replace T_r := T_r.below hb
  replace T_t := T_t.below hb
  replace T_s := T_s.below hb
  clear hb
  obtain ⟨zr, cr0, cr1⟩ := id T_r
  go_wp2_with fail
  (with_reducible refine (KD.out _ _ T_t).mono ?_)
  rintro e w7 ⟨rfl, hb⟩
  replace hB := Bel.st hB hb
  replace T_a := T_a.below hb
  replace T_x := T_x.below hb
  replace T_r := T_r.below hb
  replace T_t := T_t.below hb
  replace T_s := T_s.below hb
  clear hb zr cr0 cr1
  obtain ⟨za, ca0, ca1⟩ := id T_a
  clear T_s
  clear T_t
  clear T_r
  go_wp2_with fail
  (with_reducible refine (CDV.out _).mono ?_)
  rintro e w8 ⟨rfl, hb⟩
  replace hB := Bel.st hB hb
  replace T_a := T_a.below hb
  replace T_x := T_x.below hb
  clear hb za ca0 ca1
  go_wp2_with fail
  (with_reducible refine (CNB.out _).mono ?_)
  rintro e w9 ⟨vy, rfl, hvy, hb⟩
  replace hB := Bel.st (Bel.al hB _) hb
  replace T_a := (T_a.alloc _).below hb
  replace T_x := (T_x.alloc _).below hb
  have T_q := (Hd.new w8 QH QL _).below hb
  have T_y := hvy.slice FB.out
  clear hb
  clear hvy
  go_wp2_with fail
  (with_reducible refine (CPT.out _ _ _ T_x T_y).mono ?_)
  rintro e w10 ⟨vu, vv, rfl, hvu, hvv, hb⟩
  replace hB := Bel.st hB hb
  replace T_a := T_a.below hb
  replace T_x := T_x.below hb
  replace T_q := T_q.below hb
  replace T_y := T_y.below hb
  have T_u := hvu
  have T_v := hvv.slice FM.out
  clear hb
  clear hvu hvv
  obtain ⟨zq, cq0, cq1⟩ := id T_q
  go_wp2_with fail
  (with_reducible refine (KQ.out _ _ T_u).mono ?_)
  rintro e w11 ⟨rfl, hb⟩
  replace hB := Bel.st hB hb
  replace T_a := T_a.below hb
  replace T_x := T_x.below hb
  replace T_q := T_q.below hb
  replace T_y := T_y.below hb
  replace T_u := T_u.below hb
  replace T_v := T_v.below hb
  clear hb zq cq0 cq1
  obtain ⟨za, ca0, ca1⟩ := id T_a
  clear T_u
  clear T_q
  clear T_y
  go_wp2_with fail
  (with_reducible refine (KM.out _ _ T_v).mono ?_)
  rintro e wk ⟨rfl, rfl⟩
  go_wp2_with fail
  (with_reducible refine (CRT.out _).mono ?_)
  rintro e w12 ⟨rfl, hb⟩
  replace hB := Bel.st hB hb
  replace T_a := T_a.below hb
  replace T_x := T_x.below hb
  replace T_v := T_v.below hb
  clear hb za ca0 ca1
  go_wp2_with fail
  (with_reducible refine (CQT.out _ _ T_x).mono ?_)
  rintro e w13 ⟨rfl, hb⟩
  replace hB := Bel.st hB hb
  replace T_a := T_a.below hb
  replace T_x := T_x.below hb
  replace T_v := T_v.below hb
  clear hb
  go_wp2_with fail
  (with_reducible refine (CNR.out _).mono ?_)
  rintro e w14 ⟨vw, rfl, hvw, hb⟩
  replace hB := Bel.st hB hb
  replace T_a := T_a.below hb
  replace T_x := T_x.below hb
  replace T_v := T_v.below hb
  have T_w := hvw.slice FR.out
  clear hb
  clear hvw
  go_wp2_with fail
  (with_reducible refine (CTT.out _ _ _ T_w T_w).mono ?_)
  rintro e w15 ⟨vm, rfl, hvm, hb⟩
  replace hB := Bel.st hB hb
  replace T_a := T_a.below hb
  replace T_x := T_x.below hb
  replace T_v := T_v.below hb
  replace T_w := T_w.below hb
  have T_m := hvm.slice FRR.out
  clear hb
  clear hvm
  go_wp2_with fail
  (with_reducible refine (CC.out _ _ _ T_m T_x).mono ?_)
  rintro e w16 ⟨rfl, hb⟩
  replace hB := Bel.st hB hb
  replace T_a := T_a.below hb
  replace T_x := T_x.below hb
  replace T_v := T_v.below hb
  replace T_w := T_w.below hb
  replace T_m := T_m.below hb
  clear hb
  go_wp2_with fail
  go_ret
  exact ⟨retB (by simp), hB⟩
set_option maxRecDepth 100000 in
set_option maxHeartbeats 8000000 in
theorem shifts_zero (ah al b : Nat) (n : Int) (w : World) (hah : ah < 18446744073709551616) (hal : al < 18446744073709551616) (hb : b < 18446744073709551616) (n1 : n < 9223372036854775808) (hb0 : b = 0) :
    Calls Try.prog 4 #[.agg #[.int .u64 ah, .int .u64 al], .int .u64 b, .int .i64 n] w fun r w' => r = .returned (.bool true) ∧ Below w.heap.size w w' := by
  have wah : Wd (ah : Int) := ⟨by omega, by omega⟩
  have wal : Wd (al : Int) := ⟨by omega, by omega⟩
  obtain ⟨k, hk⟩ : ∃ k : Nat, max n 0 = k := ⟨n.toNat, by omega⟩
  have CNA := fun v => nat_law ah al v hah hal
  have CNB := fun v => nat2_00 b v hb
  have CSH := fun v => shl_k (ah : Int) al n k v wah wal hk n1
  have CSR := fun v => shr_k (ah : Int) al n k v wah wal hk n1
  have CRT := fun v => root_any (ah : Int) al v wah wal
  obtain ⟨N, hN⟩ : ∃ N, ah * 18446744073709551616 + al = N := ⟨_, rfl⟩
  subst hb0
  have CDV := fun v => wdiv_zero (ah : Int) al v
  rw [hN] at CNA
  have nN : num (ah : Int) al = (N : Int) := by unfold num; omega
  have bN : N < E128 := by unfold E128; omega
  have e4 : Pl.B32 ^ 4 = E128 := by decide
  have e2 : Pl.B32 ^ 2 = 18446744073709551616 := by decide
  rw [nN, shlN_Q] at CSH
  rw [nN, shrN_Q, lostN_B] at CSR
  rw [nN, Int.toNat_natCast] at CRT
  have CQL := fun (v : World) (x : Value) (h : SliceV v x N 4) => shl2_v n k h (by omega) hk
  have CQR := fun (v : World) (x : Value) (h : SliceV v x N 4) => shr2_v n k h (by omega) hk n1
  have CQT := fun (v : World) (x : Value) (h : SliceV v x N 4) => root2_v h (by omega) bN
  have bR := rt_lt bN
  have bL : shlQ N k < E128 := Nat.mod_lt _ (by decide)
  have bS : shrQ N k < E128 := Nat.lt_of_le_of_lt (Nat.div_le_self _ _) bN
  obtain ⟨S, hS⟩ : ∃ S, shlQ N k = S := ⟨_, rfl⟩
  obtain ⟨D, hD⟩ : ∃ D, shrQ N k = D := ⟨_, rfl⟩
  obtain ⟨LO, hLO⟩ : ∃ LO, lostB N k = LO := ⟨_, rfl⟩
  obtain ⟨R, hR⟩ : ∃ R, Pl.rt N = R := ⟨_, rfl⟩
  rw [hS] at CSH CQL bL
  rw [hD] at CSR CQR bS
  rw [hLO] at CSR CQR
  rw [hR] at CRT CQT bR
  have KS := fun (v : World) (x : Value) (h : NatV v x S) => is_yes h bL (h := hiOf (S : Int)) (l := loOf (S : Int)) rfl rfl
  have KD := fun (v : World) (x : Value) (h : NatV v x D) => is_yes h bS (h := hiOf (D : Int)) (l := loOf (D : Int)) rfl rfl
  obtain ⟨SH, hSH⟩ : ∃ SH, hiOf (S : Int) = SH := ⟨_, rfl⟩
  obtain ⟨SL, hSL⟩ : ∃ SL, loOf (S : Int) = SL := ⟨_, rfl⟩
  obtain ⟨DH, hDH⟩ : ∃ DH, hiOf (D : Int) = DH := ⟨_, rfl⟩
  obtain ⟨DL, hDL⟩ : ∃ DL, loOf (D : Int) = DL := ⟨_, rfl⟩
  rw [hSH, hSL] at CSH KS
  rw [hDH, hDL] at CSR KD
  have CNR := fun v => nat2_00 R v bR
  have CTT := fun (v : World) (x y : Value) (h1 : SliceV v x R 4) (h2 : SliceV v y R 4) => times1_v h1 h2 (by omega)
  have bRR : R * R < E128 := by
    have := Nat.mul_le_mul (show R ≤ 18446744073709551615 by omega) (show R ≤ 18446744073709551615 by omega)
    unfold E128; omega
  have hRR : (R : Int) * (R : Int) = ((R * R : Nat) : Int) := by simp
  rw [hRR] at CRT
  have hCE := cmp_zero (R * R) N
  have CC := fun (v : World) (x y : Value) (h1 : SliceV v x (R * R) 4) (h2 : SliceV v y N 4) => rcmp_v h1 h2 (by omega)
  obtain ⟨RR, hRR'⟩ : ∃ RR, R * R = RR := ⟨_, rfl⟩
  rw [hRR'] at CTT bRR CC hCE CRT
  obtain ⟨C, hC⟩ : ∃ C, cmpI (RR : Int) (N : Int) = C := ⟨_, rfl⟩
  obtain ⟨E, hE⟩ : ∃ E, decide ((RR : Int) = (N : Int)) = E := ⟨_, rfl⟩
  rw [hC] at CC hCE
  rw [hE] at CRT hCE
  have FN := Lib.hid (show N < Pl.B32 ^ 4 by rw [e4]; exact bN)
  have FR := Lib.hid (show R < Pl.B32 ^ 4 by rw [e4]; unfold E128; omega)
  have FRR := Lib.hid (show RR < Pl.B32 ^ 4 by rw [e4]; exact bRR)

  replace CNA := Lib.hid CNA
  replace CSH := Lib.hid CSH
  replace CSR := Lib.hid CSR
  replace CRT := Lib.hid CRT
  replace CQL := Lib.hid CQL
  replace CQR := Lib.hid CQR
  replace CQT := Lib.hid CQT
  replace KS := Lib.hid KS
  replace KD := Lib.hid KD
  replace CNR := Lib.hid CNR
  replace CTT := Lib.hid CTT
  replace CC := Lib.hid CC
  replace CDV := Lib.hid CDV
  clear CNB hN nN bN e4 e2 bR bL bS hS hD hLO hR hSH hSL hDH hDL bRR hRR hRR' hC hE hk hah hal hb wah wal
  go_enter Try.func4, Try.ntmps4
  go_wp2_with fail
  (with_reducible refine (shown2_any _).mono ?_)
  rintro e w0 ⟨rfl, hb⟩
  have hB := Bel.st (Bel.al (Bel.re w) _) hb
  have T_a := (Hd.new w (ah : Int) (al : Int) _).below hb
  clear hb
  obtain ⟨za, ca0, ca1⟩ := id T_a
  go_wp2_with fail
  (with_reducible refine (CNA.out _).mono ?_)
  rintro e w1 ⟨vx, rfl, hvx, hb⟩
  replace hB := Bel.st hB hb
  replace T_a := T_a.below hb
  have T_x := hvx.slice FN.out
  clear hb za ca0 ca1
  clear hvx
  obtain ⟨za, ca0, ca1⟩ := id T_a
  go_wp2_with fail
  (with_reducible refine (CSR.out _).mono ?_)
  rintro e w2 ⟨rfl, hb⟩
  replace hB := Bel.st hB hb
  replace T_a := T_a.below hb
  replace T_x := T_x.below hb
  clear hb za ca0 ca1
  go_wp2_with fail
  (with_reducible refine (CQR.out _ _ (T_x.alloc _)).mono ?_)
  rintro e w3 ⟨vt, rfl, hvt, hb⟩
  replace hB := Bel.st (Bel.al hB _) hb
  replace T_a := (T_a.alloc _).below hb
  replace T_x := (T_x.alloc _).below hb
  have T_r := (Hd.new w2 DH DL _).below hb
  have T_t := hvt
  clear hb
  clear hvt
  obtain ⟨za, ca0, ca1⟩ := id T_a
  go_wp2_with fail
  (with_reducible refine (CSH.out _).mono ?_)
  rintro e w4 ⟨rfl, hb⟩
  replace hB := Bel.st hB hb
  replace T_a := T_a.below hb
  replace T_x := T_x.below hb
  replace T_r := T_r.below hb
  replace T_t := T_t.below hb
  clear hb za ca0 ca1
  go_wp2_with fail
  (with_reducible refine (CQL.out _ _ T_x).mono ?_)
  rintro e w5 ⟨vs, rfl, hvs, hb⟩
  replace hB := Bel.st hB hb
  replace T_a := T_a.below hb
  replace T_x := T_x.below hb
  replace T_r := T_r.below hb
  replace T_t := T_t.below hb
  have T_s := hvs
  clear hb
  clear hvs
  go_wp2_with fail
  (with_reducible refine (KS.out _ _ T_s).mono ?_)
  rintro e w6 ⟨rfl, hb⟩
  replace hB := Bel.st hB hb
  replace T_a := T_a.below hb
  replace T_x := T_x.below hb
  replace T_r := T_r.below hb
  replace T_t := T_t.below hb
  replace T_s := T_s.below hb
  clear hb
  obtain ⟨zr, cr0, cr1⟩ := id T_r
  go_wp2_with fail
  (with_reducible refine (KD.out _ _ T_t).mono ?_)
  rintro e w7 ⟨rfl, hb⟩
  replace hB := Bel.st hB hb
  replace T_a := T_a.below hb
  replace T_x := T_x.below hb
  replace T_r := T_r.below hb
  replace T_t := T_t.below hb
  replace T_s := T_s.below hb
  clear hb zr cr0 cr1
  obtain ⟨za, ca0, ca1⟩ := id T_a
  clear T_s
  clear T_t
  clear T_r
  go_wp2_with fail
  (with_reducible refine (CDV.out _).mono ?_)
  rintro e w8 ⟨rfl, hb⟩
  replace hB := Bel.st hB hb
  replace T_a := T_a.below hb
  replace T_x := T_x.below hb
  clear hb za ca0 ca1
  obtain ⟨za, ca0, ca1⟩ := id T_a
  go_wp2_with fail
  (with_reducible refine (CRT.out _).mono ?_)
  rintro e w9 ⟨rfl, hb⟩
  replace hB := Bel.st (Bel.al hB _) hb
  replace T_a := (T_a.alloc _).below hb
  replace T_x := (T_x.alloc _).below hb
  have T_q := (Hd.new w8 0 0 _).below hb
  clear hb za ca0 ca1
  go_wp2_with fail
  (with_reducible refine (CQT.out _ _ T_x).mono ?_)
  rintro e w10 ⟨rfl, hb⟩
  replace hB := Bel.st hB hb
  replace T_a := T_a.below hb
  replace T_x := T_x.below hb
  replace T_q := T_q.below hb
  clear hb
  go_wp2_with fail
  (with_reducible refine (CNR.out _).mono ?_)
  rintro e w11 ⟨vw, rfl, hvw, hb⟩
  replace hB := Bel.st hB hb
  replace T_a := T_a.below hb
  replace T_x := T_x.below hb
  replace T_q := T_q.below hb
  have T_w := hvw.slice FR.out
  clear hb
  clear hvw
  go_wp2_with fail
  (with_reducible refine (CTT.out _ _ _ T_w T_w).mono ?_)
  rintro e w12 ⟨vm, rfl, hvm, hb⟩
  replace hB := Bel.st hB hb
  replace T_a := T_a.below hb
  replace T_x := T_x.below hb
  replace T_q := T_q.below hb
  replace T_w := T_w.below hb
  have T_m := hvm.slice FRR.out
  clear hb
  clear hvm
  go_wp2_with fail
  (with_reducible refine (CC.out _ _ _ T_m T_x).mono ?_)
  rintro e w13 ⟨rfl, hb⟩
  replace hB := Bel.st hB hb
  replace T_a := T_a.below hb
  replace T_x := T_x.below hb
  replace T_q := T_q.below hb
  replace T_w := T_w.below hb
  replace T_m := T_m.below hb
  clear hb
  go_wp2_with fail
  go_ret
  exact ⟨retB (by simp), hB⟩
theorem shifts_all (ah al b n : Int) (w : World) (hah : Wd ah) (hal : Wd al) (hb : Wd b) (n1 : n < 9223372036854775808) :
    Calls Try.prog 4 #[.agg #[.int .u64 ah, .int .u64 al], .int .u64 b, .int .i64 n] w fun r w' => r = .returned (.bool true) ∧ Below w.heap.size w w' := by
  obtain ⟨a0, a1⟩ := hah
  obtain ⟨b0, b1⟩ := hal
  obtain ⟨c0, c1⟩ := hb
  obtain ⟨ah, rfl⟩ := Int.eq_ofNat_of_zero_le a0
  obtain ⟨al, rfl⟩ := Int.eq_ofNat_of_zero_le b0
  obtain ⟨b, rfl⟩ := Int.eq_ofNat_of_zero_le c0
  rcases Nat.eq_zero_or_pos b with h | h
  · exact shifts_zero ah al b n w (by omega) (by omega) (by omega) n1 h
  · exact shifts_pos ah al b n w (by omega) (by omega) (by omega) n1 h
end Go.Proofs.Yteikkoiaeejgaaa
