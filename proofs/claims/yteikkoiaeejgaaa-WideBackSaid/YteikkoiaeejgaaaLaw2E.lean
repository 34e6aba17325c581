/-
  WideBack: the walk.
-/
import Derived.Test.YteikkoiaeejgaaaLaw2D
import Derived.Deep.DeepCutAuto
namespace Go.Proofs.Yteikkoiaeejgaaa
open Go.RowKit Go.Shelf

theorem vi64' {a b : Int} (h : a = b) : Value.int .i64 a = Value.int .i64 b := by rw [h]
set_option maxRecDepth 100000 in
set_option maxHeartbeats 8000000 in
theorem back2_walk (ah al bh bl : Nat) (n : Int) (w : World) (hah : ah < 18446744073709551616) (hal : al < 18446744073709551616) (hbh : bh < 18446744073709551616) (hbl : bl < 18446744073709551616) (n0 : -9223372036854775808 ≤ n) (n1 : n < 9223372036854775808) :
    Calls Try.prog 6 #[.agg #[.int .u64 ah, .int .u64 al], .agg #[.int .u64 bh, .int .u64 bl], .int .i64 n] w fun r w' => r = .returned (.bool true) ∧ Below w.heap.size w w' := by
  have wah : Wd (ah : Int) := ⟨by omega, by omega⟩
  have wal : Wd (al : Int) := ⟨by omega, by omega⟩
  have wbh : Wd (bh : Int) := ⟨by omega, by omega⟩
  have wbl : Wd (bl : Int) := ⟨by omega, by omega⟩
  obtain ⟨k, hk, hkp, hkm⟩ := tmod_cases n
  have HKP := Lib.hid hkp
  have HKM := Lib.hid hkm
  clear hkp hkm
  have hL1 := bl_128 wah wal
  have CA := fun v => wadd_any (ah : Int) al bh bl v wah wal wbh wbl
  have CS := fun v => sub_back (ah : Int) al bh bl v wah wal wbh wbl
  obtain ⟨SH, hSH⟩ : ∃ SH, hiOf ((num (ah : Int) al + num (bh : Int) bl) % bit128) = SH := ⟨_, rfl⟩
  obtain ⟨SL, hSL⟩ : ∃ SL, loOf ((num (ah : Int) al + num (bh : Int) bl) % bit128) = SL := ⟨_, rfl⟩
  obtain ⟨OV, hOV⟩ : ∃ OV, decide (bit128 ≤ num (ah : Int) al + num (bh : Int) bl) = OV := ⟨_, rfl⟩
  rw [hSH, hSL, hOV] at CA CS
  obtain ⟨K2, hK2⟩ : ∃ K2 : Int, (2 : Int) ^ k = K2 := ⟨_, rfl⟩
  have hP := pow_pos' k
  have hP2 : (2 : Int) ^ k < 18446744073709551616 := by
    have := Nat.pow_lt_pow_right (a := 2) (by omega) (show k < 64 from hk)
    have e : ((2 ^ k : Nat) : Int) < ((2 ^ 64 : Nat) : Int) := by omega
    simpa using e
  rw [hK2] at hP hP2
  have wK : Wd K2 := ⟨Int.le_of_lt hP, hP2⟩
  have rK1 : IntKind.u64.wrap ((2 : Int) ^ k) = K2 := by rw [hK2, IntKind.wrap_u64]; omega
  have rK2 : IntKind.u64.wrap (1 * (2 : Int) ^ k) = K2 := by rw [Int.one_mul]; exact rK1
  have CT := fun v => times_any (ah : Int) al K2 v wah wal wK
  have CD := fun v => drop_back (ah : Int) al k v wah wal hk
  rw [hK2] at CD
  obtain ⟨T1, hT1⟩ : ∃ T1, hiOf (hiOf (num (ah : Int) al * K2)) = T1 := ⟨_, rfl⟩
  obtain ⟨T2, hT2⟩ : ∃ T2, loOf (hiOf (num (ah : Int) al * K2)) = T2 := ⟨_, rfl⟩
  obtain ⟨T3, hT3⟩ : ∃ T3, loOf (num (ah : Int) al * K2) = T3 := ⟨_, rfl⟩
  rw [hT1, hT2, hT3] at CT CD
  have CL := fun v => wlen_any (ah : Int) al v wah wal
  have CU := fun v => shl_any (ah : Int) al k v wah wal (by omega)
  have CR := fun (v : World) (g : (Pl.bl (num (ah : Int) (al : Int)).toNat : Int) + k ≤ 128) => shr_back (ah : Int) al k v wah wal g hk
  rw [Int.toNat_natCast] at CU
  obtain ⟨L, hL⟩ : ∃ L, Pl.bl (num (ah : Int) (al : Int)).toNat = L := ⟨_, rfl⟩
  obtain ⟨U1, hU1⟩ : ∃ U1, hiOf (num (ah : Int) al * 2 ^ k % bit128) = U1 := ⟨_, rfl⟩
  obtain ⟨U2, hU2⟩ : ∃ U2, loOf (num (ah : Int) al * 2 ^ k % bit128) = U2 := ⟨_, rfl⟩
  rw [hL] at hL1
  rw [hL] at CL CR
  rw [hU1, hU2] at CU CR
  have CA := Lib.hid CA
  have CS := Lib.hid CS
  have CT := Lib.hid CT
  have CD := Lib.hid CD
  have CL := Lib.hid CL
  have CU := Lib.hid CU
  have CR := Lib.hid CR
  clear hSH hSL hOV hK2 hT1 hT2 hT3 hL hU1 hU2
  go_enter Try.func6, Try.ntmps6
  go_wp2_with fail
  (with_reducible refine (shown2_any _).mono ?_)
  rintro e w0 ⟨rfl, hb⟩
  have TW := (Two.start w ah al bh bl _).step hb
  clear hb
  obtain ⟨za, aa0, aa1⟩ := TW.a
  obtain ⟨zb, bb0, bb1⟩ := TW.b
  go_wp2_with fail
  (with_reducible refine (CA.out _).mono ?_)
  rintro e w1 ⟨rfl, hb⟩
  replace TW := TW.step hb
  clear hb za aa0 aa1 zb bb0 bb1
  obtain ⟨za, aa0, aa1⟩ := TW.a
  obtain ⟨zb, bb0, bb1⟩ := TW.b
  go_wp2_with fail
  (with_reducible refine (CS.out _).mono ?_)
  rintro e w2 ⟨rfl, hb⟩
  replace TW := (TW.alloc _).step hb
  clear hb za aa0 aa1 zb bb0 bb1
  obtain ⟨za, aa0, aa1⟩ := TW.a
  obtain ⟨zb, bb0, bb1⟩ := TW.b
  go_upto_if 48 with (fail)
  go_cut [12, 13, 14, 15, 16, 17] (fun _ _ _ _ _ _ wx => Two w wx ah al bh bl)
  case first =>
    by_cases hb0 : 0 < bl
    · have CDV := fun v => wdiv_any ah al bl v hah hal hb0 hbl
      have CTB := fun v => times_back ah al bl v hah hal hb0 hbl
      have CAB := fun v => add_back ah al bl v hah hal hb0 hbl
      have hr := Nat.mod_lt (ah * 18446744073709551616 + al) hb0
      obtain ⟨R, hR⟩ : ∃ R, (ah * 18446744073709551616 + al) % bl = R := ⟨_, rfl⟩
      rw [hR] at CDV CAB hr
      obtain ⟨QH, hQH⟩ : ∃ QH, hiOf (((ah * 18446744073709551616 + al) / bl : Nat) : Int) = QH := ⟨_, rfl⟩
      obtain ⟨QL, hQL⟩ : ∃ QL, loOf (((ah * 18446744073709551616 + al) / bl : Nat) : Int) = QL := ⟨_, rfl⟩
      obtain ⟨PH, hPH⟩ : ∃ PH, hiOf (((ah * 18446744073709551616 + al) / bl * bl : Nat) : Int) = PH := ⟨_, rfl⟩
      obtain ⟨PL, hPL⟩ : ∃ PL, loOf (((ah * 18446744073709551616 + al) / bl * bl : Nat) : Int) = PL := ⟨_, rfl⟩
      rw [hQH, hQL] at CDV CTB
      rw [hPH, hPL] at CTB CAB
      have CDV := Lib.hid CDV
      have CTB := Lib.hid CTB
      have CAB := Lib.hid CAB
      have hrd : decide ((bl : Int) ≤ (R : Int)) = false := by simp; omega
      have hrd' : decide (bl ≤ R) = false := by simp; omega
      clear hR hQH hQL hPH hPL
      go_wp2_with fail
      (with_reducible refine (CDV.out _).mono ?_)
      rintro e w3 ⟨rfl, hb⟩
      replace TW := (TW.alloc _).step hb
      clear hb za aa0 aa1 zb bb0 bb1
      obtain ⟨za, aa0, aa1⟩ := TW.a
      obtain ⟨zb, bb0, bb1⟩ := TW.b
      go_wp2_with fail
      (with_reducible refine (CTB.out _).mono ?_)
      rintro e w4 ⟨rfl, hb⟩
      replace TW := (TW.alloc _).step hb
      clear hb za aa0 aa1 zb bb0 bb1
      obtain ⟨za, aa0, aa1⟩ := TW.a
      obtain ⟨zb, bb0, bb1⟩ := TW.b
      go_wp2_with fail
      (with_reducible refine (low_any 0 PH PL _).mono ?_)
      rintro e w5 ⟨rfl, hb⟩
      replace TW := (TW.alloc _).step hb
      have BP := (Hd3.new w4 0 PH PL _).below hb
      clear hb za aa0 aa1 zb bb0 bb1
      obtain ⟨za, aa0, aa1⟩ := TW.a
      obtain ⟨zb, bb0, bb1⟩ := TW.b
      go_wp2_with fail
      (with_reducible refine (CAB.out _).mono ?_)
      rintro e w6 ⟨rfl, hb⟩
      replace TW := TW.step hb
      replace BP := BP.below hb
      clear hb za aa0 aa1 zb bb0 bb1
      obtain ⟨za, aa0, aa1⟩ := TW.a
      obtain ⟨zb, bb0, bb1⟩ := TW.b
      obtain ⟨zp, pp0, pp1, pp2⟩ := BP
      go_wp2_with fail
      go_meet
      exact TW.alloc _
    · go_wp2_with fail
      go_meet
      exact TW.alloc _
  case rest =>
    clear za aa0 aa1 zb bb0 bb1 TW
    obtain ⟨za, aa0, aa1⟩ := hcut.a
    obtain ⟨zb, bb0, bb1⟩ := hcut.b
    have TW := Lib.hid hcut
    clear hcut
    obtain ⟨M, hM⟩ : ∃ M, n.tmod 64 = M := ⟨_, rfl⟩
    have hMk := HKM.out
    rw [hM] at hMk
    have HM := Lib.hid hM
    have HMK := Lib.hid hMk
    clear hM hMk
    go_upto_region 14 with (fail)
    go_cut [18] (fun kv wx => kv = .int .i64 M ∧ wx = wc)
    case first =>
      by_cases hn : 0 ≤ n
      · have e1 := Lib.hid (show n % 64 = M by rw [← HM.out, Int.tmod_eq_emod_of_nonneg hn])
        go_wp2_with fail
        go_meet
        exact ⟨vi64' (by rw [← e1.out]), rfl⟩
      · go_wp2_with fail
        go_meet
        exact ⟨vi64' (by rw [← HM.out]), rfl⟩
    case rest =>
      obtain ⟨rfl, rfl⟩ := hcut
      have hM1 : -64 < M ∧ M < 64 := by have := HMK.out; omega
      go_upto_if 89 with (fail)
      go_cut [18] (fun kv wx => kv = .int .i64 k ∧ wx = wc)
      case first =>
        go_wp2_with fail
        all_goals (go_meet; exact ⟨vi64' (by have := HMK.out; omega), rfl⟩)
      case rest =>
        obtain ⟨rfl, rfl⟩ := hcut
        replace TW := TW.out
        go_wp2_with fail
        (with_reducible refine (CT.out _).mono ?_)
        rintro e w7 ⟨rfl, hb⟩
        replace TW := TW.step hb
        clear hb za aa0 aa1 zb bb0 bb1
        obtain ⟨za, aa0, aa1⟩ := TW.a
        go_wp2_with fail
        (with_reducible refine (CD.out _).mono ?_)
        rintro e w8 ⟨rfl, hb⟩
        replace TW := TW.step hb
        clear hb za aa0 aa1
        obtain ⟨za, aa0, aa1⟩ := TW.a
        have hB8 := TW.below
        go_wp2_with fail
        generalize h8 : World.alloc w8 _ = W8
        have BX : Hd3 W8 w8.heap.size 0 ah al := by rw [← h8]; exact Hd3.new w8 0 ah al _
        have TW8 : Two w W8 ah al bh bl := by rw [← h8]; exact TW.alloc _
        clear h8 za aa0 aa1 hB8
        obtain ⟨xz, xx0, xx1, xx2⟩ := BX
        obtain ⟨za, aa0, aa1⟩ := TW8.a
        have hB8 := TW8.below
        go_region_held3 (fun w' => w'.cell? ⟨w.heap.size, 0, none⟩ = some (.int .u64 ah) ∧ w'.cell? ⟨w.heap.size, 1, none⟩ = some (.int .u64 al) ∧ w'.cell? ⟨w8.heap.size, 0, none⟩ = some (.int .u64 0) ∧ w'.cell? ⟨w8.heap.size, 1, none⟩ = some (.int .u64 ah) ∧ w'.cell? ⟨w8.heap.size, 2, none⟩ = some (.int .u64 al) ∧ w.heap.size < w'.heap.size ∧ w8.heap.size < w'.heap.size ∧ Below w.heap.size w w') (refine ⟨?_, ?_, ?_, ?_, ?_, ?_, ?_, ?_⟩ <;> (first | assumption | (go_keep; done) | omega | (simp; omega) | exact Below.drew (by assumption))) (first | (go_at_call 33; refine (low_any _ _ _ _).mono ?_; rintro e w9 ⟨rfl, hb9⟩; have q0 := hb9.cell (p := ⟨w.heap.size, 0, none⟩) (by first | assumption | omega | (simp; omega)); have q1 := hb9.cell (p := ⟨w.heap.size, 1, none⟩) (by first | assumption | omega | (simp; omega)); have y0 := hb9.cell (p := ⟨w8.heap.size, 0, none⟩) (by first | assumption | omega | (simp; done) | (simp; omega)); have y1 := hb9.cell (p := ⟨w8.heap.size, 1, none⟩) (by first | assumption | omega | (simp; done) | (simp; omega)); have y2 := hb9.cell (p := ⟨w8.heap.size, 2, none⟩) (by first | assumption | omega | (simp; done) | (simp; omega)); have z9 : w.heap.size < w9.heap.size := Nat.lt_of_lt_of_le (by first | assumption | omega | (simp; omega)) hb9.size; have v9 : w8.heap.size < w9.heap.size := Nat.lt_of_lt_of_le (by first | assumption | omega | (simp; done) | (simp; omega)) hb9.size; have B9 : Below w.heap.size w w9 := below_trans' (hb9.mono (by first | omega | (simp; omega))) (by first | assumption | exact Below.drew (by assumption))))
        have hH : w9.cell? ⟨w.heap.size, 0, none⟩ = some (.int .u64 ah) ∧ w9.cell? ⟨w.heap.size, 1, none⟩ = some (.int .u64 al) ∧ w9.cell? ⟨w8.heap.size, 0, none⟩ = some (.int .u64 0) ∧ w9.cell? ⟨w8.heap.size, 1, none⟩ = some (.int .u64 ah) ∧ w9.cell? ⟨w8.heap.size, 2, none⟩ = some (.int .u64 al) ∧ w.heap.size < w9.heap.size ∧ w8.heap.size < w9.heap.size ∧ Below w.heap.size w w9 := by assumption
        obtain ⟨f0, f1, _, _, _, fz, _, fB⟩ := hH
        have HA : Hd w9 w.heap.size ah al := ⟨fz, f0, f1⟩
        clear xz xx0 xx1 xx2
        go_wp2_with fail
        (with_reducible refine (CL.out _).mono ?_)
        rintro e w10 ⟨rfl, hb⟩
        replace HA := HA.below hb
        have fB10 := behind fB hb fB.size
        clear hb f0 f1 fz
        obtain ⟨fz, f0, f1⟩ := id HA
        by_cases hg : (L : Int) + k ≤ 128
        · have hgd : decide (128 < (L : Int) + (k : Int)) = false := by simp; omega
          go_wp2_with fail
          (with_reducible refine (CU.out _).mono ?_)
          rintro e w11 ⟨rfl, hb⟩
          replace HA := HA.below hb
          have fB11 := behind fB10 hb fB10.size
          clear hb f0 f1 fz
          obtain ⟨fz, f0, f1⟩ := id HA
          go_wp2_with fail
          (with_reducible refine (CR.out _ hg).mono ?_)
          rintro e w12 ⟨rfl, hb⟩
          replace HA := HA.below hb
          have fB12 := behind fB11 hb fB11.size
          clear hb f0 f1 fz
          obtain ⟨fz, f0, f1⟩ := id HA
          go_wp2_with fail
          go_ret
          exact ⟨ret_bool (by simp), fB12.alloc fB12.size _⟩
        · have hgd : decide (128 < (L : Int) + (k : Int)) = true := by simp; omega
          go_wp2_with fail
          go_ret
          exact ⟨rfl, fB10⟩
theorem back2_int (ah al bh bl n : Int) (w : World) (hah : Wd ah) (hal : Wd al) (hbh : Wd bh) (hbl : Wd bl) (hn : -9223372036854775808 ≤ n ∧ n < 9223372036854775808) :
    Calls Try.prog 6 #[.agg #[.int .u64 ah, .int .u64 al], .agg #[.int .u64 bh, .int .u64 bl], .int .i64 n] w fun r w' => r = .returned (.bool true) ∧ Below w.heap.size w w' := by
  obtain ⟨a0, a1⟩ := hah
  obtain ⟨b0, b1⟩ := hal
  obtain ⟨c0, c1⟩ := hbh
  obtain ⟨d0, d1⟩ := hbl
  obtain ⟨ah, rfl⟩ := Int.eq_ofNat_of_zero_le a0
  obtain ⟨al, rfl⟩ := Int.eq_ofNat_of_zero_le b0
  obtain ⟨bh, rfl⟩ := Int.eq_ofNat_of_zero_le c0
  obtain ⟨bl, rfl⟩ := Int.eq_ofNat_of_zero_le d0
  exact back2_walk ah al bh bl n w (by omega) (by omega) (by omega) (by omega) hn.1 hn.2
end Go.Proofs.Yteikkoiaeejgaaa
