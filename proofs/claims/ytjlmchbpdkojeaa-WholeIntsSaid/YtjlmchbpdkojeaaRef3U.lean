/-
  The reference of chapter 3: Round, the middle range.
-/
import Derived.Test.YtjlmchbpdkojeaaRef3T
import Derived.Deep.DeepCutAuto
namespace Go.Proofs.Ytjlmchbpdkojeaa
open Go.RowKit Go.Shelf

/-- An int of last places that packs to the wanted bits. -/
structure Packs (neg : Bool) (u F : Int) (X : Nat) : Prop where
  le : X ≤ 9007199254740992
  eq : packI neg X u = F
theorem vi {k : IntKind} {a b : Int} (h : a = b) : Value.int k a = Value.int k b := by rw [h]
theorem rne_bits (N k : Nat) (more : Bool) : Pl.rne N (k + 1) more = N / 2 ^ (k + 1) + if (bitB N k && (lowB N k || more || decide (N / 2 ^ (k + 1) % 2 = 1))) = true then 1 else 0 := by
  unfold Pl.rne
  rw [Nat.add_sub_cancel]
  have h : (N / 2 ^ k % 2 = 1 ∧ (N % 2 ^ k ≠ 0 ∨ more = true ∨ N / 2 ^ (k + 1) % 2 = 1)) ↔ (bitB N k && (lowB N k || more || decide (N / 2 ^ (k + 1) % 2 = 1))) = true := by
    unfold bitB lowB
    generalize N / 2 ^ k % 2 = a
    generalize N % 2 ^ k = b
    generalize N / 2 ^ (k + 1) % 2 = c
    simp [or_assoc]
  by_cases g : (N / 2 ^ k % 2 = 1 ∧ (N % 2 ^ k ≠ 0 ∨ more = true ∨ N / 2 ^ (k + 1) % 2 = 1))
  · rw [if_pos g, if_pos (h.1 g)]
  · rw [if_neg g, if_neg (fun x => g (h.2 x))]
theorem bitB_hbit (N k : Nat) : bitB N k = hbit (N : Int) k := by rw [hbit_nat]; rfl
theorem lowB_lost (N k : Nat) : lowB N k = lostN (N : Int) k := by rw [lostN_nat]; rfl

set_option maxRecDepth 100000 in
set_option maxHeartbeats 8000000 in
theorem round_mid_false (more : Bool) {v : Value} {N d : Nat} (e : Int) (w : World) (hs : SliceV w v N d) (hd : d ≤ 3000) (hN : N ≠ 0) (e0 : -100000 ≤ e) (e1 : e ≤ 2000) :
    Calls Try.prog 40 #[.bool false, v, .int .i64 e, .bool more] w fun r w' => r = .returned (.int .u64 (fbits false N e more)) ∧ Below w.heap.size w w' := by
  have hb := bl_slice hs
  obtain ⟨L, hL⟩ : ∃ L, Pl.bl N = L := ⟨_, rfl⟩
  obtain ⟨u, hun⟩ : ∃ u, Pl.un N e = u := ⟨_, rfl⟩
  obtain ⟨F, hF⟩ : ∃ F, fbits false N e more = F := ⟨_, rfl⟩
  rw [hF]
  have hue : u = max (e + (L : Int) - 53) (-1074) := by rw [← hun, ← hL]; rfl
  have h0 : 0 < L := by rw [← hL]; exact Pl.bl_pos hN
  rw [hL] at hb
  have HU := Lib.hid hun
  have HE := Lib.hid hue
  have HL := Lib.hid hL
  have HS := Lib.hid hs
  have HF := Lib.hid hF
  have u0 : -1074 ≤ u := by omega
  have u1 : u ≤ 98000 := by omega
  have hL1 : (L : Int) ≤ 96000 := by omega
  have h3 : ((L : Int) == 0) = false := by simp; omega
  have h4 : decide (e < -100000) = false := by simp; omega
  have h5 : decide (2000 < e) = false := by simp; omega
  clear hL hs hun hue hF
  go_enter Try.func40, Try.ntmps40
  go_upto_if 41 with (go_at_call 66; refine (rlen_v HS.out (by omega)).mono ?_; rw [HL.out]; rintro r w1 ⟨rfl, hb1⟩)
  go_cut [11] (fun uv wx => uv = .int .i64 u ∧ wx = w1)
  case first =>
    go_wp2
    all_goals (go_meet; exact ⟨vi (by have := HE.out; omega), rfl⟩)
  case rest =>
    obtain ⟨rfl, rfl⟩ := hcut
    by_cases hue : u ≤ e
    · have h6 : decide (u ≤ e) = true := by simpa using hue
      obtain ⟨k, hk⟩ : ∃ k : Nat, e - u = k := ⟨(e - u).toNat, by omega⟩
      obtain ⟨m1, mf⟩ := mag_bits_up false more hN HU.out.symm (by omega) hk
      have hk1 : k ≤ 4000 := by omega
      obtain ⟨M, hM⟩ : ∃ M, N * 2 ^ k = M := ⟨_, rfl⟩
      rw [hM] at m1 mf
      have HM := Lib.hid hM
      have HZ := Lib.hid (from_zero m1)
      have HP := Lib.hid (Packs.mk (Nat.le_of_lt m1) (mf.trans HF.out))
      have HLT := Lib.hid (show M < Pl.B32 ^ 2 by unfold Pl.B32; omega)
      clear hM mf
      go_upto_if 44 with (fail)
      go_cut [12, 13, 14, 15] (fun mv a b c wx => ∃ X : Nat, mv = .int .u64 X ∧ Packs false u F X ∧ Below w.heap.size w wx)
      case first =>
        go_wp2_with (first | (go_at_call 50; refine (up_v k (HS.out.below hb1) (by omega) (by omega)).mono ?_; rw [HM.out]; rintro r w2 ⟨v2, rfl, hv2, hb2⟩) | (go_at_call 67; refine (from_v 0 (hv2.slice HLT.out) (by omega)).mono ?_; rw [HZ.out]; rintro r w3 ⟨rfl, rfl⟩))
        go_meet
        exact ⟨M, rfl, HP.out, hb1.trans (hb2.mono hb1.size)⟩
      case rest =>
        clear HP HZ HM HLT m1 h6 hue hk hk1
        obtain ⟨X, rfl, hp, hB⟩ := hcut
        have hX := hp.le
        have HP := Lib.hid hp.eq
        clear hp
        rcases Nat.lt_trichotomy X 9007199254740992 with hx | hx | hx
        · have t1 : ((X : Int) == 9007199254740992) = false := by simp; omega
          by_cases hx2 : X < 4503599627370496
          · have t2 : decide ((X : Int) < 4503599627370496) = true := by simp; omega
            go_wp2
            go_ret
            exact ⟨retI (by rw [← HP.out]; clear t1 t2; unfold packI sb; (repeat' split) <;> simp_all <;> omega), hB⟩
          · have t2 : decide ((X : Int) < 4503599627370496) = false := by simp; omega
            by_cases hx3 : 2047 ≤ u + 1075
            · have t3 : decide (2047 ≤ u + 1075) = true := by simpa using hx3
              go_wp2
              go_ret
              exact ⟨retI (by rw [← HP.out]; clear t1 t2 t3; unfold packI sb INFI; (repeat' split) <;> simp_all <;> omega), hB⟩
            · have t3 : decide (2047 ≤ u + 1075) = false := by simpa using hx3
              go_wp2
              go_ret
              exact ⟨retI (by rw [← HP.out]; clear t1 t2 t3; unfold packI sb INFI; (repeat' split) <;> simp_all <;> omega), hB⟩
        · subst hx
          by_cases hx3 : 2047 ≤ u + 1 + 1075
          · have t3 : decide (2047 ≤ u + 1 + 1075) = true := by simpa using hx3
            go_wp2
            go_ret
            exact ⟨retI (by rw [← HP.out]; clear t3; unfold packI sb INFI; (repeat' split) <;> simp_all <;> omega), hB⟩
          · have t3 : decide (2047 ≤ u + 1 + 1075) = false := by simpa using hx3
            go_wp2
            go_ret
            exact ⟨retI (by rw [← HP.out]; clear t3; unfold packI sb INFI; (repeat' split) <;> simp_all <;> omega), hB⟩
        · omega
    · have h6 : decide (u ≤ e) = false := by simpa using hue
      obtain ⟨k, hk⟩ : ∃ k : Nat, u - e = (k : Int) + 1 := ⟨(u - e - 1).toNat, by omega⟩
      obtain ⟨m1, m2, m3, mf⟩ := mag_bits_down false more hN HU.out.symm hk
      have hk1 : k ≤ 300000 := by omega
      have hr : Pl.rne N (k + 1) more = N / 2 ^ (k + 1) + if (bitB N k && (lowB N k || more || decide (N / 2 ^ (k + 1) % 2 = 1))) = true then 1 else 0 := rne_bits N k more
      have HZ := Lib.hid (from_small m3)
      obtain ⟨M, hM⟩ : ∃ M, N / 2 ^ (k + 1) = M := ⟨_, rfl⟩
      rw [hM] at hr m3
      rw [hr] at m1 mf
      have HM := Lib.hid hM
      have HP := Lib.hid (Packs.mk m1 (mf.trans HF.out))
      have hPM : ((M : Int) % 2 == 1) = decide (M % 2 = 1) := by
        rw [Bool.eq_iff_iff]; simp; omega
      clear hM mf m1 m2 hr hue
      generalize hB : bitB N k = B at *
      generalize hD : lowB N k = D at *
      generalize hP : decide (M % 2 = 1) = P at *
      go_upto_if 44 with (fail)
      go_cut [12, 13, 14, 15] (fun mv a b c wx => ∃ X : Nat, mv = .int .u64 X ∧ Packs false u F X ∧ Below w.heap.size w wx)
      case first =>
        have arms : True := trivial
        clear arms
        cases B
        · go_wp2_with (first | (go_at_call 67; refine (from_v (k + 1) (HS.out.below hb1) (by omega)).mono ?_; rw [HZ.out, HM.out]; rintro r w3 ⟨rfl, rfl⟩) | (go_at_call 64; refine (bit_v k (HS.out.below hb1) (by omega)).mono ?_; rw [hB]; rintro r w4 ⟨rfl, rfl⟩) | (go_at_call 68; refine (rlow_v k (HS.out.below hb1) (by omega)).mono ?_; rw [hD]; rintro r w5 ⟨rfl, rfl⟩))
          all_goals (go_meet; exact ⟨_, by go_num, HP.out, hb1⟩)
        · cases D
          · cases more
            · cases P
              · go_wp2_with (first | (go_at_call 67; refine (from_v (k + 1) (HS.out.below hb1) (by omega)).mono ?_; rw [HZ.out, HM.out]; rintro r w3 ⟨rfl, rfl⟩) | (go_at_call 64; refine (bit_v k (HS.out.below hb1) (by omega)).mono ?_; rw [hB]; rintro r w4 ⟨rfl, rfl⟩) | (go_at_call 68; refine (rlow_v k (HS.out.below hb1) (by omega)).mono ?_; rw [hD]; rintro r w5 ⟨rfl, rfl⟩))
                all_goals (go_meet; exact ⟨_, by go_num, HP.out, hb1⟩)
              · go_wp2_with (first | (go_at_call 67; refine (from_v (k + 1) (HS.out.below hb1) (by omega)).mono ?_; rw [HZ.out, HM.out]; rintro r w3 ⟨rfl, rfl⟩) | (go_at_call 64; refine (bit_v k (HS.out.below hb1) (by omega)).mono ?_; rw [hB]; rintro r w4 ⟨rfl, rfl⟩) | (go_at_call 68; refine (rlow_v k (HS.out.below hb1) (by omega)).mono ?_; rw [hD]; rintro r w5 ⟨rfl, rfl⟩))
                all_goals (go_meet; exact ⟨_, by go_num, HP.out, hb1⟩)
            · go_wp2_with (first | (go_at_call 67; refine (from_v (k + 1) (HS.out.below hb1) (by omega)).mono ?_; rw [HZ.out, HM.out]; rintro r w3 ⟨rfl, rfl⟩) | (go_at_call 64; refine (bit_v k (HS.out.below hb1) (by omega)).mono ?_; rw [hB]; rintro r w4 ⟨rfl, rfl⟩) | (go_at_call 68; refine (rlow_v k (HS.out.below hb1) (by omega)).mono ?_; rw [hD]; rintro r w5 ⟨rfl, rfl⟩))
              all_goals (go_meet; exact ⟨_, by go_num, HP.out, hb1⟩)
          · go_wp2_with (first | (go_at_call 67; refine (from_v (k + 1) (HS.out.below hb1) (by omega)).mono ?_; rw [HZ.out, HM.out]; rintro r w3 ⟨rfl, rfl⟩) | (go_at_call 64; refine (bit_v k (HS.out.below hb1) (by omega)).mono ?_; rw [hB]; rintro r w4 ⟨rfl, rfl⟩) | (go_at_call 68; refine (rlow_v k (HS.out.below hb1) (by omega)).mono ?_; rw [hD]; rintro r w5 ⟨rfl, rfl⟩))
            all_goals (go_meet; exact ⟨_, by go_num, HP.out, hb1⟩)
      case rest =>
        clear HP HZ HM m3 h6 hk hk1 hB hD hP hPM
        obtain ⟨X, rfl, hp, hB⟩ := hcut
        have hX := hp.le
        have HP := Lib.hid hp.eq
        clear hp
        rcases Nat.lt_trichotomy X 9007199254740992 with hx | hx | hx
        · have t1 : ((X : Int) == 9007199254740992) = false := by simp; omega
          by_cases hx2 : X < 4503599627370496
          · have t2 : decide ((X : Int) < 4503599627370496) = true := by simp; omega
            go_wp2
            go_ret
            exact ⟨retI (by rw [← HP.out]; clear t1 t2; unfold packI sb; (repeat' split) <;> simp_all <;> omega), hB⟩
          · have t2 : decide ((X : Int) < 4503599627370496) = false := by simp; omega
            by_cases hx3 : 2047 ≤ u + 1075
            · have t3 : decide (2047 ≤ u + 1075) = true := by simpa using hx3
              go_wp2
              go_ret
              exact ⟨retI (by rw [← HP.out]; clear t1 t2 t3; unfold packI sb INFI; (repeat' split) <;> simp_all <;> omega), hB⟩
            · have t3 : decide (2047 ≤ u + 1075) = false := by simpa using hx3
              go_wp2
              go_ret
              exact ⟨retI (by rw [← HP.out]; clear t1 t2 t3; unfold packI sb INFI; (repeat' split) <;> simp_all <;> omega), hB⟩
        · subst hx
          by_cases hx3 : 2047 ≤ u + 1 + 1075
          · have t3 : decide (2047 ≤ u + 1 + 1075) = true := by simpa using hx3
            go_wp2
            go_ret
            exact ⟨retI (by rw [← HP.out]; clear t3; unfold packI sb INFI; (repeat' split) <;> simp_all <;> omega), hB⟩
          · have t3 : decide (2047 ≤ u + 1 + 1075) = false := by simpa using hx3
            go_wp2
            go_ret
            exact ⟨retI (by rw [← HP.out]; clear t3; unfold packI sb INFI; (repeat' split) <;> simp_all <;> omega), hB⟩
        · omega
set_option maxRecDepth 100000 in
set_option maxHeartbeats 8000000 in
theorem round_mid_true (more : Bool) {v : Value} {N d : Nat} (e : Int) (w : World) (hs : SliceV w v N d) (hd : d ≤ 3000) (hN : N ≠ 0) (e0 : -100000 ≤ e) (e1 : e ≤ 2000) :
    Calls Try.prog 40 #[.bool true, v, .int .i64 e, .bool more] w fun r w' => r = .returned (.int .u64 (fbits true N e more)) ∧ Below w.heap.size w w' := by
  have hb := bl_slice hs
  obtain ⟨L, hL⟩ : ∃ L, Pl.bl N = L := ⟨_, rfl⟩
  obtain ⟨u, hun⟩ : ∃ u, Pl.un N e = u := ⟨_, rfl⟩
  obtain ⟨F, hF⟩ : ∃ F, fbits true N e more = F := ⟨_, rfl⟩
  rw [hF]
  have hue : u = max (e + (L : Int) - 53) (-1074) := by rw [← hun, ← hL]; rfl
  have h0 : 0 < L := by rw [← hL]; exact Pl.bl_pos hN
  rw [hL] at hb
  have HU := Lib.hid hun
  have HE := Lib.hid hue
  have HL := Lib.hid hL
  have HS := Lib.hid hs
  have HF := Lib.hid hF
  have u0 : -1074 ≤ u := by omega
  have u1 : u ≤ 98000 := by omega
  have hL1 : (L : Int) ≤ 96000 := by omega
  have h3 : ((L : Int) == 0) = false := by simp; omega
  have h4 : decide (e < -100000) = false := by simp; omega
  have h5 : decide (2000 < e) = false := by simp; omega
  clear hL hs hun hue hF
  go_enter Try.func40, Try.ntmps40
  go_upto_if 41 with (go_at_call 66; refine (rlen_v HS.out (by omega)).mono ?_; rw [HL.out]; rintro r w1 ⟨rfl, hb1⟩)
  go_cut [11] (fun uv wx => uv = .int .i64 u ∧ wx = w1)
  case first =>
    go_wp2
    all_goals (go_meet; exact ⟨vi (by have := HE.out; omega), rfl⟩)
  case rest =>
    obtain ⟨rfl, rfl⟩ := hcut
    by_cases hue : u ≤ e
    · have h6 : decide (u ≤ e) = true := by simpa using hue
      obtain ⟨k, hk⟩ : ∃ k : Nat, e - u = k := ⟨(e - u).toNat, by omega⟩
      obtain ⟨m1, mf⟩ := mag_bits_up true more hN HU.out.symm (by omega) hk
      have hk1 : k ≤ 4000 := by omega
      obtain ⟨M, hM⟩ : ∃ M, N * 2 ^ k = M := ⟨_, rfl⟩
      rw [hM] at m1 mf
      have HM := Lib.hid hM
      have HZ := Lib.hid (from_zero m1)
      have HP := Lib.hid (Packs.mk (Nat.le_of_lt m1) (mf.trans HF.out))
      have HLT := Lib.hid (show M < Pl.B32 ^ 2 by unfold Pl.B32; omega)
      clear hM mf
      go_upto_if 44 with (fail)
      go_cut [12, 13, 14, 15] (fun mv a b c wx => ∃ X : Nat, mv = .int .u64 X ∧ Packs true u F X ∧ Below w.heap.size w wx)
      case first =>
        go_wp2_with (first | (go_at_call 50; refine (up_v k (HS.out.below hb1) (by omega) (by omega)).mono ?_; rw [HM.out]; rintro r w2 ⟨v2, rfl, hv2, hb2⟩) | (go_at_call 67; refine (from_v 0 (hv2.slice HLT.out) (by omega)).mono ?_; rw [HZ.out]; rintro r w3 ⟨rfl, rfl⟩))
        go_meet
        exact ⟨M, rfl, HP.out, hb1.trans (hb2.mono hb1.size)⟩
      case rest =>
        clear HP HZ HM HLT m1 h6 hue hk hk1
        obtain ⟨X, rfl, hp, hB⟩ := hcut
        have hX := hp.le
        have HP := Lib.hid hp.eq
        clear hp
        rcases Nat.lt_trichotomy X 9007199254740992 with hx | hx | hx
        · have t1 : ((X : Int) == 9007199254740992) = false := by simp; omega
          by_cases hx2 : X < 4503599627370496
          · have t2 : decide ((X : Int) < 4503599627370496) = true := by simp; omega
            go_wp2
            go_ret
            exact ⟨retI (by rw [← HP.out]; clear t1 t2; unfold packI sb; (repeat' split) <;> simp_all <;> omega), hB⟩
          · have t2 : decide ((X : Int) < 4503599627370496) = false := by simp; omega
            by_cases hx3 : 2047 ≤ u + 1075
            · have t3 : decide (2047 ≤ u + 1075) = true := by simpa using hx3
              go_wp2
              go_ret
              exact ⟨retI (by rw [← HP.out]; clear t1 t2 t3; unfold packI sb INFI; (repeat' split) <;> simp_all <;> omega), hB⟩
            · have t3 : decide (2047 ≤ u + 1075) = false := by simpa using hx3
              go_wp2
              go_ret
              exact ⟨retI (by rw [← HP.out]; clear t1 t2 t3; unfold packI sb INFI; (repeat' split) <;> simp_all <;> omega), hB⟩
        · subst hx
          by_cases hx3 : 2047 ≤ u + 1 + 1075
          · have t3 : decide (2047 ≤ u + 1 + 1075) = true := by simpa using hx3
            go_wp2
            go_ret
            exact ⟨retI (by rw [← HP.out]; clear t3; unfold packI sb INFI; (repeat' split) <;> simp_all <;> omega), hB⟩
          · have t3 : decide (2047 ≤ u + 1 + 1075) = false := by simpa using hx3
            go_wp2
            go_ret
            exact ⟨retI (by rw [← HP.out]; clear t3; unfold packI sb INFI; (repeat' split) <;> simp_all <;> omega), hB⟩
        · omega
    · have h6 : decide (u ≤ e) = false := by simpa using hue
      obtain ⟨k, hk⟩ : ∃ k : Nat, u - e = (k : Int) + 1 := ⟨(u - e - 1).toNat, by omega⟩
      obtain ⟨m1, m2, m3, mf⟩ := mag_bits_down true more hN HU.out.symm hk
      have hk1 : k ≤ 300000 := by omega
      have hr : Pl.rne N (k + 1) more = N / 2 ^ (k + 1) + if (bitB N k && (lowB N k || more || decide (N / 2 ^ (k + 1) % 2 = 1))) = true then 1 else 0 := rne_bits N k more
      have HZ := Lib.hid (from_small m3)
      obtain ⟨M, hM⟩ : ∃ M, N / 2 ^ (k + 1) = M := ⟨_, rfl⟩
      rw [hM] at hr m3
      rw [hr] at m1 mf
      have HM := Lib.hid hM
      have HP := Lib.hid (Packs.mk m1 (mf.trans HF.out))
      have hPM : ((M : Int) % 2 == 1) = decide (M % 2 = 1) := by
        rw [Bool.eq_iff_iff]; simp; omega
      clear hM mf m1 m2 hr hue
      generalize hB : bitB N k = B at *
      generalize hD : lowB N k = D at *
      generalize hP : decide (M % 2 = 1) = P at *
      go_upto_if 44 with (fail)
      go_cut [12, 13, 14, 15] (fun mv a b c wx => ∃ X : Nat, mv = .int .u64 X ∧ Packs true u F X ∧ Below w.heap.size w wx)
      case first =>
        have arms : True := trivial
        clear arms
        cases B
        · go_wp2_with (first | (go_at_call 67; refine (from_v (k + 1) (HS.out.below hb1) (by omega)).mono ?_; rw [HZ.out, HM.out]; rintro r w3 ⟨rfl, rfl⟩) | (go_at_call 64; refine (bit_v k (HS.out.below hb1) (by omega)).mono ?_; rw [hB]; rintro r w4 ⟨rfl, rfl⟩) | (go_at_call 68; refine (rlow_v k (HS.out.below hb1) (by omega)).mono ?_; rw [hD]; rintro r w5 ⟨rfl, rfl⟩))
          all_goals (go_meet; exact ⟨_, by go_num, HP.out, hb1⟩)
        · cases D
          · cases more
            · cases P
              · go_wp2_with (first | (go_at_call 67; refine (from_v (k + 1) (HS.out.below hb1) (by omega)).mono ?_; rw [HZ.out, HM.out]; rintro r w3 ⟨rfl, rfl⟩) | (go_at_call 64; refine (bit_v k (HS.out.below hb1) (by omega)).mono ?_; rw [hB]; rintro r w4 ⟨rfl, rfl⟩) | (go_at_call 68; refine (rlow_v k (HS.out.below hb1) (by omega)).mono ?_; rw [hD]; rintro r w5 ⟨rfl, rfl⟩))
                all_goals (go_meet; exact ⟨_, by go_num, HP.out, hb1⟩)
              · go_wp2_with (first | (go_at_call 67; refine (from_v (k + 1) (HS.out.below hb1) (by omega)).mono ?_; rw [HZ.out, HM.out]; rintro r w3 ⟨rfl, rfl⟩) | (go_at_call 64; refine (bit_v k (HS.out.below hb1) (by omega)).mono ?_; rw [hB]; rintro r w4 ⟨rfl, rfl⟩) | (go_at_call 68; refine (rlow_v k (HS.out.below hb1) (by omega)).mono ?_; rw [hD]; rintro r w5 ⟨rfl, rfl⟩))
                all_goals (go_meet; exact ⟨_, by go_num, HP.out, hb1⟩)
            · go_wp2_with (first | (go_at_call 67; refine (from_v (k + 1) (HS.out.below hb1) (by omega)).mono ?_; rw [HZ.out, HM.out]; rintro r w3 ⟨rfl, rfl⟩) | (go_at_call 64; refine (bit_v k (HS.out.below hb1) (by omega)).mono ?_; rw [hB]; rintro r w4 ⟨rfl, rfl⟩) | (go_at_call 68; refine (rlow_v k (HS.out.below hb1) (by omega)).mono ?_; rw [hD]; rintro r w5 ⟨rfl, rfl⟩))
              all_goals (go_meet; exact ⟨_, by go_num, HP.out, hb1⟩)
          · go_wp2_with (first | (go_at_call 67; refine (from_v (k + 1) (HS.out.below hb1) (by omega)).mono ?_; rw [HZ.out, HM.out]; rintro r w3 ⟨rfl, rfl⟩) | (go_at_call 64; refine (bit_v k (HS.out.below hb1) (by omega)).mono ?_; rw [hB]; rintro r w4 ⟨rfl, rfl⟩) | (go_at_call 68; refine (rlow_v k (HS.out.below hb1) (by omega)).mono ?_; rw [hD]; rintro r w5 ⟨rfl, rfl⟩))
            all_goals (go_meet; exact ⟨_, by go_num, HP.out, hb1⟩)
      case rest =>
        clear HP HZ HM m3 h6 hk hk1 hB hD hP hPM
        obtain ⟨X, rfl, hp, hB⟩ := hcut
        have hX := hp.le
        have HP := Lib.hid hp.eq
        clear hp
        rcases Nat.lt_trichotomy X 9007199254740992 with hx | hx | hx
        · have t1 : ((X : Int) == 9007199254740992) = false := by simp; omega
          by_cases hx2 : X < 4503599627370496
          · have t2 : decide ((X : Int) < 4503599627370496) = true := by simp; omega
            go_wp2
            go_ret
            exact ⟨retI (by rw [← HP.out]; clear t1 t2; unfold packI sb; (repeat' split) <;> simp_all <;> omega), hB⟩
          · have t2 : decide ((X : Int) < 4503599627370496) = false := by simp; omega
            by_cases hx3 : 2047 ≤ u + 1075
            · have t3 : decide (2047 ≤ u + 1075) = true := by simpa using hx3
              go_wp2
              go_ret
              exact ⟨retI (by rw [← HP.out]; clear t1 t2 t3; unfold packI sb INFI; (repeat' split) <;> simp_all <;> omega), hB⟩
            · have t3 : decide (2047 ≤ u + 1075) = false := by simpa using hx3
              go_wp2
              go_ret
              exact ⟨retI (by rw [← HP.out]; clear t1 t2 t3; unfold packI sb INFI; (repeat' split) <;> simp_all <;> omega), hB⟩
        · subst hx
          by_cases hx3 : 2047 ≤ u + 1 + 1075
          · have t3 : decide (2047 ≤ u + 1 + 1075) = true := by simpa using hx3
            go_wp2
            go_ret
            exact ⟨retI (by rw [← HP.out]; clear t3; unfold packI sb INFI; (repeat' split) <;> simp_all <;> omega), hB⟩
          · have t3 : decide (2047 ≤ u + 1 + 1075) = false := by simpa using hx3
            go_wp2
            go_ret
            exact ⟨retI (by rw [← HP.out]; clear t3; unfold packI sb INFI; (repeat' split) <;> simp_all <;> omega), hB⟩
        · omega
theorem round_any (neg more : Bool) {v : Value} {N d : Nat} (e : Int) (w : World) (hs : SliceV w v N d) (hd : d ≤ 3000) (e0 : -9223372036854775808 ≤ e) :
    Calls Try.prog 40 #[.bool neg, v, .int .i64 e, .bool more] w fun r w' => r = .returned (.int .u64 (fbits neg N e more)) ∧ Below w.heap.size w w' := by
  by_cases h : N = 0 ∨ e < -100000
  · exact round_far neg more e w hs hd e0 h
  · have hN : N ≠ 0 := fun g => h (.inl g)
    by_cases h2 : 2000 < e
    · exact round_high neg more e w hs hd hN h2
    · cases neg
      · exact round_mid_false more e w hs hd hN (by omega) (by omega)
      · exact round_mid_true more e w hs hd hN (by omega) (by omega)
end Go.Proofs.Ytjlmchbpdkojeaa
