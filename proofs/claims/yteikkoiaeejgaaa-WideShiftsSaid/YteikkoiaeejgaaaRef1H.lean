/-
  The reference of chapter 1: Big, Shl, Shr.
-/
import Derived.Test.YteikkoiaeejgaaaRef1G
import Derived.Test.YteikkoiaeejgaaaRef1C
namespace Go.Proofs.Yteikkoiaeejgaaa
open Go.RowKit Go.Shelf

set_option maxHeartbeats 1000000 in
theorem big_no {w : World} {v : Value} {N d : Nat} (h : SliceV w v N d) (hd : d ≤ 256) : Calls Try.prog 48 #[v] w fun e w' => e = .returned (.bool false) ∧ Below w.heap.size w w' := by
  have hlen := Pl.limbs_len_le h.lt
  obtain ⟨p, hp⟩ : ∃ p, (Pl.limbs N).length = p := ⟨_, rfl⟩
  rw [hp] at hlen
  have HP := Lib.hid hp
  have H := Lib.hid h
  have hp2 : (p : Int) ≤ 256 := by omega
  clear hp h
  go_enter Try.func48, Try.ntmps48
  go_wp2_with fail
  (with_reducible refine (trim_v H.out (by omega)).mono ?_)
  rintro e w1 ⟨v1, rfl, ⟨A1, n1, c1, rfl, h1, h2, hl1⟩, hb1⟩
  obtain rfl : n1 = p := hl1.len.symm.trans HP.out
  go_wp2
  go_ret
  exact ⟨retB (by simp; omega), hb1⟩

theorem up_bound' {N d q k r : Nat} (hN : N < Pl.B32 ^ d) (hk : k ≤ r) (hr : r < 32) : N * 2 ^ (32 * q + k) < Pl.B32 ^ (d + q + 1) := by
  have h1 : 2 ^ (32 * q + k) ≤ Pl.B32 ^ (q + 1) := by rw [Pl.B32_pow]; exact Nat.pow_le_pow_right (by omega) (by omega)
  have h2 := Nat.mul_lt_mul_of_lt_of_le hN h1 (Nat.pow_pos Pl.B32_pos)
  rw [← Nat.pow_add] at h2
  exact h2
theorem up_first' (l : List Nat) (q : Nat) : Pl.val (List.replicate q 0 ++ l) = Pl.val l * 2 ^ (32 * q + 0) := by
  rw [Pl.val_append, Pl.val_zeros, List.length_replicate, Nat.zero_add, Pl.B32_pow, Nat.mul_comm, Nat.add_zero]
theorem up_step' (N q k : Nat) : 2 * (N * 2 ^ (32 * q + k)) + b01 false = N * 2 ^ (32 * q + (k + 1)) := by
  unfold b01
  rw [← Nat.add_assoc, Nat.pow_succ, ← Nat.mul_assoc N]; simp; omega

def RetNatE (N : Nat) (w : World) (e : Ending) (w' : World) : Prop := ∃ v, e = .returned (.tuple #[v, .int .i64 0]) ∧ NatV w' v N ∧ Below w.heap.size w w'

set_option maxRecDepth 100000 in
set_option maxHeartbeats 4000000 in
theorem shl1_v {w : World} {v : Value} {N d : Nat} (u : Nat) (h : SliceV w v N d) (hd : d ≤ 20) (hu : u ≤ 1000) : Calls Try.prog 43 #[v, .int .i64 u] w (RetNatE (N * 2 ^ u) w) := by
  obtain ⟨i0, hi0, hz0, hz1, hz2⟩ := info_parts u32_info
  have hlen := Pl.limbs_len_le h.lt
  obtain ⟨p, hp⟩ : ∃ p, (Pl.limbs N).length = p := ⟨_, rfl⟩
  rw [hp] at hlen
  have HP := Lib.hid hp
  have hbl := Pl.bl_le_of_lt (by have := h.lt; rw [Pl.B32_pow] at this; exact this)
  obtain ⟨L, hL⟩ : ∃ L, Pl.bl N = L := ⟨_, rfl⟩
  rw [hL] at hbl
  have HL := Lib.hid hL
  have H := Lib.hid h
  have hlt := Lib.hid h.lt
  clear hp hL h
  by_cases h0 : p = 0
  · subst h0
    have hN : N = 0 := Pl.limbs_nil (List.eq_nil_of_length_eq_zero HP.out)
    have HN := Lib.hid hN
    clear hN
    go_enter Try.func43, Try.ntmps43
    go_wp2_with fail
    (with_reducible refine (big_no H.out (by omega)).mono ?_)
    rintro e w1 ⟨rfl, hb1⟩
    go_wp2_with fail
    (with_reducible refine (trim_v (H.out.below hb1) (by omega)).mono ?_)
    rintro e w2 ⟨v2, rfl, ⟨A2, n2, c2, rfl, h3, h4, hl2⟩, hb2⟩
    obtain rfl : n2 = 0 := hl2.len.symm.trans HP.out
    go_wp2
    go_ret2
    exact ⟨_, rfl, by rw [HN.out, Nat.zero_mul]; exact NatV.nil _, hb1.trans (hb2.mono hb1.size)⟩
  · have hp0 : ((p : Int) == 0) = false := by simp; omega
    have hp1 : 0 < p := by omega
    clear h0
    obtain ⟨q, hq⟩ : ∃ q : Nat, (u : Int) / 32 = q := ⟨u / 32, by omega⟩
    obtain ⟨r, hr⟩ : ∃ r : Nat, (u : Int) % 32 = r := ⟨u % 32, by omega⟩
    have hr1 : r < 32 := by omega
    have hq1 : q ≤ 40 := by omega
    have hU := Lib.hid (show u = 32 * q + r by omega)
    have hcmp : ¬ (8192 < (L : Int) + (u : Int)) := by omega
    go_enter Try.func43, Try.ntmps43
    go_wp2_with fail
    (with_reducible refine (big_no H.out (by omega)).mono ?_)
    rintro e w1 ⟨rfl, hb1⟩
    go_wp2_with fail
    (with_reducible refine (trim_v (H.out.below hb1) (by omega)).mono ?_)
    rintro e w2 ⟨v2, rfl, hv2, hb2⟩
    have HV2 := Lib.hid (hv2.slice hlt.out)
    obtain ⟨A2, n2, c2, rfl, h3, h4, hl2⟩ := hv2
    obtain rfl : n2 = p := hl2.len.symm.trans HP.out
    have HL2 := Lib.hid hl2
    have HB2 := Lib.hid (hb1.trans (hb2.mono hb1.size))
    clear hl2 hb1 hb2
    go_wp2_with fail
    (with_reducible refine (rlen_v HV2.out (by omega)).mono ?_)
    rw [HL.out]
    rintro e w3 ⟨rfl, hb3⟩
    have HL3 := Lib.hid (HL2.out.below hb3)
    have HB3 := Lib.hid (HB2.out.trans (hb3.mono HB2.out.size))
    clear hb3
    go_wp2_with (first
      | (at_make; refine wpList_make_full _ rfl _ _ _ rfl w3.heap.size 69 i0 _ 1 Try.underlying26 hi0 hz0 hz1 .i64 .i64 _ _ q rfl rfl rfl rfl (by rw [hz2]; omega) (by unfold maxLen; omega) (Nat.le_refl _) ?_; intro w4 hown1 hg1; rw [made_zero] at hown1; have hB4 := (Below.refl w3.heap.size w3).grown hg1 (Nat.le_refl _) (by simp))
      | (at_builtin; refine wpList_append_any _ rfl (.tmp 30) (.tmp 31) _ rfl w3.heap.size 69 i0 _ 1 4 Try.underlying26 hi0 hz0 hz1 hz2 rfl (by omega) (.slice (some ⟨w3.heap.size, 0, none⟩) q q) q ((List.replicate q 0).map lv) rfl hown1 w4.heap.size A2 n2 c2 ((Pl.limbs N).map lv) rfl (HL3.out.below hB4).reads (one_limbs _) (by unfold maxLen; omega) (by omega) hB4.size ?_; intro v5 w5 hown2 hg2 hat2; rw [← List.map_append] at hown2; have hB5 : Below w3.heap.size w3 w5 := hB4.grown hg2 hB4.size (fun k h => own_at h)))
    have hS : SliceV w5 v5 (N * 2 ^ (32 * q + 0)) (20 + q + 1) := by
      have := SliceV.of_own hown2 ((fit_zeros' q).append (Pl.fit_limbs N))
      rw [up_first', Pl.val_limbs] at this
      exact this.more (by omega)
    have HS := Lib.hid hS
    have HB5 := Lib.hid (HB3.out.trans (hB5.mono HB3.out.size))
    have HLT := Lib.hid (Nat.lt_of_lt_of_le hlt.out (Nat.pow_le_pow_right Pl.B32_pos (show d ≤ 20 by omega)))
    clear hS hB5 hown1 hown2 hB4 hg1 hg2 hat2
    go_loopw [7, 8] (fun v iv wr => ∃ k : Nat, iv = .int .i64 k ∧ k ≤ r ∧ SliceV wr v (N * 2 ^ (32 * q + k)) (20 + q + 1) ∧ Below w.heap.size w wr) (fun _ iv _ => r - (intOf iv).toNat)
    case atStart => exact ⟨0, rfl, Nat.zero_le _, HS.out, HB5.out⟩
    case round =>
      obtain ⟨k, rfl, hk, hs, hB⟩ := hrel
      have HSk := Lib.hid hs
      have HB := Lib.hid hB
      clear hs hB
      by_cases hlt' : k < r
      · have HE := Lib.hid (up_step' N q k)
        go_wp2_with (go_at_call 45; refine (twice_v false HSk.out (by omega)).mono ?_; rw [HE.out]; rintro e w3 ⟨v3, rfl, hv3, hb3⟩)
        go_roundw
        case rel => exact ⟨k + 1, by go_num, by omega, hv3.slice (up_bound' HLT.out (show k + 1 ≤ r by omega) hr1), HB.out.trans (hb3.mono HB.out.size)⟩
        case measure => simp [intOf]; omega
      · have HK := Lib.hid (show 32 * q + k = u by have := hU.out; omega)
        go_wp2_with (go_at_call 40; refine (trim_v HSk.out (by omega)).mono ?_; rw [HK.out]; rintro e w3 ⟨v3, rfl, hv3, hb3⟩)
        go_ret2
        exact ⟨v3, rfl, hv3, HB.out.trans (hb3.mono HB.out.size)⟩

def RetNatBE (N : Nat) (b : Bool) (w : World) (e : Ending) (w' : World) : Prop := ∃ v, e = .returned (.tuple #[v, .bool b, .int .i64 0]) ∧ NatV w' v N ∧ Below w.heap.size w w'
def shrQ (N n : Nat) : Nat := N / 2 ^ n
def lostB (N n : Nat) : Bool := decide (N % 2 ^ n ≠ 0)
theorem bit_one {N i : Nat} (h : bitB N i = true) : N / 2 ^ i % 2 = 1 := by unfold bitB at h; exact of_decide_eq_true h
theorem bit_nil {N i : Nat} (h : bitB N i = false) : N / 2 ^ i % 2 = 0 := by unfold bitB at h; have := of_decide_eq_false h; omega

set_option maxRecDepth 100000 in
set_option maxHeartbeats 8000000 in
theorem shr1_v {w : World} {v : Value} {N d : Nat} (z : Int) (n : Nat) (h : SliceV w v N d) (hd : d ≤ 20) (hz : z = n) (z1 : z < 9223372036854775808) : Calls Try.prog 42 #[v, .int .i64 z] w (RetNatBE (shrQ N n) (lostB N n) w) := by
  obtain ⟨i0, hi0, hz0, hz1, hz2⟩ := info_parts u32_info
  have hlen := Pl.limbs_len_le h.lt
  obtain ⟨p, hp⟩ : ∃ p, (Pl.limbs N).length = p := ⟨_, rfl⟩
  rw [hp] at hlen
  have hNp : N < 2 ^ (32 * p) := by
    rw [← Pl.B32_pow]; exact Pl.lt_of_limbs_len (by omega)
  have HNP := Lib.hid hNp
  have HP := Lib.hid hp
  have H := Lib.hid h
  have hlt := Lib.hid h.lt
  clear hp h hNp
  have z0 : 0 ≤ z := by omega
  have HZ := Lib.hid hz
  clear hz
  go_enter Try.func42, Try.ntmps42
  go_wp2_with fail
  (with_reducible refine (big_no H.out (by omega)).mono ?_)
  rintro e w1 ⟨rfl, hb1⟩
  go_wp2_with fail
  (with_reducible refine (trim_v (H.out.below hb1) (by omega)).mono ?_)
  rintro e w2 ⟨v2, rfl, hv2, hb2⟩
  have HV2 := Lib.hid (hv2.slice hlt.out)
  obtain ⟨A2, n2, c2, rfl, h3, h4, hl2⟩ := hv2
  obtain rfl : n2 = p := hl2.len.symm.trans HP.out
  have HB2 := Lib.hid (hb1.trans (hb2.mono hb1.size))
  clear hl2 hb1 hb2
  go_wp2_with (at_make; refine wpList_make_full _ rfl _ _ _ rfl w2.heap.size 69 i0 _ 1 Try.underlying26 hi0 hz0 hz1 .i64 .i64 _ _ n2 rfl rfl rfl rfl (by rw [hz2]; omega) (by unfold maxLen; omega) (Nat.le_refl _) ?_; intro w3 hown1 hg1; rw [made_zero] at hown1; have hB3 := (Below.refl w2.heap.size w2).grown hg1 (Nat.le_refl _) (by simp))
  have HB3 := Lib.hid hB3
  have BK := Lib.hid (Blk.of_own hown1)
  have hw2 : w.heap.size ≤ w2.heap.size := HB2.out.size
  clear hown1 hg1 hB3
  go_loopw [9, 10] (fun tv iv wr => ∃ (i : Nat) (t : Bool) (o : List Nat), iv = .int .i64 i ∧ tv = .bool t ∧ i ≤ 32 * n2 ∧ o.length = n2 ∧ Pl.Fit o ∧ Pl.ShrAt N n i (Pl.val o) t ∧ Blk wr w2.heap.size o ∧ Below w2.heap.size w2 wr) (fun _ iv _ => 32 * n2 - (intOf iv).toNat)
  case atStart => exact ⟨0, false, _, rfl, rfl, Nat.zero_le _, by simp, fit_zeros' n2, by rw [Pl.val_zeros]; exact Pl.ShrAt.start N n, BK.out, HB3.out⟩
  case round =>
    obtain ⟨i, t, o, rfl, rfl, hi, hol, hof, hat, hbk, hB⟩ := hrel
    have HOL := Lib.hid hol
    have HOF := Lib.hid hof
    have HA := Lib.hid hat
    have HK := Lib.hid hbk
    have HB := Lib.hid hB
    clear hol hof hat hbk hB BK HB3
    by_cases hlt2 : i < 32 * n2
    · have hlt3 : (i : Int) < 32 * (n2 : Int) := by omega
      have HVR := Lib.hid (HV2.out.below HB.out)
      cases hb : bitB N i
      · have HS := Lib.hid (HA.out.no (bit_nil hb))
        go_wp2_with fail
        (with_reducible refine (bit_v i HVR.out (by omega)).mono ?_)
        rw [hb]
        rintro e w4 ⟨rfl, rfl⟩
        go_wp2
        go_roundw
        case rel => exact ⟨i + 1, t, o, by go_num, rfl, by omega, HOL.out, HOF.out, HS.out, HK.out, HB.out⟩
        case measure => simp [intOf]; omega
      · by_cases hin : (i : Int) < z
        · have hin2 : ¬ z ≤ (i : Int) := by omega
          have HS := Lib.hid (HA.out.low (bit_one hb) (by have := HZ.out; omega))
          go_wp2_with fail
          (with_reducible refine (bit_v i HVR.out (by omega)).mono ?_)
          rw [hb]
          rintro e w4 ⟨rfl, rfl⟩
          go_wp2
          go_roundw
          case rel => exact ⟨i + 1, true, o, by go_num, rfl, by omega, HOL.out, HOF.out, HS.out, HK.out, HB.out⟩
          case measure => simp [intOf]; omega
        · have hin2 : z ≤ (i : Int) := by omega
          have hin3 : n ≤ i := by have := HZ.out; omega
          have hat2 := HA.out.high (bit_one hb) hin3
          have hQ := HA.out.lt hin3
          obtain ⟨m, hm⟩ : ∃ m, i - n = m := ⟨_, rfl⟩
          rw [hm] at hat2 hQ
          have hm2 : (i : Int) - z = (m : Int) := by have := HZ.out; omega
          obtain ⟨q, hq⟩ : ∃ q : Nat, (m : Int) / 32 = q := ⟨m / 32, by omega⟩
          obtain ⟨r, hr⟩ : ∃ r : Nat, (m : Int) % 32 = r := ⟨m % 32, by omega⟩
          have hm32 : m = 32 * q + r := by omega
          have hr32 : r < 32 := by omega
          have hqn : q < n2 := by omega
          have hql : q < o.length := by rw [HOL.out]; exact hqn
          have hhigh := Pl.limb_high HOF.out hm32 hQ
          have hset := Pl.val_bit hm32 hql
          have hxB := HOF.out.get q
          obtain ⟨x, hx⟩ : ∃ x, o.getD q 0 = x := ⟨_, rfl⟩
          obtain ⟨P, hP⟩ : ∃ P, 2 ^ r = P := ⟨_, rfl⟩
          rw [hx] at hhigh hset hxB
          have hor := or_new32 x P r hr32 hP hhigh
          have hPi : (2 : Int) ^ r = (P : Int) := by rw [← hP]; simp
          have hPb : P + P ≤ 4294967296 := by
            have : 2 ^ (r + 1) ≤ 2 ^ 32 := Nat.pow_le_pow_right (by omega) (by omega)
            rw [Nat.pow_succ, hP] at this; omega
          rw [hP] at hset hhigh
          have hlt4 : x + P < 4294967296 := by omega
          rw [← hset] at hat2
          have k1 : IntKind.u32.wrap (P : Int) = (P : Int) := wraps_u32_ _ (by omega)
          have HAT := Lib.hid hat2
          have HXX := Lib.hid hx
          have hcell := HK.out.cell hql
          have hfz := HK.out.free q
          rw [HXX.out] at hcell
          clear hat2 hQ hset hxB hx hP hm hm32 hin3
          go_wp2_with fail
          (with_reducible refine (bit_v i HVR.out (by omega)).mono ?_)
          rw [hb]
          rintro e w4 ⟨rfl, rfl⟩
          go_wp2
          go_roundw
          case rel => exact ⟨i + 1, t, _, by go_num, rfl, by omega, by simp [HOL.out], HOF.out.set _ (by unfold Pl.B32; exact hlt4), HAT.out, (by first | exact HK.out.set q (z := ((x + P : Nat) : Int)) rfl | exact HK.out.set q (z := (x : Int) + (P : Int)) (by omega) | exact HK.out.set q hor), HB.out.setCell (Nat.le_refl _) _⟩
          case measure => simp [intOf]; omega
    · obtain rfl : i = 32 * n2 := by omega
      obtain ⟨e1, e2⟩ := HA.out.done HNP.out
      have hS := HK.out.slice HOL.out (by unfold maxLen; omega) HOF.out
      rw [show Pl.val o = shrQ N n from e1] at hS
      have HS := Lib.hid hS
      have HT := Lib.hid (show t = lostB N n from e2)
      clear hS e1 e2 hlt2
      go_wp2_with fail
      (with_reducible refine (trim_v HS.out (by omega)).mono ?_)
      rintro e w5 ⟨v5, rfl, hv5, hb5⟩
      go_wp2
      refine bodyPost_ret (v := .tuple #[v5, .bool t, .int .i64 0]) (by simp [results, Try.results42, go_sem]) rfl ⟨v5, ?_, hv5, HB2.out.trans ((HB.out.trans (hb5.mono HB.out.size)).mono hw2)⟩
      rw [HT.out]
end Go.Proofs.Yteikkoiaeejgaaa
