/-
  The reference of chapter 1: Parts.
-/
import Derived.Test.YtjlmchbpdkojeaaRef1F
namespace Go.Proofs.Ytjlmchbpdkojeaa
open Go.RowKit Go.Shelf

theorem NatV.below {w w' : World} {v : Value} {N : Nat} (h : NatV w v N) (hb : Below w.heap.size w w') : NatV w' v N := by
  obtain ⟨A, n, c, hv, h1, h2, hl⟩ := h
  exact ⟨A, n, c, hv, h1, h2, hl.below hb⟩
theorem NatV.nil (w : World) : NatV w (.slice none 0 0) 0 := ⟨none, 0, 0, rfl, Nat.le_refl _, Nat.zero_le _, by rw [Pl.limbs_zero]; exact Lim.nil w⟩
theorem SliceV.nil (w : World) (d : Nat) : SliceV w (.slice none 0 0) 0 d := (NatV.nil w).slice (Nat.pow_pos Pl.B32_pos)
theorem SliceV.stored {w : World} {v : Value} {N d B G j : Nat} {u : Value} (h : SliceV w v N d) (hf : Fresh B v) (hG : G < B) : SliceV (w.setCell ⟨G, j, none⟩ u) v N d := by
  obtain ⟨A, n, c, l, rfl, h1, h2, hl, hN, hd⟩ := h
  refine ⟨A, n, c, l, rfl, h1, h2, ⟨hl.len, hl.fit, hl.reads.1, fun h0 => ?_⟩, hN, hd⟩
  obtain ⟨ad, rfl, hb, hc⟩ := hl.reads.2 h0
  refine ⟨ad, rfl, by simpa using hb, fun i y hy => ?_⟩
  rw [World.cell?_setCell_other _ _ _ _ (fun e => by
    have e2 := congrArg Addr.block e
    rw [block_of_add] at e2
    have := hf ad n c rfl
    simp at e2
    omega)]
  exact hc i y hy
def RetTwo (N M : Nat) (w : World) (e : Ending) (w' : World) : Prop := ∃ v u, e = .returned (.tuple #[v, u]) ∧ NatV w' v N ∧ NatV w' u M ∧ Below w.heap.size w w'

theorem wraps_u32_ (n : Int) (h : 0 ≤ n ∧ n < 4294967296) : IntKind.u32.wrap n = n := by rw [IntKind.wrap_u32]; omega
theorem or_bit32 (x P r : Nat) (hr : r < 32) (hP : 2 ^ r = P) (hx : x < 4294967296) (h : x % 2 ^ (r + 1) = 0) : bits .or .u32 (x : Int) (P : Int) = ((x + P : Nat) : Int) := by
  have hp : (2 : Nat) ^ r < 2 ^ (r + 1) := Nat.pow_lt_pow_right (by omega) (by omega)
  have hp2 : (2 : Nat) ^ r < 2 ^ 32 := Nat.pow_lt_pow_right (by omega) (by omega)
  have hp3 : ((2 ^ (r + 1) : Nat) : Int) = (2 : Int) ^ (r + 1) := by simp
  have h2 : (x : Int) % (2 : Int) ^ (r + 1) = 0 := by rw [← hp3]; omega
  have := bits_join .u32 32 (by decide) wraps_u32 (r + 1) (x : Int) (P : Int) (by omega) h2 (by omega) (by omega) (by rw [← hp3]; omega) (by omega)
  rw [this]; omega
theorem or_new32 (x P r : Nat) (hr : r < 32) (hP : 2 ^ r = P) (h : x < 2 ^ r) : bits .or .u32 (x : Int) (P : Int) = ((x + P : Nat) : Int) := by
  have hp2 : (2 : Nat) ^ r < 2 ^ 32 := Nat.pow_lt_pow_right (by omega) (by omega)
  have hp3 : ((2 ^ r : Nat) : Int) = (2 : Int) ^ r := by simp
  have h2 : (P : Int) % (2 : Int) ^ r = 0 := by rw [← hp3, hP]; simp
  rw [bits_or_comm, bits_join .u32 32 (by decide) wraps_u32 r (P : Int) (x : Int) (by omega) h2 (by omega) (by omega) (by rw [← hp3]; omega) (by omega)]
  omega

theorem fit_zeros' (n : Nat) : Pl.Fit (List.replicate n 0) := fun x hx => by rw [(List.mem_replicate.1 hx).2]; exact Pl.B32_pos
theorem double_bd {R M d : Nat} {b : Bool} (h : R < M) (hM : M < Pl.B32 ^ d) : 2 * R + b01 b < Pl.B32 ^ (d + 1) := by
  have := b01_le b
  rw [Nat.pow_succ]
  have h2 : Pl.B32 ^ d * 2 ≤ Pl.B32 ^ d * Pl.B32 := Nat.mul_le_mul_left _ (by decide)
  omega
theorem b01_bit (N j : Nat) : b01 (bitB N j) = N / 2 ^ j % 2 := by
  unfold b01 bitB
  by_cases h : N / 2 ^ j % 2 = 1
  · simp [h]
  · have : N / 2 ^ j % 2 = 0 := by omega
    simp [this]
theorem cmp_ge' {a b : Nat} (h : b ≤ a) : 0 ≤ cmpI (a : Int) b := by unfold cmpI; (repeat' split) <;> omega

set_option maxRecDepth 100000 in
set_option maxHeartbeats 8000000 in
theorem parts_v {w : World} {a b : Value} {N M d : Nat} (ha : SliceV w a N d) (hb : SliceV w b M d) (hd : d ≤ 90000) (hM : 0 < M) : Calls Try.prog 51 #[a, b] w (RetTwo (N / M) (N % M) w) := by
  obtain ⟨i0, hi0, hz0, hz1, hz2⟩ := info_parts u32_info
  have HBV := Lib.hid hb
  obtain ⟨A1, n1, c1, l1, rfl, h1, h2, hl1, hN, hd1⟩ := ha
  have HAV := Lib.hid (show SliceV w (.slice A1 n1 c1) N d from ⟨A1, n1, c1, l1, rfl, h1, h2, hl1, hN, hd1⟩)
  have hMd := Lib.hid hb.lt
  have hNn : N < 2 ^ (32 * n1) := by rw [← Pl.B32_pow, ← hN, ← hl1.len]; exact Pl.val_lt hl1.fit
  have HNN := Lib.hid hNn
  clear hl1 hN hNn hb
  go_enter Try.func51, Try.ntmps51
  go_wp2_with (at_make; refine wpList_make_full _ rfl _ _ _ rfl w.heap.size 63 i0 _ 1 Try.underlying46 hi0 hz0 hz1 .i64 .i64 _ _ n1 rfl rfl rfl rfl (by rw [hz2]; omega) (by unfold maxLen; omega) (Nat.le_refl _) ?_; intro w1 hown1 hg1; rw [made_zero] at hown1; have hB1 := (Below.refl w.heap.size w).grown hg1 (Nat.le_refl _) (by simp))
  have HB1 := Lib.hid hB1
  have BK := Lib.hid (Blk.of_own hown1)
  clear hown1 hg1 hB1
  go_loopw [7, 8] (fun rv iv wr => ∃ (j R : Nat) (o : List Nat), iv = .int .i64 ((j : Int) - 1) ∧ j ≤ 32 * n1 ∧ SliceV wr rv R d ∧ o.length = n1 ∧ Pl.Fit o ∧ Pl.PartsAt N M j R (Pl.val o) ∧ Blk wr w.heap.size o ∧ Below w.heap.size w wr) (fun _ iv _ => (intOf iv + 1).toNat)
  case atStart => exact ⟨32 * n1, 0, _, by go_num, Nat.le_refl _, SliceV.nil _ _, by simp, fit_zeros' n1, by rw [Pl.val_zeros]; exact Pl.PartsAt.start HNN.out, BK.out, HB1.out⟩
  case round =>
    obtain ⟨j, R, o, rfl, hj, hrv, hol, hof, hat, hbk, hB⟩ := hrel
    have HR := Lib.hid hrv
    have HOL := Lib.hid hol
    have HOF := Lib.hid hof
    have HA := Lib.hid hat
    have HK := Lib.hid hbk
    have HB := Lib.hid hB
    clear hrv hol hof hat hbk hB BK HB1
    rcases Nat.eq_zero_or_pos j with h0 | h0
    · subst h0
      obtain ⟨e1, e2⟩ := HA.out.done
      have hS := HK.out.slice HOL.out (by unfold maxLen; omega) HOF.out
      rw [e1] at hS
      have hR := HR.out
      rw [e2] at hR
      have HS := Lib.hid hS
      have HR2 := Lib.hid hR
      clear hS hR e1 e2
      go_wp2_with fail
      (with_reducible refine (trim_v HS.out (by omega)).mono ?_)
      rintro e w2 ⟨v2, rfl, hv2, hb2⟩
      go_wp2_with fail
      (with_reducible refine (trim_v (HR2.out.below hb2) (by omega)).mono ?_)
      rintro e w3 ⟨v3, rfl, hv3, hb3⟩
      go_wp2
      go_ret2
      exact ⟨v2, v3, rfl, hv2.below hb3, hv3, (HB.out.trans (hb2.mono HB.out.size)).trans (hb3.mono (Nat.le_trans HB.out.size hb2.size))⟩
    · obtain ⟨i, rfl⟩ : ∃ i, j = i + 1 := ⟨j - 1, by omega⟩
      have hRM := HA.out.lt hM
      obtain ⟨t, ht⟩ : ∃ t, bitB N i = t := ⟨_, rfl⟩
      have htb := b01_bit N i
      rw [ht] at htb
      have hbd := double_bd (b := t) hRM hMd.out
      obtain ⟨X, hX⟩ : ∃ X, 2 * R + b01 t = X := ⟨_, rfl⟩
      obtain ⟨C, hC⟩ : ∃ C, cmpI (X : Int) (M : Int) = C := ⟨_, rfl⟩
      rw [hX] at hbd
      have HX := Lib.hid hX
      have HT := Lib.hid ht
      have HTB := Lib.hid htb
      have HBD := Lib.hid hbd
      by_cases hle : M ≤ X
      · have hC0 : 0 ≤ C := by rw [← hC]; exact cmp_ge' hle
        have HC := Lib.hid hC
        have hat2 := HA.out.yes hM HTB.out (by rw [HX.out]; exact hle)
        have hdv := HA.out.dvd
        rw [HX.out] at hat2
        obtain ⟨q, hq⟩ : ∃ q : Nat, (i : Int) / 32 = q := ⟨i / 32, by omega⟩
        obtain ⟨r, hr⟩ : ∃ r : Nat, (i : Int) % 32 = r := ⟨i % 32, by omega⟩
        have hi32 : i = 32 * q + r := by omega
        have hr32 : r < 32 := by omega
        have hqn : q < n1 := by omega
        have hql : q < o.length := by rw [HOL.out]; exact hqn
        have hlow := Pl.limb_low HOF.out hi32 hr32 hdv
        have hset := Pl.val_bit hi32 hql
        have hxB := HOF.out.get q
        have hlt := Pl.low_lt hr32 hxB hlow
        obtain ⟨x, hx⟩ : ∃ x, o.getD q 0 = x := ⟨_, rfl⟩
        obtain ⟨P, hP⟩ : ∃ P, 2 ^ r = P := ⟨_, rfl⟩
        rw [hx] at hlow hset hxB hlt
        have hor := or_bit32 x P r hr32 hP (by unfold Pl.B32 at hxB; exact hxB) hlow
        have hPi : (2 : Int) ^ r = (P : Int) := by rw [← hP]; simp
        rw [hP] at hset hlt
        unfold Pl.B32 at hlt
        rw [← hset] at hat2
        have k1 : IntKind.u32.wrap (P : Int) = (P : Int) := wraps_u32_ _ (by omega)
        have HAT := Lib.hid hat2
        have HXX := Lib.hid hx
        have HDV := Lib.hid hdv
        clear hat2 hdv hlow hset hxB hx hP hX hC ht htb hbd hRM hi32
        go_wp2_with fail
        (with_reducible refine (bit_v i (HAV.out.below' HB.out (Nat.le_refl _)) (by omega)).mono ?_)
        rw [HT.out]
        rintro e w2 ⟨rfl, rfl⟩
        go_wp2_with fail
        (with_reducible refine (twice_v t HR.out (by omega)).mono ?_)
        rw [HX.out]
        rintro e w3 ⟨v3, rfl, hv3, hb3⟩
        have hb3' := HB.out.trans (hb3.mono HB.out.size)
        have HV3 := Lib.hid (hv3.slice HBD.out)
        have HM3 := Lib.hid ((HBV.out.below hb3').more (Nat.le_succ d))
        have HB3 := Lib.hid hb3'
        have HK3 := Lib.hid (HK.out.below hb3)
        clear hv3 hb3 hb3'
        go_wp2_with fail
        (with_reducible refine (rcmp_v HV3.out HM3.out (by omega)).mono ?_)
        rw [HC.out]
        rintro e w4 ⟨rfl, hb4⟩
        have HV4 := Lib.hid (HV3.out.below hb4)
        have HM4 := Lib.hid (HM3.out.below hb4)
        have HK4 := Lib.hid (HK3.out.below hb4)
        have HB4 := Lib.hid (HB3.out.trans (hb4.mono HB3.out.size))
        clear hb4
        go_wp2_with fail
        (with_reducible refine (less_fresh HV4.out HM4.out (by omega) hle).mono ?_)
        rintro e w5 ⟨v5, rfl, hv5, hb5, hf5⟩
        have HF5 := Lib.hid (hf5.mono (show w.heap.size + 1 ≤ _ from HK4.out.lt))
        have HK5 := HK4.out.below hb5
        have HB5 := Lib.hid (HB4.out.trans (hb5.mono HB4.out.size))
        have hcell := HK5.cell hql
        have hfz := HK5.free q
        rw [HXX.out] at hcell
        have HK6 := Lib.hid HK5
        have HV5 := Lib.hid hv5
        clear HK5 hv5 hb5 hf5
        go_wp2
        go_roundw
        case rel => exact ⟨i, _, _, by go_num, by omega, (HV5.out.slice (Nat.lt_trans (HAT.out.lt hM) hMd.out)).stored HF5.out (Nat.lt_succ_self _), by simp [HOL.out], HOF.out.set _ (by unfold Pl.B32; exact hlt), HAT.out, (by first | exact HK6.out.set q (z := ((x + P : Nat) : Int)) rfl | exact HK6.out.set q (z := (x : Int) + (P : Int)) (by omega) | exact HK6.out.set q hor), HB5.out.setCell (Nat.le_refl _) _⟩
        case measure => simp [intOf]
      · have hC0 : ¬ 0 ≤ C := by rw [← hC, cmp_lt' (by omega)]; omega
        have hC1 : C < 0 := by omega
        have HC := Lib.hid hC
        have hat2 := HA.out.no HTB.out (by rw [HX.out]; omega)
        rw [HX.out] at hat2
        have HAT := Lib.hid hat2
        clear hat2 hX hC ht htb hbd hRM
        go_wp2_with fail
        (with_reducible refine (bit_v i (HAV.out.below' HB.out (Nat.le_refl _)) (by omega)).mono ?_)
        rw [HT.out]
        rintro e w2 ⟨rfl, rfl⟩
        go_wp2_with fail
        (with_reducible refine (twice_v t HR.out (by omega)).mono ?_)
        rw [HX.out]
        rintro e w3 ⟨v3, rfl, hv3, hb3⟩
        have hb3' := HB.out.trans (hb3.mono HB.out.size)
        have HV3 := Lib.hid hv3
        have HM3 := Lib.hid ((HBV.out.below hb3').more (Nat.le_succ d))
        have HB3 := Lib.hid hb3'
        have HK3 := Lib.hid (HK.out.below hb3)
        clear hv3 hb3 hb3'
        go_wp2_with fail
        (with_reducible refine (rcmp_v (HV3.out.slice HBD.out) HM3.out (by omega)).mono ?_)
        rw [HC.out]
        rintro e w4 ⟨rfl, hb4⟩
        have HV4 := Lib.hid (HV3.out.below hb4)
        have HK4 := Lib.hid (HK3.out.below hb4)
        have HB4 := Lib.hid (HB3.out.trans (hb4.mono HB3.out.size))
        clear hb4
        go_wp2
        go_roundw
        case rel => exact ⟨i, X, _, by go_num, by omega, HV4.out.slice (Nat.lt_trans (by omega) hMd.out), HOL.out, HOF.out, HAT.out, HK4.out, HB4.out⟩
        case measure => simp [intOf]
end Go.Proofs.Ytjlmchbpdkojeaa
