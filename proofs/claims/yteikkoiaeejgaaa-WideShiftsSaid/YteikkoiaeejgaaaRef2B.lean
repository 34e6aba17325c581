/-
  The reference of chapter 2: Part, End, Add, Sub, Shl, Shr, Root.
-/
import Derived.Test.YteikkoiaeejgaaaRef1H
import Derived.Test.YteikkoiaeejgaaaRef2
import Derived.Test.YteikkoiaeejgaaaPlainR
namespace Go.Proofs.Yteikkoiaeejgaaa
open Go.RowKit Go.Shelf

/-- The i-th 64 bits. -/
def partN (N i : Nat) : Nat := N / 18446744073709551616 ^ i % 18446744073709551616
def pAt (l : List Nat) (i j : Nat) : Nat := if j = 2 then 0 else if j = 1 then l.getD (2 * i + 1) 0 else l.getD (2 * i + 1) 0 * 4294967296 + l.getD (2 * i) 0
theorem pAt_done {l : List Nat} (hf : Pl.Fit l) (i : Nat) : pAt l i 0 = partN (Pl.val l) i := by
  unfold pAt partN
  rw [if_neg (by omega), if_neg (by omega), Pl.limb_val hf, Pl.limb_val hf, Nat.pow_succ, ← Nat.div_div_eq_div_mul]
  have e : Pl.B32 ^ (2 * i) = 18446744073709551616 ^ i := by rw [Nat.pow_mul]; rfl
  rw [e]
  generalize Pl.val l / 18446744073709551616 ^ i = X
  unfold Pl.B32
  omega
theorem pAt_step {l : List Nat} {i j x : Nat} (hj : j < 2) (hx : l.getD (2 * i + j) 0 = x) : pAt l i (j + 1) * 4294967296 + x = pAt l i j := by
  unfold pAt
  obtain rfl | rfl : j = 0 ∨ j = 1 := by omega
  · rw [Nat.add_zero] at hx
    rw [if_neg (by omega), if_pos rfl, if_neg (by omega), if_neg (by omega), hx]
  · rw [if_pos rfl, if_neg (by omega), if_pos rfl, hx]; omega
theorem pAt_lt {l : List Nat} (hf : Pl.Fit l) (i j : Nat) (hj : j < 2) : pAt l i (j + 1) < 4294967296 := by
  have := hf.get (2 * i + 1)
  unfold Pl.B32 at this
  unfold pAt
  obtain rfl | rfl : j = 0 ∨ j = 1 := by omega
  · simpa using this
  · simp

set_option maxHeartbeats 2000000 in
theorem part_v {w : World} {v : Value} {N d : Nat} (i : Nat) (h : SliceV w v N d) (hi : i ≤ 1000) : Calls Try.prog 28 #[v, .int .i64 i] w fun e w' => e = .returned (.int .u64 (partN N i : Nat)) ∧ w = w' := by
  obtain ⟨A, n, c, l, rfl, h1, h2, hl, rfl, hd⟩ := h
  have hlen := Lib.hid hl.len
  have hf := Lib.hid hl.fit
  have HL := Lib.hid hl
  clear hl
  unfold maxLen at h2
  go_enter Try.func28, Try.ntmps28
  go_wp2
  go_loop [5, 6] (fun rv kv => ∃ j r : Nat, kv = .int .i64 ((j : Int) - 1) ∧ rv = .int .u64 r ∧ j ≤ 2 ∧ r = pAt l i j) (fun _ kv => (intOf kv + 1).toNat)
  case atStart => exact ⟨2, 0, rfl, rfl, Nat.le_refl _, rfl⟩
  case round =>
    obtain ⟨j, r, rfl, rfl, hj, hr⟩ := hrel
    have HR := Lib.hid hr
    clear hr
    rcases Nat.eq_zero_or_pos j with h0 | h0
    · subst h0
      go_wp2
      go_ret
      exact ⟨retI (by rw [HR.out, pAt_done hf.out]), rfl⟩
    · obtain ⟨k, rfl⟩ : ∃ k, j = k + 1 := ⟨j - 1, by omega⟩
      have hlt := pAt_lt hf.out i k (by omega)
      rw [← HR.out] at hlt
      obtain ⟨T, hT⟩ : ∃ T : Nat, r * 4294967296 = T := ⟨_, rfl⟩
      have hT1 : T < 18446744069414584321 := by omega
      have hTI : (r : Int) * 4294967296 = (T : Int) := by omega
      have hTW : IntKind.u64.wrap (T : Int) = (T : Int) := wraps_u64 _ (by omega) (by omega)
      obtain ⟨p, hp⟩ : ∃ p, 2 * i + k = p := ⟨_, rfl⟩
      have hpI : 2 * (i : Int) + (k : Int) = (p : Int) := by omega
      obtain ⟨x, hx⟩ : ∃ x, l.getD p 0 = x := ⟨_, rfl⟩
      have hxb := hf.out.get p
      rw [hx] at hxb
      unfold Pl.B32 at hxb
      have HS := pAt_step (l := l) (i := i) (j := k) (x := x) (by omega) (by rw [hp]; exact hx)
      rw [← HR.out, hT] at HS
      have HSS := Lib.hid HS
      have HX := Lib.hid hx
      have HT := Lib.hid hT
      clear HS hx hp hlt hT
      by_cases hlt2 : p < n
      · obtain ⟨ad, hA, hadb, hcell⟩ := HL.out.at_ hlt2
        subst hA
        rw [HX.out] at hcell
        go_wp2
        go_round
        case rel => exact ⟨k, T + x, by go_num, by go_num, by omega, HSS.out⟩
        case measure => simp [intOf]
      · have hx0 : x = 0 := by rw [← HX.out]; exact getD_out (by rw [hlen.out]; omega)
        have HX0 := Lib.hid hx0
        clear hx0
        go_wp2
        go_round
        case rel => exact ⟨k, T, by go_num, by go_num, by omega, by have := HSS.out; rw [HX0.out] at this; exact this⟩
        case measure => simp [intOf]
theorem part_0 {w : World} {v : Value} {N d : Nat} (h : SliceV w v N d) : Calls Try.prog 28 #[v, .int .i64 0] w fun e w' => e = .returned (.int .u64 (partN N 0 : Nat)) ∧ w = w' := part_v 0 h (by omega)
theorem part_1 {w : World} {v : Value} {N d : Nat} (h : SliceV w v N d) : Calls Try.prog 28 #[v, .int .i64 1] w fun e w' => e = .returned (.int .u64 (partN N 1 : Nat)) ∧ w = w' := part_v 1 h (by omega)
theorem part_2 {w : World} {v : Value} {N d : Nat} (h : SliceV w v N d) : Calls Try.prog 28 #[v, .int .i64 2] w fun e w' => e = .returned (.int .u64 (partN N 2 : Nat)) ∧ w = w' := part_v 2 h (by omega)

def E128 : Nat := 340282366920938463463374607431768211456
set_option maxHeartbeats 400000 in
theorem end2_any (w : World) : Calls Try.prog 36 #[] w (RetNat E128 w) := by
  have hf : Pl.Fit [0, 0, 0, 0, 1] := by
    intro x hx
    simp only [List.mem_cons, List.not_mem_nil, or_false] at hx
    unfold Pl.B32
    omega
  have hv : Pl.val [0, 0, 0, 0, 1] = E128 := by decide
  have HV := Lib.hid hv
  have HF := Lib.hid hf
  clear hv hf
  go_enter Try.func36, Try.ntmps36
  go_wp2
  go_ret
  have hs := slice_block w [0, 0, 0, 0, 1] 5 #[.int .u32 0, .int .u32 0, .int .u32 0, .int .u32 0, .int .u32 1] 69 HF.out rfl (by simp [lv]) (by omega)
  obtain ⟨A, n, c, l, e1, e2, e3, hl, hN, hd⟩ := hs
  have hl5 : l = [0, 0, 0, 0, 1] := by
    injection e1 with e1 e4 e5
    subst e1 e4 e5
    have hlen := hl.len
    apply List.ext_getElem (by simpa using hlen)
    intro i h1 h2
    have hi : i < 5 := by simpa using h2
    obtain ⟨ad, hA, _, hc⟩ := hl.at_ hi
    injection hA with hA
    subst hA
    rw [List.getD_eq_getElem?_getD, List.getElem?_eq_getElem h1] at hc
    obtain rfl | rfl | rfl | rfl | rfl : i = 0 ∨ i = 1 ∨ i = 2 ∨ i = 3 ∨ i = 4 := by omega
    all_goals
      simp [go_sem, Addr.add] at hc
      simp
      omega
  refine ⟨_, rfl, ⟨A, n, c, e1, e2, e3, ?_⟩, (Below.refl _ _).alloc (Nat.le_refl _) _⟩
  have hlimbs : Pl.limbs E128 = l := by
    rw [hl5, ← HV.out]
    exact Pl.limbs_val HF.out (fun h => by simp)
  rw [hlimbs]
  exact hl

def RetNatB (N : Nat) (b : Bool) (w : World) (e : Ending) (w' : World) : Prop := ∃ v, e = .returned (.tuple #[v, .bool b]) ∧ NatV w' v N ∧ Below w.heap.size w w'

set_option maxHeartbeats 2000000 in
set_option maxRecDepth 100000 in
theorem add2_v {w : World} {a b : Value} {N M d : Nat} (ha : SliceV w a N d) (hb : SliceV w b M d) (hd : d ≤ 100) (hN : N < E128) (hM : M < E128) : Calls Try.prog 11 #[a, b] w (RetNatB ((N + M) % E128) (decide (E128 ≤ N + M)) w) := by
  have HA := Lib.hid ha
  have HB := Lib.hid hb
  have hS : N + M < Pl.B32 ^ 5 := by unfold E128 at hN hM; have : Pl.B32 ^ 5 = 1461501637330902918203684832716283019655932542976 := by decide
                                     omega
  have hE : E128 < Pl.B32 ^ 5 := by decide
  have HS := Lib.hid hS
  have HE := Lib.hid hE
  clear ha hb hS hE
  obtain ⟨S, hs⟩ : ∃ S, N + M = S := ⟨_, rfl⟩
  rw [hs] at HS ⊢
  by_cases hle : E128 ≤ S
  · have hr : S % E128 = S - E128 := by unfold E128 at *; omega
    have hdd : decide (E128 ≤ S) = true := by simp [hle]
    rw [hr, hdd]
    obtain ⟨C, hC⟩ : ∃ C, cmpI (S : Int) (E128 : Nat) = C := ⟨_, rfl⟩
    have hC0 : 0 ≤ C := by rw [← hC]; exact cmp_ge' hle
    have HC := Lib.hid hC
    have HSS := Lib.hid hs
    have HLE := Lib.hid hle
    clear hC hs hle hr hdd hN hM
    go_enter Try.func11, Try.ntmps11
    go_wp2_with fail
    (with_reducible refine (plus_v HA.out HB.out (by omega)).mono ?_)
    rw [HSS.out]
    rintro e w1 ⟨v1, rfl, hv1, hb1⟩
    have HV1 := Lib.hid (hv1.slice HS.out)
    have HB1 := Lib.hid hb1
    clear hv1 hb1
    go_wp2_with fail
    (with_reducible refine (end2_any _).mono ?_)
    rintro e w2 ⟨v2, rfl, hv2, hb2⟩
    have HE2 := Lib.hid (hv2.slice HE.out)
    have HV2 := Lib.hid (HV1.out.below hb2)
    have HB2 := Lib.hid (HB1.out.trans (hb2.mono HB1.out.size))
    clear hv2 hb2
    go_wp2_with fail
    (with_reducible refine (rcmp_v HV2.out HE2.out (by omega)).mono ?_)
    rw [HC.out]
    rintro e w3 ⟨rfl, hb3⟩
    have HE3 := Lib.hid (HE2.out.below hb3)
    have HV3 := Lib.hid (HV2.out.below hb3)
    have HB3 := Lib.hid (HB2.out.trans (hb3.mono HB2.out.size))
    clear hb3
    go_wp2_with fail
    (with_reducible refine (less_v HV3.out HE3.out (by omega) HLE.out).mono ?_)
    rintro e w4 ⟨v4, rfl, hv4, hb4⟩
    go_wp2
    go_ret2
    exact ⟨v4, rfl, hv4, HB3.out.trans (hb4.mono HB3.out.size)⟩
  · have hr : S % E128 = S := Nat.mod_eq_of_lt (by omega)
    have hdd : decide (E128 ≤ S) = false := by simp; omega
    rw [hr, hdd]
    obtain ⟨C, hC⟩ : ∃ C, cmpI (S : Int) (E128 : Nat) = C := ⟨_, rfl⟩
    have hC0 : C < 0 := by rw [← hC, cmp_lt' (by omega)]; omega
    have hC1 : ¬ 0 ≤ C := by omega
    have HC := Lib.hid hC
    have HSS := Lib.hid hs
    clear hC hs hle hr hdd hN hM
    go_enter Try.func11, Try.ntmps11
    go_wp2_with fail
    (with_reducible refine (plus_v HA.out HB.out (by omega)).mono ?_)
    rw [HSS.out]
    rintro e w1 ⟨v1, rfl, hv1, hb1⟩
    have HW1 := Lib.hid hv1
    have HV1 := Lib.hid (hv1.slice HS.out)
    have HB1 := Lib.hid hb1
    clear hv1 hb1
    go_wp2_with fail
    (with_reducible refine (end2_any _).mono ?_)
    rintro e w2 ⟨v2, rfl, hv2, hb2⟩
    have HE2 := Lib.hid (hv2.slice HE.out)
    have HV2 := Lib.hid (HV1.out.below hb2)
    have HW2 := Lib.hid (HW1.out.below hb2)
    have HB2 := Lib.hid (HB1.out.trans (hb2.mono HB1.out.size))
    clear hv2 hb2
    go_wp2_with fail
    (with_reducible refine (rcmp_v HV2.out HE2.out (by omega)).mono ?_)
    rw [HC.out]
    rintro e w3 ⟨rfl, hb3⟩
    clear HW1 HV1 HB1 HV2 HE2 HE HS HSS HC HA HB hC0
    go_wp2
    go_ret2
    exact ⟨v1, rfl, HW2.out.below hb3, HB2.out.trans (hb3.mono HB2.out.size)⟩

set_option maxHeartbeats 2000000 in
set_option maxRecDepth 100000 in
theorem sub2_v {w : World} {a b : Value} {N M d : Nat} (ha : SliceV w a N d) (hb : SliceV w b M d) (hd : d ≤ 100) (hN : N < E128) (hM : M < E128) : Calls Try.prog 13 #[a, b] w (RetNatB ((N + E128 - M) % E128) (decide (N < M)) w) := by
  have HA := Lib.hid ha
  have HB := Lib.hid hb
  have hE : E128 < Pl.B32 ^ 5 := by decide
  have hS : N + E128 < Pl.B32 ^ 6 := by unfold E128 at *; have : Pl.B32 ^ 6 = 6277101735386680763835789423207666416102355444464034512896 := by decide
                                        omega
  have hMB : M < Pl.B32 ^ 6 := by omega
  have HS := Lib.hid hS
  have HE := Lib.hid hE
  clear ha hb hE
  obtain ⟨C, hC⟩ : ∃ C, cmpI (N : Int) (M : Nat) = C := ⟨_, rfl⟩
  have HC := Lib.hid hC
  by_cases hlt : N < M
  · have hr : (N + E128 - M) % E128 = N + E128 - M := Nat.mod_eq_of_lt (by unfold E128 at *; omega)
    have hdd : decide (N < M) = true := by simp [hlt]
    rw [hr, hdd]
    have hC0 : C < 0 := by rw [← hC, cmp_lt' hlt]; omega
    have HLE := Lib.hid (show M ≤ N + E128 by omega)
    clear hC hlt hr hdd hN hM hS hMB
    go_enter Try.func13, Try.ntmps13
    go_wp2_with fail
    (with_reducible refine (rcmp_v HA.out HB.out (by omega)).mono ?_)
    rw [HC.out]
    rintro e w1 ⟨rfl, hb1⟩
    have HA1 := Lib.hid (HA.out.below hb1)
    have HM1 := Lib.hid (HB.out.below hb1)
    have HB1 := Lib.hid hb1
    clear hb1
    go_wp2_with fail
    (with_reducible refine (end2_any _).mono ?_)
    rintro e w2 ⟨v2, rfl, hv2, hb2⟩
    have HE2 := Lib.hid ((hv2.slice HE.out).more (show 5 ≤ d + 5 by omega))
    have HA2 := Lib.hid ((HA1.out.below hb2).more (show d ≤ d + 5 by omega))
    have HM2 := Lib.hid (HM1.out.below hb2)
    have HB2 := Lib.hid (HB1.out.trans (hb2.mono HB1.out.size))
    clear hv2 hb2
    go_wp2_with fail
    (with_reducible refine (plus_v HA2.out HE2.out (by omega)).mono ?_)
    rintro e w3 ⟨v3, rfl, hv3, hb3⟩
    have HV3 := Lib.hid ((hv3.slice HS.out).more (show 6 ≤ d + 6 by omega))
    have HM3 := Lib.hid ((HM2.out.below hb3).more (show d ≤ d + 6 by omega))
    have HB3 := Lib.hid (HB2.out.trans (hb3.mono HB2.out.size))
    clear hv3 hb3
    go_wp2_with fail
    (with_reducible refine (less_v HV3.out HM3.out (by omega) HLE.out).mono ?_)
    rintro e w4 ⟨v4, rfl, hv4, hb4⟩
    go_wp2
    go_ret2
    exact ⟨v4, rfl, hv4, HB3.out.trans (hb4.mono HB3.out.size)⟩
  · have hr : (N + E128 - M) % E128 = N - M := by
      have : N + E128 - M = N - M + E128 := by omega
      rw [this, Nat.add_mod_right, Nat.mod_eq_of_lt (by omega)]
    have hdd : decide (N < M) = false := by simp; omega
    rw [hr, hdd]
    have hC0 : 0 ≤ C := by rw [← hC]; exact cmp_ge' (by omega)
    have hC1 : ¬ C < 0 := by omega
    have HLE := Lib.hid (show M ≤ N by omega)
    clear hC hlt hr hdd hN hM hS hMB
    go_enter Try.func13, Try.ntmps13
    go_wp2_with fail
    (with_reducible refine (rcmp_v HA.out HB.out (by omega)).mono ?_)
    rw [HC.out]
    rintro e w1 ⟨rfl, hb1⟩
    have HA1 := Lib.hid (HA.out.below hb1)
    have HM1 := Lib.hid (HB.out.below hb1)
    have HB1 := Lib.hid hb1
    clear hb1
    go_wp2_with fail
    (with_reducible refine (less_v HA1.out HM1.out (by omega) HLE.out).mono ?_)
    rintro e w4 ⟨v4, rfl, hv4, hb4⟩
    go_wp2
    go_ret2
    exact ⟨v4, rfl, hv4, HB1.out.trans (hb4.mono HB1.out.size)⟩
end Go.Proofs.Yteikkoiaeejgaaa
