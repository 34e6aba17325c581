/-
  The reference of chapter 6: Parts, rounds, Nat, Is.
-/
import Derived.Test.YtjlmchbpdkojeaaRef6
import Derived.Test.YtjlmchbpdkojeaaRef4B
import Derived.Test.YtjlmchbpdkojeaaWholeE
namespace Go.Proofs.Ytjlmchbpdkojeaa
open Go.RowKit Go.Shelf

def RetParts (q : Nat) (h : Int) (x : Bool) (w : World) (e : Ending) (w' : World) : Prop := ∃ v, e = .returned (.tuple #[v, .int .i64 h, .bool x]) ∧ NatV w' v q ∧ Below w.heap.size w w'
def pQ (x : Int) : Nat := if 0 ≤ expo x then (mant x).toNat * 2 ^ (expo x).toNat else (mant x).toNat / 2 ^ (-expo x).toNat
def pH (x : Int) : Int := if 0 ≤ expo x then -1 else cmpI ((2 * ((mant x).toNat % 2 ^ (-expo x).toNat) : Nat) : Int) ((2 ^ (-expo x).toNat : Nat) : Int)
def pX (x : Int) : Bool := if 0 ≤ expo x then true else decide ((mant x).toNat % 2 ^ (-expo x).toNat = 0)
theorem fit_one : Pl.Fit [1] := by
  intro x hx
  simp only [List.mem_cons, List.not_mem_nil, or_false] at hx
  subst hx
  decide
theorem val_one : Pl.val [1] = 1 := by simp [Pl.val]
theorem b32_pow (n : Nat) : Pl.B32 ^ n = 2 ^ (32 * n) := by rw [show Pl.B32 = 2 ^ 32 by decide, ← Nat.pow_mul]

set_option maxRecDepth 100000 in
set_option maxHeartbeats 4000000 in
theorem parts_up (x : Int) (w : World) (hx : Wd x) (h : 0 ≤ expo x) : Calls Try.prog 35 #[.int .u64 x] w (RetParts (pQ x) (pH x) (pX x) w) := by
  obtain ⟨m0, m1⟩ := mant_bd (x := x)
  obtain ⟨e0, e1⟩ := expo_bd (x := x)
  have CS := fun v => rsplit_any x v hx
  unfold pQ pH pX
  rw [if_pos h, if_pos h, if_pos h]
  obtain ⟨m, hm⟩ : ∃ m : Nat, mant x = m := ⟨(mant x).toNat, by omega⟩
  obtain ⟨u, hu⟩ : ∃ u : Nat, expo x = u := ⟨(expo x).toNat, by omega⟩
  obtain ⟨s, hs⟩ : ∃ s, sgn x = s := ⟨_, rfl⟩
  rw [hm, hu, hs] at CS
  rw [hm, hu, Int.toNat_natCast, Int.toNat_natCast]
  rw [hm] at m1
  rw [hu] at e1
  obtain ⟨X, hX⟩ : ∃ X, m * 2 ^ u = X := ⟨_, rfl⟩
  rw [hX]
  have CN := fun v => rnat_any m v (by omega)
  have CU := fun (v : World) (y : Value) (h : SliceV v y m 2) => up_v u h (by omega) (by omega)
  rw [hX] at CU
  have FM := Lib.hid (show m < Pl.B32 ^ 2 by rw [b32_2]; omega)
  replace CS := Lib.hid CS
  replace CN := Lib.hid CN
  replace CU := Lib.hid CU
  clear hm hu hs hX m0 m1 hx h e0 e1
  go_enter Try.func35, Try.ntmps35
  go_wp2_with fail
  (with_reducible refine (CS.out _).mono ?_)
  rintro e w' ⟨rfl, rfl⟩
  go_wp2_with fail
  (with_reducible refine (CN.out _).mono ?_)
  rintro e w1 ⟨v1, rfl, hv1, hb1⟩
  obtain ⟨A1, n1, c1, rfl, hA⟩ := id hv1
  clear hA
  have HV := Lib.hid (hv1.slice FM.out)
  clear hv1
  go_wp2_with fail
  (with_reducible refine (CU.out _ _ HV.out).mono ?_)
  rintro e w2 ⟨v2, rfl, hv2, hb2⟩
  have hB := Bel.st hb1 hb2
  clear hb1 hb2
  go_wp2_with fail
  go_ret3
  exact ⟨v2, rfl, hv2, hB⟩
set_option maxRecDepth 100000 in
set_option maxHeartbeats 4000000 in
theorem parts_down (x : Int) (w : World) (hx : Wd x) (h : ¬ 0 ≤ expo x) : Calls Try.prog 35 #[.int .u64 x] w (RetParts (pQ x) (pH x) (pX x) w) := by
  obtain ⟨m0, m1⟩ := mant_bd (x := x)
  obtain ⟨e0, e1⟩ := expo_bd (x := x)
  have CS := fun v => rsplit_any x v hx
  unfold pQ pH pX
  rw [if_neg h, if_neg h, if_neg h]
  obtain ⟨m, hm⟩ : ∃ m : Nat, mant x = m := ⟨(mant x).toNat, by omega⟩
  obtain ⟨u, hu⟩ : ∃ u : Nat, -expo x = u := ⟨(-expo x).toNat, by omega⟩
  obtain ⟨z, hz⟩ : ∃ z, expo x = z := ⟨_, rfl⟩
  obtain ⟨s, hs⟩ : ∃ s, sgn x = s := ⟨_, rfl⟩
  rw [hm, hz, hs] at CS
  rw [hm, hu, Int.toNat_natCast, Int.toNat_natCast]
  rw [hm] at m1
  rw [hz] at e0 h hu
  have hu1 : u ≤ 1074 := by omega
  have hK0 : 0 < 2 ^ u := Nat.pow_pos (by decide)
  have hK1 : 2 ^ u < Pl.B32 ^ 34 := by
    obtain ⟨c, hc⟩ : ∃ c : Nat, 34 = c := ⟨_, rfl⟩
    rw [hc, b32_pow]
    exact Nat.pow_lt_pow_right (by decide) (by omega)
  have hm2 : m < Pl.B32 ^ 2 := by rw [b32_2]; omega
  obtain ⟨K, hK⟩ : ∃ K, 2 ^ u = K := ⟨_, rfl⟩
  rw [hK] at hK0 hK1 ⊢
  have hR1 : m % K < K := Nat.mod_lt _ hK0
  obtain ⟨R, hR⟩ : ∃ R, m % K = R := ⟨_, rfl⟩
  obtain ⟨Q, hQ⟩ : ∃ Q, m / K = Q := ⟨_, rfl⟩
  have h35 : 2 * Pl.B32 ^ 34 ≤ Pl.B32 ^ 35 := by
    have h1 : Pl.B32 ^ 35 = Pl.B32 ^ 34 * Pl.B32 := Nat.pow_succ _ _
    rw [h1, Nat.mul_comm]
    exact Nat.mul_le_mul_left _ (by decide)
  have CN := fun v => rnat_any m v (by omega)
  have CU := fun (v : World) (y : Value) (h : SliceV v y (Pl.val [1]) 1) => up_v u h (by omega) (by omega)
  rw [val_one, Nat.one_mul, hK] at CU
  have CP := fun (v : World) (y t : Value) (h : SliceV v y m 2) (h2 : SliceV v t K 34) => parts_v (h.more (by omega)) h2 (by omega) hK0
  rw [hR, hQ] at CP
  rw [hR] at hR1 ⊢
  rw [hQ]
  have CT := fun (v : World) (y : Value) (h : SliceV v y R 34) => twice_v false h (by omega)
  have hb : 2 * R + b01 false = 2 * R := by simp [b01]
  rw [hb] at CT
  obtain ⟨T, hT⟩ : ∃ T, 2 * R = T := ⟨_, rfl⟩
  rw [hT] at CT ⊢
  have CC := fun (v : World) (y t : Value) (h : SliceV v y T 35) (h2 : SliceV v t K 34) => rcmp_v h (h2.more (by omega)) (by omega)
  obtain ⟨C, hC⟩ : ∃ C, cmpI (T : Int) (K : Int) = C := ⟨_, rfl⟩
  rw [hC] at CC ⊢
  have FM := Lib.hid hm2
  have FK := Lib.hid hK1
  have FR := Lib.hid (show R < Pl.B32 ^ 34 by omega)
  have FT := Lib.hid (show T < Pl.B32 ^ 35 by omega)
  have hzu := Lib.hid (show -z = (u : Int) from hu)
  have hzw : IntKind.i64.wrap (-z) = (u : Int) := by rw [IntKind.wrap_i64]; omega
  have hz0 : decide (0 ≤ z) = false := by simpa using h
  have HF := Lib.hid fit_one
  replace CS := Lib.hid CS
  replace CN := Lib.hid CN
  replace CU := Lib.hid CU
  replace CP := Lib.hid CP
  replace CT := Lib.hid CT
  replace CC := Lib.hid CC
  clear hm hu hs hz hK hR hQ hT hC m0 m1 hx h e0 e1 hK0 hK1 hm2 h35 hR1 hb
  go_enter Try.func35, Try.ntmps35
  go_wp2_with fail
  (with_reducible refine (CS.out _).mono ?_)
  rintro e w' ⟨rfl, rfl⟩
  go_wp2_with fail
  (with_reducible refine (CN.out _).mono ?_)
  rintro e w1 ⟨v1, rfl, hv1, hb1⟩
  obtain ⟨A1, n1, c1, rfl, hA⟩ := id hv1
  clear hA
  have T_n := Lib.hid (hv1.slice FM.out)
  clear hv1
  go_wp2_with fail
  (with_reducible refine (CU.out _ _ (slice_block w1 _ 1 _ _ HF.out rfl (by simp [lv]) (by omega))).mono ?_)
  rintro e w2 ⟨v2, rfl, hv2, hb2⟩
  obtain ⟨A2, n2, c2, rfl, hA⟩ := id hv2
  clear hA
  have T_n2 := Lib.hid ((T_n.out.alloc _).below hb2)
  have hB := Bel.st (Bel.al hb1 _) hb2
  have T_k := Lib.hid (hv2.slice FK.out)
  clear hv2 hb1 hb2 T_n
  go_wp2_with fail
  (with_reducible refine (CP.out _ _ _ T_n2.out T_k.out).mono ?_)
  rintro e w3 ⟨v3, v4, rfl, hv3, hv4, hb3⟩
  obtain ⟨A3, n3, c3, rfl, hA⟩ := id hv3
  obtain ⟨A4, n4, c4, rfl, hA'⟩ := id hv4
  clear hA hA'
  have hlen := Lib.hid hv4.len
  replace T_k := Lib.hid (T_k.out.below hb3)
  have T_q := Lib.hid hv3
  have T_r := Lib.hid (hv4.slice FR.out)
  replace hB := Bel.st hB hb3
  clear hv3 hv4 hb3 T_n2
  go_wp2_with fail
  (with_reducible refine (CT.out _ _ T_r.out).mono ?_)
  rintro e w4 ⟨v5, rfl, hv5, hb4⟩
  obtain ⟨A5, n5, c5, rfl, hA⟩ := id hv5
  clear hA
  replace T_k := Lib.hid (T_k.out.below hb4)
  replace T_q := Lib.hid (T_q.out.below hb4)
  have T_t := Lib.hid (hv5.slice FT.out)
  replace hB := Bel.st hB hb4
  clear hv5 hb4 T_r
  go_wp2_with fail
  (with_reducible refine (CC.out _ _ _ T_t.out T_k.out).mono ?_)
  rintro e w5 ⟨rfl, hb5⟩
  replace T_q := Lib.hid (T_q.out.below hb5)
  replace hB := Bel.st hB hb5
  clear hb5 T_t T_k
  have hd : decide (R = 0) = ((n4 : Int) == 0) := by
    rw [hlen.out]
    by_cases g : R = 0
    · rw [decide_eq_true g, limbs_len_zero.2 g]; rfl
    · have g2 : (Pl.limbs R).length ≠ 0 := fun q => g (limbs_len_zero.1 q)
      rw [decide_eq_false g]
      generalize (Pl.limbs R).length = y at g2
      symm
      simp
      exact g2
  have HD := Lib.hid hd
  clear hlen hd
  go_wp2_with fail
  go_ret3
  refine ⟨.slice A3 n3 c3, ?_, T_q.out, hB⟩
  rw [HD.out]
  rfl
theorem parts6_any (x : Int) (w : World) (hx : Wd x) : Calls Try.prog 35 #[.int .u64 x] w (RetParts (pQ x) (pH x) (pX x) w) := by
  by_cases h : 0 ≤ expo x
  · exact parts_up x w hx h
  · exact parts_down x w hx h
end Go.Proofs.Ytjlmchbpdkojeaa
