/-
  Ints6: the texts Ref6, Ref6B, Ref6C, Ref6D, Ref6E, Ref6F, Ref6G, Ref6H in one (a claim has at most 60 files).
-/
import Derived.Test.YtjlmchbpdkojeaaWhole
import Derived.Test.YtjlmchbpdkojeaaRef3
import Derived.Test.YtjlmchbpdkojeaaRef4B
import Derived.Test.YtjlmchbpdkojeaaWholeE
import Derived.Test.YtjlmchbpdkojeaaLaw6
import Derived.Test.YtjlmchbpdkojeaaLaw6C
import Derived.Test.YtjlmchbpdkojeaaRef3U
namespace Go.Proofs.Ytjlmchbpdkojeaa
open Go.RowKit Go.Shelf

def noneI (x : Int) : Bool := decide (kd x = 4)
set_option maxHeartbeats 1000000 in
theorem rnone_any (x : Int) (w : World) (hx : Wd x) : Calls Try.prog 31 #[.int .u64 x] w fun e w' => e = .returned (.bool (noneI x)) ∧ w = w' := by
  have CK := fun v => rkind_any x v hx
  unfold noneI
  obtain ⟨k, hk⟩ : ∃ k, kd x = k := ⟨_, rfl⟩
  rw [hk] at CK ⊢
  replace CK := Lib.hid CK
  clear hk hx
  go_enter Try.func31, Try.ntmps31
  go_wp2_with (go_at_call 26; (with_reducible refine (CK.out _).mono ?_); rintro e w' ⟨rfl, rfl⟩)
  go_ret
  exact ⟨retB (by rfl), rfl⟩
set_option maxHeartbeats 1000000 in
theorem rank6_any (x : Int) (w : World) (hx : Wd x) : Calls Try.prog 32 #[.int .u64 x] w fun e w' => e = .returned (.int .i64 (rankI x)) ∧ w = w' := by
  obtain ⟨h0, h1⟩ := hx
  by_cases g : 9223372036854775808 ≤ x
  · have hr := Lib.hid (show rankI x = -(x - 9223372036854775808) by unfold rankI; rw [if_pos g])
    go_enter Try.func32, Try.ntmps32
    go_wp2
    go_ret
    exact ⟨retI (by rw [hr.out]), rfl⟩
  · have hr := Lib.hid (show rankI x = x by unfold rankI; rw [if_neg g])
    go_enter Try.func32, Try.ntmps32
    go_wp2
    go_ret
    exact ⟨retI (by rw [hr.out]), rfl⟩
set_option maxHeartbeats 2000000 in
theorem rcmp6_any (a b : Int) (w : World) (ha : Wd a) (hb : Wd b) : Calls Try.prog 11 #[.int .u64 a, .int .u64 b] w fun e w' => e = .returned (.tuple #[.int .i64 (cmpV a b), .bool (cmpOk a b)]) ∧ w = w' := by
  have KA := fun v => rnone_any a v ha
  have KB := fun v => rnone_any b v hb
  have RA := fun v => rank6_any a v ha
  have RB := fun v => rank6_any b v hb
  have hc : (cmpV a b = if noneI a = true ∨ noneI b = true then 0 else cmpI (rankI a) (rankI b)) ∧ cmpOk a b = (!(noneI a) && !(noneI b)) := by
    unfold cmpV cmpOk cmpW noneI
    by_cases g1 : kd a = 4 <;> by_cases g2 : kd b = 4 <;> simp [g1, g2]
  rw [hc.1, hc.2]
  obtain ⟨na, hna⟩ : ∃ n, noneI a = n := ⟨_, rfl⟩
  obtain ⟨nb, hnb⟩ : ∃ n, noneI b = n := ⟨_, rfl⟩
  obtain ⟨ra, hra⟩ : ∃ ra, rankI a = ra := ⟨_, rfl⟩
  obtain ⟨rb, hrb⟩ : ∃ rb, rankI b = rb := ⟨_, rfl⟩
  rw [hna] at KA ⊢
  rw [hnb] at KB ⊢
  rw [hra] at RA ⊢
  rw [hrb] at RB ⊢
  replace KA := Lib.hid KA
  replace KB := Lib.hid KB
  replace RA := Lib.hid RA
  replace RB := Lib.hid RB
  clear hna hnb hra hrb ha hb hc
  cases na
  · cases nb
    · rw [if_neg (by simp)]
      rcases Int.lt_trichotomy ra rb with g | g | g
      · rw [cmp_lt2 g]
        go_enter Try.func11, Try.ntmps11
        go_wp2_with (first | (go_at_call 31; (first | (with_reducible refine (KA.out _).mono ?_) | (with_reducible refine (KB.out _).mono ?_)); rintro e w' ⟨rfl, rfl⟩) | (go_at_call 32; (first | (with_reducible refine (RA.out _).mono ?_) | (with_reducible refine (RB.out _).mono ?_)); rintro e w' ⟨rfl, rfl⟩))
        go_ret2
        exact ⟨rfl, rfl⟩
      · subst g
        rw [cmp_eq2 rfl]
        have g1 : ¬ ra < ra := by omega
        go_enter Try.func11, Try.ntmps11
        go_wp2_with (first | (go_at_call 31; (first | (with_reducible refine (KA.out _).mono ?_) | (with_reducible refine (KB.out _).mono ?_)); rintro e w' ⟨rfl, rfl⟩) | (go_at_call 32; (first | (with_reducible refine (RA.out _).mono ?_) | (with_reducible refine (RB.out _).mono ?_)); rintro e w' ⟨rfl, rfl⟩))
        go_ret2
        exact ⟨rfl, rfl⟩
      · rw [cmp_gt2 g]
        have g1 : ¬ ra < rb := by omega
        go_enter Try.func11, Try.ntmps11
        go_wp2_with (first | (go_at_call 31; (first | (with_reducible refine (KA.out _).mono ?_) | (with_reducible refine (KB.out _).mono ?_)); rintro e w' ⟨rfl, rfl⟩) | (go_at_call 32; (first | (with_reducible refine (RA.out _).mono ?_) | (with_reducible refine (RB.out _).mono ?_)); rintro e w' ⟨rfl, rfl⟩))
        go_ret2
        exact ⟨rfl, rfl⟩
    · rw [if_pos (.inr rfl)]
      go_enter Try.func11, Try.ntmps11
      go_wp2_with (first | (go_at_call 31; (first | (with_reducible refine (KA.out _).mono ?_) | (with_reducible refine (KB.out _).mono ?_)); rintro e w' ⟨rfl, rfl⟩))
      go_ret2
      exact ⟨rfl, rfl⟩
  · rw [if_pos (.inl rfl)]
    go_enter Try.func11, Try.ntmps11
    go_wp2_with (first | (go_at_call 31; (first | (with_reducible refine (KA.out _).mono ?_) | (with_reducible refine (KB.out _).mono ?_)); rintro e w' ⟨rfl, rfl⟩))
    go_ret2
    exact ⟨rfl, rfl⟩
set_option maxHeartbeats 1000000 in
theorem rsign6_any (x : Int) (w : World) (hx : Wd x) : Calls Try.prog 13 #[.int .u64 x] w fun e w' => e = .returned (.int .i64 (signI x)) ∧ w = w' := by
  have CC := Lib.hid (fun v => rcmp6_any x 0 v hx ⟨by decide, by decide⟩)
  unfold signI
  clear hx
  go_enter Try.func13, Try.ntmps13
  go_wp2_with (go_at_call 11; (with_reducible refine (CC.out _).mono ?_); rintro e w' ⟨rfl, rfl⟩)
  go_ret
  exact ⟨rfl, rfl⟩
set_option maxHeartbeats 4000000 in
theorem rmin6_any (a b : Int) (w : World) (ha : Wd a) (hb : Wd b) : Calls Try.prog 17 #[.int .u64 a, .int .u64 b] w fun e w' => e = .returned (.int .u64 (minI a b)) ∧ w = w' := by
  have CC := fun v => rcmp6_any a b v ha hb
  have IS := fun v => ris_any a v
  have hcs := min_cases a b
  obtain ⟨M, hM⟩ : ∃ M, minI a b = M := ⟨_, rfl⟩
  obtain ⟨n, hn⟩ : ∃ n, cmpV a b = n := ⟨_, rfl⟩
  obtain ⟨ok, hok⟩ : ∃ ok, cmpOk a b = ok := ⟨_, rfl⟩
  obtain ⟨s, hs⟩ : ∃ s, sgn a = s := ⟨_, rfl⟩
  rw [hM] at hcs ⊢
  rw [hn, hok] at hcs CC
  rw [hs] at IS hcs
  replace CC := Lib.hid CC
  replace IS := Lib.hid IS
  clear hM hn hok hs ha hb
  rcases hcs with ⟨rfl, h⟩ | ⟨rfl, h⟩
  · have h' : M = NAN := by first | exact h.1 | exact h.2
    subst h'
    clear h
    go_enter Try.func17, Try.ntmps17
    go_wp2_with (first | (go_at_call 11; (with_reducible refine (CC.out _).mono ?_); rintro e w' ⟨rfl, rfl⟩) | (go_at_call 36; (with_reducible refine (IS.out _).mono ?_); rintro e w' ⟨rfl, rfl⟩))
    go_ret
    exact ⟨rfl, rfl⟩
  · rcases h with ⟨rfl, h1, h2⟩ | ⟨rfl, h1, h2⟩ | ⟨rfl, h1, h2⟩
    · subst h1
      clear h2
      go_enter Try.func17, Try.ntmps17
      go_wp2_with (first | (go_at_call 11; (with_reducible refine (CC.out _).mono ?_); rintro e w' ⟨rfl, rfl⟩) | (go_at_call 36; (with_reducible refine (IS.out _).mono ?_); rintro e w' ⟨rfl, rfl⟩))
      go_ret
      exact ⟨rfl, rfl⟩
    · subst h1
      clear h2
      go_enter Try.func17, Try.ntmps17
      go_wp2_with (first | (go_at_call 11; (with_reducible refine (CC.out _).mono ?_); rintro e w' ⟨rfl, rfl⟩) | (go_at_call 36; (with_reducible refine (IS.out _).mono ?_); rintro e w' ⟨rfl, rfl⟩))
      go_ret
      exact ⟨rfl, rfl⟩
    · clear h2
      cases s
      all_goals
        simp only [if_true, Bool.false_eq_true, if_false] at h1
        subst h1
        go_enter Try.func17, Try.ntmps17
        go_wp2_with (first | (go_at_call 11; (with_reducible refine (CC.out _).mono ?_); rintro e w' ⟨rfl, rfl⟩) | (go_at_call 36; (with_reducible refine (IS.out _).mono ?_); rintro e w' ⟨rfl, rfl⟩))
        go_ret
        exact ⟨rfl, rfl⟩
set_option maxHeartbeats 4000000 in
theorem rmax6_any (a b : Int) (w : World) (ha : Wd a) (hb : Wd b) : Calls Try.prog 19 #[.int .u64 a, .int .u64 b] w fun e w' => e = .returned (.int .u64 (maxI a b)) ∧ w = w' := by
  have CC := fun v => rcmp6_any a b v ha hb
  have IS := fun v => ris_any a v
  have hcs := min_cases a b
  obtain ⟨M, hM⟩ : ∃ M, maxI a b = M := ⟨_, rfl⟩
  obtain ⟨n, hn⟩ : ∃ n, cmpV a b = n := ⟨_, rfl⟩
  obtain ⟨ok, hok⟩ : ∃ ok, cmpOk a b = ok := ⟨_, rfl⟩
  obtain ⟨s, hs⟩ : ∃ s, sgn a = s := ⟨_, rfl⟩
  rw [hM] at hcs ⊢
  rw [hn, hok] at hcs CC
  rw [hs] at IS hcs
  replace CC := Lib.hid CC
  replace IS := Lib.hid IS
  clear hM hn hok hs ha hb
  rcases hcs with ⟨rfl, h⟩ | ⟨rfl, h⟩
  · have h' : M = NAN := by first | exact h.1 | exact h.2
    subst h'
    clear h
    go_enter Try.func19, Try.ntmps19
    go_wp2_with (first | (go_at_call 11; (with_reducible refine (CC.out _).mono ?_); rintro e w' ⟨rfl, rfl⟩) | (go_at_call 36; (with_reducible refine (IS.out _).mono ?_); rintro e w' ⟨rfl, rfl⟩))
    go_ret
    exact ⟨rfl, rfl⟩
  · rcases h with ⟨rfl, h1, h2⟩ | ⟨rfl, h1, h2⟩ | ⟨rfl, h1, h2⟩
    · subst h2
      clear h1
      go_enter Try.func19, Try.ntmps19
      go_wp2_with (first | (go_at_call 11; (with_reducible refine (CC.out _).mono ?_); rintro e w' ⟨rfl, rfl⟩) | (go_at_call 36; (with_reducible refine (IS.out _).mono ?_); rintro e w' ⟨rfl, rfl⟩))
      go_ret
      exact ⟨rfl, rfl⟩
    · subst h2
      clear h1
      go_enter Try.func19, Try.ntmps19
      go_wp2_with (first | (go_at_call 11; (with_reducible refine (CC.out _).mono ?_); rintro e w' ⟨rfl, rfl⟩) | (go_at_call 36; (with_reducible refine (IS.out _).mono ?_); rintro e w' ⟨rfl, rfl⟩))
      go_ret
      exact ⟨rfl, rfl⟩
    · clear h1
      cases s
      all_goals
        simp only [if_true, Bool.false_eq_true, if_false] at h2
        subst h2
        go_enter Try.func19, Try.ntmps19
        go_wp2_with (first | (go_at_call 11; (with_reducible refine (CC.out _).mono ?_); rintro e w' ⟨rfl, rfl⟩) | (go_at_call 36; (with_reducible refine (IS.out _).mono ?_); rintro e w' ⟨rfl, rfl⟩))
        go_ret
        exact ⟨rfl, rfl⟩
def RetParts (q : Nat) (h : Int) (x : Bool) (w : World) (e : Ending) (w' : World) : Prop := ∃ v, e = .returned (.tuple #[v, .int .i64 h, .bool x]) ∧ NatV w' v q ∧ Below w.heap.size w w'
def pQ (x : Int) : Nat := if 0 ≤ expo x then (mant x).toNat * 2 ^ (expo x).toNat else (mant x).toNat / 2 ^ (-expo x).toNat
def pH (x : Int) : Int := if 0 ≤ expo x then -1 else cmpI ((2 * ((mant x).toNat % 2 ^ (-expo x).toNat) : Nat) : Int) ((2 ^ (-expo x).toNat : Nat) : Int)
def pX (x : Int) : Bool := if 0 ≤ expo x then true else decide ((mant x).toNat % 2 ^ (-expo x).toNat = 0)
theorem fit_one : Pl.Fit [1] := by
  intro x hx
  simp only [List.mem_cons, List.not_mem_nil, or_false] at hx
  subst hx
  decide
theorem val_one : Pl.val [1] = 1 := by simp [Pl.val]
theorem b32_pow (n : Nat) : Pl.B32 ^ n = 2 ^ (32 * n) := by rw [show Pl.B32 = 2 ^ 32 by decide, ← Nat.pow_mul]

set_option maxRecDepth 100000 in
set_option maxHeartbeats 4000000 in
theorem parts_up (x : Int) (w : World) (hx : Wd x) (h : 0 ≤ expo x) : Calls Try.prog 35 #[.int .u64 x] w (RetParts (pQ x) (pH x) (pX x) w) := by
  obtain ⟨m0, m1⟩ := mant_bd (x := x)
  obtain ⟨e0, e1⟩ := expo_bd (x := x)
  have CS := fun v => rsplit_any x v hx
  unfold pQ pH pX
  rw [if_pos h, if_pos h, if_pos h]
  obtain ⟨m, hm⟩ : ∃ m : Nat, mant x = m := ⟨(mant x).toNat, by omega⟩
  obtain ⟨u, hu⟩ : ∃ u : Nat, expo x = u := ⟨(expo x).toNat, by omega⟩
  obtain ⟨s, hs⟩ : ∃ s, sgn x = s := ⟨_, rfl⟩
  rw [hm, hu, hs] at CS
  rw [hm, hu, Int.toNat_natCast, Int.toNat_natCast]
  rw [hm] at m1
  rw [hu] at e1
  obtain ⟨X, hX⟩ : ∃ X, m * 2 ^ u = X := ⟨_, rfl⟩
  rw [hX]
  have CN := fun v => rnat_any m v (by omega)
  have CU := fun (v : World) (y : Value) (h : SliceV v y m 2) => up_v u h (by omega) (by omega)
  rw [hX] at CU
  have FM := Lib.hid (show m < Pl.B32 ^ 2 by rw [b32_2]; omega)
  replace CS := Lib.hid CS
  replace CN := Lib.hid CN
  replace CU := Lib.hid CU
  clear hm hu hs hX m0 m1 hx h e0 e1
  go_enter Try.func35, Try.ntmps35
  go_wp2_with fail
  (with_reducible refine (CS.out _).mono ?_)
  rintro e w' ⟨rfl, rfl⟩
  go_wp2_with fail
  (with_reducible refine (CN.out _).mono ?_)
  rintro e w1 ⟨v1, rfl, hv1, hb1⟩
  obtain ⟨A1, n1, c1, rfl, hA⟩ := id hv1
  clear hA
  have HV := Lib.hid (hv1.slice FM.out)
  clear hv1
  go_wp2_with fail
  (with_reducible refine (CU.out _ _ HV.out).mono ?_)
  rintro e w2 ⟨v2, rfl, hv2, hb2⟩
  have hB := Bel.st hb1 hb2
  clear hb1 hb2
  go_wp2_with fail
  go_ret3
  exact ⟨v2, rfl, hv2, hB⟩
set_option maxRecDepth 100000 in
set_option maxHeartbeats 4000000 in
theorem parts_down (x : Int) (w : World) (hx : Wd x) (h : ¬ 0 ≤ expo x) : Calls Try.prog 35 #[.int .u64 x] w (RetParts (pQ x) (pH x) (pX x) w) := by
  obtain ⟨m0, m1⟩ := mant_bd (x := x)
  obtain ⟨e0, e1⟩ := expo_bd (x := x)
  have CS := fun v => rsplit_any x v hx
  unfold pQ pH pX
  rw [if_neg h, if_neg h, if_neg h]
  obtain ⟨m, hm⟩ : ∃ m : Nat, mant x = m := ⟨(mant x).toNat, by omega⟩
  obtain ⟨u, hu⟩ : ∃ u : Nat, -expo x = u := ⟨(-expo x).toNat, by omega⟩
  obtain ⟨z, hz⟩ : ∃ z, expo x = z := ⟨_, rfl⟩
  obtain ⟨s, hs⟩ : ∃ s, sgn x = s := ⟨_, rfl⟩
  rw [hm, hz, hs] at CS
  rw [hm, hu, Int.toNat_natCast, Int.toNat_natCast]
  rw [hm] at m1
  rw [hz] at e0 h hu
  have hu1 : u ≤ 1074 := by omega
  have hK0 : 0 < 2 ^ u := Nat.pow_pos (by decide)
  have hK1 : 2 ^ u < Pl.B32 ^ 34 := by
    obtain ⟨c, hc⟩ : ∃ c : Nat, 34 = c := ⟨_, rfl⟩
    rw [hc, b32_pow]
    exact Nat.pow_lt_pow_right (by decide) (by omega)
  have hm2 : m < Pl.B32 ^ 2 := by rw [b32_2]; omega
  obtain ⟨K, hK⟩ : ∃ K, 2 ^ u = K := ⟨_, rfl⟩
  rw [hK] at hK0 hK1 ⊢
  have hR1 : m % K < K := Nat.mod_lt _ hK0
  obtain ⟨R, hR⟩ : ∃ R, m % K = R := ⟨_, rfl⟩
  obtain ⟨Q, hQ⟩ : ∃ Q, m / K = Q := ⟨_, rfl⟩
  have h35 : 2 * Pl.B32 ^ 34 ≤ Pl.B32 ^ 35 := by
    have h1 : Pl.B32 ^ 35 = Pl.B32 ^ 34 * Pl.B32 := Nat.pow_succ _ _
    rw [h1, Nat.mul_comm]
    exact Nat.mul_le_mul_left _ (by decide)
  have CN := fun v => rnat_any m v (by omega)
  have CU := fun (v : World) (y : Value) (h : SliceV v y (Pl.val [1]) 1) => up_v u h (by omega) (by omega)
  rw [val_one, Nat.one_mul, hK] at CU
  have CP := fun (v : World) (y t : Value) (h : SliceV v y m 2) (h2 : SliceV v t K 34) => parts_v (h.more (by omega)) h2 (by omega) hK0
  rw [hR, hQ] at CP
  rw [hR] at hR1 ⊢
  rw [hQ]
  have CT := fun (v : World) (y : Value) (h : SliceV v y R 34) => twice_v false h (by omega)
  have hb : 2 * R + b01 false = 2 * R := by simp [b01]
  rw [hb] at CT
  obtain ⟨T, hT⟩ : ∃ T, 2 * R = T := ⟨_, rfl⟩
  rw [hT] at CT ⊢
  have CC := fun (v : World) (y t : Value) (h : SliceV v y T 35) (h2 : SliceV v t K 34) => rcmp_v h (h2.more (by omega)) (by omega)
  obtain ⟨C, hC⟩ : ∃ C, cmpI (T : Int) (K : Int) = C := ⟨_, rfl⟩
  rw [hC] at CC ⊢
  have FM := Lib.hid hm2
  have FK := Lib.hid hK1
  have FR := Lib.hid (show R < Pl.B32 ^ 34 by omega)
  have FT := Lib.hid (show T < Pl.B32 ^ 35 by omega)
  have hzu := Lib.hid (show -z = (u : Int) from hu)
  have hzw : IntKind.i64.wrap (-z) = (u : Int) := by rw [IntKind.wrap_i64]; omega
  have hz0 : decide (0 ≤ z) = false := by simpa using h
  have HF := Lib.hid fit_one
  replace CS := Lib.hid CS
  replace CN := Lib.hid CN
  replace CU := Lib.hid CU
  replace CP := Lib.hid CP
  replace CT := Lib.hid CT
  replace CC := Lib.hid CC
  clear hm hu hs hz hK hR hQ hT hC m0 m1 hx h e0 e1 hK0 hK1 hm2 h35 hR1 hb
  go_enter Try.func35, Try.ntmps35
  go_wp2_with fail
  (with_reducible refine (CS.out _).mono ?_)
  rintro e w' ⟨rfl, rfl⟩
  go_wp2_with fail
  (with_reducible refine (CN.out _).mono ?_)
  rintro e w1 ⟨v1, rfl, hv1, hb1⟩
  obtain ⟨A1, n1, c1, rfl, hA⟩ := id hv1
  clear hA
  have T_n := Lib.hid (hv1.slice FM.out)
  clear hv1
  go_wp2_with fail
  (with_reducible refine (CU.out _ _ (slice_block w1 _ 1 _ _ HF.out rfl (by simp [lv]) (by omega))).mono ?_)
  rintro e w2 ⟨v2, rfl, hv2, hb2⟩
  obtain ⟨A2, n2, c2, rfl, hA⟩ := id hv2
  clear hA
  have T_n2 := Lib.hid ((T_n.out.alloc _).below hb2)
  have hB := Bel.st (Bel.al hb1 _) hb2
  have T_k := Lib.hid (hv2.slice FK.out)
  clear hv2 hb1 hb2 T_n
  go_wp2_with fail
  (with_reducible refine (CP.out _ _ _ T_n2.out T_k.out).mono ?_)
  rintro e w3 ⟨v3, v4, rfl, hv3, hv4, hb3⟩
  obtain ⟨A3, n3, c3, rfl, hA⟩ := id hv3
  obtain ⟨A4, n4, c4, rfl, hA'⟩ := id hv4
  clear hA hA'
  have hlen := Lib.hid hv4.len
  replace T_k := Lib.hid (T_k.out.below hb3)
  have T_q := Lib.hid hv3
  have T_r := Lib.hid (hv4.slice FR.out)
  replace hB := Bel.st hB hb3
  clear hv3 hv4 hb3 T_n2
  go_wp2_with fail
  (with_reducible refine (CT.out _ _ T_r.out).mono ?_)
  rintro e w4 ⟨v5, rfl, hv5, hb4⟩
  obtain ⟨A5, n5, c5, rfl, hA⟩ := id hv5
  clear hA
  replace T_k := Lib.hid (T_k.out.below hb4)
  replace T_q := Lib.hid (T_q.out.below hb4)
  have T_t := Lib.hid (hv5.slice FT.out)
  replace hB := Bel.st hB hb4
  clear hv5 hb4 T_r
  go_wp2_with fail
  (with_reducible refine (CC.out _ _ _ T_t.out T_k.out).mono ?_)
  rintro e w5 ⟨rfl, hb5⟩
  replace T_q := Lib.hid (T_q.out.below hb5)
  replace hB := Bel.st hB hb5
  clear hb5 T_t T_k
  have hd : decide (R = 0) = ((n4 : Int) == 0) := by
    rw [hlen.out]
    by_cases g : R = 0
    · rw [decide_eq_true g, limbs_len_zero.2 g]; rfl
    · have g2 : (Pl.limbs R).length ≠ 0 := fun q => g (limbs_len_zero.1 q)
      rw [decide_eq_false g]
      generalize (Pl.limbs R).length = y at g2
      symm
      simp
      exact g2
  have HD := Lib.hid hd
  clear hlen hd
  go_wp2_with fail
  go_ret3
  refine ⟨.slice A3 n3 c3, ?_, T_q.out, hB⟩
  rw [HD.out]
  rfl
theorem parts6_any (x : Int) (w : World) (hx : Wd x) : Calls Try.prog 35 #[.int .u64 x] w (RetParts (pQ x) (pH x) (pX x) w) := by
  by_cases h : 0 ≤ expo x
  · exact parts_up x w hx h
  · exact parts_down x w hx h
theorem mod_two (m H : Nat) : m % (2 * H) = m % H + H * (m / H % 2) := by
  rw [Nat.mul_comm 2 H, Nat.mod_mul]
theorem pX_eq (x : Int) : pX x = !((spW x).h || (spW x).r) := by
  unfold pX spW
  by_cases h : 0 ≤ expo x
  · rw [if_pos h, if_pos h]; rfl
  · rw [if_neg h, if_neg h]
    show _ = !(hB _ _ || rB _ _)
    unfold hB rB
    obtain ⟨j, hj⟩ : ∃ j : Nat, (-expo x).toNat = j + 1 := ⟨(-expo x).toNat - 1, by omega⟩
    rw [hj, Nat.add_sub_cancel, Nat.pow_succ', mod_two]
    have h0 : 0 < 2 ^ j := Nat.pow_pos (by decide)
    obtain ⟨H, hH⟩ : ∃ H, 2 ^ j = H := ⟨_, rfl⟩
    rw [hH] at h0 ⊢
    obtain ⟨m, hm⟩ : ∃ m, (mant x).toNat = m := ⟨_, rfl⟩
    rw [hm]
    obtain ⟨b, hb⟩ : ∃ b, m / H % 2 = b := ⟨_, rfl⟩
    obtain ⟨l, hl⟩ : ∃ l, m % H = l := ⟨_, rfl⟩
    have hb2 : b < 2 := by omega
    rw [hb, hl]
    by_cases g : b = 1
    · subst g; simp; omega
    · obtain rfl : b = 0 := by omega
      simp
set_option maxHeartbeats 2000000 in
theorem ris6_any (x : Int) (w : World) (hx : Wd x) : Calls Try.prog 15 #[.int .u64 x] w fun e w' => e = .returned (.bool (isW x)) ∧ Below w.heap.size w w' := by
  have CK := fun v => rkind_any x v hx
  have CP := fun v => parts6_any x v hx
  unfold isW
  rw [← pX_eq]
  obtain ⟨k, hk⟩ : ∃ k, kd x = k := ⟨_, rfl⟩
  rw [hk] at CK ⊢
  obtain ⟨q, hq⟩ : ∃ q, pQ x = q := ⟨_, rfl⟩
  obtain ⟨h, hh⟩ : ∃ h, pH x = h := ⟨_, rfl⟩
  obtain ⟨b, hb⟩ : ∃ b, pX x = b := ⟨_, rfl⟩
  rw [hq, hh, hb] at CP
  rw [hb]
  replace CK := Lib.hid CK
  replace CP := Lib.hid CP
  clear hk hx hq hh hb
  by_cases g : 3 ≤ k
  · have hd : decide (k < 3) = false := by simp; omega
    rw [hd]
    go_enter Try.func15, Try.ntmps15
    go_wp2_with fail
    (with_reducible refine (CK.out _).mono ?_)
    rintro e w' ⟨rfl, rfl⟩
    go_wp2_with fail
    go_ret
    exact ⟨rfl, Bel.re _⟩
  · have hd : decide (k < 3) = true := by simp; omega
    have hd2 : decide (3 ≤ k) = false := by simp; omega
    rw [hd]
    clear g
    go_enter Try.func15, Try.ntmps15
    go_wp2_with fail
    (with_reducible refine (CK.out _).mono ?_)
    rintro e w' ⟨rfl, rfl⟩
    go_wp2_with fail
    (with_reducible refine (CP.out _).mono ?_)
    rintro e w1 ⟨v1, rfl, hv1, hb1⟩
    obtain ⟨A1, n1, c1, rfl, hA⟩ := id hv1
    clear hA
    go_wp2_with fail
    go_ret
    exact ⟨retB (by simp), hb1⟩
set_option maxRecDepth 100000 in
set_option maxHeartbeats 4000000 in
theorem compares6_walk (a b : Int) (w : World) (ha : Wd a) (hb : Wd b) : Calls Try.prog 3 #[.int .u64 a, .int .u64 b] w fun e w' => e = .returned (.bool true) ∧ Below w.heap.size w w' := by
  have C1 := fun v => wcmp_any a b v ha hb
  have C2 := fun v => rcmp6_any a b v ha hb
  have S1 := fun v => sign_any a v ha
  have S2 := fun v => rsign6_any a v ha
  have I1 := fun v => wis_any a v ha
  have I2 := fun v => ris6_any a v ha
  have N1 := fun v => wmin_any a b v ha hb
  have N2 := fun v => rmin6_any a b v ha hb
  have X1 := fun v => wmax_any a b v ha hb
  have X2 := fun v => rmax6_any a b v ha hb
  obtain ⟨n, hn⟩ : ∃ n, cmpV a b = n := ⟨_, rfl⟩
  obtain ⟨o, ho⟩ : ∃ o, cmpOk a b = o := ⟨_, rfl⟩
  obtain ⟨s, hs⟩ : ∃ s, signI a = s := ⟨_, rfl⟩
  obtain ⟨i, hi⟩ : ∃ i, isW a = i := ⟨_, rfl⟩
  obtain ⟨m, hm⟩ : ∃ m, minI a b = m := ⟨_, rfl⟩
  obtain ⟨x, hx⟩ : ∃ x, maxI a b = x := ⟨_, rfl⟩
  rw [hn, ho] at C1 C2
  rw [hs] at S1 S2
  rw [hi] at I1 I2
  rw [hm] at N1 N2
  rw [hx] at X1 X2
  replace C1 := Lib.hid C1
  replace C2 := Lib.hid C2
  replace S1 := Lib.hid S1
  replace S2 := Lib.hid S2
  replace I1 := Lib.hid I1
  replace I2 := Lib.hid I2
  replace N1 := Lib.hid N1
  replace N2 := Lib.hid N2
  replace X1 := Lib.hid X1
  replace X2 := Lib.hid X2
  clear hn ho hs hi hm hx ha hb
  have hB := Bel.re w
  go_enter Try.func3, Try.ntmps3
  go_wp2_with (first
    | (go_at_call 9; (with_reducible refine (shown6_any _).mono ?_); rintro e w1 ⟨rfl, hb⟩; replace hB := Bel.st hB hb; clear hb)
    | (go_at_call 10; (with_reducible refine (C1.out _).mono ?_); rintro e w' ⟨rfl, rfl⟩)
    | (go_at_call 11; (with_reducible refine (C2.out _).mono ?_); rintro e w' ⟨rfl, rfl⟩)
    | (go_at_call 12; (with_reducible refine (S1.out _).mono ?_); rintro e w' ⟨rfl, rfl⟩)
    | (go_at_call 13; (with_reducible refine (S2.out _).mono ?_); rintro e w' ⟨rfl, rfl⟩)
    | (go_at_call 14; (with_reducible refine (I1.out _).mono ?_); rintro e w1 ⟨rfl, hb⟩; replace hB := Bel.st hB hb; clear hb)
    | (go_at_call 15; (with_reducible refine (I2.out _).mono ?_); rintro e w1 ⟨rfl, hb⟩; replace hB := Bel.st hB hb; clear hb)
    | (go_at_call 16; (with_reducible refine (N1.out _).mono ?_); rintro e w' ⟨rfl, rfl⟩)
    | (go_at_call 17; (with_reducible refine (N2.out _).mono ?_); rintro e w' ⟨rfl, rfl⟩)
    | (go_at_call 18; (with_reducible refine (X1.out _).mono ?_); rintro e w' ⟨rfl, rfl⟩)
    | (go_at_call 19; (with_reducible refine (X2.out _).mono ?_); rintro e w' ⟨rfl, rfl⟩))
  go_ret
  exact ⟨retB (by simp), hB⟩
def roundsI (way : Int) (neg odd : Bool) (half : Int) (exact : Bool) : Bool :=
  if way = 0 then decide (0 < half) || (decide (half = 0) && odd) else if way = 1 then decide (0 ≤ half) else if way = 3 then !exact else if way = 4 then neg && !exact else if way = 5 then !neg && !exact else false
set_option maxHeartbeats 4000000 in
theorem rounds6_any (way half : Int) (neg odd exact : Bool) (w : World) : Calls Try.prog 63 #[.int .i64 way, .bool neg, .bool odd, .int .i64 half, .bool exact] w fun e w' => e = .returned (.bool (roundsI way neg odd half exact)) ∧ w = w' := by
  by_cases h0 : way = 0
  · subst h0
    have hr := Lib.hid (show roundsI 0 neg odd half exact = (decide (0 < half) || (decide (half = 0) && odd)) from rfl)
    rcases Int.lt_trichotomy half 0 with g | g | g
    · have d1 : decide (0 < half) = false := by simp; omega
      have d2 : (half == 0) = false := by simp; omega
      have hq := Lib.hid (show roundsI 0 neg odd half exact = false by rw [hr.out, d1, show decide (half = 0) = false by simp; omega]; rfl)
      clear g hr
      go_enter Try.func63, Try.ntmps63
      go_wp2
      go_ret
      exact ⟨retB (by rw [hq.out]), rfl⟩
    · subst g
      have hq := Lib.hid (show roundsI 0 neg odd 0 exact = odd by rw [hr.out]; simp)
      clear hr
      go_enter Try.func63, Try.ntmps63
      go_wp2
      go_ret
      exact ⟨retB (by rw [hq.out]), rfl⟩
    · have d1 : decide (0 < half) = true := by simp; omega
      have hq := Lib.hid (show roundsI 0 neg odd half exact = true by rw [hr.out, d1]; rfl)
      clear g hr
      go_enter Try.func63, Try.ntmps63
      go_wp2
      go_ret
      exact ⟨retB (by rw [hq.out]), rfl⟩
  · by_cases h1 : way = 1
    · subst h1
      have hr := Lib.hid (show roundsI 1 neg odd half exact = decide (0 ≤ half) from rfl)
      go_enter Try.func63, Try.ntmps63
      go_wp2
      go_ret
      exact ⟨retB (by rw [hr.out]), rfl⟩
    · by_cases h3 : way = 3
      · subst h3
        have hr := Lib.hid (show roundsI 3 neg odd half exact = !exact from rfl)
        go_enter Try.func63, Try.ntmps63
        go_wp2
        go_ret
        exact ⟨retB (by rw [hr.out]), rfl⟩
      · by_cases h4 : way = 4
        · subst h4
          have hr := Lib.hid (show roundsI 4 neg odd half exact = (neg && !exact) from rfl)
          cases neg
          all_goals
            go_enter Try.func63, Try.ntmps63
            go_wp2
            go_ret
            exact ⟨retB (by rw [hr.out]; rfl), rfl⟩
        · by_cases h5 : way = 5
          · subst h5
            have hr := Lib.hid (show roundsI 5 neg odd half exact = (!neg && !exact) from rfl)
            cases neg
            all_goals
              go_enter Try.func63, Try.ntmps63
              go_wp2
              go_ret
              exact ⟨retB (by rw [hr.out]; rfl), rfl⟩
          · have hr := Lib.hid (show roundsI way neg odd half exact = false by unfold roundsI; rw [if_neg h0, if_neg h1, if_neg h3, if_neg h4, if_neg h5])
            have d0 : (way == 0) = false := by simpa using h0
            have d1 : (way == 1) = false := by simpa using h1
            have d3 : (way == 3) = false := by simpa using h3
            have d4 : (way == 4) = false := by simpa using h4
            have d5 : (way == 5) = false := by simpa using h5
            clear h0 h1 h3 h4 h5
            go_enter Try.func63, Try.ntmps63
            go_wp2
            go_ret
            exact ⟨retB (by rw [hr.out]), rfl⟩
theorem bit0_odd (q : Nat) : bitB q 0 = decide (q % 2 = 1) := by unfold bitB; simp
theorem rounds_more (way : Int) (x : Int) (h : ¬ 0 ≤ expo x) : (roundsI way (sgn x) (bitB (pQ x) 0) (pH x) (pX x) && !(pX x)) = moreW way (spW x).s (spW x).h (spW x).r (spW x).q := by
  rw [bit0_odd]
  unfold pX pH pQ spW
  rw [if_neg h, if_neg h, if_neg h, if_neg h]
  show _ = moreW way (sgn x) (hB _ _) (rB _ _) _
  unfold hB rB
  obtain ⟨j, hj⟩ : ∃ j : Nat, (-expo x).toNat = j + 1 := ⟨(-expo x).toNat - 1, by omega⟩
  rw [hj, Nat.add_sub_cancel, Nat.pow_succ', mod_two]
  have h0 : 0 < 2 ^ j := Nat.pow_pos (by decide)
  obtain ⟨H, hH⟩ : ∃ H, 2 ^ j = H := ⟨_, rfl⟩
  rw [hH] at h0 ⊢
  obtain ⟨m, hm⟩ : ∃ m, (mant x).toNat = m := ⟨_, rfl⟩
  rw [hm]
  have hl0 : m % H < H := Nat.mod_lt _ h0
  obtain ⟨b, hb⟩ : ∃ b, m / H % 2 = b := ⟨_, rfl⟩
  obtain ⟨l, hl⟩ : ∃ l, m % H = l := ⟨_, rfl⟩
  obtain ⟨q, hq⟩ : ∃ q, m / (2 * H) = q := ⟨_, rfl⟩
  obtain ⟨s, hs⟩ : ∃ s, sgn x = s := ⟨_, rfl⟩
  have hb2 : b < 2 := by omega
  rw [hl] at hl0
  rw [hb, hl, hq, hs]
  by_cases g : b = 1
  · subst g
    by_cases gl : l = 0
    · subst gl
      have e : cmpI ((2 * (0 + H * 1) : Nat) : Int) ((2 * H : Nat) : Int) = 0 := cmp_eq2 (by omega)
      have e2 : decide (0 + H * 1 = 0) = false := by simp; omega
      rw [e, e2]
      unfold roundsI moreW
      cases s <;> (repeat' split) <;> simp
    · have e : cmpI ((2 * (l + H * 1) : Nat) : Int) ((2 * H : Nat) : Int) = 1 := cmp_gt2 (by omega)
      have e2 : decide (l + H * 1 = 0) = false := by simp; omega
      have e3 : decide (l ≠ 0) = true := by simpa using gl
      rw [e, e2, e3]
      unfold roundsI moreW
      cases s <;> (repeat' split) <;> simp
  · obtain rfl : b = 0 := by omega
    have e : cmpI ((2 * (l + H * 0) : Nat) : Int) ((2 * H : Nat) : Int) = -1 := cmp_lt2 (by omega)
    rw [e]
    by_cases gl : l = 0
    · subst gl
      unfold roundsI moreW
      cases s <;> (repeat' split) <;> simp
    · have e2 : decide (l + H * 0 = 0) = false := by simp; omega
      have e3 : decide (l ≠ 0) = true := by simpa using gl
      rw [e2, e3]
      unfold roundsI moreW
      cases s <;> (repeat' split) <;> simp
theorem nat_rounds (way : Int) (x : Int) : pQ x + (if (roundsI way (sgn x) (bitB (pQ x) 0) (pH x) (pX x) && !(pX x)) = true then 1 else 0) = natW x way := by
  by_cases h : 0 ≤ expo x
  · have e : pX x = true := by unfold pX; rw [if_pos h]
    rw [e]
    unfold pQ natW
    rw [if_pos h, if_pos h]
    simp
  · rw [rounds_more way x h]
    unfold natW roundW pQ spW
    rw [if_neg h, if_neg h, if_neg h]
theorem pQ_bd (x : Int) : pQ x < Pl.B32 ^ 33 := by
  have h1 := mant_bd (x := x)
  have h2 := expo_bd (x := x)
  have h3 : (mant x).toNat < 2 ^ 53 := by omega
  obtain ⟨c, hc⟩ : ∃ c : Nat, 33 = c := ⟨_, rfl⟩
  obtain ⟨t, ht⟩ : ∃ t : Nat, 971 = t := ⟨_, rfl⟩
  rw [hc]
  unfold pQ
  rw [b32_pow]
  by_cases h : 0 ≤ expo x
  · rw [if_pos h]
    have h4 : (2 : Nat) ^ (expo x).toNat ≤ 2 ^ t := Nat.pow_le_pow_right (by decide) (by omega)
    calc (mant x).toNat * 2 ^ (expo x).toNat ≤ 2 ^ 53 * 2 ^ t := Nat.mul_le_mul (Nat.le_of_lt h3) h4
      _ = 2 ^ (53 + t) := (Nat.pow_add 2 53 t).symm
      _ < 2 ^ (32 * c) := Nat.pow_lt_pow_right (by decide) (by omega)
  · rw [if_neg h]
    have h5 := Nat.div_le_self (mant x).toNat (2 ^ (-expo x).toNat)
    calc (mant x).toNat / 2 ^ (-expo x).toNat < 2 ^ 53 := by omega
      _ ≤ 2 ^ (32 * c) := Nat.pow_le_pow_right (by decide) (by omega)
def RetSN (s : Bool) (N : Nat) (w : World) (e : Ending) (w' : World) : Prop := ∃ v, e = .returned (.tuple #[.bool s, v]) ∧ NatV w' v N ∧ Below w.heap.size w w'
set_option maxRecDepth 100000 in
set_option maxHeartbeats 4000000 in
theorem nat6_any (x way : Int) (w : World) (hx : Wd x) : Calls Try.prog 39 #[.int .u64 x, .int .i64 way] w (RetSN (sgn x) (natW x way) w) := by
  have CP := fun v => parts6_any x v hx
  have CI := fun v => ris_any x v
  have hN := nat_rounds way x
  have hq := pQ_bd x
  obtain ⟨N, hNN⟩ : ∃ N, natW x way = N := ⟨_, rfl⟩
  obtain ⟨q, hqq⟩ : ∃ q, pQ x = q := ⟨_, rfl⟩
  obtain ⟨h, hh⟩ : ∃ h, pH x = h := ⟨_, rfl⟩
  obtain ⟨b, hb⟩ : ∃ b, pX x = b := ⟨_, rfl⟩
  obtain ⟨s, hs⟩ : ∃ s, sgn x = s := ⟨_, rfl⟩
  rw [hqq, hh, hb] at CP
  rw [hs] at CI
  rw [hNN, hqq, hh, hb, hs] at hN
  rw [hqq] at hq
  rw [hNN, hs]
  have CB := fun (v : World) (y : Value) (hy : SliceV v y q 33) => bit_v 0 hy (by omega)
  obtain ⟨o, ho⟩ : ∃ o, bitB q 0 = o := ⟨_, rfl⟩
  rw [ho] at CB hN
  have e0 : ((0 : Nat) : Int) = 0 := rfl
  rw [e0] at CB
  have CR := fun v => rounds6_any way h s o b v
  obtain ⟨u, hu⟩ : ∃ u, roundsI way s o h b = u := ⟨_, rfl⟩
  rw [hu] at CR hN
  have CL := fun (v : World) (y t : Value) (hy : SliceV v y q 33) (ht : SliceV v t (Pl.val [1]) 1) => plus_v hy (ht.more (by omega)) (by omega)
  rw [val_one] at CL
  have HF := Lib.hid fit_one
  have FQ := Lib.hid hq
  replace CP := Lib.hid CP
  replace CI := Lib.hid CI
  replace CB := Lib.hid CB
  replace CR := Lib.hid CR
  replace CL := Lib.hid CL
  clear hNN hqq hh hb hs ho e0 hu hq hx
  by_cases g : u = true ∧ b = false
  · obtain ⟨rfl, rfl⟩ := g
    have hN' : q + 1 = N := by simpa using hN
    subst hN'
    clear hN
    go_enter Try.func39, Try.ntmps39
    go_wp2_with fail
    (with_reducible refine (CP.out _).mono ?_)
    rintro e w1 ⟨v1, rfl, hv1, hb1⟩
    obtain ⟨A1, n1, c1, rfl, hA⟩ := id hv1
    clear hA
    have HV := Lib.hid (hv1.slice FQ.out)
    clear hv1
    go_wp2_with fail
    (with_reducible refine (CI.out _).mono ?_)
    rintro e w' ⟨rfl, rfl⟩
    go_wp2_with fail
    (with_reducible refine (CB.out _ _ HV.out).mono ?_)
    rintro e w' ⟨rfl, rfl⟩
    go_wp2_with fail
    (with_reducible refine (CR.out _).mono ?_)
    rintro e w' ⟨rfl, rfl⟩
    go_wp2_with fail
    (with_reducible refine (CL.out _ _ _ (HV.out.alloc _) (slice_block w1 _ 1 _ _ HF.out rfl (by simp [lv]) (by omega))).mono ?_)
    rintro e w2 ⟨v2, rfl, hv2, hb2⟩
    obtain ⟨A2, n2, c2, rfl, hA⟩ := id hv2
    clear hA
    have hB := Bel.st (Bel.al hb1 _) hb2
    clear hb1 hb2
    go_wp2_with fail
    go_ret2
    exact ⟨_, rfl, hv2, hB⟩
  · have hN' : q = N := by
      rw [← hN]
      cases u <;> cases b <;> simp_all
    subst hN'
    clear hN
    cases u
    all_goals cases b
    all_goals first
      | (exact absurd ⟨rfl, rfl⟩ g)
      | (clear g
         go_enter Try.func39, Try.ntmps39
         go_wp2_with fail
         (with_reducible refine (CP.out _).mono ?_)
         rintro e w1 ⟨v1, rfl, hv1, hb1⟩
         obtain ⟨A1, n1, c1, rfl, hA⟩ := id hv1
         clear hA
         have HV := Lib.hid (hv1.slice FQ.out)
         go_wp2_with fail
         (with_reducible refine (CI.out _).mono ?_)
         rintro e w' ⟨rfl, rfl⟩
         go_wp2_with fail
         (with_reducible refine (CB.out _ _ HV.out).mono ?_)
         rintro e w' ⟨rfl, rfl⟩
         go_wp2_with fail
         (with_reducible refine (CR.out _).mono ?_)
         rintro e w' ⟨rfl, rfl⟩
         go_wp2_with fail
         go_ret2
         exact ⟨_, rfl, hv1, hb1⟩)
theorem natW_bd (x way : Int) : natW x way < Pl.B32 ^ 34 := by
  have h := nat_rounds way x
  have hq := pQ_bd x
  have h2 : Pl.B32 ^ 33 < Pl.B32 ^ 34 := Nat.pow_lt_pow_right (by decide) (by decide)
  rw [← h]
  generalize Pl.B32 ^ 33 = a at *
  generalize Pl.B32 ^ 34 = c at *
  split <;> omega
set_option maxRecDepth 100000 in
set_option maxHeartbeats 4000000 in
theorem rwhole_fin (x way : Int) (w : World) (hx : Wd x) (h0 : 0 ≤ way) (h5 : way ≤ 5) (h : kd x ≤ 2) : Calls Try.prog 21 #[.int .u64 x, .int .i64 way] w fun e w' => e = .returned (.tuple #[.int .u64 (wholeI x way), .int .i64 (wholeE way)]) ∧ Below w.heap.size w w' := by
  have CK := fun v => rkind_any x v hx
  have CN := fun v => nat6_any x way v hx
  have FN := Lib.hid (natW_bd x way)
  have hw := whole_nat hx h h0 h5
  have he : wholeE way = 0 := by unfold wholeE; rw [if_neg (by omega)]
  rw [hw, he]
  obtain ⟨N, hNN⟩ : ∃ N, natW x way = N := ⟨_, rfl⟩
  obtain ⟨s, hs⟩ : ∃ s, sgn x = s := ⟨_, rfl⟩
  obtain ⟨k, hk⟩ : ∃ k, kd x = k := ⟨_, rfl⟩
  rw [hNN, hs] at CN ⊢
  rw [hNN] at FN
  rw [hk] at CK h
  have CD := fun (v : World) (y : Value) (hy : SliceV v y N 34) => round_any s false 0 v hy (by omega) (by decide)
  obtain ⟨R, hR⟩ : ∃ R, fbits s N 0 false = R := ⟨_, rfl⟩
  rw [hR] at CD ⊢
  have d1 : decide (way < 0) = false := by simp; omega
  have d2 : decide (5 < way) = false := by simp; omega
  have d3 : (k == 4) = false := by simp; omega
  have d4 : (k == 3) = false := by simp; omega
  replace CK := Lib.hid CK
  replace CN := Lib.hid CN
  replace CD := Lib.hid CD
  clear hw he hNN hs hk hR h h0 h5 hx
  go_enter Try.func21, Try.ntmps21
  go_wp2_with fail
  (with_reducible refine (CK.out _).mono ?_)
  rintro e w' ⟨rfl, rfl⟩
  go_wp2_with fail
  (with_reducible refine (CN.out _).mono ?_)
  rintro e w1 ⟨v1, rfl, hv1, hb1⟩
  obtain ⟨A1, n1, c1, rfl, hA⟩ := id hv1
  clear hA
  have HV := Lib.hid (hv1.slice FN.out)
  clear hv1
  go_wp2_with fail
  (with_reducible refine (CD.out _ _ HV.out).mono ?_)
  rintro e w2 ⟨rfl, hb2⟩
  have hB := Bel.st hb1 hb2
  go_wp2_with fail
  go_ret2
  exact ⟨rfl, hB⟩
set_option maxRecDepth 100000 in
set_option maxHeartbeats 4000000 in
theorem rwhole_any (x way : Int) (w : World) (hx : Wd x) : Calls Try.prog 21 #[.int .u64 x, .int .i64 way] w fun e w' => e = .returned (.tuple #[.int .u64 (wholeI x way), .int .i64 (wholeE way)]) ∧ Below w.heap.size w w' := by
  by_cases h0 : way < 0
  · have e1 : wholeI x way = 0 := by unfold wholeI; rw [if_pos (.inl h0)]
    have e2 : wholeE way = 1 := by unfold wholeE; rw [if_pos (.inl h0)]
    rw [e1, e2]
    clear e1 e2 hx
    go_enter Try.func21, Try.ntmps21
    go_wp2
    go_ret2
    exact ⟨rfl, Bel.re _⟩
  · by_cases h5 : 5 < way
    · have e1 : wholeI x way = 0 := by unfold wholeI; rw [if_pos (.inr h5)]
      have e2 : wholeE way = 1 := by unfold wholeE; rw [if_pos (.inr h5)]
      rw [e1, e2]
      clear e1 e2 hx
      go_enter Try.func21, Try.ntmps21
      go_wp2
      go_ret2
      exact ⟨rfl, Bel.re _⟩
    · by_cases hk : kd x ≤ 2
      · exact rwhole_fin x way w hx (by omega) (by omega) hk
      · have hb := kd_bd x
        have hnw : ¬ (way < 0 ∨ 5 < way) := by omega
        have he : wholeE way = 0 := by unfold wholeE; rw [if_neg hnw]
        have CK := fun v => rkind_any x v hx
        have d1 : decide (way < 0) = false := by simp; omega
        have d2 : decide (5 < way) = false := by simp; omega
        rw [he]
        by_cases h4 : kd x = 4
        · have e1 : wholeI x way = 9221120237041090560 := by unfold wholeI; rw [if_neg hnw, if_pos h4]; rfl
          rw [h4] at CK
          rw [e1]
          replace CK := Lib.hid CK
          clear e1 he hnw hb hk h4 h5 h0 hx
          go_enter Try.func21, Try.ntmps21
          go_wp2_with (go_at_call 26; (with_reducible refine (CK.out _).mono ?_); rintro e w' ⟨rfl, rfl⟩)
          go_ret2
          exact ⟨rfl, Bel.re _⟩
        · have h3 : kd x = 3 := by omega
          have e1 : wholeI x way = x := by unfold wholeI; rw [if_neg hnw, if_neg h4, if_pos h3]
          rw [h3] at CK
          rw [e1]
          replace CK := Lib.hid CK
          clear e1 he hnw hb hk h4 h5 h0 h3 hx
          go_enter Try.func21, Try.ntmps21
          go_wp2_with (go_at_call 26; (with_reducible refine (CK.out _).mono ?_); rintro e w' ⟨rfl, rfl⟩)
          go_ret2
          exact ⟨rfl, Bel.re _⟩
set_option maxHeartbeats 2000000 in
theorem rfrom6_any (v : Int) (w : World) (v0 : -9223372036854775808 ≤ v) (v1 : v < 9223372036854775808) : Calls Try.prog 23 #[.int .i64 v] w fun e w' => e = .returned (.int .u64 (fromI v)) ∧ Below w.heap.size w w' := by
  obtain ⟨n, hn⟩ : ∃ n, v.natAbs = n := ⟨_, rfl⟩
  have hb : n ≤ 9223372036854775808 := by omega
  have CN := fun u => rnat_any n u (by omega)
  have FN := Lib.hid (show n < Pl.B32 ^ 2 by rw [b32_2]; omega)
  unfold fromI
  rw [hn]
  replace CN := Lib.hid CN
  by_cases h : v < 0
  · have CD := Lib.hid (fun (u : World) (y : Value) (hy : SliceV u y n 2) => round_any true false 0 u hy (by omega) (by decide))
    have hd : decide (v < 0) = true := by simpa using h
    have h1 : IntKind.u64.wrap v = v + 18446744073709551616 := by rw [IntKind.wrap_u64]; omega
    have h2 : IntKind.u64.wrap (-(v + 18446744073709551616)) = (n : Int) := by rw [IntKind.wrap_u64]; omega
    rw [hd]
    clear hn hb
    go_enter Try.func23, Try.ntmps23
    go_wp2_with fail
    (with_reducible refine (CN.out _).mono ?_)
    rintro e w1 ⟨y1, rfl, hy1, hb1⟩
    obtain ⟨A1, n1, c1, rfl, hA⟩ := id hy1
    clear hA
    have HV := Lib.hid (hy1.slice FN.out)
    clear hy1
    go_wp2_with fail
    (with_reducible refine (CD.out _ _ HV.out).mono ?_)
    rintro e w2 ⟨rfl, hb2⟩
    have hB := Bel.st hb1 hb2
    go_wp2_with fail
    go_ret
    exact ⟨rfl, hB⟩
  · have CD := Lib.hid (fun (u : World) (y : Value) (hy : SliceV u y n 2) => round_any false false 0 u hy (by omega) (by decide))
    have hd : decide (v < 0) = false := by simpa using h
    have h1 : IntKind.u64.wrap v = (n : Int) := by rw [IntKind.wrap_u64]; omega
    rw [hd]
    clear hn hb
    go_enter Try.func23, Try.ntmps23
    go_wp2_with fail
    (with_reducible refine (CN.out _).mono ?_)
    rintro e w1 ⟨y1, rfl, hy1, hb1⟩
    obtain ⟨A1, n1, c1, rfl, hA⟩ := id hy1
    clear hA
    have HV := Lib.hid (hy1.slice FN.out)
    clear hy1
    go_wp2_with fail
    (with_reducible refine (CD.out _ _ HV.out).mono ?_)
    rintro e w2 ⟨rfl, hb2⟩
    have hB := Bel.st hb1 hb2
    go_wp2_with fail
    go_ret
    exact ⟨rfl, hB⟩
def valI (N : Nat) : Int := if N < 18446744073709551616 then N else 0
def valOk (N : Nat) : Bool := decide (N < 18446744073709551616)
def upV (l : List Nat) (k : Nat) : Nat := Pl.val (l.drop k)
theorem upV_step (l : List Nat) (k x : Nat) (hk : k < l.length) (hx : l.getD k 0 = x) : upV l k = x + 4294967296 * upV l (k + 1) := by
  unfold upV
  rw [List.drop_eq_getElem_cons hk]
  have e : l[k] = x := by rw [← hx, List.getD_eq_getElem?_getD, List.getElem?_eq_getElem hk]; rfl
  rw [e]
  rfl
theorem upV_bd (l : List Nat) (hf : Pl.Fit l) (k : Nat) (hn : l.length ≤ 2) (hk : 1 ≤ k) : upV l k < 4294967296 := by
  unfold upV
  have h1 : Pl.Fit (l.drop k) := fun x hx => hf x (List.mem_of_mem_drop hx)
  have h2 := Pl.val_lt h1
  have h3 : (l.drop k).length ≤ 1 := by rw [List.length_drop]; omega
  have h4 : Pl.B32 ^ (l.drop k).length ≤ Pl.B32 ^ 1 := Nat.pow_le_pow_right Pl.B32_pos h3
  have h5 : Pl.B32 ^ 1 = 4294967296 := by decide
  omega
set_option maxRecDepth 100000 in
set_option maxHeartbeats 4000000 in
theorem value1_any {w : World} {v : Value} {N d : Nat} (h : SliceV w v N d) (hd : d ≤ 1048576) : Calls Try.prog 44 #[v] w fun e w' => e = .returned (.tuple #[.int .u64 (valI N), .bool (valOk N)]) ∧ Below w.heap.size w w' := by
  have CT := Lib.hid (trim_v h hd)
  obtain ⟨A0, n0, c0, l0, rfl, hh⟩ := h
  clear hh
  obtain ⟨VI, hVI⟩ : ∃ VI, valI N = VI := ⟨_, rfl⟩
  obtain ⟨VO, hVO⟩ : ∃ VO, valOk N = VO := ⟨_, rfl⟩
  rw [hVI, hVO]
  go_enter Try.func44, Try.ntmps44
  go_wp2_with fail
  (with_reducible refine CT.out.mono ?_)
  rintro e w1 ⟨v1, rfl, hv1, hb1⟩
  obtain ⟨A, n, c, rfl, hc1, hc2, hl⟩ := hv1
  have hlen := hl.len
  have hfit := hl.fit
  have HL := Lib.hid hl
  have HB := Lib.hid hb1
  clear CT hl hb1
  by_cases hn : n ≤ 2
  · have hN : N < 18446744073709551616 := by
      have := Pl.lt_of_limbs_len (n := N) (k := 2) (by omega)
      rw [b32_2] at this
      exact this
    obtain rfl : VI = (N : Int) := by rw [← hVI]; unfold valI; rw [if_pos hN]
    obtain rfl : VO = true := by rw [← hVO]; unfold valOk; simpa using hN
    have hup0 : upV (Pl.limbs N) 0 = N := by unfold upV; rw [List.drop_zero, Pl.val_limbs]
    have hupn : upV (Pl.limbs N) n = 0 := by unfold upV; rw [List.drop_of_length_le (by omega)]; rfl
    obtain ⟨l, hll⟩ : ∃ l, Pl.limbs N = l := ⟨_, rfl⟩
    rw [hll] at hup0 hupn hlen hfit
    have HL' : Hid (Lim w1 A n l) := by rw [← hll]; exact HL
    have HF := Lib.hid hfit
    have hd2 : decide ((2 : Int) < (n : Int)) = false := by simp; omega
    have hw : IntKind.i64.wrap ((n : Int) - 1) = (n : Int) - 1 := by rw [IntKind.wrap_i64]; omega
    clear HL hll hVI hVO hN
    go_wp2
    go_loop [5, 6] (fun vv iv => ∃ k : Nat, k ≤ n ∧ iv = .int .i64 ((k : Int) - 1) ∧ vv = .int .u64 (upV l k : Nat)) (fun _ iv => (intOf iv + 1).toNat)
    case atStart => exact ⟨n, Nat.le_refl _, rfl, by rw [hupn]; rfl⟩
    case round =>
      obtain ⟨k, hk, rfl, rfl⟩ := hrel
      cases k with
      | zero =>
        rw [hup0]
        go_wp2
        go_ret2
        exact ⟨rfl, HB.out⟩
      | succ j =>
        have hj : j < n := by omega
        have e3 : ((j + 1 : Nat) : Int) - 1 = (j : Int) := by omega
        rw [e3]
        obtain ⟨ad, hA, hadb, hcell⟩ := HL'.out.at_ hj
        subst hA
        obtain ⟨x, hx⟩ : ∃ x, l.getD j 0 = x := ⟨_, rfl⟩
        have hst := upV_step l j x (by omega) hx
        have hbd := upV_bd l HF.out (j + 1) (by omega) (by omega)
        have hxb : x < 4294967296 := by rw [← hx]; exact HF.out.get j
        obtain ⟨t, ht⟩ : ∃ t, upV l (j + 1) = t := ⟨_, rfl⟩
        rw [ht] at hst hbd ⊢
        rw [hx] at hcell
        obtain ⟨P, hP⟩ : ∃ P : Int, (t : Int) * 4294967296 = P := ⟨_, rfl⟩
        have r1 : IntKind.u64.wrap ((t : Int) * 4294967296) = P := by rw [IntKind.wrap_u64]; omega
        have r2 : IntKind.u64.wrap ((t : Int) * 2 ^ 32) = P := by rw [IntKind.wrap_u64]; omega
        have r3 : IntKind.u64.wrap (P + (x : Int)) = (upV l j : Nat) := by rw [IntKind.wrap_u64]; omega
        have r4 : IntKind.i64.wrap ((j : Int) - 1) = (j : Int) - 1 := by rw [IntKind.wrap_i64]; omega
        have hj0 : 0 ≤ (j : Int) := by omega
        have hjn : (j : Int) < n := by omega
        clear hP hst hbd ht hx e3
        go_wp2
        go_round
        case rel => exact ⟨j, by omega, rfl, rfl⟩
        case measure => simp [intOf]
  · have hN : ¬ N < 18446744073709551616 := by
      intro g
      have := Pl.limbs_len_le (n := N) (k := 2) (by rw [b32_2]; exact g)
      omega
    obtain rfl : VI = 0 := by rw [← hVI]; unfold valI; rw [if_neg hN]
    obtain rfl : VO = false := by rw [← hVO]; unfold valOk; simpa using hN
    have hd2 : decide ((2 : Int) < (n : Int)) = true := by simp; omega
    clear hn hN hVI hVO hlen hfit HL
    go_wp2
    go_ret2
    exact ⟨rfl, HB.out⟩
set_option maxRecDepth 100000 in
set_option maxHeartbeats 2000000 in
theorem rto_big (x way : Int) {k Z : Int} {N : Nat} {s : Bool} (w : World) (d1 : decide (way < 0) = false) (d2 : decide (5 < way) = false) (d3 : decide (3 ≤ k) = false) (CK : Hid (∀ v, Calls Try.prog 26 #[.int .u64 x] v fun e w' => e = .returned (.int .i64 k) ∧ v = w')) (CN : Hid (∀ v, Calls Try.prog 39 #[.int .u64 x, .int .i64 way] v (RetSN s N v))) (FN : Hid (N < Pl.B32 ^ 34)) (CV : Hid (∀ (v : World) (y : Value), SliceV v y N 34 → Calls Try.prog 44 #[y] v fun e w' => e = .returned (.tuple #[.int .u64 Z, .bool false]) ∧ Below v.heap.size v w')) (hZ : Z = 0) (hN : 18446744073709551616 ≤ N) :
    Calls Try.prog 25 #[.int .u64 x, .int .i64 way] w fun e w' => e = .returned (.tuple #[.int .i64 (toV s N), .int .i64 (toX s N)]) ∧ Below w.heap.size w w' := by
  have hv := Lib.hid (show toV s N = 0 by unfold toV; cases s <;> (simp; try omega))
  have he := Lib.hid (show toX s N = 6 by unfold toX; cases s <;> (simp; try omega))
  subst hZ
  clear hN
  go_enter Try.func25, Try.ntmps25
  go_wp2_with fail
  (with_reducible refine (CK.out _).mono ?_)
  rintro e w' ⟨rfl, rfl⟩
  go_wp2_with fail
  (with_reducible refine (CN.out _).mono ?_)
  rintro e w1 ⟨v1, rfl, hv1, hb1⟩
  obtain ⟨A1, n1, c1, rfl, hA⟩ := id hv1
  clear hA
  have HV := Lib.hid (hv1.slice FN.out)
  clear hv1
  go_wp2_with fail
  (with_reducible refine (CV.out _ _ HV.out).mono ?_)
  rintro e w2 ⟨rfl, hb2⟩
  have hB := Bel.st hb1 hb2
  go_wp2_with fail
  go_ret2
  exact ⟨ret_ii (by rw [hv.out]) (by rw [he.out]), hB⟩
set_option maxRecDepth 100000 in
set_option maxHeartbeats 2000000 in
theorem rto_min (x way : Int) {k Z : Int} {N : Nat} (w : World) (d1 : decide (way < 0) = false) (d2 : decide (5 < way) = false) (d3 : decide (3 ≤ k) = false) (CK : Hid (∀ v, Calls Try.prog 26 #[.int .u64 x] v fun e w' => e = .returned (.int .i64 k) ∧ v = w')) (CN : Hid (∀ v, Calls Try.prog 39 #[.int .u64 x, .int .i64 way] v (RetSN true N v))) (FN : Hid (N < Pl.B32 ^ 34)) (CV : Hid (∀ (v : World) (y : Value), SliceV v y N 34 → Calls Try.prog 44 #[y] v fun e w' => e = .returned (.tuple #[.int .u64 Z, .bool true]) ∧ Below v.heap.size v w')) (hZ : Z = 9223372036854775808) (hN : N = 9223372036854775808) :
    Calls Try.prog 25 #[.int .u64 x, .int .i64 way] w fun e w' => e = .returned (.tuple #[.int .i64 (toV true N), .int .i64 (toX true N)]) ∧ Below w.heap.size w w' := by
  have hv := Lib.hid (show toV true N = -9223372036854775808 by unfold toV; simp; try omega)
  have he := Lib.hid (show toX true N = 0 by unfold toX; simp; try omega)
  have hneg : IntKind.u64.wrap (-9223372036854775808) = 9223372036854775808 := by decide
  have hconv : IntKind.i64.wrap 9223372036854775808 = -9223372036854775808 := by decide
  subst hZ
  clear hN
  go_enter Try.func25, Try.ntmps25
  go_wp2_with fail
  (with_reducible refine (CK.out _).mono ?_)
  rintro e w' ⟨rfl, rfl⟩
  go_wp2_with fail
  (with_reducible refine (CN.out _).mono ?_)
  rintro e w1 ⟨v1, rfl, hv1, hb1⟩
  obtain ⟨A1, n1, c1, rfl, hA⟩ := id hv1
  clear hA
  have HV := Lib.hid (hv1.slice FN.out)
  clear hv1
  go_wp2_with fail
  (with_reducible refine (CV.out _ _ HV.out).mono ?_)
  rintro e w2 ⟨rfl, hb2⟩
  have hB := Bel.st hb1 hb2
  go_wp2_with fail
  go_ret2
  exact ⟨ret_ii (by rw [hv.out]) (by rw [he.out]), hB⟩
set_option maxRecDepth 100000 in
set_option maxHeartbeats 2000000 in
theorem rto_neg (x way : Int) {k Z : Int} {N : Nat} (w : World) (d1 : decide (way < 0) = false) (d2 : decide (5 < way) = false) (d3 : decide (3 ≤ k) = false) (CK : Hid (∀ v, Calls Try.prog 26 #[.int .u64 x] v fun e w' => e = .returned (.int .i64 k) ∧ v = w')) (CN : Hid (∀ v, Calls Try.prog 39 #[.int .u64 x, .int .i64 way] v (RetSN true N v))) (FN : Hid (N < Pl.B32 ^ 34)) (CV : Hid (∀ (v : World) (y : Value), SliceV v y N 34 → Calls Try.prog 44 #[y] v fun e w' => e = .returned (.tuple #[.int .u64 Z, .bool true]) ∧ Below v.heap.size v w')) (hZ : Z = (N : Int)) (hN : N < 9223372036854775808) :
    Calls Try.prog 25 #[.int .u64 x, .int .i64 way] w fun e w' => e = .returned (.tuple #[.int .i64 (toV true N), .int .i64 (toX true N)]) ∧ Below w.heap.size w w' := by
  have hv := Lib.hid (show toV true N = -(N : Int) by unfold toV; simp; try omega)
  have he := Lib.hid (show toX true N = 0 by unfold toX; simp; try omega)
  have g2 : (Z == 9223372036854775808) = false := by simp; omega
  have g1 : decide (9223372036854775808 < Z) = false := by simp; omega
  obtain ⟨M, hM⟩ : ∃ M : Int, (-Z) % 18446744073709551616 = M := ⟨_, rfl⟩
  have hneg : IntKind.u64.wrap (-Z) = M := by rw [IntKind.wrap_u64]; omega
  have hconv : IntKind.i64.wrap M = -(N : Int) := by rw [IntKind.wrap_i64]; omega
  clear hM
  have HZ := Lib.hid hZ
  have HN := Lib.hid hN
  clear hZ hN
  go_enter Try.func25, Try.ntmps25
  go_wp2_with fail
  (with_reducible refine (CK.out _).mono ?_)
  rintro e w' ⟨rfl, rfl⟩
  go_wp2_with fail
  (with_reducible refine (CN.out _).mono ?_)
  rintro e w1 ⟨v1, rfl, hv1, hb1⟩
  obtain ⟨A1, n1, c1, rfl, hA⟩ := id hv1
  clear hA
  have HV := Lib.hid (hv1.slice FN.out)
  clear hv1
  go_wp2_with fail
  (with_reducible refine (CV.out _ _ HV.out).mono ?_)
  rintro e w2 ⟨rfl, hb2⟩
  have hB := Bel.st hb1 hb2
  go_wp2_with fail
  go_ret2
  exact ⟨ret_ii (by rw [hv.out]) (by rw [he.out]), hB⟩
set_option maxRecDepth 100000 in
set_option maxHeartbeats 2000000 in
theorem rto_nun (x way : Int) {k Z : Int} {N : Nat} (w : World) (d1 : decide (way < 0) = false) (d2 : decide (5 < way) = false) (d3 : decide (3 ≤ k) = false) (CK : Hid (∀ v, Calls Try.prog 26 #[.int .u64 x] v fun e w' => e = .returned (.int .i64 k) ∧ v = w')) (CN : Hid (∀ v, Calls Try.prog 39 #[.int .u64 x, .int .i64 way] v (RetSN true N v))) (FN : Hid (N < Pl.B32 ^ 34)) (CV : Hid (∀ (v : World) (y : Value), SliceV v y N 34 → Calls Try.prog 44 #[y] v fun e w' => e = .returned (.tuple #[.int .u64 Z, .bool true]) ∧ Below v.heap.size v w')) (hZ : Z = (N : Int)) (hN : 9223372036854775808 < N) :
    Calls Try.prog 25 #[.int .u64 x, .int .i64 way] w fun e w' => e = .returned (.tuple #[.int .i64 (toV true N), .int .i64 (toX true N)]) ∧ Below w.heap.size w w' := by
  have hv := Lib.hid (show toV true N = 0 by unfold toV; simp; try omega)
  have he := Lib.hid (show toX true N = 6 by unfold toX; simp; try omega)
  have g1 : decide (9223372036854775808 < Z) = true := by simp; omega
  have HZ := Lib.hid hZ
  have HN := Lib.hid hN
  clear hZ hN
  go_enter Try.func25, Try.ntmps25
  go_wp2_with fail
  (with_reducible refine (CK.out _).mono ?_)
  rintro e w' ⟨rfl, rfl⟩
  go_wp2_with fail
  (with_reducible refine (CN.out _).mono ?_)
  rintro e w1 ⟨v1, rfl, hv1, hb1⟩
  obtain ⟨A1, n1, c1, rfl, hA⟩ := id hv1
  clear hA
  have HV := Lib.hid (hv1.slice FN.out)
  clear hv1
  go_wp2_with fail
  (with_reducible refine (CV.out _ _ HV.out).mono ?_)
  rintro e w2 ⟨rfl, hb2⟩
  have hB := Bel.st hb1 hb2
  go_wp2_with fail
  go_ret2
  exact ⟨ret_ii (by rw [hv.out]) (by rw [he.out]), hB⟩
set_option maxRecDepth 100000 in
set_option maxHeartbeats 2000000 in
theorem rto_pos (x way : Int) {k Z : Int} {N : Nat} (w : World) (d1 : decide (way < 0) = false) (d2 : decide (5 < way) = false) (d3 : decide (3 ≤ k) = false) (CK : Hid (∀ v, Calls Try.prog 26 #[.int .u64 x] v fun e w' => e = .returned (.int .i64 k) ∧ v = w')) (CN : Hid (∀ v, Calls Try.prog 39 #[.int .u64 x, .int .i64 way] v (RetSN false N v))) (FN : Hid (N < Pl.B32 ^ 34)) (CV : Hid (∀ (v : World) (y : Value), SliceV v y N 34 → Calls Try.prog 44 #[y] v fun e w' => e = .returned (.tuple #[.int .u64 Z, .bool true]) ∧ Below v.heap.size v w')) (hZ : Z = (N : Int)) (hN : N < 9223372036854775808) :
    Calls Try.prog 25 #[.int .u64 x, .int .i64 way] w fun e w' => e = .returned (.tuple #[.int .i64 (toV false N), .int .i64 (toX false N)]) ∧ Below w.heap.size w w' := by
  have hv := Lib.hid (show toV false N = (N : Int) by unfold toV; simp; try omega)
  have he := Lib.hid (show toX false N = 0 by unfold toX; simp; try omega)
  have g1 : decide (9223372036854775808 < Z) = false := by simp; omega
  have g2 : (Z == 9223372036854775808) = false := by simp; omega
  have hconv : IntKind.i64.wrap Z = (N : Int) := by rw [IntKind.wrap_i64]; omega
  have HZ := Lib.hid hZ
  have HN := Lib.hid hN
  clear hZ hN
  go_enter Try.func25, Try.ntmps25
  go_wp2_with fail
  (with_reducible refine (CK.out _).mono ?_)
  rintro e w' ⟨rfl, rfl⟩
  go_wp2_with fail
  (with_reducible refine (CN.out _).mono ?_)
  rintro e w1 ⟨v1, rfl, hv1, hb1⟩
  obtain ⟨A1, n1, c1, rfl, hA⟩ := id hv1
  clear hA
  have HV := Lib.hid (hv1.slice FN.out)
  clear hv1
  go_wp2_with fail
  (with_reducible refine (CV.out _ _ HV.out).mono ?_)
  rintro e w2 ⟨rfl, hb2⟩
  have hB := Bel.st hb1 hb2
  go_wp2_with fail
  go_ret2
  exact ⟨ret_ii (by rw [hv.out]) (by rw [he.out]), hB⟩
set_option maxRecDepth 100000 in
set_option maxHeartbeats 2000000 in
theorem rto_pun (x way : Int) {k Z : Int} {N : Nat} (w : World) (d1 : decide (way < 0) = false) (d2 : decide (5 < way) = false) (d3 : decide (3 ≤ k) = false) (CK : Hid (∀ v, Calls Try.prog 26 #[.int .u64 x] v fun e w' => e = .returned (.int .i64 k) ∧ v = w')) (CN : Hid (∀ v, Calls Try.prog 39 #[.int .u64 x, .int .i64 way] v (RetSN false N v))) (FN : Hid (N < Pl.B32 ^ 34)) (CV : Hid (∀ (v : World) (y : Value), SliceV v y N 34 → Calls Try.prog 44 #[y] v fun e w' => e = .returned (.tuple #[.int .u64 Z, .bool true]) ∧ Below v.heap.size v w')) (hZ : Z = (N : Int)) (hN : 9223372036854775808 < N) :
    Calls Try.prog 25 #[.int .u64 x, .int .i64 way] w fun e w' => e = .returned (.tuple #[.int .i64 (toV false N), .int .i64 (toX false N)]) ∧ Below w.heap.size w w' := by
  have hv := Lib.hid (show toV false N = 0 by unfold toV; simp; try omega)
  have he := Lib.hid (show toX false N = 6 by unfold toX; simp; try omega)
  have g1 : decide (9223372036854775808 < Z) = true := by simp; omega
  have HZ := Lib.hid hZ
  have HN := Lib.hid hN
  clear hZ hN
  go_enter Try.func25, Try.ntmps25
  go_wp2_with fail
  (with_reducible refine (CK.out _).mono ?_)
  rintro e w' ⟨rfl, rfl⟩
  go_wp2_with fail
  (with_reducible refine (CN.out _).mono ?_)
  rintro e w1 ⟨v1, rfl, hv1, hb1⟩
  obtain ⟨A1, n1, c1, rfl, hA⟩ := id hv1
  clear hA
  have HV := Lib.hid (hv1.slice FN.out)
  clear hv1
  go_wp2_with fail
  (with_reducible refine (CV.out _ _ HV.out).mono ?_)
  rintro e w2 ⟨rfl, hb2⟩
  have hB := Bel.st hb1 hb2
  go_wp2_with fail
  go_ret2
  exact ⟨ret_ii (by rw [hv.out]) (by rw [he.out]), hB⟩
set_option maxRecDepth 100000 in
set_option maxHeartbeats 2000000 in
theorem rto_mid (x way : Int) {k Z : Int} {N : Nat} (w : World) (d1 : decide (way < 0) = false) (d2 : decide (5 < way) = false) (d3 : decide (3 ≤ k) = false) (CK : Hid (∀ v, Calls Try.prog 26 #[.int .u64 x] v fun e w' => e = .returned (.int .i64 k) ∧ v = w')) (CN : Hid (∀ v, Calls Try.prog 39 #[.int .u64 x, .int .i64 way] v (RetSN false N v))) (FN : Hid (N < Pl.B32 ^ 34)) (CV : Hid (∀ (v : World) (y : Value), SliceV v y N 34 → Calls Try.prog 44 #[y] v fun e w' => e = .returned (.tuple #[.int .u64 Z, .bool true]) ∧ Below v.heap.size v w')) (hZ : Z = (N : Int)) (hN : N = 9223372036854775808) :
    Calls Try.prog 25 #[.int .u64 x, .int .i64 way] w fun e w' => e = .returned (.tuple #[.int .i64 (toV false N), .int .i64 (toX false N)]) ∧ Below w.heap.size w w' := by
  have hv := Lib.hid (show toV false N = 0 by unfold toV; simp; try omega)
  have he := Lib.hid (show toX false N = 6 by unfold toX; simp; try omega)
  have g1 : decide (9223372036854775808 < Z) = false := by simp; omega
  have g2 : (Z == 9223372036854775808) = true := by simp; omega
  clear hZ hN
  go_enter Try.func25, Try.ntmps25
  go_wp2_with fail
  (with_reducible refine (CK.out _).mono ?_)
  rintro e w' ⟨rfl, rfl⟩
  go_wp2_with fail
  (with_reducible refine (CN.out _).mono ?_)
  rintro e w1 ⟨v1, rfl, hv1, hb1⟩
  obtain ⟨A1, n1, c1, rfl, hA⟩ := id hv1
  clear hA
  have HV := Lib.hid (hv1.slice FN.out)
  clear hv1
  go_wp2_with fail
  (with_reducible refine (CV.out _ _ HV.out).mono ?_)
  rintro e w2 ⟨rfl, hb2⟩
  have hB := Bel.st hb1 hb2
  go_wp2_with fail
  go_ret2
  exact ⟨ret_ii (by rw [hv.out]) (by rw [he.out]), hB⟩
theorem rto_fin (x way : Int) (w : World) (hx : Wd x) (h0 : 0 ≤ way) (h5 : way ≤ 5) (h : kd x ≤ 2) : Calls Try.prog 25 #[.int .u64 x, .int .i64 way] w fun e w' => e = .returned (.tuple #[.int .i64 (toV (sgn x) (natW x way)), .int .i64 (toX (sgn x) (natW x way))]) ∧ Below w.heap.size w w' := by
  have CK := Lib.hid (fun v => rkind_any x v hx)
  have CN := fun v => nat6_any x way v hx
  have FN := Lib.hid (natW_bd x way)
  have d1 : decide (way < 0) = false := by simp; omega
  have d2 : decide (5 < way) = false := by simp; omega
  have d3 : decide (3 ≤ kd x) = false := by simp; omega
  obtain ⟨N, hNN⟩ : ∃ N, natW x way = N := ⟨_, rfl⟩
  obtain ⟨s, hs⟩ : ∃ s, sgn x = s := ⟨_, rfl⟩
  rw [hNN, hs] at CN ⊢
  rw [hNN] at FN
  have CV := fun (v : World) (y : Value) (hy : SliceV v y N 34) => value1_any hy (by omega)
  by_cases hb : N < 18446744073709551616
  · have e1 : valI N = (N : Int) := by unfold valI; rw [if_pos hb]
    have e2 : valOk N = true := by unfold valOk; simpa using hb
    rw [e1, e2] at CV
    cases s
    · rcases Nat.lt_trichotomy N 9223372036854775808 with g | g | g
      · exact rto_pos x way w d1 d2 d3 CK (Lib.hid CN) FN (Lib.hid CV) rfl g
      · exact rto_mid x way w d1 d2 d3 CK (Lib.hid CN) FN (Lib.hid CV) rfl g
      · exact rto_pun x way w d1 d2 d3 CK (Lib.hid CN) FN (Lib.hid CV) rfl g
    · rcases Nat.lt_trichotomy N 9223372036854775808 with g | g | g
      · exact rto_neg x way w d1 d2 d3 CK (Lib.hid CN) FN (Lib.hid CV) rfl g
      · exact rto_min x way w d1 d2 d3 CK (Lib.hid CN) FN (Lib.hid CV) (by omega) g
      · exact rto_nun x way w d1 d2 d3 CK (Lib.hid CN) FN (Lib.hid CV) rfl g
  · have e1 : valI N = 0 := by unfold valI; rw [if_neg hb]
    have e2 : valOk N = false := by unfold valOk; simpa using hb
    rw [e1, e2] at CV
    exact rto_big x way w d1 d2 d3 CK (Lib.hid CN) FN (Lib.hid CV) rfl (by omega)
set_option maxHeartbeats 2000000 in
theorem rto_any (x way : Int) (w : World) (hx : Wd x) : Calls Try.prog 25 #[.int .u64 x, .int .i64 way] w fun e w' => e = .returned (.tuple #[.int .i64 (toI x way), .int .i64 (toE x way)]) ∧ Below w.heap.size w w' := by
  unfold toI toE
  by_cases h0 : way < 0
  · rw [if_pos (.inl h0), if_pos (.inl h0)]
    clear hx
    go_enter Try.func25, Try.ntmps25
    go_wp2
    go_ret2
    exact ⟨rfl, Bel.re _⟩
  · by_cases h5 : 5 < way
    · rw [if_pos (.inr h5), if_pos (.inr h5)]
      clear hx
      go_enter Try.func25, Try.ntmps25
      go_wp2
      go_ret2
      exact ⟨rfl, Bel.re _⟩
    · have hnw : ¬ (way < 0 ∨ 5 < way) := by omega
      rw [if_neg hnw, if_neg hnw]
      by_cases hk : 3 ≤ kd x
      · rw [if_pos hk, if_pos hk]
        have CK := fun v => rkind_any x v hx
        have d1 : decide (way < 0) = false := by simp; omega
        have d2 : decide (5 < way) = false := by simp; omega
        obtain ⟨k, hkk⟩ : ∃ k, kd x = k := ⟨_, rfl⟩
        rw [hkk] at CK hk
        replace CK := Lib.hid CK
        clear hkk hx hnw h0 h5
        go_enter Try.func25, Try.ntmps25
        go_wp2_with (go_at_call 26; (with_reducible refine (CK.out _).mono ?_); rintro e w' ⟨rfl, rfl⟩)
        go_ret2
        exact ⟨rfl, Bel.re _⟩
      · rw [if_neg hk, if_neg hk]
        exact rto_fin x way w hx (by omega) (by omega) (by omega)
set_option maxRecDepth 100000 in
set_option maxHeartbeats 4000000 in
theorem ints6_walk (x v way : Int) (w : World) (hx : Wd x) (v0 : -9223372036854775808 ≤ v) (v1 : v < 9223372036854775808) : Calls Try.prog 5 #[.int .u64 x, .int .i64 v, .int .i64 way] w fun e w' => e = .returned (.bool true) ∧ Below w.heap.size w w' := by
  have CF := Lib.hid (fun (u : World) => from6_any v u v0 v1)
  have CG := Lib.hid (fun (u : World) => rfrom6_any v u v0 v1)
  have CW := Lib.hid (fun (j : Int) (u : World) => to6_any x j u hx)
  have CR := Lib.hid (fun (j : Int) (u : World) => rto_any x j u hx)
  clear hx v0 v1
  have hB := Bel.re w
  go_enter Try.func5, Try.ntmps5
  go_wp2_with fail
  (with_reducible refine (shown6_any _).mono ?_)
  rintro e w1 ⟨rfl, hb⟩
  replace hB := Bel.st hB hb
  clear hb
  go_wp2_with fail
  (with_reducible refine (CF.out _).mono ?_)
  rintro e w2 ⟨rfl, hb⟩
  replace hB := Bel.st hB hb
  clear hb
  go_wp2_with fail
  (with_reducible refine (CG.out _).mono ?_)
  rintro e w3 ⟨rfl, hb⟩
  replace hB := Bel.st hB hb
  clear hb
  go_wp2_with fail
  (with_reducible refine (CW.out _ _).mono ?_)
  rintro e w4 ⟨rfl, hb⟩
  replace hB := Bel.st hB hb
  clear hb
  go_wp2_with fail
  (with_reducible refine (CR.out _ _).mono ?_)
  rintro e w5 ⟨rfl, hb⟩
  replace hB := Bel.st hB hb
  clear hb
  obtain ⟨y, hy⟩ : ∃ y, toI x way = y := ⟨_, rfl⟩
  obtain ⟨z, hz⟩ : ∃ z, toE x way = z := ⟨_, rfl⟩
  rw [hy, hz]
  have HB := Lib.hid hB
  clear hy hz hB
  go_wp2
  go_loopw [12] (fun iv wr => ∃ k : Nat, iv = .int .i64 k ∧ k ≤ 6 ∧ Below w.heap.size w wr) (fun iv _ => 6 - (intOf iv).toNat)
  case atStart => exact ⟨0, rfl, by omega, HB.out⟩
  case round =>
    obtain ⟨k, rfl, hk, hB⟩ := hrel
    have HB2 := Lib.hid hB
    clear hB
    by_cases hlt : k < 6
    · have hki : (k : Int) < 6 := by omega
      go_wp2_with fail
      (with_reducible refine (CW.out _ _).mono ?_)
      rintro e w6 ⟨rfl, hb4⟩
      go_wp2_with fail
      (with_reducible refine (CR.out _ _).mono ?_)
      rintro e w7 ⟨rfl, hb5⟩
      have HB5 := Lib.hid (Bel.st (Bel.st HB2.out hb4) hb5)
      clear hb4 hb5
      obtain ⟨y, hy⟩ : ∃ y, toI x k = y := ⟨_, rfl⟩
      obtain ⟨z, hz⟩ : ∃ z, toE x k = z := ⟨_, rfl⟩
      rw [hy, hz]
      clear hy hz
      go_wp2
      go_roundw
      case rel => exact ⟨k + 1, by go_num, by omega, HB5.out⟩
      case measure => simp [intOf]; omega
    · have hki : ¬ (k : Int) < 6 := by omega
      go_wp2
      go_ret
      exact ⟨rfl, HB2.out⟩
end Go.Proofs.Ytjlmchbpdkojeaa
