/-
  M5G: the texts Ref5, Ref5B, Ref5C, Ref5D, Ref5E, Ref5F in one (a claim has at most 60 files).
-/
import Derived.Test.YtmjaoeafompclaaM5C
import Derived.Test.YtmjaoeafompclaaM5E
import Derived.Test.YtmjaoeafompclaaM5F

namespace Go.Proofs.Ytmjaoeafompclaa
open Go.RowKit Go.Shelf

theorem none5r_any (x : Int) (w : World) (hx : Wd x) : Calls Try.prog 36 #[.int .u64 x] w fun e w' => e = .returned (.bool (kd x == 4)) ∧ w = w' := by
  go_enter Try.func36, Try.ntmps36
  go_wp2_with (go_at_call 24; (with_reducible refine (rkind_any x _ hx).mono ?_); rintro e w' ⟨rfl, rfl⟩)
  go_ret
  exact ⟨rfl, rfl⟩
theorem endless5r_any (x : Int) (w : World) (hx : Wd x) : Calls Try.prog 37 #[.int .u64 x] w fun e w' => e = .returned (.bool (kd x == 3)) ∧ w = w' := by
  go_enter Try.func37, Try.ntmps37
  go_wp2_with (go_at_call 24; (with_reducible refine (rkind_any x _ hx).mono ?_); rintro e w' ⟨rfl, rfl⟩)
  go_ret
  exact ⟨rfl, rfl⟩
theorem zero5r_any (x : Int) (w : World) (hx : Wd x) : Calls Try.prog 38 #[.int .u64 x] w fun e w' => e = .returned (.bool (kd x == 0)) ∧ w = w' := by
  go_enter Try.func38, Try.ntmps38
  go_wp2_with (go_at_call 24; (with_reducible refine (rkind_any x _ hx).mono ?_); rintro e w' ⟨rfl, rfl⟩)
  go_ret
  exact ⟨rfl, rfl⟩
theorem none5r_k {x : Int} {n e z : Bool} (hx : Wd x) (h : Kin x n e z) (w : World) : Calls Try.prog 36 #[.int .u64 x] w fun r w' => r = .returned (.bool n) ∧ w = w' := by
  have := none5r_any x w hx
  rw [h.n] at this
  exact this
theorem endless5r_k {x : Int} {n e z : Bool} (hx : Wd x) (h : Kin x n e z) (w : World) : Calls Try.prog 37 #[.int .u64 x] w fun r w' => r = .returned (.bool e) ∧ w = w' := by
  have := endless5r_any x w hx
  rw [h.e] at this
  exact this
theorem zero5r_k {x : Int} {n e z : Bool} (hx : Wd x) (h : Kin x n e z) (w : World) : Calls Try.prog 38 #[.int .u64 x] w fun r w' => r = .returned (.bool z) ∧ w = w' := by
  have := zero5r_any x w hx
  rw [h.z] at this
  exact this
theorem with5r_inf (neg : Bool) (w : World) : Calls Try.prog 39 #[.bool neg, .int .u64 9218868437227405312] w fun e w' => e = .returned (.int .u64 (sb neg + INFI)) ∧ w = w' := by
  cases neg
  all_goals
    go_enter Try.func39, Try.ntmps39
    go_wp2
    go_ret
    exact ⟨rfl, rfl⟩
theorem with5r_zero (neg : Bool) (w : World) : Calls Try.prog 39 #[.bool neg, .int .u64 0] w fun e w' => e = .returned (.int .u64 (sb neg)) ∧ w = w' := by
  cases neg
  all_goals
    go_enter Try.func39, Try.ntmps39
    go_wp2
    go_ret
    exact ⟨rfl, rfl⟩

set_option maxRecDepth 100000 in
set_option maxHeartbeats 4000000 in
theorem rdiv5_fin (a b : Int) (w : World) (ha : Wd a) (hb : Wd b) (ka : kd a = 1 ∨ kd a = 2) (kb : kd b = 1 ∨ kd b = 2) (ia : Kin a false false false) (ib : Kin b false false false) : Calls Try.prog 14 #[.int .u64 a, .int .u64 b] w fun e w' => e = .returned (.int .u64 (divI a b)) ∧ Below w.heap.size w w' := by
  have hI : divI a b = fbits (sgn a != sgn b) ((mant a).toNat * 2 ^ 128 / (mant b).toNat) (expo a - expo b - 128) (decide (0 < (mant a).toNat * 2 ^ 128 % (mant b).toNat)) := by
    unfold divI
    rw [if_neg (by omega), if_neg (by omega), if_neg (by omega)]
  rw [hI]
  have NA := Lib.hid (none5r_k ha ia)
  have EA := Lib.hid (endless5r_k ha ia)
  have ZA := Lib.hid (zero5r_k ha ia)
  have NB := Lib.hid (none5r_k hb ib)
  have EB := Lib.hid (endless5r_k hb ib)
  have ZB := Lib.hid (zero5r_k hb ib)
  have SA := fun v => rsplit_any a v ha
  have SB := fun v => rsplit_any b v hb
  have ma := mant_bd (x := a)
  have mb := mant_bd (x := b)
  have mb0 := mant_pos kb
  have ea := expo_bd (x := a)
  have eb := expo_bd (x := b)
  obtain ⟨m, hm⟩ : ∃ m : Nat, mant a = m := ⟨(mant a).toNat, by omega⟩
  obtain ⟨n, hn⟩ : ∃ n : Nat, mant b = n := ⟨(mant b).toNat, by omega⟩
  obtain ⟨e, he⟩ : ∃ e, expo a = e := ⟨_, rfl⟩
  obtain ⟨f, hf⟩ : ∃ f, expo b = f := ⟨_, rfl⟩
  rw [hm] at SA ma ⊢
  rw [hn] at SB mb mb0 ⊢
  rw [he] at SA ea ⊢
  rw [hf] at SB eb ⊢
  rw [Int.toNat_natCast, Int.toNat_natCast]
  obtain ⟨M, hM⟩ : ∃ M, m * 2 ^ 128 = M := ⟨_, rfl⟩
  have bm : m < Pl.B32 ^ 2 := by rw [b32_2]; omega
  have bn : n < Pl.B32 ^ 7 := Nat.lt_of_lt_of_le (show n < Pl.B32 ^ 2 by rw [b32_2]; omega) (Nat.pow_le_pow_right Pl.B32_pos (by decide))
  have bM : M < Pl.B32 ^ 7 := by
    rw [← hM, Pl.B32_pow]
    exact Nat.lt_of_lt_of_le ((Nat.mul_lt_mul_right (Nat.two_pow_pos 128)).2 (show m < 2 ^ 53 by omega)) (by decide)
  have CN := fun (x : Nat) (v : World) (hx : x < 9007199254740992) => rnat_any x v (Nat.lt_trans hx (by decide))
  have CU : ∀ (v : World) (y : Value), NatV v y m → Calls Try.prog 41 #[y, .int .i64 128] v (RetNat (m * 2 ^ 128) v) := fun v y hy => up_v 128 (hy.slice bm) (by decide) (by decide)
  have hn0 : 0 < n := by omega
  have CP := fun (v : World) (x y : Value) (hx : NatV v x M) (hy : NatV v y n) => parts_v (hx.slice bM) (hy.slice bn) (by decide) hn0
  rw [hM] at CU ⊢
  have bQ : M / n < Pl.B32 ^ 7 := Nat.lt_of_le_of_lt (Nat.div_le_self _ _) bM
  generalize M / n = Q at *
  generalize M % n = R at *
  have hng : (!(sgn a == sgn b)) = (sgn a != sgn b) := rfl
  generalize (sgn a != sgn b) = ng at *
  have CR := fun (v : World) (y : Value) (b : Bool) (hy : NatV v y Q) => round_any ng b (e - f - 128) v (hy.slice bQ) (by decide) (by omega)
  obtain ⟨Z, hZ⟩ : ∃ Z, fbits ng Q (e - f - 128) (decide (0 < R)) = Z := ⟨_, rfl⟩
  rw [hZ]
  have HZ := Lib.hid hZ
  clear hZ
  replace SA := Lib.hid SA
  replace SB := Lib.hid SB
  replace CN := Lib.hid CN
  replace CU := Lib.hid CU
  replace CP := Lib.hid CP
  replace CR := Lib.hid CR
  have HB := Bel.re w
  have hm53 : m < 9007199254740992 := by omega
  have hn53 : n < 9007199254740992 := by omega
  clear hI ha hb ka kb ia ib hm hn he hf hM bm bn bM bQ mb0 hn0
  go_enter Try.func14, Try.ntmps14
  go_wp2_with (first | (go_at_call 36; (first | (with_reducible refine (NA.out _).mono ?_) | (with_reducible refine (NB.out _).mono ?_)); rintro e w' ⟨rfl, rfl⟩) | (go_at_call 37; (first | (with_reducible refine (EA.out _).mono ?_) | (with_reducible refine (EB.out _).mono ?_)); rintro e w' ⟨rfl, rfl⟩) | (go_at_call 38; (first | (with_reducible refine (ZA.out _).mono ?_) | (with_reducible refine (ZB.out _).mono ?_)); rintro e w' ⟨rfl, rfl⟩) | (go_at_call 35; (first | (with_reducible refine (ris_any a _).mono ?_) | (with_reducible refine (ris_any b _).mono ?_)); rintro e w' ⟨rfl, rfl⟩) | (go_at_call 27; (first | (with_reducible refine (SA.out _).mono ?_) | (with_reducible refine (SB.out _).mono ?_)); rintro e w' ⟨rfl, rfl⟩))
  (with_reducible refine (CN.out m _ hm53).mono ?_)
  rintro r w1 ⟨v1, rfl, hv1, hb1⟩
  replace HB := Bel.st HB hb1
  go_wp2_with fail
  (with_reducible refine (CU.out _ _ hv1).mono ?_)
  rintro r w2 ⟨v2, rfl, hv2, hb2⟩
  replace HB := Bel.st HB hb2
  clear hv1 hb1 hb2
  go_wp2_with fail
  (with_reducible refine (CN.out n _ hn53).mono ?_)
  rintro r w3 ⟨v3, rfl, hv3, hb3⟩
  replace HB := Bel.st HB hb3
  replace hv2 := hv2.below hb3
  clear hb3
  go_wp2_with fail
  (with_reducible refine (CP.out _ _ _ hv2 hv3).mono ?_)
  rintro r w4 ⟨v4, v5, rfl, hv4, hv5, hb4⟩
  replace HB := Bel.st HB hb4
  have V4 := Lib.hid hv4
  obtain ⟨A5, n5, c5, rfl, h51, h52, hl5⟩ := hv5
  have L5 := Lib.hid (hl5.len.symm.trans rfl)
  clear hb4 hv2 hv3 hv4 hl5
  rcases Nat.eq_zero_or_pos R with hR | hR
  · subst hR
    have h0 := L5.out
    rw [Pl.limbs_zero] at h0
    obtain rfl : n5 = 0 := h0
    have HZ2 := Lib.hid (show fbits ng Q (e - f - 128) false = Z from HZ.out)
    go_wp2_with fail
    (with_reducible refine (CR.out _ _ false V4.out).mono ?_)
    rintro r w5 ⟨rfl, hb5⟩
    replace HB := Bel.st HB hb5
    clear hb5
    go_wp2
    go_ret
    exact ⟨retW HZ2.out, HB⟩
  · have h0 : 0 < n5 := by
      rcases Nat.eq_zero_or_pos n5 with g | g
      · have := L5.out
        rw [g] at this
        have := limbs_len_zero.1 this.symm
        omega
      · exact g
    have HZ2 := Lib.hid (show fbits ng Q (e - f - 128) true = Z by rw [← HZ.out, decide_eq_true hR])
    go_wp2_with fail
    (with_reducible refine (CR.out _ _ true V4.out).mono ?_)
    rintro r w5 ⟨rfl, hb5⟩
    replace HB := Bel.st HB hb5
    clear hb5
    go_wp2
    go_ret
    exact ⟨retW HZ2.out, HB⟩

set_option maxRecDepth 100000 in
set_option maxHeartbeats 8000000 in
theorem rdiv5_any (a b : Int) (w : World) (ha : Wd a) (hb : Wd b) : Calls Try.prog 14 #[.int .u64 a, .int .u64 b] w fun e w' => e = .returned (.int .u64 (divI a b)) ∧ Below w.heap.size w w' := by
  have hng : (!(sgn a == sgn b)) = (sgn a != sgn b) := rfl
  have ba := kd_bd a
  have bb := kd_bd b
  rcases kin_cases a with ⟨ka, ia⟩ | ⟨ka, ia⟩ | ⟨ka, ia⟩ | ⟨ka, ia⟩
  · have ib : Kin b (kd b == 4) (kd b == 3) (kd b == 0) := ⟨rfl, rfl, rfl⟩
    have hI : divI a b = 9221120237041090560 := by unfold divI; rw [if_pos (by omega)]; rfl
    rw [hI]
    generalize (sgn a != sgn b) = ng at *
    have NA := Lib.hid (none5r_k ha ia)
    have EA := Lib.hid (endless5r_k ha ia)
    have ZA := Lib.hid (zero5r_k ha ia)
    have NB := Lib.hid (none5r_k hb ib)
    have EB := Lib.hid (endless5r_k hb ib)
    have ZB := Lib.hid (zero5r_k hb ib)
    clear hI ia ib ka ha hb ba bb
    go_enter Try.func14, Try.ntmps14
    go_wp2_with (first | (go_at_call 36; (first | (with_reducible refine (NA.out _).mono ?_) | (with_reducible refine (NB.out _).mono ?_)); rintro e w' ⟨rfl, rfl⟩) | (go_at_call 37; (first | (with_reducible refine (EA.out _).mono ?_) | (with_reducible refine (EB.out _).mono ?_)); rintro e w' ⟨rfl, rfl⟩) | (go_at_call 38; (first | (with_reducible refine (ZA.out _).mono ?_) | (with_reducible refine (ZB.out _).mono ?_)); rintro e w' ⟨rfl, rfl⟩) | (go_at_call 35; (first | (with_reducible refine (ris_any a _).mono ?_) | (with_reducible refine (ris_any b _).mono ?_)); rintro e w' ⟨rfl, rfl⟩) | (go_at_call 39; (first | (with_reducible refine (with5r_inf _ _).mono ?_) | (with_reducible refine (with5r_zero _ _).mono ?_)); rintro e w' ⟨rfl, rfl⟩))
    all_goals (go_ret; exact ⟨rfl, Below.refl _ _⟩)
  · rcases kin_cases b with ⟨kb, ib⟩ | ⟨kb, ib⟩ | ⟨kb, ib⟩ | ⟨kb, ib⟩
    · skip
      have hI : divI a b = 9221120237041090560 := by unfold divI; rw [if_pos (by omega)]; rfl
      rw [hI]
      generalize (sgn a != sgn b) = ng at *
      have NA := Lib.hid (none5r_k ha ia)
      have EA := Lib.hid (endless5r_k ha ia)
      have ZA := Lib.hid (zero5r_k ha ia)
      have NB := Lib.hid (none5r_k hb ib)
      have EB := Lib.hid (endless5r_k hb ib)
      have ZB := Lib.hid (zero5r_k hb ib)
      clear hI ia ib ka ha hb ba bb
      go_enter Try.func14, Try.ntmps14
      go_wp2_with (first | (go_at_call 36; (first | (with_reducible refine (NA.out _).mono ?_) | (with_reducible refine (NB.out _).mono ?_)); rintro e w' ⟨rfl, rfl⟩) | (go_at_call 37; (first | (with_reducible refine (EA.out _).mono ?_) | (with_reducible refine (EB.out _).mono ?_)); rintro e w' ⟨rfl, rfl⟩) | (go_at_call 38; (first | (with_reducible refine (ZA.out _).mono ?_) | (with_reducible refine (ZB.out _).mono ?_)); rintro e w' ⟨rfl, rfl⟩) | (go_at_call 35; (first | (with_reducible refine (ris_any a _).mono ?_) | (with_reducible refine (ris_any b _).mono ?_)); rintro e w' ⟨rfl, rfl⟩) | (go_at_call 39; (first | (with_reducible refine (with5r_inf _ _).mono ?_) | (with_reducible refine (with5r_zero _ _).mono ?_)); rintro e w' ⟨rfl, rfl⟩))
      all_goals (go_ret; exact ⟨rfl, Below.refl _ _⟩)
    · skip
      have hI : divI a b = 9221120237041090560 := by unfold divI; rw [if_pos (by omega)]; rfl
      rw [hI]
      generalize (sgn a != sgn b) = ng at *
      have NA := Lib.hid (none5r_k ha ia)
      have EA := Lib.hid (endless5r_k ha ia)
      have ZA := Lib.hid (zero5r_k ha ia)
      have NB := Lib.hid (none5r_k hb ib)
      have EB := Lib.hid (endless5r_k hb ib)
      have ZB := Lib.hid (zero5r_k hb ib)
      clear hI ia ib ka ha hb ba bb
      go_enter Try.func14, Try.ntmps14
      go_wp2_with (first | (go_at_call 36; (first | (with_reducible refine (NA.out _).mono ?_) | (with_reducible refine (NB.out _).mono ?_)); rintro e w' ⟨rfl, rfl⟩) | (go_at_call 37; (first | (with_reducible refine (EA.out _).mono ?_) | (with_reducible refine (EB.out _).mono ?_)); rintro e w' ⟨rfl, rfl⟩) | (go_at_call 38; (first | (with_reducible refine (ZA.out _).mono ?_) | (with_reducible refine (ZB.out _).mono ?_)); rintro e w' ⟨rfl, rfl⟩) | (go_at_call 35; (first | (with_reducible refine (ris_any a _).mono ?_) | (with_reducible refine (ris_any b _).mono ?_)); rintro e w' ⟨rfl, rfl⟩) | (go_at_call 39; (first | (with_reducible refine (with5r_inf _ _).mono ?_) | (with_reducible refine (with5r_zero _ _).mono ?_)); rintro e w' ⟨rfl, rfl⟩))
      all_goals (go_ret; exact ⟨rfl, Below.refl _ _⟩)
    · skip
      have hI : divI a b = (sb (sgn a != sgn b) + INFI) := by unfold divI; rw [if_neg (by omega), if_pos (by omega)]
      rw [hI]
      generalize (sgn a != sgn b) = ng at *
      have NA := Lib.hid (none5r_k ha ia)
      have EA := Lib.hid (endless5r_k ha ia)
      have ZA := Lib.hid (zero5r_k ha ia)
      have NB := Lib.hid (none5r_k hb ib)
      have EB := Lib.hid (endless5r_k hb ib)
      have ZB := Lib.hid (zero5r_k hb ib)
      clear hI ia ib ka ha hb ba bb
      go_enter Try.func14, Try.ntmps14
      go_wp2_with (first | (go_at_call 36; (first | (with_reducible refine (NA.out _).mono ?_) | (with_reducible refine (NB.out _).mono ?_)); rintro e w' ⟨rfl, rfl⟩) | (go_at_call 37; (first | (with_reducible refine (EA.out _).mono ?_) | (with_reducible refine (EB.out _).mono ?_)); rintro e w' ⟨rfl, rfl⟩) | (go_at_call 38; (first | (with_reducible refine (ZA.out _).mono ?_) | (with_reducible refine (ZB.out _).mono ?_)); rintro e w' ⟨rfl, rfl⟩) | (go_at_call 35; (first | (with_reducible refine (ris_any a _).mono ?_) | (with_reducible refine (ris_any b _).mono ?_)); rintro e w' ⟨rfl, rfl⟩) | (go_at_call 39; (first | (with_reducible refine (with5r_inf _ _).mono ?_) | (with_reducible refine (with5r_zero _ _).mono ?_)); rintro e w' ⟨rfl, rfl⟩))
      all_goals (go_ret; exact ⟨rfl, Below.refl _ _⟩)
    · skip
      have hI : divI a b = (sb (sgn a != sgn b) + INFI) := by unfold divI; rw [if_neg (by omega), if_pos (by omega)]
      rw [hI]
      generalize (sgn a != sgn b) = ng at *
      have NA := Lib.hid (none5r_k ha ia)
      have EA := Lib.hid (endless5r_k ha ia)
      have ZA := Lib.hid (zero5r_k ha ia)
      have NB := Lib.hid (none5r_k hb ib)
      have EB := Lib.hid (endless5r_k hb ib)
      have ZB := Lib.hid (zero5r_k hb ib)
      clear hI ia ib ka ha hb ba bb
      go_enter Try.func14, Try.ntmps14
      go_wp2_with (first | (go_at_call 36; (first | (with_reducible refine (NA.out _).mono ?_) | (with_reducible refine (NB.out _).mono ?_)); rintro e w' ⟨rfl, rfl⟩) | (go_at_call 37; (first | (with_reducible refine (EA.out _).mono ?_) | (with_reducible refine (EB.out _).mono ?_)); rintro e w' ⟨rfl, rfl⟩) | (go_at_call 38; (first | (with_reducible refine (ZA.out _).mono ?_) | (with_reducible refine (ZB.out _).mono ?_)); rintro e w' ⟨rfl, rfl⟩) | (go_at_call 35; (first | (with_reducible refine (ris_any a _).mono ?_) | (with_reducible refine (ris_any b _).mono ?_)); rintro e w' ⟨rfl, rfl⟩) | (go_at_call 39; (first | (with_reducible refine (with5r_inf _ _).mono ?_) | (with_reducible refine (with5r_zero _ _).mono ?_)); rintro e w' ⟨rfl, rfl⟩))
      all_goals (go_ret; exact ⟨rfl, Below.refl _ _⟩)
  · rcases kin_cases b with ⟨kb, ib⟩ | ⟨kb, ib⟩ | ⟨kb, ib⟩ | ⟨kb, ib⟩
    · skip
      have hI : divI a b = 9221120237041090560 := by unfold divI; rw [if_pos (by omega)]; rfl
      rw [hI]
      generalize (sgn a != sgn b) = ng at *
      have NA := Lib.hid (none5r_k ha ia)
      have EA := Lib.hid (endless5r_k ha ia)
      have ZA := Lib.hid (zero5r_k ha ia)
      have NB := Lib.hid (none5r_k hb ib)
      have EB := Lib.hid (endless5r_k hb ib)
      have ZB := Lib.hid (zero5r_k hb ib)
      clear hI ia ib ka ha hb ba bb
      go_enter Try.func14, Try.ntmps14
      go_wp2_with (first | (go_at_call 36; (first | (with_reducible refine (NA.out _).mono ?_) | (with_reducible refine (NB.out _).mono ?_)); rintro e w' ⟨rfl, rfl⟩) | (go_at_call 37; (first | (with_reducible refine (EA.out _).mono ?_) | (with_reducible refine (EB.out _).mono ?_)); rintro e w' ⟨rfl, rfl⟩) | (go_at_call 38; (first | (with_reducible refine (ZA.out _).mono ?_) | (with_reducible refine (ZB.out _).mono ?_)); rintro e w' ⟨rfl, rfl⟩) | (go_at_call 35; (first | (with_reducible refine (ris_any a _).mono ?_) | (with_reducible refine (ris_any b _).mono ?_)); rintro e w' ⟨rfl, rfl⟩) | (go_at_call 39; (first | (with_reducible refine (with5r_inf _ _).mono ?_) | (with_reducible refine (with5r_zero _ _).mono ?_)); rintro e w' ⟨rfl, rfl⟩))
      all_goals (go_ret; exact ⟨rfl, Below.refl _ _⟩)
    · skip
      have hI : divI a b = (sb (sgn a != sgn b)) := by unfold divI; rw [if_neg (by omega), if_neg (by omega), if_pos (by omega)]
      rw [hI]
      generalize (sgn a != sgn b) = ng at *
      have NA := Lib.hid (none5r_k ha ia)
      have EA := Lib.hid (endless5r_k ha ia)
      have ZA := Lib.hid (zero5r_k ha ia)
      have NB := Lib.hid (none5r_k hb ib)
      have EB := Lib.hid (endless5r_k hb ib)
      have ZB := Lib.hid (zero5r_k hb ib)
      clear hI ia ib ka ha hb ba bb
      go_enter Try.func14, Try.ntmps14
      go_wp2_with (first | (go_at_call 36; (first | (with_reducible refine (NA.out _).mono ?_) | (with_reducible refine (NB.out _).mono ?_)); rintro e w' ⟨rfl, rfl⟩) | (go_at_call 37; (first | (with_reducible refine (EA.out _).mono ?_) | (with_reducible refine (EB.out _).mono ?_)); rintro e w' ⟨rfl, rfl⟩) | (go_at_call 38; (first | (with_reducible refine (ZA.out _).mono ?_) | (with_reducible refine (ZB.out _).mono ?_)); rintro e w' ⟨rfl, rfl⟩) | (go_at_call 35; (first | (with_reducible refine (ris_any a _).mono ?_) | (with_reducible refine (ris_any b _).mono ?_)); rintro e w' ⟨rfl, rfl⟩) | (go_at_call 39; (first | (with_reducible refine (with5r_inf _ _).mono ?_) | (with_reducible refine (with5r_zero _ _).mono ?_)); rintro e w' ⟨rfl, rfl⟩))
      all_goals (go_ret; exact ⟨rfl, Below.refl _ _⟩)
    · skip
      have hI : divI a b = 9221120237041090560 := by unfold divI; rw [if_pos (by omega)]; rfl
      rw [hI]
      generalize (sgn a != sgn b) = ng at *
      have NA := Lib.hid (none5r_k ha ia)
      have EA := Lib.hid (endless5r_k ha ia)
      have ZA := Lib.hid (zero5r_k ha ia)
      have NB := Lib.hid (none5r_k hb ib)
      have EB := Lib.hid (endless5r_k hb ib)
      have ZB := Lib.hid (zero5r_k hb ib)
      clear hI ia ib ka ha hb ba bb
      go_enter Try.func14, Try.ntmps14
      go_wp2_with (first | (go_at_call 36; (first | (with_reducible refine (NA.out _).mono ?_) | (with_reducible refine (NB.out _).mono ?_)); rintro e w' ⟨rfl, rfl⟩) | (go_at_call 37; (first | (with_reducible refine (EA.out _).mono ?_) | (with_reducible refine (EB.out _).mono ?_)); rintro e w' ⟨rfl, rfl⟩) | (go_at_call 38; (first | (with_reducible refine (ZA.out _).mono ?_) | (with_reducible refine (ZB.out _).mono ?_)); rintro e w' ⟨rfl, rfl⟩) | (go_at_call 35; (first | (with_reducible refine (ris_any a _).mono ?_) | (with_reducible refine (ris_any b _).mono ?_)); rintro e w' ⟨rfl, rfl⟩) | (go_at_call 39; (first | (with_reducible refine (with5r_inf _ _).mono ?_) | (with_reducible refine (with5r_zero _ _).mono ?_)); rintro e w' ⟨rfl, rfl⟩))
      all_goals (go_ret; exact ⟨rfl, Below.refl _ _⟩)
    · skip
      have hI : divI a b = (sb (sgn a != sgn b)) := by unfold divI; rw [if_neg (by omega), if_neg (by omega), if_pos (by omega)]
      rw [hI]
      generalize (sgn a != sgn b) = ng at *
      have NA := Lib.hid (none5r_k ha ia)
      have EA := Lib.hid (endless5r_k ha ia)
      have ZA := Lib.hid (zero5r_k ha ia)
      have NB := Lib.hid (none5r_k hb ib)
      have EB := Lib.hid (endless5r_k hb ib)
      have ZB := Lib.hid (zero5r_k hb ib)
      clear hI ia ib ka ha hb ba bb
      go_enter Try.func14, Try.ntmps14
      go_wp2_with (first | (go_at_call 36; (first | (with_reducible refine (NA.out _).mono ?_) | (with_reducible refine (NB.out _).mono ?_)); rintro e w' ⟨rfl, rfl⟩) | (go_at_call 37; (first | (with_reducible refine (EA.out _).mono ?_) | (with_reducible refine (EB.out _).mono ?_)); rintro e w' ⟨rfl, rfl⟩) | (go_at_call 38; (first | (with_reducible refine (ZA.out _).mono ?_) | (with_reducible refine (ZB.out _).mono ?_)); rintro e w' ⟨rfl, rfl⟩) | (go_at_call 35; (first | (with_reducible refine (ris_any a _).mono ?_) | (with_reducible refine (ris_any b _).mono ?_)); rintro e w' ⟨rfl, rfl⟩) | (go_at_call 39; (first | (with_reducible refine (with5r_inf _ _).mono ?_) | (with_reducible refine (with5r_zero _ _).mono ?_)); rintro e w' ⟨rfl, rfl⟩))
      all_goals (go_ret; exact ⟨rfl, Below.refl _ _⟩)
  · rcases kin_cases b with ⟨kb, ib⟩ | ⟨kb, ib⟩ | ⟨kb, ib⟩ | ⟨kb, ib⟩
    · skip
      have hI : divI a b = 9221120237041090560 := by unfold divI; rw [if_pos (by omega)]; rfl
      rw [hI]
      generalize (sgn a != sgn b) = ng at *
      have NA := Lib.hid (none5r_k ha ia)
      have EA := Lib.hid (endless5r_k ha ia)
      have ZA := Lib.hid (zero5r_k ha ia)
      have NB := Lib.hid (none5r_k hb ib)
      have EB := Lib.hid (endless5r_k hb ib)
      have ZB := Lib.hid (zero5r_k hb ib)
      clear hI ia ib ka ha hb ba bb
      go_enter Try.func14, Try.ntmps14
      go_wp2_with (first | (go_at_call 36; (first | (with_reducible refine (NA.out _).mono ?_) | (with_reducible refine (NB.out _).mono ?_)); rintro e w' ⟨rfl, rfl⟩) | (go_at_call 37; (first | (with_reducible refine (EA.out _).mono ?_) | (with_reducible refine (EB.out _).mono ?_)); rintro e w' ⟨rfl, rfl⟩) | (go_at_call 38; (first | (with_reducible refine (ZA.out _).mono ?_) | (with_reducible refine (ZB.out _).mono ?_)); rintro e w' ⟨rfl, rfl⟩) | (go_at_call 35; (first | (with_reducible refine (ris_any a _).mono ?_) | (with_reducible refine (ris_any b _).mono ?_)); rintro e w' ⟨rfl, rfl⟩) | (go_at_call 39; (first | (with_reducible refine (with5r_inf _ _).mono ?_) | (with_reducible refine (with5r_zero _ _).mono ?_)); rintro e w' ⟨rfl, rfl⟩))
      all_goals (go_ret; exact ⟨rfl, Below.refl _ _⟩)
    · skip
      have hI : divI a b = (sb (sgn a != sgn b)) := by unfold divI; rw [if_neg (by omega), if_neg (by omega), if_pos (by omega)]
      rw [hI]
      generalize (sgn a != sgn b) = ng at *
      have NA := Lib.hid (none5r_k ha ia)
      have EA := Lib.hid (endless5r_k ha ia)
      have ZA := Lib.hid (zero5r_k ha ia)
      have NB := Lib.hid (none5r_k hb ib)
      have EB := Lib.hid (endless5r_k hb ib)
      have ZB := Lib.hid (zero5r_k hb ib)
      clear hI ia ib ka ha hb ba bb
      go_enter Try.func14, Try.ntmps14
      go_wp2_with (first | (go_at_call 36; (first | (with_reducible refine (NA.out _).mono ?_) | (with_reducible refine (NB.out _).mono ?_)); rintro e w' ⟨rfl, rfl⟩) | (go_at_call 37; (first | (with_reducible refine (EA.out _).mono ?_) | (with_reducible refine (EB.out _).mono ?_)); rintro e w' ⟨rfl, rfl⟩) | (go_at_call 38; (first | (with_reducible refine (ZA.out _).mono ?_) | (with_reducible refine (ZB.out _).mono ?_)); rintro e w' ⟨rfl, rfl⟩) | (go_at_call 35; (first | (with_reducible refine (ris_any a _).mono ?_) | (with_reducible refine (ris_any b _).mono ?_)); rintro e w' ⟨rfl, rfl⟩) | (go_at_call 39; (first | (with_reducible refine (with5r_inf _ _).mono ?_) | (with_reducible refine (with5r_zero _ _).mono ?_)); rintro e w' ⟨rfl, rfl⟩))
      all_goals (go_ret; exact ⟨rfl, Below.refl _ _⟩)
    · skip
      have hI : divI a b = (sb (sgn a != sgn b) + INFI) := by unfold divI; rw [if_neg (by omega), if_pos (by omega)]
      rw [hI]
      generalize (sgn a != sgn b) = ng at *
      have NA := Lib.hid (none5r_k ha ia)
      have EA := Lib.hid (endless5r_k ha ia)
      have ZA := Lib.hid (zero5r_k ha ia)
      have NB := Lib.hid (none5r_k hb ib)
      have EB := Lib.hid (endless5r_k hb ib)
      have ZB := Lib.hid (zero5r_k hb ib)
      clear hI ia ib ka ha hb ba bb
      go_enter Try.func14, Try.ntmps14
      go_wp2_with (first | (go_at_call 36; (first | (with_reducible refine (NA.out _).mono ?_) | (with_reducible refine (NB.out _).mono ?_)); rintro e w' ⟨rfl, rfl⟩) | (go_at_call 37; (first | (with_reducible refine (EA.out _).mono ?_) | (with_reducible refine (EB.out _).mono ?_)); rintro e w' ⟨rfl, rfl⟩) | (go_at_call 38; (first | (with_reducible refine (ZA.out _).mono ?_) | (with_reducible refine (ZB.out _).mono ?_)); rintro e w' ⟨rfl, rfl⟩) | (go_at_call 35; (first | (with_reducible refine (ris_any a _).mono ?_) | (with_reducible refine (ris_any b _).mono ?_)); rintro e w' ⟨rfl, rfl⟩) | (go_at_call 39; (first | (with_reducible refine (with5r_inf _ _).mono ?_) | (with_reducible refine (with5r_zero _ _).mono ?_)); rintro e w' ⟨rfl, rfl⟩))
      all_goals (go_ret; exact ⟨rfl, Below.refl _ _⟩)
    · exact rdiv5_fin a b w ha hb ka kb ia ib
end Go.Proofs.Ytmjaoeafompclaa

namespace Go.Proofs.Ytmjaoeafompclaa
open Go.RowKit Go.Shelf

/-- Ahead of a round of root: the bits from the j-th on are done. -/
structure RootBit (A j R : Nat) : Prop where
  low : R * R ≤ A
  high : A < (R + 2 ^ j) * (R + 2 ^ j)
  dvd : R % 2 ^ j = 0
theorem RootBit.start {A : Nat} (h : A < 2 ^ 200) : RootBit A 100 0 := ⟨by omega, by rw [Nat.zero_add, ← Nat.pow_add]; exact h, Nat.zero_mod _⟩
theorem RootBit.yes {A i R : Nat} (h : RootBit A (i + 1) R) (hA : (R + 2 ^ i) * (R + 2 ^ i) ≤ A) : RootBit A i (R + 2 ^ i) := by
  refine ⟨hA, ?_, ?_⟩
  · have e : R + 2 ^ i + 2 ^ i = R + 2 ^ (i + 1) := by rw [Nat.pow_succ]; omega
    rw [e]; exact h.high
  · rw [Nat.add_mod, Pl.dvd_mod_pow (show i ≤ i + 1 by omega) h.dvd, Nat.mod_self]; rfl
theorem RootBit.no {A i R : Nat} (h : RootBit A (i + 1) R) (hA : A < (R + 2 ^ i) * (R + 2 ^ i)) : RootBit A i R := ⟨h.low, hA, Pl.dvd_mod_pow (show i ≤ i + 1 by omega) h.dvd⟩
theorem RootBit.done {A R : Nat} (h : RootBit A 0 R) : R = Pl.rt A := Pl.rt_unique h.low h.high
def lenOf : Value → Nat
  | .slice _ n _ => n
  | _ => 0

set_option maxRecDepth 100000 in
set_option maxHeartbeats 8000000 in
theorem root5r_any {w : World} {v : Value} {A d : Nat} (h : SliceV w v A d) (hd : d ≤ 1000) (hA : A < 2 ^ 200) : Calls Try.prog 46 #[v, .int .i64 100] w fun e w' => ∃ u, e = .returned u ∧ SliceV w' u (Pl.rt A) 4 ∧ Below w.heap.size w w' := by
  obtain ⟨i0, hi0, hz0, hz1, hz2⟩ := info_parts u32_info
  obtain ⟨D, hD8, hdD, hDm⟩ : ∃ D, 8 ≤ D ∧ d ≤ D ∧ D ≤ 1048576 := ⟨1000, by decide, hd, by decide⟩
  have HV := Lib.hid h
  have R0 := Lib.hid (RootBit.start hA)
  clear h hA
  go_enter Try.func46, Try.ntmps46
  go_wp2
  have HS0 := Lib.hid (SliceV.of_own (own_empty w 77 1) Pl.Fit.nil)
  have HB0 := Lib.hid (Bel.al (Bel.re w) (.cells #[] 77))
  go_loopw [5, 6, 7] (fun rv iv _ wr => ∃ (j R : Nat), iv = .int .i64 ((j : Int) - 1) ∧ j ≤ 100 ∧ SliceV wr rv R 4 ∧ RootBit A j R ∧ Below w.heap.size w wr) (fun _ iv _ _ => (intOf iv + 1).toNat)
  case atStart => exact ⟨100, 0, by go_num, Nat.le_refl _, HS0.out.more (by omega), R0.out, HB0.out⟩
  case round =>
    obtain ⟨j, R, rfl, hj, hrv, hat, hB⟩ := hrel
    have HR := Lib.hid hrv
    have HA := Lib.hid hat
    have HB := Lib.hid hB
    clear hat hB HS0 HB0 R0
    rcases Nat.eq_zero_or_pos j with h0 | h0
    · subst h0
      obtain rfl := HA.out.done
      go_wp2
      go_ret
      exact ⟨_, rfl, HR.out, HB.out⟩
    · obtain ⟨wo, rfl⟩ : ∃ wo, wo = wr := ⟨_, rfl⟩
      obtain ⟨i, rfl⟩ : ∃ i, j = i + 1 := ⟨j - 1, by omega⟩
      obtain ⟨A1, n1, c1, l1, rfl, h1, h2, hl1, hR, hn4⟩ := hrv
      have hlen := Lib.hid hl1.len
      have hfit := Lib.hid hl1.fit
      have HL := Lib.hid hl1
      have HRR := Lib.hid hR
      clear hl1 hR
      obtain ⟨q, hq⟩ : ∃ q : Nat, (i : Int) / 32 = q := ⟨i / 32, by omega⟩
      obtain ⟨r, hr⟩ : ∃ r : Nat, (i : Int) % 32 = r := ⟨i % 32, by omega⟩
      have hi32 : i = 32 * q + r := by omega
      have hr32 : r < 32 := by omega
      have hq3 : q ≤ 3 := by omega
      have HI := Lib.hid hi32
      clear hi32
      go_wp2_with (at_builtin; refine wpList_append_any _ rfl (.tmp 15) (.tmp 16) _ rfl wo.heap.size 77 i0 _ 1 4 Try.underlying45 hi0 hz0 hz1 hz2 rfl (by omega) (.slice (some ⟨wo.heap.size, 0, none⟩) 0 0) 0 [] rfl (own_empty wo 77 1) _ A1 n1 c1 (l1.map lv) rfl (HL.out.alloc _).reads (one_limbs _) (by unfold maxLen; omega) (by omega) (by simp) ?_; intro v1 w1 hown1 hg1 hat1; rw [Nat.zero_add, List.nil_append] at hown1; have hB1 : Below wo.heap.size wo w1 := (Bel.al (Bel.re wo) _).grown hg1 (by simp) (fun k h => own_at h))
      have HB1 := Lib.hid hB1
      have HO1 := Lib.hid hown1
      clear hown1 hg1 hat1 hB1
      go_loopw [7] (fun tv wx => ∃ (k : Nat) (o : List Nat), k ≤ 4 ∧ wx.ownsRow wo.heap.size 77 1 tv k (o.map lv) ∧ Pl.Fit o ∧ Pl.val o = R ∧ Below wo.heap.size wo wx) (fun tv _ => q + 1 - lenOf tv)
      case atStart => exact ⟨n1, l1, hn4, HO1.out, hfit.out, HRR.out, HB1.out⟩
      case round =>
        obtain ⟨k, o, hk4, hown, hof, hov, hBx⟩ := hrel
        obtain ⟨A2, c2, rfl, h3, h4⟩ := own_slice hown
        have HOW := Lib.hid hown
        have HOF := Lib.hid hof
        have HOV := Lib.hid hov
        have HBX := Lib.hid hBx
        have hzx := hBx.size
        clear hown hof hov hBx
        by_cases hlt : k ≤ q
        · go_wp2_with (at_builtin; refine wpList_append_any _ rfl (.tmp 23) (.tmp 24) _ rfl wo.heap.size 77 i0 _ 1 4 Try.underlying45 hi0 hz0 hz1 hz2 rfl (by omega) _ k (o.map lv) rfl (HOW.out.alloc _) _ _ 1 1 [lv 0] rfl (reads_new' (y := 0) rfl) (by simp [lv, Value.oneCell']) (by unfold maxLen; omega) (by omega) (by simp; omega) ?_; intro v2 w2 hown2 hg2 hat2)
          obtain ⟨A3, c3, rfl, h5, h6⟩ := own_slice hown2
          refine ⟨⟨k + 1, o ++ [0], by omega, own_snoc hown2, HOF.out.append (Pl.Fit.cons (by decide) Pl.Fit.nil), by rw [Pl.val_snoc, HOV.out]; simp, below_row HBX.out hzx hg2 rfl (own_base HOW.out)⟩, by simp [lenOf]; omega⟩
        · obtain ⟨g, cap, hv, hgb, hgl⟩ := HOW.out.form (by omega)
          injection hv with hv1 _ hv3
          subst hv1 hv3
          have hi32 := HI.out
          have hdv : Pl.val o % 2 ^ (i + 1) = 0 := by rw [HOV.out]; exact HA.out.dvd
          have hqk : q < k := by omega
          have holen : o.length = k := by have := HOW.out.1; rw [List.length_map] at this; omega
          have hlow := Pl.limb_low HOF.out hi32 hr32 hdv
          have hset := Pl.val_bit hi32 (show q < o.length by omega)
          have hxB := HOF.out.get q
          have hlt2 := Pl.low_lt hr32 hxB hlow
          have hcell := HOW.out.cellAt q (by omega)
          have hfz := HOW.out.frozenAt q
          rw [List.getElem?_map, List.getElem?_eq_getElem (by omega)] at hcell
          have hgd : o.getD q 0 = o[q]'(by omega) := by rw [List.getD_eq_getElem?_getD, List.getElem?_eq_getElem (by omega)]; rfl
          have hcell2 : wr.cell? ⟨g, q, none⟩ = some (.int .u32 ((o.getD q 0 : Nat) : Int)) := by rw [hcell, hgd]; rfl
          clear hcell hgd
          obtain ⟨x, hx⟩ : ∃ x, o.getD q 0 = x := ⟨_, rfl⟩
          obtain ⟨P, hP⟩ : ∃ P, 2 ^ r = P := ⟨_, rfl⟩
          rw [hx] at hlow hset hxB hlt2 hcell2
          have hor := or_bit32 x P r hr32 hP (by unfold Pl.B32 at hxB; exact hxB) hlow
          have hPi : (2 : Int) ^ r = (P : Int) := by rw [← hP]; simp
          rw [hP] at hset hlt2
          unfold Pl.B32 at hlt2
          obtain ⟨Z, hZ⟩ : ∃ Z, x + P = Z := ⟨_, rfl⟩
          rw [hZ] at hset hlt2 hor
          have hzB : Z < Pl.B32 := by unfold Pl.B32; exact hlt2
          have k1 : IntKind.u32.wrap (P : Int) = (P : Int) := wraps_u32_ _ (by omega)
          have HSET := Lib.hid (show Pl.val (o.set q Z) = R + 2 ^ i by rw [hset, HOV.out])
          have HFIT := Lib.hid (HOF.out.set q hzB)
          have HOW2 := Lib.hid (HOW.out.stored q (.int .u32 (Z : Int)))
          clear hi32 hdv hlow hset hxB hx hP hZ hzB holen
          go_wp2_with fail
          generalize hw2 : World.setCell wr _ _ = w2
          have hown2 : w2.ownsRow wo.heap.size 77 1 (.slice (some ⟨g, 0, none⟩) k c2) k ((o.set q Z).map lv) := by
            rw [← hw2]
            have := HOW2.out.1
            rw [List.map_set]
            exact this
          have hsl := SliceV.of_own hown2 HFIT.out
          rw [HSET.out] at hsl
          have HB2 := Lib.hid (show Below wo.heap.size wo w2 by rw [← hw2]; exact HBX.out.setCell hgb _)
          obtain ⟨T, hT⟩ : ∃ T, R + 2 ^ i = T := ⟨_, rfl⟩
          rw [hT] at hsl
          have HSL := Lib.hid hsl
          clear hw2 hown2 hsl
          (with_reducible refine (times1_v HSL.out HSL.out (by omega)).mono ?_)
          rintro e w3 ⟨v3, rfl, hv3, hb3⟩
          have hTT : T * T < Pl.B32 ^ D := by
            have h1 := HSL.out.lt
            have h2 : Pl.B32 ^ k ≤ Pl.B32 ^ 4 := Nat.pow_le_pow_right Pl.B32_pos hk4
            have h3 : T * T < Pl.B32 ^ 4 * Pl.B32 ^ 4 := Nat.mul_lt_mul_of_lt_of_le (Nat.lt_of_lt_of_le h1 h2) (Nat.le_of_lt (Nat.lt_of_lt_of_le h1 h2)) (Nat.pow_pos Pl.B32_pos)
            rw [← Nat.pow_add] at h3
            exact Nat.lt_of_lt_of_le h3 (Nat.pow_le_pow_right Pl.B32_pos hD8)
          have HV3 := Lib.hid (hv3.slice hTT)
          have HSL3 := Lib.hid (HSL.out.below hb3)
          have HB3 := Lib.hid (Bel.st HB.out (Bel.st HB2.out hb3))
          have HR3 := Lib.hid (HR.out.below (Bel.st HB2.out hb3))
          have HA3 := Lib.hid ((HV.out.more hdD).below HB3.out)
          clear hv3 hb3 hTT
          go_wp2_with fail
          (with_reducible refine (rcmp_v HV3.out HA3.out hDm).mono ?_)
          rintro e w4 ⟨rfl, hb4⟩
          have HB4 := Lib.hid (Bel.st HB3.out hb4)
          have HSL4 := Lib.hid (HSL3.out.below hb4)
          have HR4 := Lib.hid (HR3.out.below hb4)
          clear hb4
          have HT := Lib.hid hT
          clear hT
          by_cases hle : T * T ≤ A
          · have HN := Lib.hid (HA.out.yes (by rw [HT.out]; exact hle))
            have hC : cmpI ((T * T : Nat) : Int) (A : Int) ≤ 0 := cmp_le (by exact_mod_cast hle)
            generalize cmpI ((T * T : Nat) : Int) (A : Int) = C at *
            clear hle
            go_wp2
            exact ⟨⟨i, T, by go_num, by omega, HSL4.out.more hk4, by rw [← HT.out]; exact HN.out, HB4.out⟩, by simp [intOf]⟩
          · have HN := Lib.hid (HA.out.no (by rw [HT.out]; omega))
            have hC : ¬ cmpI ((T * T : Nat) : Int) (A : Int) ≤ 0 := cmp_gt (by have := hle; omega)
            generalize cmpI ((T * T : Nat) : Int) (A : Int) = C at *
            have hC2 : decide (C ≤ 0) = false := by simpa using hC
            clear hle hC
            go_wp2
            exact ⟨⟨i, R, by go_num, by omega, HR4.out, HN.out, HB4.out⟩, by simp [intOf]⟩
end Go.Proofs.Ytmjaoeafompclaa

namespace Go.Proofs.Ytmjaoeafompclaa
open Go.RowKit Go.Shelf

theorem tmod_two (e : Int) : (e % 2 = 0 → e.tmod 2 = 0) ∧ (e % 2 ≠ 0 → e.tmod 2 = 1 ∨ e.tmod 2 = -1) := by
  rcases Int.lt_or_le e 0 with h | h
  · obtain ⟨n, rfl⟩ : ∃ n : Nat, e = -(n : Int) := ⟨e.natAbs, by omega⟩
    rw [Int.neg_tmod, Int.tmod_eq_emod_of_nonneg (by omega)]
    omega
  · rw [Int.tmod_eq_emod_of_nonneg h]
    omega
theorem tdiv_two {e : Int} (h : e % 2 = 0) : e.tdiv 2 = e / 2 := by
  rcases Int.lt_or_le e 0 with h1 | h1
  · obtain ⟨n, rfl⟩ : ∃ n : Nat, e = -(n : Int) := ⟨e.natAbs, by omega⟩
    rw [Int.neg_tdiv, Int.tdiv_eq_ediv_of_nonneg (by omega)]
    omega
  · rw [Int.tdiv_eq_ediv_of_nonneg h1]
set_option maxRecDepth 100000 in
set_option maxHeartbeats 4000000 in
theorem rsqrt5_fin (a : Int) (w : World) (ha : Wd a) (ka : kd a = 1 ∨ kd a = 2) (hs : ¬ 9223372036854775808 < a) (ia : Kin a false false false) : Calls Try.prog 16 #[.int .u64 a] w fun e w' => e = .returned (.int .u64 (sqrtI a)) ∧ Below w.heap.size w w' := by
  have hI : sqrtI a = fbits false (Pl.rt ((mant a).toNat * 2 ^ sqK (expo a))) ((expo a - sqK (expo a)) / 2) (decide (Pl.rt ((mant a).toNat * 2 ^ sqK (expo a)) * Pl.rt ((mant a).toNat * 2 ^ sqK (expo a)) < (mant a).toNat * 2 ^ sqK (expo a))) := by
    unfold sqrtI
    rw [if_neg (by omega), if_neg (by omega)]
  rw [hI]
  have NA := Lib.hid (none5r_k ha ia)
  have EA := Lib.hid (endless5r_k ha ia)
  have ZA := Lib.hid (zero5r_k ha ia)
  have SA := fun v => rsplit_any a v ha
  have ma := mant_bd (x := a)
  have ea := expo_bd (x := a)
  have a0 := ha.1
  obtain ⟨m, hm⟩ : ∃ m : Nat, mant a = m := ⟨(mant a).toNat, by omega⟩
  obtain ⟨e, he⟩ : ∃ e, expo a = e := ⟨_, rfl⟩
  rw [hm] at SA ma ⊢
  rw [he] at SA ea ⊢
  rw [Int.toNat_natCast]
  obtain ⟨k, hk⟩ : ∃ k, sqK e = k := ⟨_, rfl⟩
  have hk1 : (k = 128 ∧ e % 2 = 0) ∨ (k = 129 ∧ e % 2 ≠ 0) := by
    rw [← hk]
    unfold sqK
    by_cases h : e % 2 = 0
    · rw [if_pos h]; exact .inl ⟨rfl, h⟩
    · rw [if_neg h]; exact .inr ⟨rfl, h⟩
  rw [hk]
  obtain ⟨M, hM⟩ : ∃ M, m * 2 ^ k = M := ⟨_, rfl⟩
  have bm : m < Pl.B32 ^ 2 := by rw [b32_2]; omega
  have bM0 : M < 2 ^ 190 := by
    rw [← hM]
    refine Nat.lt_of_lt_of_le ((Nat.mul_lt_mul_right (Nat.two_pow_pos k)).2 (show m < 2 ^ 53 by omega)) ?_
    rw [← Nat.pow_add]
    exact Nat.pow_le_pow_right (by decide) (by omega)
  have bM : M < Pl.B32 ^ 7 := limb_bd bM0 (by decide)
  have bM2 : M < 2 ^ 200 := Nat.lt_of_lt_of_le bM0 (Nat.pow_le_pow_right (by decide) (by decide))
  have hm53 : m < 18446744073709551616 := by omega
  have CN := fun (v : World) => rnat_any m v hm53
  have CU := fun (v : World) (y : Value) (hy : NatV v y m) => up_v k (hy.slice bm) (by decide) (by omega)
  rw [hM] at CU ⊢
  have CR := fun (v : World) (y : Value) (hy : NatV v y M) => root5r_any (hy.slice bM) (by decide) bM2
  have hsq := (Pl.rt_spec M).1
  have bR : Pl.rt M < Pl.B32 ^ 4 := rt_lt (Nat.lt_of_lt_of_le bM0 (by decide))
  have hK : (e - (k : Int)) % 2 = 0 := by omega
  have htd := tdiv_two hK
  obtain ⟨hme, hmo⟩ := tmod_two e
  generalize Pl.rt M = R at *
  have CT := fun (v : World) (y : Value) (hy : SliceV v y R 4) => times1_v hy hy (by decide)
  have bT : R * R < Pl.B32 ^ 7 := Nat.lt_of_le_of_lt hsq bM
  have CC := fun (v : World) (x y : Value) (hx : NatV v x (R * R)) (hy : NatV v y M) => rcmp_v (hx.slice bT) (hy.slice bM) (by decide)
  have CD := fun (v : World) (y : Value) (b : Bool) (hy : SliceV v y R 4) => round_any false b ((e - (k : Int)) / 2) v hy (by decide) (by omega)
  obtain ⟨C, hC⟩ : ∃ C, cmpI ((R * R : Nat) : Int) (M : Int) = C := ⟨_, rfl⟩
  have hCd : decide (C < 0) = decide (R * R < M) := by
    rw [← hC]
    by_cases h : R * R < M
    · rw [decide_eq_true h, cmp_lt' h]; rfl
    · rw [decide_eq_false h]
      have : R * R = M := by omega
      rw [cmp_eq' this]; rfl
  rw [hC] at CC
  rw [← hCd]
  obtain ⟨E2, hE2⟩ : ∃ E2, (e - (k : Int)) / 2 = E2 := ⟨_, rfl⟩
  rw [hE2] at CD htd ⊢
  have hE3 : -2000 ≤ E2 ∧ E2 ≤ 2000 := by omega
  replace SA := Lib.hid SA
  replace CN := Lib.hid CN
  replace CR := Lib.hid CR
  replace CT := Lib.hid CT
  replace CC := Lib.hid CC
  replace CD := Lib.hid CD
  have HB := Bel.re w
  have hs0 : decide (9223372036854775808 < a) = false := by simpa using hs
  have HMO := Lib.hid hmo
  have HME := Lib.hid hme
  obtain ⟨K, hKK⟩ : ∃ K : Int, (k : Int) = K := ⟨_, rfl⟩
  have hk2 : (K = 128 ∧ e % 2 = 0) ∨ (K = 129 ∧ e % 2 ≠ 0) := by omega
  rw [hKK] at CU htd
  replace CU := Lib.hid CU
  clear hI ha ka ia hm he hk hM bm bM bM0 bM2 hsq bR bT hC hCd hE2 hK hs hmo hme hk1 hKK hm53
  have main : ∀ t : Int, e.tmod 2 = t → (K = 128 ∧ t = 0) ∨ (K = 129 ∧ (t = 1 ∨ t = -1)) → Calls Try.prog 16 #[.int .u64 a] w fun e w' => e = .returned (.int .u64 (fbits false R E2 (decide (C < 0)))) ∧ Below w.heap.size w w' := by
    intro t ht hor
    rcases hor with ⟨rfl, rfl⟩ | ⟨rfl, rfl | rfl⟩
    all_goals
      go_enter Try.func16, Try.ntmps16
      go_wp2_with (first | (go_at_call 36; (first | (with_reducible refine (NA.out _).mono ?_)); rintro e w' ⟨rfl, rfl⟩) | (go_at_call 37; (first | (with_reducible refine (EA.out _).mono ?_)); rintro e w' ⟨rfl, rfl⟩) | (go_at_call 38; (first | (with_reducible refine (ZA.out _).mono ?_)); rintro e w' ⟨rfl, rfl⟩) | (go_at_call 35; (first | (with_reducible refine (ris_any a _).mono ?_)); rintro e w' ⟨rfl, rfl⟩) | (go_at_call 27; (with_reducible refine (SA.out _).mono ?_); rintro e w' ⟨rfl, rfl⟩))
      (with_reducible refine (CN.out _).mono ?_)
      rintro r w1 ⟨v1, rfl, hv1, hb1⟩
      replace HB := Bel.st HB hb1
      clear hb1
      go_wp2_with fail
      (with_reducible refine (CU.out _ _ hv1).mono ?_)
      rintro r w2 ⟨v2, rfl, hv2, hb2⟩
      replace HB := Bel.st HB hb2
      clear hb2 hv1
      go_wp2_with fail
      (with_reducible refine (CR.out _ _ hv2).mono ?_)
      rintro r w3 ⟨v3, rfl, hv3, hb3⟩
      replace HB := Bel.st HB hb3
      replace hv2 := hv2.below hb3
      clear hb3
      go_wp2_with fail
      (with_reducible refine (CT.out _ _ hv3).mono ?_)
      rintro r w4 ⟨v4, rfl, hv4, hb4⟩
      replace HB := Bel.st HB hb4
      replace hv2 := hv2.below hb4
      replace hv3 := hv3.below hb4
      clear hb4
      go_wp2_with fail
      (with_reducible refine (CC.out _ _ _ hv4 hv2).mono ?_)
      rintro r w5 ⟨rfl, hb5⟩
      replace HB := Bel.st HB hb5
      replace hv3 := hv3.below hb5
      clear hb5 hv4 hv2
      go_wp2_with fail
      (with_reducible refine (CD.out _ _ _ hv3).mono ?_)
      rintro r w6 ⟨rfl, hb6⟩
      replace HB := Bel.st HB hb6
      clear hb6
      go_wp2
      go_ret
      exact ⟨rfl, HB⟩
  rcases hk2 with ⟨h1, h2⟩ | ⟨h1, h2⟩
  · exact main _ rfl (.inl ⟨h1, HME.out h2⟩)
  · exact main _ rfl (.inr ⟨h1, HMO.out h2⟩)

set_option maxRecDepth 100000 in
set_option maxHeartbeats 4000000 in
theorem rsqrt5_any (a : Int) (w : World) (ha : Wd a) : Calls Try.prog 16 #[.int .u64 a] w fun e w' => e = .returned (.int .u64 (sqrtI a)) ∧ Below w.heap.size w w' := by
  have a0 := ha.1
  rcases kin_cases a with ⟨ka, ia⟩ | ⟨ka, ia⟩ | ⟨ka, ia⟩ | ⟨ka, ia⟩
  · have hI : sqrtI a = 9221120237041090560 := by unfold sqrtI; rw [if_pos (.inl ka)]; rfl
    rw [hI]
    have NA := Lib.hid (none5r_k ha ia)
    have EA := Lib.hid (endless5r_k ha ia)
    have ZA := Lib.hid (zero5r_k ha ia)
    clear hI ia ka ha
    go_enter Try.func16, Try.ntmps16
    go_wp2_with (first | (go_at_call 36; (first | (with_reducible refine (NA.out _).mono ?_)); rintro e w' ⟨rfl, rfl⟩) | (go_at_call 37; (first | (with_reducible refine (EA.out _).mono ?_)); rintro e w' ⟨rfl, rfl⟩) | (go_at_call 38; (first | (with_reducible refine (ZA.out _).mono ?_)); rintro e w' ⟨rfl, rfl⟩) | (go_at_call 35; (first | (with_reducible refine (ris_any a _).mono ?_)); rintro e w' ⟨rfl, rfl⟩))
    all_goals (go_ret; exact ⟨rfl, Below.refl _ _⟩)
  · by_cases hs : 9223372036854775808 < a
    · have hI : sqrtI a = 9221120237041090560 := by unfold sqrtI; rw [if_pos (.inr hs)]; rfl
      rw [hI]
      have NA := Lib.hid (none5r_k ha ia)
      have EA := Lib.hid (endless5r_k ha ia)
      have ZA := Lib.hid (zero5r_k ha ia)
      clear hI ia ka ha
      go_enter Try.func16, Try.ntmps16
      go_wp2_with (first | (go_at_call 36; (first | (with_reducible refine (NA.out _).mono ?_)); rintro e w' ⟨rfl, rfl⟩) | (go_at_call 37; (first | (with_reducible refine (EA.out _).mono ?_)); rintro e w' ⟨rfl, rfl⟩) | (go_at_call 38; (first | (with_reducible refine (ZA.out _).mono ?_)); rintro e w' ⟨rfl, rfl⟩) | (go_at_call 35; (first | (with_reducible refine (ris_any a _).mono ?_)); rintro e w' ⟨rfl, rfl⟩))
      all_goals (go_ret; exact ⟨rfl, Below.refl _ _⟩)
    · have hI : sqrtI a = a := by unfold sqrtI; rw [if_neg (by omega), if_pos (.inr ka)]
      have hs0 : decide (9223372036854775808 < a) = false := by simpa using hs
      rw [hI]
      clear hs
      have NA := Lib.hid (none5r_k ha ia)
      have EA := Lib.hid (endless5r_k ha ia)
      have ZA := Lib.hid (zero5r_k ha ia)
      clear hI ia ka ha
      go_enter Try.func16, Try.ntmps16
      go_wp2_with (first | (go_at_call 36; (first | (with_reducible refine (NA.out _).mono ?_)); rintro e w' ⟨rfl, rfl⟩) | (go_at_call 37; (first | (with_reducible refine (EA.out _).mono ?_)); rintro e w' ⟨rfl, rfl⟩) | (go_at_call 38; (first | (with_reducible refine (ZA.out _).mono ?_)); rintro e w' ⟨rfl, rfl⟩) | (go_at_call 35; (first | (with_reducible refine (ris_any a _).mono ?_)); rintro e w' ⟨rfl, rfl⟩))
      all_goals (go_ret; exact ⟨rfl, Below.refl _ _⟩)
  · have hs : ¬ 9223372036854775808 < a := by
      rcases zero_word ha ka with h | h <;> omega
    have hI : sqrtI a = a := by unfold sqrtI; rw [if_neg (by omega), if_pos (.inl ka)]
    have hs0 : decide (9223372036854775808 < a) = false := by simpa using hs
    rw [hI]
    clear hs
    have NA := Lib.hid (none5r_k ha ia)
    have EA := Lib.hid (endless5r_k ha ia)
    have ZA := Lib.hid (zero5r_k ha ia)
    clear hI ia ka ha
    go_enter Try.func16, Try.ntmps16
    go_wp2_with (first | (go_at_call 36; (first | (with_reducible refine (NA.out _).mono ?_)); rintro e w' ⟨rfl, rfl⟩) | (go_at_call 37; (first | (with_reducible refine (EA.out _).mono ?_)); rintro e w' ⟨rfl, rfl⟩) | (go_at_call 38; (first | (with_reducible refine (ZA.out _).mono ?_)); rintro e w' ⟨rfl, rfl⟩) | (go_at_call 35; (first | (with_reducible refine (ris_any a _).mono ?_)); rintro e w' ⟨rfl, rfl⟩))
    all_goals (go_ret; exact ⟨rfl, Below.refl _ _⟩)
  · by_cases hs : 9223372036854775808 < a
    · have hI : sqrtI a = 9221120237041090560 := by unfold sqrtI; rw [if_pos (.inr hs)]; rfl
      rw [hI]
      have NA := Lib.hid (none5r_k ha ia)
      have EA := Lib.hid (endless5r_k ha ia)
      have ZA := Lib.hid (zero5r_k ha ia)
      clear hI ia ka ha
      go_enter Try.func16, Try.ntmps16
      go_wp2_with (first | (go_at_call 36; (first | (with_reducible refine (NA.out _).mono ?_)); rintro e w' ⟨rfl, rfl⟩) | (go_at_call 37; (first | (with_reducible refine (EA.out _).mono ?_)); rintro e w' ⟨rfl, rfl⟩) | (go_at_call 38; (first | (with_reducible refine (ZA.out _).mono ?_)); rintro e w' ⟨rfl, rfl⟩) | (go_at_call 35; (first | (with_reducible refine (ris_any a _).mono ?_)); rintro e w' ⟨rfl, rfl⟩))
      all_goals (go_ret; exact ⟨rfl, Below.refl _ _⟩)
    · exact rsqrt5_fin a w ha ka hs ia

end Go.Proofs.Ytmjaoeafompclaa

namespace Go.Proofs.Ytmjaoeafompclaa
open Go.RowKit Go.Shelf

theorem mod_ge {a b : Int} {j : Nat} (ka : kd a = 1 ∨ kd a = 2) (kb : kd b = 1 ∨ kd b = 2) (hj : expo a = expo b + j) : modI a b = fbits (sgn a) ((mant a).toNat * 2 ^ j % (mant b).toNat) (expo b) false := by
  have hb1 := expo_bd (x := b)
  unfold modI
  rw [if_neg (by omega), if_neg (by omega)]
  unfold fn
  obtain ⟨k, hk⟩ : ∃ k : Nat, expo b + 1074 = k := ⟨(expo b + 1074).toNat, by omega⟩
  rw [show (expo a + 1074).toNat = j + k by omega, show (expo b + 1074).toNat = k by omega]
  exact mod_scale _ _ j k _ _ hk
theorem mod_lt {a b : Int} {j : Nat} (ka : kd a = 1 ∨ kd a = 2) (kb : kd b = 1 ∨ kd b = 2) (hj : expo b = expo a + j) : modI a b = fbits (sgn a) ((mant a).toNat % ((mant b).toNat * 2 ^ j)) (expo a) false := by
  have ha1 := expo_bd (x := a)
  unfold modI
  rw [if_neg (by omega), if_neg (by omega)]
  unfold fn
  obtain ⟨k, hk⟩ : ∃ k : Nat, expo a + 1074 = k := ⟨(expo a + 1074).toNat, by omega⟩
  rw [show (expo b + 1074).toNat = j + k by omega, show (expo a + 1074).toNat = k by omega, Nat.pow_add, ← Nat.mul_assoc, Nat.mul_mod_mul_right, fbits_scale, show (-1074 : Int) + k = expo a by omega]
set_option maxRecDepth 100000 in
set_option maxHeartbeats 4000000 in
theorem rmod5_ge (a b : Int) (j : Nat) (w : World) (ha : Wd a) (hb : Wd b) (ka : kd a = 1 ∨ kd a = 2) (kb : kd b = 1 ∨ kd b = 2) (ia : Kin a false false false) (ib : Kin b false false false) (hj : expo a = expo b + j) : Calls Try.prog 20 #[.int .u64 a, .int .u64 b] w fun e w' => e = .returned (.int .u64 (modI a b)) ∧ Below w.heap.size w w' := by
  rw [mod_ge ka kb hj]
  have NA := Lib.hid (none5r_k ha ia)
  have EA := Lib.hid (endless5r_k ha ia)
  have ZA := Lib.hid (zero5r_k ha ia)
  have NB := Lib.hid (none5r_k hb ib)
  have EB := Lib.hid (endless5r_k hb ib)
  have ZB := Lib.hid (zero5r_k hb ib)
  have SA := fun v => rsplit_any a v ha
  have SB := fun v => rsplit_any b v hb
  have ma := mant_bd (x := a)
  have mb := mant_bd (x := b)
  have mb0 := mant_pos kb
  have eb := expo_bd (x := b)
  have ea := expo_bd (x := a)
  obtain ⟨m, hm⟩ : ∃ m : Nat, mant a = m := ⟨(mant a).toNat, by omega⟩
  obtain ⟨n, hn⟩ : ∃ n : Nat, mant b = n := ⟨(mant b).toNat, by omega⟩
  obtain ⟨f, hf⟩ : ∃ f, expo b = f := ⟨_, rfl⟩
  rw [hm] at SA ma
  rw [hn] at SB mb mb0
  rw [hf] at SB eb hj
  rw [hj] at SA ea
  rw [hm, hn, hf, Int.toNat_natCast, Int.toNat_natCast]
  have n0 : 0 < n := by omega
  have M0 := Lib.hid (ModAt.start (m := m) (j := j) n0)
  have hRn : m * 2 ^ j % n < n := Nat.mod_lt _ n0
  generalize m * 2 ^ j % n = R at *
  generalize sgn a = s at *
  have hn53 : n < 9007199254740992 := by omega
  have hR64 : R < 18446744073709551616 := by omega
  have CN := fun v => rnat_any R v hR64
  have bR : R < Pl.B32 ^ 2 := by rw [b32_2]; exact hR64
  have CJ := fun (v : World) (y : Value) (hy : NatV v y R) => round_any s false f v (hy.slice bR) (by decide) (by omega)
  generalize fbits s R f false = Z at *
  have hdl : decide (f + (j : Int) < f) = false := by simp; omega
  replace SA := Lib.hid SA
  replace SB := Lib.hid SB
  replace CN := Lib.hid CN
  replace CJ := Lib.hid CJ
  clear ha hb ka kb ia ib hj hm hn hf mb0 hR64 bR
  go_enter Try.func20, Try.ntmps20
  go_wp2_with (first | (go_at_call 36; (first | (with_reducible refine (NA.out _).mono ?_) | (with_reducible refine (NB.out _).mono ?_)); rintro e w' ⟨rfl, rfl⟩) | (go_at_call 37; (first | (with_reducible refine (EA.out _).mono ?_) | (with_reducible refine (EB.out _).mono ?_)); rintro e w' ⟨rfl, rfl⟩) | (go_at_call 38; (first | (with_reducible refine (ZA.out _).mono ?_) | (with_reducible refine (ZB.out _).mono ?_)); rintro e w' ⟨rfl, rfl⟩) | (go_at_call 35; (first | (with_reducible refine (ris_any a _).mono ?_) | (with_reducible refine (ris_any b _).mono ?_)); rintro e w' ⟨rfl, rfl⟩) | (go_at_call 27; (first | (with_reducible refine (SA.out _).mono ?_) | (with_reducible refine (SB.out _).mono ?_)); rintro e w' ⟨rfl, rfl⟩))
  go_loop [14, 15] (fun rv iv => ∃ r i k : Nat, rv = .int .u64 r ∧ iv = .int .i64 i ∧ i + k = j ∧ ModAt R n r k) (fun _ iv => j - (intOf iv).toNat)
  case atStart => exact ⟨m % n, 0, j, by go_num, rfl, by omega, M0.out⟩
  case round =>
    obtain ⟨r, i, k, rfl, rfl, hik, hat⟩ := hrel
    have hr := hat.lt
    have HA := Lib.hid hat
    have HIK := Lib.hid hik
    clear hat M0
    cases k with
    | zero =>
      obtain rfl := HA.out.done
      have hi : ¬ (i : Int) < f + (j : Int) - f := by omega
      clear HA hik
      go_wp2_with fail
      (with_reducible refine (CN.out _).mono ?_)
      rintro e w1 ⟨v1, rfl, hv1, hb1⟩
      go_wp2_with fail
      (with_reducible refine (CJ.out _ _ hv1).mono ?_)
      rintro e w2 ⟨rfl, hb2⟩
      have HB := Bel.st (Bel.st (Bel.re w) hb1) hb2
      clear hb1 hb2 hv1
      go_wp2
      go_ret
      exact ⟨rfl, HB⟩
    | succ k =>
      have hi : (i : Int) < f + (j : Int) - f := by omega
      have HS := Lib.hid (show ModAt R n (2 * r % n) k by
        have := HA.out.step (d := 1)
        rw [show r * 2 ^ 1 = 2 * r by omega] at this
        exact this)
      clear hik
      go_wp2
      exact ⟨⟨2 * r % n, i + 1, k, by go_num, by go_num, by have := HIK.out; omega, HS.out⟩, by have := HIK.out; simp [intOf]; omega⟩

set_option maxRecDepth 100000 in
set_option maxHeartbeats 4000000 in
theorem rmod5_lt (a b : Int) (j : Nat) (w : World) (ha : Wd a) (hb : Wd b) (ka : kd a = 1 ∨ kd a = 2) (kb : kd b = 1 ∨ kd b = 2) (ia : Kin a false false false) (ib : Kin b false false false) (hj : expo b = expo a + j) (hj0 : 0 < j) : Calls Try.prog 20 #[.int .u64 a, .int .u64 b] w fun e w' => e = .returned (.int .u64 (modI a b)) ∧ Below w.heap.size w w' := by
  rw [mod_lt ka kb hj]
  have NA := Lib.hid (none5r_k ha ia)
  have EA := Lib.hid (endless5r_k ha ia)
  have ZA := Lib.hid (zero5r_k ha ia)
  have NB := Lib.hid (none5r_k hb ib)
  have EB := Lib.hid (endless5r_k hb ib)
  have ZB := Lib.hid (zero5r_k hb ib)
  have SA := fun v => rsplit_any a v ha
  have SB := fun v => rsplit_any b v hb
  have ma := mant_bd (x := a)
  have mb := mant_bd (x := b)
  have mb0 := mant_pos kb
  have eb := expo_bd (x := b)
  have ea := expo_bd (x := a)
  obtain ⟨m, hm⟩ : ∃ m : Nat, mant a = m := ⟨(mant a).toNat, by omega⟩
  obtain ⟨n, hn⟩ : ∃ n : Nat, mant b = n := ⟨(mant b).toNat, by omega⟩
  obtain ⟨f, hf⟩ : ∃ f, expo a = f := ⟨_, rfl⟩
  rw [hm] at SA ma
  rw [hn] at SB mb mb0
  rw [hf] at SA ea hj
  rw [hj] at SB eb
  rw [hm, hn, hf, Int.toNat_natCast, Int.toNat_natCast]
  have n0 : 0 < n := by omega
  obtain ⟨X, hX⟩ : ∃ X, n * 2 ^ j = X := ⟨_, rfl⟩
  have bm : m < Pl.B32 ^ 2 := by rw [b32_2]; omega
  have bn : n < Pl.B32 ^ 2 := by rw [b32_2]; omega
  have hX0 : 0 < X := by rw [← hX]; exact Nat.mul_pos n0 (Nat.two_pow_pos j)
  have bX : X < Pl.B32 ^ 70 := by
    have h2 : X < 2 ^ 53 * 2 ^ j := by rw [← hX]; exact (Nat.mul_lt_mul_right (Nat.two_pow_pos j)).2 (by omega)
    rw [← Nat.pow_add] at h2
    exact limb_bd h2 (by omega)
  have bm2 : m < Pl.B32 ^ 70 := Nat.lt_of_lt_of_le bm (Nat.pow_le_pow_right Pl.B32_pos (by decide))
  have hm64 : m < 18446744073709551616 := by omega
  have hn64 : n < 18446744073709551616 := by omega
  have CM := fun v => rnat_any m v hm64
  have CN := fun v => rnat_any n v hn64
  have CU := fun (v : World) (y : Value) (hy : NatV v y n) => up_v j (hy.slice bn) (by decide) (by omega)
  rw [hX] at CU ⊢
  have CC := fun (v : World) (x y : Value) (hx : NatV v x m) (hy : NatV v y X) => rcmp_v (hx.slice bm2) (hy.slice bX) (by decide)
  have CP := fun (v : World) (x y : Value) (hx : NatV v x m) (hy : NatV v y X) => parts_v (hx.slice bm2) (hy.slice bX) (by decide) hX0
  have bR : m % X < Pl.B32 ^ 2 := Nat.lt_of_le_of_lt (Nat.mod_le _ _) bm
  generalize sgn a = s at *
  have CJ := fun (v : World) (y : Value) (hy : NatV v y (m % X)) => round_any s false f v (hy.slice bR) (by decide) (by omega)
  have hlt := fun (h : m < X) => Nat.mod_eq_of_lt h
  have hcl := fun (h : m < X) => cmp_lt' h
  have hcg := fun (h : X ≤ m) => cmp_ge' h
  obtain ⟨C, hC⟩ : ∃ C, cmpI (m : Int) (X : Int) = C := ⟨_, rfl⟩
  rw [hC] at CC hcl hcg
  generalize fbits s (m % X) f false = Z at *
  generalize m % X = R at *
  generalize m / X = Q at *
  have hdl : f < f + (j : Int) := by omega
  have hjs : f + (j : Int) - f = (j : Int) := by omega
  have HLT := Lib.hid hlt
  have hor : (C = -1 ∧ R = m) ∨ 0 ≤ C := by
    rcases Nat.lt_or_ge m X with h | h
    · exact .inl ⟨hcl h, hlt h⟩
    · exact .inr (hcg h)
  replace SA := Lib.hid SA
  replace SB := Lib.hid SB
  replace CM := Lib.hid CM
  replace CN := Lib.hid CN
  replace CU := Lib.hid CU
  replace CC := Lib.hid CC
  replace CP := Lib.hid CP
  replace CJ := Lib.hid CJ
  have HB := Bel.re w
  have hj2 : (j : Int) ≤ 2045 := by omega
  clear ha hb ka kb ia ib hj hm hn hf mb0 bR bm bn bX bm2 hm64 hn64 hX hX0 hlt hcl hcg hC HLT
  have start : ∀ _t : True, True := fun _ => trivial
  clear start
  rcases hor with ⟨rfl, rfl⟩ | h0
  · skip
    go_enter Try.func20, Try.ntmps20
    go_wp2_with (first | (go_at_call 36; (first | (with_reducible refine (NA.out _).mono ?_) | (with_reducible refine (NB.out _).mono ?_)); rintro e w' ⟨rfl, rfl⟩) | (go_at_call 37; (first | (with_reducible refine (EA.out _).mono ?_) | (with_reducible refine (EB.out _).mono ?_)); rintro e w' ⟨rfl, rfl⟩) | (go_at_call 38; (first | (with_reducible refine (ZA.out _).mono ?_) | (with_reducible refine (ZB.out _).mono ?_)); rintro e w' ⟨rfl, rfl⟩) | (go_at_call 35; (first | (with_reducible refine (ris_any a _).mono ?_) | (with_reducible refine (ris_any b _).mono ?_)); rintro e w' ⟨rfl, rfl⟩) | (go_at_call 27; (first | (with_reducible refine (SA.out _).mono ?_) | (with_reducible refine (SB.out _).mono ?_)); rintro e w' ⟨rfl, rfl⟩))
    (with_reducible refine (CN.out _).mono ?_)
    rintro e w1 ⟨v1, rfl, hv1, hb1⟩
    replace HB := Bel.st HB hb1
    clear hb1
    go_wp2_with fail
    (with_reducible refine (CU.out _ _ hv1).mono ?_)
    rintro e w2 ⟨v2, rfl, hv2, hb2⟩
    replace HB := Bel.st HB hb2
    clear hb2 hv1
    go_wp2_with fail
    (with_reducible refine (CM.out _).mono ?_)
    rintro e w3 ⟨v3, rfl, hv3, hb3⟩
    replace HB := Bel.st HB hb3
    replace hv2 := hv2.below hb3
    clear hb3
    go_wp2_with fail
    (with_reducible refine (CC.out _ _ _ hv3 hv2).mono ?_)
    rintro e w4 ⟨rfl, hb4⟩
    replace HB := Bel.st HB hb4
    replace hv2 := hv2.below hb4
    replace hv3 := hv3.below hb4
    clear hb4
    clear hv2
    go_wp2_with fail
    (with_reducible refine (CJ.out _ _ hv3).mono ?_)
    rintro e w5 ⟨rfl, hb5⟩
    replace HB := Bel.st HB hb5
    clear hb5
    go_wp2
    go_ret
    exact ⟨rfl, HB⟩
  · skip
    go_enter Try.func20, Try.ntmps20
    go_wp2_with (first | (go_at_call 36; (first | (with_reducible refine (NA.out _).mono ?_) | (with_reducible refine (NB.out _).mono ?_)); rintro e w' ⟨rfl, rfl⟩) | (go_at_call 37; (first | (with_reducible refine (EA.out _).mono ?_) | (with_reducible refine (EB.out _).mono ?_)); rintro e w' ⟨rfl, rfl⟩) | (go_at_call 38; (first | (with_reducible refine (ZA.out _).mono ?_) | (with_reducible refine (ZB.out _).mono ?_)); rintro e w' ⟨rfl, rfl⟩) | (go_at_call 35; (first | (with_reducible refine (ris_any a _).mono ?_) | (with_reducible refine (ris_any b _).mono ?_)); rintro e w' ⟨rfl, rfl⟩) | (go_at_call 27; (first | (with_reducible refine (SA.out _).mono ?_) | (with_reducible refine (SB.out _).mono ?_)); rintro e w' ⟨rfl, rfl⟩))
    (with_reducible refine (CN.out _).mono ?_)
    rintro e w1 ⟨v1, rfl, hv1, hb1⟩
    replace HB := Bel.st HB hb1
    clear hb1
    go_wp2_with fail
    (with_reducible refine (CU.out _ _ hv1).mono ?_)
    rintro e w2 ⟨v2, rfl, hv2, hb2⟩
    replace HB := Bel.st HB hb2
    clear hb2 hv1
    go_wp2_with fail
    (with_reducible refine (CM.out _).mono ?_)
    rintro e w3 ⟨v3, rfl, hv3, hb3⟩
    replace HB := Bel.st HB hb3
    replace hv2 := hv2.below hb3
    clear hb3
    go_wp2_with fail
    (with_reducible refine (CC.out _ _ _ hv3 hv2).mono ?_)
    rintro e w4 ⟨rfl, hb4⟩
    replace HB := Bel.st HB hb4
    replace hv2 := hv2.below hb4
    replace hv3 := hv3.below hb4
    clear hb4
    go_wp2_with fail
    (with_reducible refine (CP.out _ _ _ hv3 hv2).mono ?_)
    rintro e w5 ⟨v4, v5, rfl, hv4, hv5, hb5⟩
    replace HB := Bel.st HB hb5
    clear hb5 hv2 hv3 hv4
    go_wp2_with fail
    (with_reducible refine (CJ.out _ _ hv5).mono ?_)
    rintro e w6 ⟨rfl, hb6⟩
    replace HB := Bel.st HB hb6
    clear hb6
    go_wp2
    go_ret
    exact ⟨rfl, HB⟩
set_option maxRecDepth 100000 in
set_option maxHeartbeats 4000000 in
theorem rmod5_any (a b : Int) (w : World) (ha : Wd a) (hb : Wd b) : Calls Try.prog 20 #[.int .u64 a, .int .u64 b] w fun e w' => e = .returned (.int .u64 (modI a b)) ∧ Below w.heap.size w w' := by
  have bb := kd_bd b
  rcases kin_cases a with ⟨ka, ia⟩ | ⟨ka, ia⟩ | ⟨ka, ia⟩ | ⟨ka, ia⟩
  · skip
    have ib : Kin b (kd b == 4) (kd b == 3) (kd b == 0) := ⟨rfl, rfl, rfl⟩
    have hI : modI a b = 9221120237041090560 := by unfold modI; rw [if_pos (by omega)]; rfl
    rw [hI]
    have NA := Lib.hid (none5r_k ha ia)
    have EA := Lib.hid (endless5r_k ha ia)
    have ZA := Lib.hid (zero5r_k ha ia)
    have NB := Lib.hid (none5r_k hb ib)
    have EB := Lib.hid (endless5r_k hb ib)
    have ZB := Lib.hid (zero5r_k hb ib)
    clear hI ia ib ha hb bb ka
    go_enter Try.func20, Try.ntmps20
    go_wp2_with (first | (go_at_call 36; (first | (with_reducible refine (NA.out _).mono ?_) | (with_reducible refine (NB.out _).mono ?_)); rintro e w' ⟨rfl, rfl⟩) | (go_at_call 37; (first | (with_reducible refine (EA.out _).mono ?_) | (with_reducible refine (EB.out _).mono ?_)); rintro e w' ⟨rfl, rfl⟩) | (go_at_call 38; (first | (with_reducible refine (ZA.out _).mono ?_) | (with_reducible refine (ZB.out _).mono ?_)); rintro e w' ⟨rfl, rfl⟩) | (go_at_call 35; (first | (with_reducible refine (ris_any a _).mono ?_) | (with_reducible refine (ris_any b _).mono ?_)); rintro e w' ⟨rfl, rfl⟩))
    all_goals (go_ret; exact ⟨rfl, Below.refl _ _⟩)
  · rcases kin_cases b with ⟨kb, ib⟩ | ⟨kb, ib⟩ | ⟨kb, ib⟩ | ⟨kb, ib⟩
    · skip
      have hI : modI a b = 9221120237041090560 := by unfold modI; rw [if_pos (by omega)]; rfl
      rw [hI]
      have NA := Lib.hid (none5r_k ha ia)
      have EA := Lib.hid (endless5r_k ha ia)
      have ZA := Lib.hid (zero5r_k ha ia)
      have NB := Lib.hid (none5r_k hb ib)
      have EB := Lib.hid (endless5r_k hb ib)
      have ZB := Lib.hid (zero5r_k hb ib)
      clear hI ia ib ha hb bb ka kb
      go_enter Try.func20, Try.ntmps20
      go_wp2_with (first | (go_at_call 36; (first | (with_reducible refine (NA.out _).mono ?_) | (with_reducible refine (NB.out _).mono ?_)); rintro e w' ⟨rfl, rfl⟩) | (go_at_call 37; (first | (with_reducible refine (EA.out _).mono ?_) | (with_reducible refine (EB.out _).mono ?_)); rintro e w' ⟨rfl, rfl⟩) | (go_at_call 38; (first | (with_reducible refine (ZA.out _).mono ?_) | (with_reducible refine (ZB.out _).mono ?_)); rintro e w' ⟨rfl, rfl⟩) | (go_at_call 35; (first | (with_reducible refine (ris_any a _).mono ?_) | (with_reducible refine (ris_any b _).mono ?_)); rintro e w' ⟨rfl, rfl⟩))
      all_goals (go_ret; exact ⟨rfl, Below.refl _ _⟩)
    · skip
      have hI : modI a b = 9221120237041090560 := by unfold modI; rw [if_pos (by omega)]; rfl
      rw [hI]
      have NA := Lib.hid (none5r_k ha ia)
      have EA := Lib.hid (endless5r_k ha ia)
      have ZA := Lib.hid (zero5r_k ha ia)
      have NB := Lib.hid (none5r_k hb ib)
      have EB := Lib.hid (endless5r_k hb ib)
      have ZB := Lib.hid (zero5r_k hb ib)
      clear hI ia ib ha hb bb ka kb
      go_enter Try.func20, Try.ntmps20
      go_wp2_with (first | (go_at_call 36; (first | (with_reducible refine (NA.out _).mono ?_) | (with_reducible refine (NB.out _).mono ?_)); rintro e w' ⟨rfl, rfl⟩) | (go_at_call 37; (first | (with_reducible refine (EA.out _).mono ?_) | (with_reducible refine (EB.out _).mono ?_)); rintro e w' ⟨rfl, rfl⟩) | (go_at_call 38; (first | (with_reducible refine (ZA.out _).mono ?_) | (with_reducible refine (ZB.out _).mono ?_)); rintro e w' ⟨rfl, rfl⟩) | (go_at_call 35; (first | (with_reducible refine (ris_any a _).mono ?_) | (with_reducible refine (ris_any b _).mono ?_)); rintro e w' ⟨rfl, rfl⟩))
      all_goals (go_ret; exact ⟨rfl, Below.refl _ _⟩)
    · skip
      have hI : modI a b = 9221120237041090560 := by unfold modI; rw [if_pos (by omega)]; rfl
      rw [hI]
      have NA := Lib.hid (none5r_k ha ia)
      have EA := Lib.hid (endless5r_k ha ia)
      have ZA := Lib.hid (zero5r_k ha ia)
      have NB := Lib.hid (none5r_k hb ib)
      have EB := Lib.hid (endless5r_k hb ib)
      have ZB := Lib.hid (zero5r_k hb ib)
      clear hI ia ib ha hb bb ka kb
      go_enter Try.func20, Try.ntmps20
      go_wp2_with (first | (go_at_call 36; (first | (with_reducible refine (NA.out _).mono ?_) | (with_reducible refine (NB.out _).mono ?_)); rintro e w' ⟨rfl, rfl⟩) | (go_at_call 37; (first | (with_reducible refine (EA.out _).mono ?_) | (with_reducible refine (EB.out _).mono ?_)); rintro e w' ⟨rfl, rfl⟩) | (go_at_call 38; (first | (with_reducible refine (ZA.out _).mono ?_) | (with_reducible refine (ZB.out _).mono ?_)); rintro e w' ⟨rfl, rfl⟩) | (go_at_call 35; (first | (with_reducible refine (ris_any a _).mono ?_) | (with_reducible refine (ris_any b _).mono ?_)); rintro e w' ⟨rfl, rfl⟩))
      all_goals (go_ret; exact ⟨rfl, Below.refl _ _⟩)
    · skip
      have hI : modI a b = 9221120237041090560 := by unfold modI; rw [if_pos (by omega)]; rfl
      rw [hI]
      have NA := Lib.hid (none5r_k ha ia)
      have EA := Lib.hid (endless5r_k ha ia)
      have ZA := Lib.hid (zero5r_k ha ia)
      have NB := Lib.hid (none5r_k hb ib)
      have EB := Lib.hid (endless5r_k hb ib)
      have ZB := Lib.hid (zero5r_k hb ib)
      clear hI ia ib ha hb bb ka kb
      go_enter Try.func20, Try.ntmps20
      go_wp2_with (first | (go_at_call 36; (first | (with_reducible refine (NA.out _).mono ?_) | (with_reducible refine (NB.out _).mono ?_)); rintro e w' ⟨rfl, rfl⟩) | (go_at_call 37; (first | (with_reducible refine (EA.out _).mono ?_) | (with_reducible refine (EB.out _).mono ?_)); rintro e w' ⟨rfl, rfl⟩) | (go_at_call 38; (first | (with_reducible refine (ZA.out _).mono ?_) | (with_reducible refine (ZB.out _).mono ?_)); rintro e w' ⟨rfl, rfl⟩) | (go_at_call 35; (first | (with_reducible refine (ris_any a _).mono ?_) | (with_reducible refine (ris_any b _).mono ?_)); rintro e w' ⟨rfl, rfl⟩))
      all_goals (go_ret; exact ⟨rfl, Below.refl _ _⟩)
  · rcases kin_cases b with ⟨kb, ib⟩ | ⟨kb, ib⟩ | ⟨kb, ib⟩ | ⟨kb, ib⟩
    · skip
      have hI : modI a b = 9221120237041090560 := by unfold modI; rw [if_pos (by omega)]; rfl
      rw [hI]
      have NA := Lib.hid (none5r_k ha ia)
      have EA := Lib.hid (endless5r_k ha ia)
      have ZA := Lib.hid (zero5r_k ha ia)
      have NB := Lib.hid (none5r_k hb ib)
      have EB := Lib.hid (endless5r_k hb ib)
      have ZB := Lib.hid (zero5r_k hb ib)
      clear hI ia ib ha hb bb ka kb
      go_enter Try.func20, Try.ntmps20
      go_wp2_with (first | (go_at_call 36; (first | (with_reducible refine (NA.out _).mono ?_) | (with_reducible refine (NB.out _).mono ?_)); rintro e w' ⟨rfl, rfl⟩) | (go_at_call 37; (first | (with_reducible refine (EA.out _).mono ?_) | (with_reducible refine (EB.out _).mono ?_)); rintro e w' ⟨rfl, rfl⟩) | (go_at_call 38; (first | (with_reducible refine (ZA.out _).mono ?_) | (with_reducible refine (ZB.out _).mono ?_)); rintro e w' ⟨rfl, rfl⟩) | (go_at_call 35; (first | (with_reducible refine (ris_any a _).mono ?_) | (with_reducible refine (ris_any b _).mono ?_)); rintro e w' ⟨rfl, rfl⟩))
      all_goals (go_ret; exact ⟨rfl, Below.refl _ _⟩)
    · skip
      have hI : modI a b = a := by unfold modI; rw [if_neg (by omega), if_pos (by omega)]
      rw [hI]
      have NA := Lib.hid (none5r_k ha ia)
      have EA := Lib.hid (endless5r_k ha ia)
      have ZA := Lib.hid (zero5r_k ha ia)
      have NB := Lib.hid (none5r_k hb ib)
      have EB := Lib.hid (endless5r_k hb ib)
      have ZB := Lib.hid (zero5r_k hb ib)
      clear hI ia ib ha hb bb ka kb
      go_enter Try.func20, Try.ntmps20
      go_wp2_with (first | (go_at_call 36; (first | (with_reducible refine (NA.out _).mono ?_) | (with_reducible refine (NB.out _).mono ?_)); rintro e w' ⟨rfl, rfl⟩) | (go_at_call 37; (first | (with_reducible refine (EA.out _).mono ?_) | (with_reducible refine (EB.out _).mono ?_)); rintro e w' ⟨rfl, rfl⟩) | (go_at_call 38; (first | (with_reducible refine (ZA.out _).mono ?_) | (with_reducible refine (ZB.out _).mono ?_)); rintro e w' ⟨rfl, rfl⟩) | (go_at_call 35; (first | (with_reducible refine (ris_any a _).mono ?_) | (with_reducible refine (ris_any b _).mono ?_)); rintro e w' ⟨rfl, rfl⟩))
      all_goals (go_ret; exact ⟨rfl, Below.refl _ _⟩)
    · skip
      have hI : modI a b = 9221120237041090560 := by unfold modI; rw [if_pos (by omega)]; rfl
      rw [hI]
      have NA := Lib.hid (none5r_k ha ia)
      have EA := Lib.hid (endless5r_k ha ia)
      have ZA := Lib.hid (zero5r_k ha ia)
      have NB := Lib.hid (none5r_k hb ib)
      have EB := Lib.hid (endless5r_k hb ib)
      have ZB := Lib.hid (zero5r_k hb ib)
      clear hI ia ib ha hb bb ka kb
      go_enter Try.func20, Try.ntmps20
      go_wp2_with (first | (go_at_call 36; (first | (with_reducible refine (NA.out _).mono ?_) | (with_reducible refine (NB.out _).mono ?_)); rintro e w' ⟨rfl, rfl⟩) | (go_at_call 37; (first | (with_reducible refine (EA.out _).mono ?_) | (with_reducible refine (EB.out _).mono ?_)); rintro e w' ⟨rfl, rfl⟩) | (go_at_call 38; (first | (with_reducible refine (ZA.out _).mono ?_) | (with_reducible refine (ZB.out _).mono ?_)); rintro e w' ⟨rfl, rfl⟩) | (go_at_call 35; (first | (with_reducible refine (ris_any a _).mono ?_) | (with_reducible refine (ris_any b _).mono ?_)); rintro e w' ⟨rfl, rfl⟩))
      all_goals (go_ret; exact ⟨rfl, Below.refl _ _⟩)
    · skip
      have hI : modI a b = a := by unfold modI; rw [if_neg (by omega), if_pos (by omega)]
      rw [hI]
      have NA := Lib.hid (none5r_k ha ia)
      have EA := Lib.hid (endless5r_k ha ia)
      have ZA := Lib.hid (zero5r_k ha ia)
      have NB := Lib.hid (none5r_k hb ib)
      have EB := Lib.hid (endless5r_k hb ib)
      have ZB := Lib.hid (zero5r_k hb ib)
      clear hI ia ib ha hb bb ka kb
      go_enter Try.func20, Try.ntmps20
      go_wp2_with (first | (go_at_call 36; (first | (with_reducible refine (NA.out _).mono ?_) | (with_reducible refine (NB.out _).mono ?_)); rintro e w' ⟨rfl, rfl⟩) | (go_at_call 37; (first | (with_reducible refine (EA.out _).mono ?_) | (with_reducible refine (EB.out _).mono ?_)); rintro e w' ⟨rfl, rfl⟩) | (go_at_call 38; (first | (with_reducible refine (ZA.out _).mono ?_) | (with_reducible refine (ZB.out _).mono ?_)); rintro e w' ⟨rfl, rfl⟩) | (go_at_call 35; (first | (with_reducible refine (ris_any a _).mono ?_) | (with_reducible refine (ris_any b _).mono ?_)); rintro e w' ⟨rfl, rfl⟩))
      all_goals (go_ret; exact ⟨rfl, Below.refl _ _⟩)
  · rcases kin_cases b with ⟨kb, ib⟩ | ⟨kb, ib⟩ | ⟨kb, ib⟩ | ⟨kb, ib⟩
    · skip
      have hI : modI a b = 9221120237041090560 := by unfold modI; rw [if_pos (by omega)]; rfl
      rw [hI]
      have NA := Lib.hid (none5r_k ha ia)
      have EA := Lib.hid (endless5r_k ha ia)
      have ZA := Lib.hid (zero5r_k ha ia)
      have NB := Lib.hid (none5r_k hb ib)
      have EB := Lib.hid (endless5r_k hb ib)
      have ZB := Lib.hid (zero5r_k hb ib)
      clear hI ia ib ha hb bb ka kb
      go_enter Try.func20, Try.ntmps20
      go_wp2_with (first | (go_at_call 36; (first | (with_reducible refine (NA.out _).mono ?_) | (with_reducible refine (NB.out _).mono ?_)); rintro e w' ⟨rfl, rfl⟩) | (go_at_call 37; (first | (with_reducible refine (EA.out _).mono ?_) | (with_reducible refine (EB.out _).mono ?_)); rintro e w' ⟨rfl, rfl⟩) | (go_at_call 38; (first | (with_reducible refine (ZA.out _).mono ?_) | (with_reducible refine (ZB.out _).mono ?_)); rintro e w' ⟨rfl, rfl⟩) | (go_at_call 35; (first | (with_reducible refine (ris_any a _).mono ?_) | (with_reducible refine (ris_any b _).mono ?_)); rintro e w' ⟨rfl, rfl⟩))
      all_goals (go_ret; exact ⟨rfl, Below.refl _ _⟩)
    · skip
      have hI : modI a b = a := by unfold modI; rw [if_neg (by omega), if_pos (by omega)]
      rw [hI]
      have NA := Lib.hid (none5r_k ha ia)
      have EA := Lib.hid (endless5r_k ha ia)
      have ZA := Lib.hid (zero5r_k ha ia)
      have NB := Lib.hid (none5r_k hb ib)
      have EB := Lib.hid (endless5r_k hb ib)
      have ZB := Lib.hid (zero5r_k hb ib)
      clear hI ia ib ha hb bb ka kb
      go_enter Try.func20, Try.ntmps20
      go_wp2_with (first | (go_at_call 36; (first | (with_reducible refine (NA.out _).mono ?_) | (with_reducible refine (NB.out _).mono ?_)); rintro e w' ⟨rfl, rfl⟩) | (go_at_call 37; (first | (with_reducible refine (EA.out _).mono ?_) | (with_reducible refine (EB.out _).mono ?_)); rintro e w' ⟨rfl, rfl⟩) | (go_at_call 38; (first | (with_reducible refine (ZA.out _).mono ?_) | (with_reducible refine (ZB.out _).mono ?_)); rintro e w' ⟨rfl, rfl⟩) | (go_at_call 35; (first | (with_reducible refine (ris_any a _).mono ?_) | (with_reducible refine (ris_any b _).mono ?_)); rintro e w' ⟨rfl, rfl⟩))
      all_goals (go_ret; exact ⟨rfl, Below.refl _ _⟩)
    · skip
      have hI : modI a b = 9221120237041090560 := by unfold modI; rw [if_pos (by omega)]; rfl
      rw [hI]
      have NA := Lib.hid (none5r_k ha ia)
      have EA := Lib.hid (endless5r_k ha ia)
      have ZA := Lib.hid (zero5r_k ha ia)
      have NB := Lib.hid (none5r_k hb ib)
      have EB := Lib.hid (endless5r_k hb ib)
      have ZB := Lib.hid (zero5r_k hb ib)
      clear hI ia ib ha hb bb ka kb
      go_enter Try.func20, Try.ntmps20
      go_wp2_with (first | (go_at_call 36; (first | (with_reducible refine (NA.out _).mono ?_) | (with_reducible refine (NB.out _).mono ?_)); rintro e w' ⟨rfl, rfl⟩) | (go_at_call 37; (first | (with_reducible refine (EA.out _).mono ?_) | (with_reducible refine (EB.out _).mono ?_)); rintro e w' ⟨rfl, rfl⟩) | (go_at_call 38; (first | (with_reducible refine (ZA.out _).mono ?_) | (with_reducible refine (ZB.out _).mono ?_)); rintro e w' ⟨rfl, rfl⟩) | (go_at_call 35; (first | (with_reducible refine (ris_any a _).mono ?_) | (with_reducible refine (ris_any b _).mono ?_)); rintro e w' ⟨rfl, rfl⟩))
      all_goals (go_ret; exact ⟨rfl, Below.refl _ _⟩)
    · by_cases h : expo a < expo b
      · obtain ⟨j, hj⟩ : ∃ j : Nat, expo b = expo a + j := ⟨(expo b - expo a).toNat, by omega⟩
        exact rmod5_lt a b j w ha hb ka kb ia ib hj (by omega)
      · obtain ⟨j, hj⟩ : ∃ j : Nat, expo a = expo b + j := ⟨(expo a - expo b).toNat, by omega⟩
        exact rmod5_ge a b j w ha hb ka kb ia ib hj
end Go.Proofs.Ytmjaoeafompclaa

namespace Go.Proofs.Ytmjaoeafompclaa
open Go.RowKit Go.Shelf

set_option maxRecDepth 100000 in
set_option maxHeartbeats 4000000 in
theorem rpower5_pos (a n : Int) (w : World) (ha : Wd a) (n0 : 0 ≤ n) (n1 : n < 9223372036854775808) (h4 : kd a ≠ 4) : Calls Try.prog 22 #[.int .u64 a, .int .i64 n] w fun e w' => e = .returned (.int .u64 (powI a n)) ∧ Below w.heap.size w w' := by
  have CN := fun v => none5r_any a v ha
  rw [show (kd a == 4) = false by simpa using h4] at CN
  have CM := Lib.hid (fun (x y : Int) (v : World) (hx : Wd x) (hy : Wd y) => rmul_any x y v hx hy)
  obtain ⟨u, rfl⟩ := Int.eq_ofNat_of_zero_le n0
  have hI : powI a (u : Int) = powGo a u 64 4607182418800017408 := by
    unfold powI
    rw [if_neg h4, if_neg (by omega), Int.natAbs_natCast]
  rw [hI]
  obtain ⟨T, hT⟩ : ∃ T, powGo a u 64 4607182418800017408 = T := ⟨_, rfl⟩
  rw [hT]
  have T0 := Lib.hid hT
  have hd0 : decide ((u : Int) < 0) = false := by simp
  have hu : u < 9223372036854775808 := by omega
  replace CN := Lib.hid CN
  have HA := Lib.hid ha
  have HB := Lib.hid (Bel.re w)
  clear hI ha h4 hT n0 n1
  go_enter Try.func22, Try.ntmps22
  go_wp2_with (go_at_call 36; (with_reducible refine (CN.out _).mono ?_); rintro e w' ⟨rfl, rfl⟩)
  go_loopw [6, 7] (fun pv iv wr => ∃ (k : Nat) (p : Int), iv = .int .i64 ((k : Int) - 1) ∧ k ≤ 64 ∧ pv = .int .u64 p ∧ powGo a u k p = T ∧ Wd p ∧ Below w.heap.size w wr) (fun _ iv _ => (intOf iv + 1).toNat)
  case atStart => exact ⟨64, _, by go_num, Nat.le_refl _, rfl, T0.out, wd_one, HB.out⟩
  case round =>
    obtain ⟨k, p, rfl, hk64, rfl, hpw, hwp, hB⟩ := hrel
    have HW := Lib.hid hwp
    have HB2 := Lib.hid hB
    clear hwp hB T0 HB
    cases k with
    | zero =>
      obtain rfl : p = T := hpw
      go_wp2
      go_ret
      exact ⟨rfl, HB2.out⟩
    | succ k =>
      obtain ⟨D, hD⟩ : ∃ D : Nat, u / 2 ^ k = D := ⟨_, rfl⟩
      have hpw2 : powGo a u k (if u / 2 ^ k % 2 = 1 then mulI (mulI p p) a else mulI p p) = T := hpw
      rw [hD] at hpw2
      have hDi : (u : Int) / 2 ^ k = (D : Int) := by rw [← hD]; simp
      have hDb : D ≤ u := by rw [← hD]; exact Nat.div_le_self _ _
      clear hpw hD
      rcases Nat.mod_two_eq_zero_or_one D with g | g
      · rw [if_neg (by omega)] at hpw2
        have hand : (D : Int) % 2 = 0 := by omega
        have HP := Lib.hid hpw2
        clear hpw2 g
        go_wp2_with fail
        (with_reducible refine (CM.out p p _ HW.out HW.out).mono ?_)
        rintro e w2 ⟨rfl, hb2⟩
        have HB3 := Lib.hid (Bel.st HB2.out hb2)
        clear hb2
        have HW2 := Lib.hid (wd_mul (a := p) (b := p))
        generalize mulI p p = q at *
        go_wp2
        exact ⟨⟨k, q, by go_num, by omega, rfl, HP.out, HW2.out, HB3.out⟩, by simp [intOf]⟩
      · rw [if_pos g] at hpw2
        have hand : (D : Int) % 2 = 1 := by omega
        have HP := Lib.hid hpw2
        clear hpw2 g
        go_wp2_with fail
        (with_reducible refine (CM.out p p _ HW.out HW.out).mono ?_)
        rintro e w2 ⟨rfl, hb2⟩
        have HB3 := Lib.hid (Bel.st HB2.out hb2)
        clear hb2
        have HW2 := Lib.hid (wd_mul (a := p) (b := p))
        generalize mulI p p = q at *
        go_wp2_with fail
        (with_reducible refine (CM.out q a _ HW2.out HA.out).mono ?_)
        rintro e w3 ⟨rfl, hb3⟩
        have HB4 := Lib.hid (Bel.st HB3.out hb3)
        clear hb3
        have HW3 := Lib.hid (wd_mul (a := q) (b := a))
        generalize mulI q a = q2 at *
        go_wp2
        exact ⟨⟨k, q2, by go_num, by omega, rfl, HP.out, HW3.out, HB4.out⟩, by simp [intOf]⟩
set_option maxRecDepth 100000 in
set_option maxHeartbeats 4000000 in
theorem rpower5_neg (a n : Int) (w : World) (ha : Wd a) (n0 : n < 0) (n1 : -9223372036854775808 ≤ n) (h4 : kd a ≠ 4) : Calls Try.prog 22 #[.int .u64 a, .int .i64 n] w fun e w' => e = .returned (.int .u64 (powI a n)) ∧ Below w.heap.size w w' := by
  have CN := fun v => none5r_any a v ha
  rw [show (kd a == 4) = false by simpa using h4] at CN
  have CM := Lib.hid (fun (x y : Int) (v : World) (hx : Wd x) (hy : Wd y) => rmul_any x y v hx hy)
  obtain ⟨u, rfl⟩ : ∃ u : Nat, n = -(u : Int) := ⟨n.natAbs, by omega⟩
  have hu0 : 0 < u := by omega
  have hu1 : u ≤ 9223372036854775808 := by omega
  have hI : powI a (-(u : Int)) = divI 4607182418800017408 (powGo a u 64 4607182418800017408) := by
    unfold powI
    rw [if_neg h4, if_pos n0, Int.natAbs_neg, Int.natAbs_natCast]
  rw [hI]
  have HT := wd_pow (a := a) (u := u) (k := 64) wd_one
  obtain ⟨T, hT⟩ : ∃ T, powGo a u 64 4607182418800017408 = T := ⟨_, rfl⟩
  rw [hT] at HT ⊢
  have T0 := Lib.hid hT
  have hd0 : decide (-(u : Int) < 0) = true := by simpa using hu0
  have CD := Lib.hid (fun v => rdiv5_any 4607182418800017408 T v wd_one HT)
  have hw1 : IntKind.u64.wrap (-(u : Int)) = 18446744073709551616 - (u : Int) := by rw [IntKind.wrap_u64]; omega
  have hw2 : IntKind.u64.wrap (-(18446744073709551616 - (u : Int))) = (u : Int) := by rw [IntKind.wrap_u64]; omega
  replace CN := Lib.hid CN
  have HA := Lib.hid ha
  have HB := Lib.hid (Bel.re w)
  clear hI ha h4 hT n0 n1 HT
  go_enter Try.func22, Try.ntmps22
  go_wp2_with (go_at_call 36; (with_reducible refine (CN.out _).mono ?_); rintro e w' ⟨rfl, rfl⟩)
  go_loopw [6, 7] (fun pv iv wr => ∃ (k : Nat) (p : Int), iv = .int .i64 ((k : Int) - 1) ∧ k ≤ 64 ∧ pv = .int .u64 p ∧ powGo a u k p = T ∧ Wd p ∧ Below w.heap.size w wr) (fun _ iv _ => (intOf iv + 1).toNat)
  case atStart => exact ⟨64, _, by go_num, Nat.le_refl _, rfl, T0.out, wd_one, HB.out⟩
  case round =>
    obtain ⟨k, p, rfl, hk64, rfl, hpw, hwp, hB⟩ := hrel
    have HW := Lib.hid hwp
    have HB2 := Lib.hid hB
    clear hwp hB T0 HB
    cases k with
    | zero =>
      obtain rfl : p = T := hpw
      go_wp2_with (go_at_call 14; (with_reducible refine (CD.out _).mono ?_); rintro e w3 ⟨rfl, hb3⟩)
      go_ret
      exact ⟨rfl, Bel.st HB2.out hb3⟩
    | succ k =>
      obtain ⟨D, hD⟩ : ∃ D : Nat, u / 2 ^ k = D := ⟨_, rfl⟩
      have hpw2 : powGo a u k (if u / 2 ^ k % 2 = 1 then mulI (mulI p p) a else mulI p p) = T := hpw
      rw [hD] at hpw2
      have hDi : (u : Int) / 2 ^ k = (D : Int) := by rw [← hD]; simp
      have hDb : D ≤ u := by rw [← hD]; exact Nat.div_le_self _ _
      clear hpw hD
      rcases Nat.mod_two_eq_zero_or_one D with g | g
      · rw [if_neg (by omega)] at hpw2
        have hand : (D : Int) % 2 = 0 := by omega
        have HP := Lib.hid hpw2
        clear hpw2 g
        go_wp2_with fail
        (with_reducible refine (CM.out p p _ HW.out HW.out).mono ?_)
        rintro e w2 ⟨rfl, hb2⟩
        have HB3 := Lib.hid (Bel.st HB2.out hb2)
        clear hb2
        have HW2 := Lib.hid (wd_mul (a := p) (b := p))
        generalize mulI p p = q at *
        go_wp2
        exact ⟨⟨k, q, by go_num, by omega, rfl, HP.out, HW2.out, HB3.out⟩, by simp [intOf]⟩
      · rw [if_pos g] at hpw2
        have hand : (D : Int) % 2 = 1 := by omega
        have HP := Lib.hid hpw2
        clear hpw2 g
        go_wp2_with fail
        (with_reducible refine (CM.out p p _ HW.out HW.out).mono ?_)
        rintro e w2 ⟨rfl, hb2⟩
        have HB3 := Lib.hid (Bel.st HB2.out hb2)
        clear hb2
        have HW2 := Lib.hid (wd_mul (a := p) (b := p))
        generalize mulI p p = q at *
        go_wp2_with fail
        (with_reducible refine (CM.out q a _ HW2.out HA.out).mono ?_)
        rintro e w3 ⟨rfl, hb3⟩
        have HB4 := Lib.hid (Bel.st HB3.out hb3)
        clear hb3
        have HW3 := Lib.hid (wd_mul (a := q) (b := a))
        generalize mulI q a = q2 at *
        go_wp2
        exact ⟨⟨k, q2, by go_num, by omega, rfl, HP.out, HW3.out, HB4.out⟩, by simp [intOf]⟩
theorem rpower5_any (a n : Int) (w : World) (ha : Wd a) (n0 : -9223372036854775808 ≤ n) (n1 : n < 9223372036854775808) : Calls Try.prog 22 #[.int .u64 a, .int .i64 n] w fun e w' => e = .returned (.int .u64 (powI a n)) ∧ Below w.heap.size w w' := by
  by_cases h4 : kd a = 4
  · have hI : powI a n = 9221120237041090560 := by unfold powI; rw [if_pos h4]; rfl
    have CN := fun v => none5r_any a v ha
    rw [show (kd a == 4) = true by simpa using h4] at CN
    replace CN := Lib.hid CN
    rw [hI]
    clear hI h4 ha n0 n1
    go_enter Try.func22, Try.ntmps22
    go_wp2_with (go_at_call 36; (with_reducible refine (CN.out _).mono ?_); rintro e w' ⟨rfl, rfl⟩)
    go_ret
    exact ⟨rfl, Below.refl _ _⟩
  · by_cases h0 : n < 0
    · exact rpower5_neg a n w ha h0 n0 h4
    · exact rpower5_pos a n w ha (by omega) n1 h4
end Go.Proofs.Ytmjaoeafompclaa

namespace Go.Proofs.Ytmjaoeafompclaa
open Go.RowKit Go.Shelf

theorem HdV.keep1 {w : World} {n G j : Nat} {u v : Value} (h : HdV w n u v) (hne : G ≠ n) (a : Value) : HdV (w.setCell ⟨G, j, none⟩ a) n u v := by
  refine ⟨by simpa using h.lt, ?_, ?_, by simpa using h.f0, by simpa using h.f1⟩
  · rw [World.cell?_setCell_other _ _ _ _ (fun e => hne (congrArg Addr.block e))]; exact h.c0
  · rw [World.cell?_setCell_other _ _ _ _ (fun e => hne (congrArg Addr.block e))]; exact h.c1
theorem HdV.set1 {w : World} {n : Nat} {u v : Value} (h : HdV w n u v) (a : Value) : HdV (w.setCell ⟨n, 1, none⟩ a) n u a := by
  refine ⟨by simpa using h.lt, ?_, World.cell?_setCell_same _ _ _ h.c1, by simpa using h.f0, by simpa using h.f1⟩
  rw [World.cell?_setCell_other _ _ _ _ (fun e => by have := congrArg Addr.off e; simp at this)]
  exact h.c0
theorem fsum_ref (a b c : Int) : fsum a b c = sg (sgn a != sgn b) (fn a * fn b) + sg (sgn c) (fn c * 2 ^ 1074) := by
  obtain ⟨T, hT⟩ : ∃ T : Nat, 1074 = T := ⟨_, rfl⟩
  unfold fsum sv
  rw [hT, sg_mul, sg_pow]
theorem fma_ref (a b c : Int) : fmaF a b c = if sumN (sgn a != sgn b) (sgn c) (fn a * fn b) (fn c * 2 ^ 1074) = 0 then (if (kd a = 0 ∨ kd b = 0) ∧ kd c = 0 ∧ (sgn a != sgn b) = true ∧ sgn c = true then 9223372036854775808 else 0)
    else fbits (sumS (sgn a != sgn b) (sgn c) (fn a * fn b) (fn c * 2 ^ 1074)) (sumN (sgn a != sgn b) (sgn c) (fn a * fn b) (fn c * 2 ^ 1074)) (-2148) false := by
  have h0 := fsum_ref a b c
  obtain ⟨J, hJ⟩ : ∃ J : Nat, 1074 = J := ⟨_, rfl⟩
  rw [hJ] at h0 ⊢
  unfold fmaF
  rw [h0]
  have hz := sum_sg (sgn a != sgn b) (sgn c) (fn a * fn b) (fn c * 2 ^ J)
  have hs := sum_sgn (sgn a != sgn b) (sgn c) (fn a * fn b) (fn c * 2 ^ J)
  generalize sg (sgn a != sgn b) (fn a * fn b) + sg (sgn c) (fn c * 2 ^ J) = S at *
  generalize sumN (sgn a != sgn b) (sgn c) (fn a * fn b) (fn c * 2 ^ J) = T at *
  by_cases hT : T = 0
  · rw [if_pos (show S = 0 by omega), if_pos hT]
  · rw [if_neg (show S ≠ 0 by omega), if_neg hT, hs hT, hz]

set_option maxRecDepth 100000 in
set_option maxHeartbeats 8000000 in
theorem rfma5_fin (a b c : Int) (w : World) (ha : Wd a) (hb : Wd b) (hc : Wd c) {za zb zc : Bool} (ia : Kin a false false za) (ib : Kin b false false zb) (ic : Kin c false false zc) : Calls Try.prog 18 #[.int .u64 a, .int .u64 b, .int .u64 c] w fun e w' => e = .returned (.int .u64 (fmaF a b c)) ∧ Below w.heap.size w w' := by
  have hF := fma_ref a b c
  obtain ⟨J, hJ⟩ : ∃ J : Nat, 1074 = J := ⟨_, rfl⟩
  rw [hJ] at hF
  have NA := Lib.hid (none5r_k ha ia)
  have EA := Lib.hid (endless5r_k ha ia)
  have ZA := Lib.hid (zero5r_k ha ia)
  have NB := Lib.hid (none5r_k hb ib)
  have EB := Lib.hid (endless5r_k hb ib)
  have ZB := Lib.hid (zero5r_k hb ib)
  have NC := Lib.hid (none5r_k hc ic)
  have EC := Lib.hid (endless5r_k hc ic)
  have ZC := Lib.hid (zero5r_k hc ic)
  have SA := fun v => rsplit_any a v ha
  have SB := fun v => rsplit_any b v hb
  have XC := fun v => exact_any c v hc
  have ma := mant_bd (x := a)
  have mb := mant_bd (x := b)
  have ea := expo_bd (x := a)
  have eb := expo_bd (x := b)
  have hza := ia.z
  have hzb := ib.z
  have hzc := ic.z
  have hng : (!(sgn a == sgn b)) = (sgn a != sgn b) := rfl
  have hcond : ((kd a = 0 ∨ kd b = 0) ∧ kd c = 0 ∧ (sgn a != sgn b) = true ∧ sgn c = true) ↔ ((za = true ∨ zb = true) ∧ zc = true ∧ (sgn a != sgn b) = true ∧ sgn c = true) := by
    rw [← hza, ← hzb, ← hzc]; simp
  simp only [hcond] at hF
  have bC0 := fn_limbs c
  obtain ⟨GA, hGA⟩ : ∃ GA, fn a * fn b = GA := ⟨_, rfl⟩
  have hGA2 : (mant a).toNat * (mant b).toNat * 2 ^ (expo a + expo b + 2148).toNat = GA := by
    rw [← hGA]
    unfold fn
    have : (2 : Nat) ^ (expo a + expo b + 2148).toNat = 2 ^ (expo a + 1074).toNat * 2 ^ (expo b + 1074).toNat := by rw [← Nat.pow_add]; congr 1; omega
    rw [this]; grind
  have bA : GA < Pl.B32 ^ 141 := by
    obtain ⟨K, hK⟩ : ∃ K : Nat, K = 2098 := ⟨_, rfl⟩
    have h1 := fn_lt a (K := K) (by omega)
    have h2 := fn_lt b (K := K) (by omega)
    have h3 : GA < 2 ^ K * 2 ^ K := by rw [← hGA]; exact Nat.mul_lt_mul_of_lt_of_le h1 (Nat.le_of_lt h2) (Nat.two_pow_pos K)
    rw [← Nat.pow_add] at h3
    exact limb_bd h3 (by omega)
  have bC : fn c * 2 ^ J < Pl.B32 ^ 141 := by
    obtain ⟨K, hK⟩ : ∃ K : Nat, K = 2098 := ⟨_, rfl⟩
    have h1 := fn_lt c (K := K) (by omega)
    have h3 : fn c * 2 ^ J < 2 ^ K * 2 ^ J := (Nat.mul_lt_mul_right (Nat.two_pow_pos J)).2 h1
    rw [← Nat.pow_add] at h3
    exact limb_bd h3 (by omega)
  rw [hGA] at hF
  obtain ⟨GC, hGC⟩ : ∃ GC, fn c = GC := ⟨_, rfl⟩
  rw [hGC] at hF XC bC bC0
  obtain ⟨GC2, hGC2⟩ : ∃ GC2, GC * 2 ^ J = GC2 := ⟨_, rfl⟩
  have UC : ∀ (v : World) (y : Value), SliceV v y GC 70 → Calls Try.prog 41 #[y, .int .i64 1074] v (RetNatF (GC * 2 ^ J) v) := fun v y hy => by rw [← hJ]; exact up_vF 1074 hy (by decide) (by decide)
  rw [hGC2] at hF UC bC
  obtain ⟨m, hm⟩ : ∃ m : Nat, mant a = m := ⟨(mant a).toNat, by omega⟩
  obtain ⟨n, hn⟩ : ∃ n : Nat, mant b = n := ⟨(mant b).toNat, by omega⟩
  obtain ⟨e, he⟩ : ∃ e, expo a = e := ⟨_, rfl⟩
  obtain ⟨f, hf⟩ : ∃ f, expo b = f := ⟨_, rfl⟩
  rw [hm] at SA ma hGA2
  rw [hn] at SB mb hGA2
  rw [he] at SA ea hGA2
  rw [hf] at SB eb hGA2
  rw [Int.toNat_natCast, Int.toNat_natCast] at hGA2
  obtain ⟨u, hu⟩ : ∃ u : Nat, e + f + 2148 = u := ⟨(e + f + 2148).toNat, by omega⟩
  have hu1 : u ≤ 5000 := by omega
  rw [hu, Int.toNat_natCast] at hGA2
  have bm : m < Pl.B32 ^ 2 := by rw [b32_2]; omega
  have bn : n < Pl.B32 ^ 2 := by rw [b32_2]; omega
  have bmn : m * n < Pl.B32 ^ 4 := by
    have := Nat.mul_lt_mul_of_lt_of_le bm (Nat.le_of_lt bn) (Nat.pow_pos Pl.B32_pos)
    rw [← Nat.pow_add] at this
    exact this
  have hm64 : m < 18446744073709551616 := by omega
  have hn64 : n < 18446744073709551616 := by omega
  have CM := fun v => rnat_any m v hm64
  have CN := fun v => rnat_any n v hn64
  have CT := fun (v : World) (x y : Value) (hx : NatV v x m) (hy : NatV v y n) => times1_v (hx.slice bm) (hy.slice bn) (by decide)
  have CU := fun (v : World) (y : Value) (hy : NatV v y (m * n)) => up_v u (hy.slice bmn) (by decide) (by omega)
  rw [hGA2] at CU
  obtain ⟨MN, hMN⟩ : ∃ MN, m * n = MN := ⟨_, rfl⟩
  rw [hMN] at CT CU
  have CI := fun v => ris_any c v
  generalize (sgn a != sgn b) = ng at *
  generalize sgn c = nc at *
  have bS : sumN ng nc GA GC2 < Pl.B32 ^ 142 := by
    have h1 : Pl.B32 ^ 142 = Pl.B32 ^ 141 * Pl.B32 := Nat.pow_succ _ _
    have h2 : Pl.B32 ^ 141 * 2 ≤ Pl.B32 ^ 141 * Pl.B32 := Nat.mul_le_mul_left _ (by decide)
    rw [h1]
    unfold sumN
    generalize Pl.B32 ^ 141 = Q at *
    (repeat' split) <;> omega
  have CP := fun (v : World) (x y : Value) (hx : SliceV v x GA 141) (hy : SliceV v y GC2 141) => plusS_any ng nc hx hy (by decide)
  obtain ⟨S, hS⟩ : ∃ S, sumN ng nc GA GC2 = S := ⟨_, rfl⟩
  obtain ⟨ss, hss⟩ : ∃ ss, sumS ng nc GA GC2 = ss := ⟨_, rfl⟩
  rw [hS, hss] at CP hF
  rw [hS] at bS
  have CR := fun (v : World) (y : Value) (hy : SliceV v y S 142) => round_any ss false (-2148) v hy (by decide) (by decide)
  generalize fmaF a b c = Z at *
  replace SA := Lib.hid SA
  replace SB := Lib.hid SB
  replace XC := Lib.hid XC
  replace UC := Lib.hid UC
  replace CM := Lib.hid CM
  replace CN := Lib.hid CN
  replace CT := Lib.hid CT
  replace CU := Lib.hid CU
  replace CP := Lib.hid CP
  replace CR := Lib.hid CR
  replace CI := Lib.hid CI
  have FA := Lib.hid bA
  have FC0 := Lib.hid bC0
  have FC := Lib.hid bC
  have FSg := Lib.hid bS
  have HF := Lib.hid hF
  have HB := Bel.re w
  clear ha hb hc ia ib ic hza hzb hzc hcond hF bC0 bA bC bS hGA hGA2 hGC hGC2 hm hn he hf bm bn bmn hm64 hn64 hMN hS hss
  go_enter Try.func18, Try.ntmps18
  go_wp2_with (first | (go_at_call 36; (first | (with_reducible refine (NA.out _).mono ?_) | (with_reducible refine (NB.out _).mono ?_) | (with_reducible refine (NC.out _).mono ?_)); rintro e w' ⟨rfl, rfl⟩) | (go_at_call 37; (first | (with_reducible refine (EA.out _).mono ?_) | (with_reducible refine (EB.out _).mono ?_) | (with_reducible refine (EC.out _).mono ?_)); rintro e w' ⟨rfl, rfl⟩) | (go_at_call 38; (first | (with_reducible refine (ZA.out _).mono ?_) | (with_reducible refine (ZB.out _).mono ?_) | (with_reducible refine (ZC.out _).mono ?_)); rintro e w' ⟨rfl, rfl⟩) | (go_at_call 35; (first | (with_reducible refine (ris_any a _).mono ?_) | (with_reducible refine (ris_any b _).mono ?_) | (with_reducible refine (ris_any c _).mono ?_)); rintro e w' ⟨rfl, rfl⟩) | (go_at_call 27; (first | (with_reducible refine (SA.out _).mono ?_) | (with_reducible refine (SB.out _).mono ?_)); rintro e w' ⟨rfl, rfl⟩))
  (with_reducible refine (CM.out _).mono ?_)
  rintro r w1 ⟨v1, rfl, hv1, hb1⟩
  replace HB := Bel.st HB hb1
  clear hb1
  go_wp2_with fail
  (with_reducible refine (CN.out _).mono ?_)
  rintro r w2 ⟨v2, rfl, hv2, hb2⟩
  replace HB := Bel.st HB hb2
  replace hv1 := hv1.below hb2
  clear hb2
  go_wp2_with fail
  (with_reducible refine (CT.out _ _ _ hv1 hv2).mono ?_)
  rintro r w3 ⟨v3, rfl, hv3, hb3⟩
  replace HB := Bel.st HB hb3
  clear hb3 hv1 hv2
  go_wp2_with fail
  (with_reducible refine (CU.out _ _ hv3).mono ?_)
  rintro r w4 ⟨v4, rfl, hv4, hb4⟩
  replace HB := Bel.st HB hb4
  obtain ⟨A4, n4, c4, rfl, hA4⟩ := id hv4
  have T4 := Lib.hid (hv4.slice FA.out)
  clear hb4 hv3 hA4 hv4
  go_wp2_with fail
  (with_reducible refine (XC.out _).mono ?_)
  rintro r w6 ⟨v6, rfl, hv6, hb6⟩
  obtain ⟨A6, n6, c6, rfl, hA6⟩ := id hv6
  have T6 := Lib.hid (hv6.slice FC0.out)
  have HP := Lib.hid ((HdV.new w4 (.bool ng) (.slice A4 n4 c4) _).below hb6)
  have HB6 := Lib.hid (Bel.st (Bel.al (Bel.re w4) _) hb6)
  have HBw := Lib.hid HB
  have hz4 : w4.heap.size < w6.heap.size := HP.out.lt
  clear hb6 hv6 hA6 HB
  go_wp2_with fail
  (with_reducible refine (UC.out _ _ (T6.out.alloc _)).mono ?_)
  rintro r w8 ⟨v8, rfl, hv8, hb8, hf8⟩
  obtain ⟨A8, n8, c8, rfl, hA8⟩ := id hv8
  have HX8 := (HdV.new w6 (.bool nc) (.slice A6 n6 c6) _).below hb8
  have HP8 := (HP.out.alloc _).below hb8
  have HB8 := Lib.hid (Bel.st (Bel.al HB6.out _) hb8)
  have hz8 : w6.heap.size < w8.heap.size := HX8.lt
  have hz48 : w4.heap.size < w8.heap.size := HP8.lt
  have T8 := Lib.hid (((hv8.slice FC.out).stored hf8 (by simp) : SliceV (w8.setCell ⟨w6.heap.size, 1, none⟩ (.slice A8 n8 c8)) _ _ _))
  have T48 := Lib.hid (T4.out.below (HB8.out.setCell (p := ⟨w6.heap.size, 1, none⟩) (Nat.le_of_lt hz4) (.slice A8 n8 c8)))
  obtain ⟨_, cp0, cp1, fp0, fp1⟩ := HP8
  obtain ⟨_, cx0, cx1, fx0, fx1⟩ := HX8
  have hne : w6.heap.size ≠ w4.heap.size := by omega
  have hne2 : w4.heap.size ≠ w6.heap.size := by omega
  clear hb8 hv8 hf8 hA8
  go_wp2_with fail
  (with_reducible refine (CP.out _ _ _ T48.out T8.out).mono ?_)
  rintro r w10 ⟨v10, rfl, hv10, hb10⟩
  obtain ⟨A10, n10, c10, rfl, hA10⟩ := id hv10
  have hlen := hv10.len
  have T10 := Lib.hid (hv10.slice FSg.out)
  have HB10 := Lib.hid (Bel.st (Bel.st HBw.out (HB8.out.setCell (p := ⟨w6.heap.size, 1, none⟩) (Nat.le_of_lt hz4) (.slice A8 n8 c8))) hb10)
  clear hv10 hA10 hb10 cp0 cp1 fp0 fp1 cx0 cx1 fx0 fx1 T48 T8 T4 T6 HP HB6 HB8 hz8 hz48 hz4 hne hne2
  by_cases hS0 : S = 0
  · have hn : n10 = 0 := by rw [hlen, limbs_len_zero]; exact hS0
    have HF0 := HF.out
    rw [if_pos hS0] at HF0
    subst hn
    have HF2 := Lib.hid HF0
    clear hlen hS0 HF0 HF
    cases za <;> cases zb <;> cases zc <;> cases ng <;> cases nc
    all_goals
      go_wp2_with (first | (go_at_call 36; (first | (with_reducible refine (NA.out _).mono ?_) | (with_reducible refine (NB.out _).mono ?_) | (with_reducible refine (NC.out _).mono ?_)); rintro e w' ⟨rfl, rfl⟩) | (go_at_call 37; (first | (with_reducible refine (EA.out _).mono ?_) | (with_reducible refine (EB.out _).mono ?_) | (with_reducible refine (EC.out _).mono ?_)); rintro e w' ⟨rfl, rfl⟩) | (go_at_call 38; (first | (with_reducible refine (ZA.out _).mono ?_) | (with_reducible refine (ZB.out _).mono ?_) | (with_reducible refine (ZC.out _).mono ?_)); rintro e w' ⟨rfl, rfl⟩) | (go_at_call 35; (with_reducible refine (CI.out _).mono ?_); rintro e w' ⟨rfl, rfl⟩))
      go_ret
      exact ⟨retW (by rw [HF2.out]; simp), Bel.al HB10.out _⟩
  · have hn : ((n10 : Int) == 0) = false := by
      have : n10 ≠ 0 := fun g => hS0 (limbs_len_zero.1 (by rw [← hlen]; exact g))
      simp; omega
    have HF0 := HF.out
    rw [if_neg hS0] at HF0
    have HF2 := Lib.hid HF0
    clear hlen hS0 HF0
    go_wp2_with fail
    (with_reducible refine (CR.out _ _ (T10.out.alloc _)).mono ?_)
    rintro r w12 ⟨rfl, hb12⟩
    have HB12 := Lib.hid (Bel.st (Bel.al HB10.out _) hb12)
    clear hb12
    go_wp2
    go_ret
    exact ⟨retW HF2.out.symm, HB12.out⟩
end Go.Proofs.Ytmjaoeafompclaa
