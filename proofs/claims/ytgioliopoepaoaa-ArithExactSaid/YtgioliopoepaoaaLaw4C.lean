/-
  ArithTurns, ArithPlain, ArithOrders, ArithExact: the walks.
-/
import Derived.Test.YtgioliopoepaoaaLaw4
import Derived.Test.YtgioliopoepaoaaRef3
import Derived.Test.YtgioliopoepaoaaArithO
import Derived.Deep.DeepCutAuto
namespace Go.Proofs.Ytgioliopoepaoaa
open Go.RowKit Go.Shelf

set_option maxRecDepth 100000 in
set_option maxHeartbeats 8000000 in
theorem turns_walk4 (a b : Int) (w : World) (ha : Wd a) (hb : Wd b) : Calls Try.prog 6 #[.int .u64 a, .int .u64 b] w fun e w' => e = .returned (.bool true) ∧ Below w.heap.size w w' := by
  have A1 := fun v => aadd_any a b v ha hb
  have A2 := fun v => aadd_any b a v hb ha
  have M1 := fun v => amul_any a b v ha hb
  have M2 := fun v => amul_any b a v hb ha
  have S1 := fun v => asub_any a b v ha hb
  have S2 := fun v => asub_any b a v hb ha
  have N1 := fun v => rneg_any a v ha
  have M3 := fun v => amul_any (negI a) b v (wd_neg ha) hb
  have N2 := fun v => rneg_any (subI b a) v (wd_sub hb ha)
  have N3 := fun v => rneg_any (mulI a b) v wd_mul
  have ht := sub_turn ha hb
  rw [add_comm' b a] at A2
  rw [mul_comm' b a] at M2
  rw [mul_neg_l ha] at M3
  obtain ⟨S, hS⟩ : ∃ S, addI a b = S := ⟨_, rfl⟩
  obtain ⟨P, hP⟩ : ∃ P, mulI a b = P := ⟨_, rfl⟩
  obtain ⟨NP, hNP⟩ : ∃ NP, negI P = NP := ⟨_, rfl⟩
  obtain ⟨NA, hNA⟩ : ∃ NA, negI a = NA := ⟨_, rfl⟩
  obtain ⟨D, hD⟩ : ∃ D, subI a b = D := ⟨_, rfl⟩
  obtain ⟨E, hE⟩ : ∃ E, subI b a = E := ⟨_, rfl⟩
  obtain ⟨NE, hNE⟩ : ∃ NE, negI E = NE := ⟨_, rfl⟩
  have wD := wd_sub ha hb
  have wE := wd_sub hb ha
  rw [hS] at A1 A2
  rw [hP] at M1 M2 M3 N3
  rw [hNP] at M3 N3
  rw [hNA] at N1 M3
  rw [hD] at S1 ht wD
  rw [hE] at S2 ht wE N2
  rw [hNE] at N2 ht
  obtain ⟨d0, d1⟩ := wD
  obtain ⟨e0, e1⟩ := wE
  replace A1 := Lib.hid A1
  replace A2 := Lib.hid A2
  replace M1 := Lib.hid M1
  replace M2 := Lib.hid M2
  replace S1 := Lib.hid S1
  replace S2 := Lib.hid S2
  replace N1 := Lib.hid N1
  replace M3 := Lib.hid M3
  replace N2 := Lib.hid N2
  replace N3 := Lib.hid N3
  clear hS hP hNP hNA hD hE hNE ha hb
  by_cases hz : D = 0 ∧ E = 0
  · obtain ⟨rfl, rfl⟩ := hz
    clear ht d0 d1 e0 e1
    have hB : Below w.heap.size w w := Below.refl _ _
    go_enter Try.func6, Try.ntmps6
    go_wp2_with (first | (go_at_call 10; (with_reducible refine (shown4_any _).mono ?_); rintro e w1 ⟨rfl, hb⟩; replace hB := Bel.st hB hb; clear hb) | (go_at_call 11; (first | (with_reducible refine (A1.out _).mono ?_) | (with_reducible refine (A2.out _).mono ?_)); rintro e w1 ⟨rfl, hb⟩; replace hB := Bel.st hB hb; clear hb) | (go_at_call 15; (first | (with_reducible refine (M1.out _).mono ?_) | (with_reducible refine (M2.out _).mono ?_) | (with_reducible refine (M3.out _).mono ?_)); rintro e w1 ⟨rfl, hb⟩; replace hB := Bel.st hB hb; clear hb) | (go_at_call 13; (first | (with_reducible refine (S1.out _).mono ?_) | (with_reducible refine (S2.out _).mono ?_)); rintro e w1 ⟨rfl, hb⟩; replace hB := Bel.st hB hb; clear hb) | (go_at_call 19; (first | (with_reducible refine (N1.out _).mono ?_) | (with_reducible refine (N2.out _).mono ?_) | (with_reducible refine (N3.out _).mono ?_)); rintro e w' ⟨rfl, rfl⟩))
    go_ret
    exact ⟨retB (by simp), hB⟩
  · by_cases hd : D = NE
    · subst hd
      by_cases hd0 : D = 0
      · subst hd0
        have he0 : (E == 0) = false := by simpa using (show E ≠ 0 from fun g => hz ⟨rfl, g⟩)
        clear ht hz
        have hB : Below w.heap.size w w := Below.refl _ _
        go_enter Try.func6, Try.ntmps6
        go_wp2_with (first | (go_at_call 10; (with_reducible refine (shown4_any _).mono ?_); rintro e w1 ⟨rfl, hb⟩; replace hB := Bel.st hB hb; clear hb) | (go_at_call 11; (first | (with_reducible refine (A1.out _).mono ?_) | (with_reducible refine (A2.out _).mono ?_)); rintro e w1 ⟨rfl, hb⟩; replace hB := Bel.st hB hb; clear hb) | (go_at_call 15; (first | (with_reducible refine (M1.out _).mono ?_) | (with_reducible refine (M2.out _).mono ?_) | (with_reducible refine (M3.out _).mono ?_)); rintro e w1 ⟨rfl, hb⟩; replace hB := Bel.st hB hb; clear hb) | (go_at_call 13; (first | (with_reducible refine (S1.out _).mono ?_) | (with_reducible refine (S2.out _).mono ?_)); rintro e w1 ⟨rfl, hb⟩; replace hB := Bel.st hB hb; clear hb) | (go_at_call 19; (first | (with_reducible refine (N1.out _).mono ?_) | (with_reducible refine (N2.out _).mono ?_) | (with_reducible refine (N3.out _).mono ?_)); rintro e w' ⟨rfl, rfl⟩))
        go_ret
        exact ⟨retB (by simp), hB⟩
      · have hd1 : (D == 0) = false := by simpa using hd0
        clear ht hz hd0
        have hB : Below w.heap.size w w := Below.refl _ _
        go_enter Try.func6, Try.ntmps6
        go_wp2_with (first | (go_at_call 10; (with_reducible refine (shown4_any _).mono ?_); rintro e w1 ⟨rfl, hb⟩; replace hB := Bel.st hB hb; clear hb) | (go_at_call 11; (first | (with_reducible refine (A1.out _).mono ?_) | (with_reducible refine (A2.out _).mono ?_)); rintro e w1 ⟨rfl, hb⟩; replace hB := Bel.st hB hb; clear hb) | (go_at_call 15; (first | (with_reducible refine (M1.out _).mono ?_) | (with_reducible refine (M2.out _).mono ?_) | (with_reducible refine (M3.out _).mono ?_)); rintro e w1 ⟨rfl, hb⟩; replace hB := Bel.st hB hb; clear hb) | (go_at_call 13; (first | (with_reducible refine (S1.out _).mono ?_) | (with_reducible refine (S2.out _).mono ?_)); rintro e w1 ⟨rfl, hb⟩; replace hB := Bel.st hB hb; clear hb) | (go_at_call 19; (first | (with_reducible refine (N1.out _).mono ?_) | (with_reducible refine (N2.out _).mono ?_) | (with_reducible refine (N3.out _).mono ?_)); rintro e w' ⟨rfl, rfl⟩))
        go_ret
        exact ⟨retB (by simp), hB⟩
    · obtain ⟨h1, h2⟩ : D % 9223372036854775808 = 0 ∧ E % 9223372036854775808 = 0 := ht.resolve_left hd
      have hd2 : (D == NE) = false := by simpa using hd
      by_cases hd0 : D = 0
      · subst hd0
        have he0 : (E == 0) = false := by simpa using (show E ≠ 0 from fun g => hz ⟨rfl, g⟩)
        clear ht hz hd h1
        have hB : Below w.heap.size w w := Below.refl _ _
        go_enter Try.func6, Try.ntmps6
        go_wp2_with (first | (go_at_call 10; (with_reducible refine (shown4_any _).mono ?_); rintro e w1 ⟨rfl, hb⟩; replace hB := Bel.st hB hb; clear hb) | (go_at_call 11; (first | (with_reducible refine (A1.out _).mono ?_) | (with_reducible refine (A2.out _).mono ?_)); rintro e w1 ⟨rfl, hb⟩; replace hB := Bel.st hB hb; clear hb) | (go_at_call 15; (first | (with_reducible refine (M1.out _).mono ?_) | (with_reducible refine (M2.out _).mono ?_) | (with_reducible refine (M3.out _).mono ?_)); rintro e w1 ⟨rfl, hb⟩; replace hB := Bel.st hB hb; clear hb) | (go_at_call 13; (first | (with_reducible refine (S1.out _).mono ?_) | (with_reducible refine (S2.out _).mono ?_)); rintro e w1 ⟨rfl, hb⟩; replace hB := Bel.st hB hb; clear hb) | (go_at_call 19; (first | (with_reducible refine (N1.out _).mono ?_) | (with_reducible refine (N2.out _).mono ?_) | (with_reducible refine (N3.out _).mono ?_)); rintro e w' ⟨rfl, rfl⟩))
        go_ret
        exact ⟨retB (by simp), hB⟩
      · have hd1 : (D == 0) = false := by simpa using hd0
        clear ht hz hd0 hd
        have hB : Below w.heap.size w w := Below.refl _ _
        go_enter Try.func6, Try.ntmps6
        go_wp2_with (first | (go_at_call 10; (with_reducible refine (shown4_any _).mono ?_); rintro e w1 ⟨rfl, hb⟩; replace hB := Bel.st hB hb; clear hb) | (go_at_call 11; (first | (with_reducible refine (A1.out _).mono ?_) | (with_reducible refine (A2.out _).mono ?_)); rintro e w1 ⟨rfl, hb⟩; replace hB := Bel.st hB hb; clear hb) | (go_at_call 15; (first | (with_reducible refine (M1.out _).mono ?_) | (with_reducible refine (M2.out _).mono ?_) | (with_reducible refine (M3.out _).mono ?_)); rintro e w1 ⟨rfl, hb⟩; replace hB := Bel.st hB hb; clear hb) | (go_at_call 13; (first | (with_reducible refine (S1.out _).mono ?_) | (with_reducible refine (S2.out _).mono ?_)); rintro e w1 ⟨rfl, hb⟩; replace hB := Bel.st hB hb; clear hb) | (go_at_call 19; (first | (with_reducible refine (N1.out _).mono ?_) | (with_reducible refine (N2.out _).mono ?_) | (with_reducible refine (N3.out _).mono ?_)); rintro e w' ⟨rfl, rfl⟩))
        go_ret
        exact ⟨retB (by simp), hB⟩
set_option maxRecDepth 100000 in
set_option maxHeartbeats 8000000 in
theorem plain_walk4 (a : Int) (w : World) (ha : Wd a) : Calls Try.prog 7 #[.int .u64 a] w fun e w' => e = .returned (.bool true) ∧ Below w.heap.size w w' := by
  have hk := kd_bd a
  have R1 := fun v => rright_any a v ha
  have K1 := fun v => rkind_any a v ha
  have N1 := fun v => rneg_any a v ha
  have M1 := fun v => amul_any a 4607182418800017408 v ha ⟨by decide, by decide⟩
  have M2 := fun v => amul_any a 4611686018427387904 v ha ⟨by decide, by decide⟩
  have M3 := fun v => amul_any a 13830554455654793216 v ha ⟨by decide, by decide⟩
  have A1 := fun v => aadd_any a a v ha ha
  have A2 := fun v => aadd_any a 0 v ha ⟨by decide, by decide⟩
  have A3 := fun v => aadd_any a 9223372036854775808 v ha ⟨by decide, by decide⟩
  have S1 := fun v => asub_any a a v ha ha
  rw [mul_one' ha] at M1
  rw [mul_mone ha] at M3
  rw [add_self ha] at A1
  have hI : 3 ≤ kd a → subI a a = NAN ∧ addI a 0 = rightI a := fun h => ⟨sub_self_inf ha h, add_zero_inf h⟩
  have hF : kd a ≤ 2 → subI a a = 0 ∧ (a ≠ 9223372036854775808 → addI a 0 = a) ∧ addI a 9223372036854775808 = a := fun h => ⟨sub_self_fin ha h, add_zero_fin ha h, add_nzero_fin ha h⟩
  obtain ⟨k, hkk⟩ : ∃ k, kd a = k := ⟨_, rfl⟩
  obtain ⟨R, hR⟩ : ∃ R, rightI a = R := ⟨_, rfl⟩
  obtain ⟨T, hT⟩ : ∃ T, mulI a 4611686018427387904 = T := ⟨_, rfl⟩
  obtain ⟨G, hG⟩ : ∃ G, negI a = G := ⟨_, rfl⟩
  rw [hkk] at hk K1 hI hF
  rw [hR] at R1 M1 hI
  rw [hT] at M2 A1
  rw [hG] at N1 M3
  have HI := Lib.hid hI
  have HF := Lib.hid hF
  have HT := Lib.hid (show a = 9223372036854775808 → T = 9223372036854775808 from fun g => by rw [← hT, g]; decide +kernel)
  clear hI hF hkk hR hT hG ha
  replace R1 := Lib.hid R1
  replace K1 := Lib.hid K1
  replace N1 := Lib.hid N1
  replace M1 := Lib.hid M1
  replace M2 := Lib.hid M2
  replace M3 := Lib.hid M3
  replace A1 := Lib.hid A1
  by_cases h3 : 3 ≤ k
  · obtain ⟨i1, i2⟩ := HI.out h3
    rw [i1] at S1
    rw [i2] at A2
    unfold NAN at S1
    clear i1 i2
    replace A2 := Lib.hid A2
    replace A3 := Lib.hid A3
    replace S1 := Lib.hid S1
    have hB : Below w.heap.size w w := Below.refl _ _
    go_enter Try.func7, Try.ntmps7
    go_wp2_with (first | (go_at_call 10; (with_reducible refine (shown4_any _).mono ?_); rintro e w1 ⟨rfl, hb⟩; replace hB := Bel.st hB hb; clear hb) | (go_at_call 20; (with_reducible refine (R1.out _).mono ?_); rintro e w' ⟨rfl, rfl⟩) | (go_at_call 21; (with_reducible refine (K1.out _).mono ?_); rintro e w' ⟨rfl, rfl⟩) | (go_at_call 19; (with_reducible refine (N1.out _).mono ?_); rintro e w' ⟨rfl, rfl⟩) | (go_at_call 15; (first | (with_reducible refine (M1.out _).mono ?_) | (with_reducible refine (M2.out _).mono ?_) | (with_reducible refine (M3.out _).mono ?_)); rintro e w1 ⟨rfl, hb⟩; replace hB := Bel.st hB hb; clear hb) | (go_at_call 11; (first | (with_reducible refine (A1.out _).mono ?_) | (with_reducible refine (A2.out _).mono ?_) | (with_reducible refine (A3.out _).mono ?_)); rintro e w1 ⟨rfl, hb⟩; replace hB := Bel.st hB hb; clear hb) | ((go_at_call 13); (with_reducible refine (S1.out _).mono ?_); rintro e w1 ⟨rfl, hb⟩; replace hB := Bel.st hB hb; clear hb))
    go_ret
    exact ⟨retB (by simp), hB⟩
  · obtain ⟨i1, i2, i3⟩ := HF.out (by omega)
    rw [i1] at S1
    rw [i3] at A3
    by_cases hn : a = 9223372036854775808
    · obtain rfl := HT.out hn
      subst hn
      clear i1 i2 i3
      replace A2 := Lib.hid A2
      replace A3 := Lib.hid A3
      replace S1 := Lib.hid S1
      have hB : Below w.heap.size w w := Below.refl _ _
      go_enter Try.func7, Try.ntmps7
      go_wp2_with (first | (go_at_call 10; (with_reducible refine (shown4_any _).mono ?_); rintro e w1 ⟨rfl, hb⟩; replace hB := Bel.st hB hb; clear hb) | (go_at_call 20; (with_reducible refine (R1.out _).mono ?_); rintro e w' ⟨rfl, rfl⟩) | (go_at_call 21; (with_reducible refine (K1.out _).mono ?_); rintro e w' ⟨rfl, rfl⟩) | (go_at_call 19; (with_reducible refine (N1.out _).mono ?_); rintro e w' ⟨rfl, rfl⟩) | (go_at_call 15; (first | (with_reducible refine (M1.out _).mono ?_) | (with_reducible refine (M2.out _).mono ?_) | (with_reducible refine (M3.out _).mono ?_)); rintro e w1 ⟨rfl, hb⟩; replace hB := Bel.st hB hb; clear hb) | (go_at_call 11; (first | (with_reducible refine (A1.out _).mono ?_) | (with_reducible refine (A2.out _).mono ?_) | (with_reducible refine (A3.out _).mono ?_)); rintro e w1 ⟨rfl, hb⟩; replace hB := Bel.st hB hb; clear hb) | ((go_at_call 13); (with_reducible refine (S1.out _).mono ?_); rintro e w1 ⟨rfl, hb⟩; replace hB := Bel.st hB hb; clear hb))
      go_ret
      exact ⟨retB (by simp), hB⟩
    · have hn' : (a == 9223372036854775808) = false := by simpa using hn
      rw [i2 hn] at A2
      clear i1 i2 i3 hn
      replace A2 := Lib.hid A2
      replace A3 := Lib.hid A3
      replace S1 := Lib.hid S1
      have hB : Below w.heap.size w w := Below.refl _ _
      go_enter Try.func7, Try.ntmps7
      go_wp2_with (first | (go_at_call 10; (with_reducible refine (shown4_any _).mono ?_); rintro e w1 ⟨rfl, hb⟩; replace hB := Bel.st hB hb; clear hb) | (go_at_call 20; (with_reducible refine (R1.out _).mono ?_); rintro e w' ⟨rfl, rfl⟩) | (go_at_call 21; (with_reducible refine (K1.out _).mono ?_); rintro e w' ⟨rfl, rfl⟩) | (go_at_call 19; (with_reducible refine (N1.out _).mono ?_); rintro e w' ⟨rfl, rfl⟩) | (go_at_call 15; (first | (with_reducible refine (M1.out _).mono ?_) | (with_reducible refine (M2.out _).mono ?_) | (with_reducible refine (M3.out _).mono ?_)); rintro e w1 ⟨rfl, hb⟩; replace hB := Bel.st hB hb; clear hb) | (go_at_call 11; (first | (with_reducible refine (A1.out _).mono ?_) | (with_reducible refine (A2.out _).mono ?_) | (with_reducible refine (A3.out _).mono ?_)); rintro e w1 ⟨rfl, hb⟩; replace hB := Bel.st hB hb; clear hb) | ((go_at_call 13); (with_reducible refine (S1.out _).mono ?_); rintro e w1 ⟨rfl, hb⟩; replace hB := Bel.st hB hb; clear hb))
      go_ret
      exact ⟨retB (by simp), hB⟩
set_option maxHeartbeats 1000000 in
theorem rank4_any (x : Int) (w : World) (hx : Wd x) : Calls Try.prog 22 #[.int .u64 x] w fun e w' => e = .returned (.int .i64 (rankI x)) ∧ w = w' := by
  obtain ⟨h0, h1⟩ := hx
  by_cases g : 9223372036854775808 ≤ x
  · have hr := Lib.hid (show rankI x = -(x - 9223372036854775808) by unfold rankI; rw [if_pos g])
    go_enter Try.func22, Try.ntmps22
    go_wp2
    go_ret
    exact ⟨retI (by rw [hr.out]), rfl⟩
  · have hr := Lib.hid (show rankI x = x by unfold rankI; rw [if_neg g])
    go_enter Try.func22, Try.ntmps22
    go_wp2
    go_ret
    exact ⟨retI (by rw [hr.out]), rfl⟩
theorem orders_none4 (a b c : Int) (w : World) (ha : Wd a) (hb : Wd b) (h : kd a = 4 ∨ kd b = 4) : Calls Try.prog 8 #[.int .u64 a, .int .u64 b, .int .u64 c] w fun e w' => e = .returned (.bool true) ∧ Below w.heap.size w w' := by
  have KA := fun v => rkind_any a v ha
  have KB := fun v => rkind_any b v hb
  obtain ⟨ka, hka⟩ : ∃ ka, kd a = ka := ⟨_, rfl⟩
  obtain ⟨kb, hkb⟩ : ∃ kb, kd b = kb := ⟨_, rfl⟩
  rw [hka] at KA h
  rw [hkb] at KB h
  replace KA := Lib.hid KA
  replace KB := Lib.hid KB
  clear hka hkb
  by_cases a4 : ka = 4
  · subst a4
    clear h
    have hB : Below w.heap.size w w := Below.refl _ _
    go_enter Try.func8, Try.ntmps8
    go_wp2_with (first | (go_at_call 10; (with_reducible refine (shown4_any _).mono ?_); rintro e w1 ⟨rfl, hb⟩; replace hB := Bel.st hB hb; clear hb) | (go_at_call 21; (first | (with_reducible refine (KA.out _).mono ?_) | (with_reducible refine (KB.out _).mono ?_)); rintro e w' ⟨rfl, rfl⟩))
    go_ret
    exact ⟨rfl, hB⟩
  · obtain rfl : kb = 4 := h.resolve_left a4
    have a4' : (ka == 4) = false := by simpa using a4
    clear h a4
    have hB : Below w.heap.size w w := Below.refl _ _
    go_enter Try.func8, Try.ntmps8
    go_wp2_with (first | (go_at_call 10; (with_reducible refine (shown4_any _).mono ?_); rintro e w1 ⟨rfl, hb⟩; replace hB := Bel.st hB hb; clear hb) | (go_at_call 21; (first | (with_reducible refine (KA.out _).mono ?_) | (with_reducible refine (KB.out _).mono ?_)); rintro e w' ⟨rfl, rfl⟩))
    go_ret
    exact ⟨rfl, hB⟩
set_option maxRecDepth 100000 in
set_option maxHeartbeats 8000000 in
theorem orders_some4 (a b c a' b' : Int) (w : World) (ha : Wd a) (hb : Wd b) (hc : Wd c) (ka4 : kd a ≠ 4) (kb4 : kd b ≠ 4) (ha' : Wd a') (hb' : Wd b') (k1 : kd a' ≠ 4) (k2 : kd b' ≠ 4) (hle : rankI a' ≤ rankI b')
    (hsw : (rankI a ≤ rankI b ∧ a = a' ∧ b = b') ∨ (rankI b < rankI a ∧ b = a' ∧ a = b')) : Calls Try.prog 8 #[.int .u64 a, .int .u64 b, .int .u64 c] w fun e w' => e = .returned (.bool true) ∧ Below w.heap.size w w' := by
  have KA := fun v => rkind_any a v ha
  have KB := fun v => rkind_any b v hb
  have KC := fun v => rkind_any c v hc
  have RA := fun v => rank4_any a v ha
  have RB := fun v => rank4_any b v hb
  have AX := fun v => aadd_any a' c v ha' hc
  have AY := fun v => aadd_any b' c v hb' hc
  have MP := fun v => amul_any a' c v ha' hc
  have MQ := fun v => amul_any b' c v hb' hc
  have RX := fun v => rank4_any (addI a' c) v (wd_add ha' hc)
  have RY := fun v => rank4_any (addI b' c) v (wd_add hb' hc)
  have RP := fun v => rank4_any (mulI a' c) v wd_mul
  have RQ := fun v => rank4_any (mulI b' c) v wd_mul
  have oA := add_order ha' hb' hc k1 k2 hle
  have oM := mul_order ha' hb' hc k1 k2 hle
  have nX := add_nan (a := a') (c := c) k1
  have nY := add_nan (a := b') (c := c) k2
  have gc : sgn c = decide (9223372036854775808 ≤ c) := rfl
  rw [gc] at oM
  obtain ⟨ka, hka⟩ : ∃ ka, kd a = ka := ⟨_, rfl⟩
  obtain ⟨kb, hkb⟩ : ∃ kb, kd b = kb := ⟨_, rfl⟩
  obtain ⟨kc, hkc⟩ : ∃ kc, kd c = kc := ⟨_, rfl⟩
  obtain ⟨X, hX⟩ : ∃ X, addI a' c = X := ⟨_, rfl⟩
  obtain ⟨Y, hY⟩ : ∃ Y, addI b' c = Y := ⟨_, rfl⟩
  obtain ⟨P, hP⟩ : ∃ P, mulI a' c = P := ⟨_, rfl⟩
  obtain ⟨Q, hQ⟩ : ∃ Q, mulI b' c = Q := ⟨_, rfl⟩
  obtain ⟨ra, hra⟩ : ∃ ra, rankI a = ra := ⟨_, rfl⟩
  obtain ⟨rb, hrb⟩ : ∃ rb, rankI b = rb := ⟨_, rfl⟩
  obtain ⟨rx, hrx⟩ : ∃ rx, rankI X = rx := ⟨_, rfl⟩
  obtain ⟨ry, hry⟩ : ∃ ry, rankI Y = ry := ⟨_, rfl⟩
  obtain ⟨rp, hrp⟩ : ∃ rp, rankI P = rp := ⟨_, rfl⟩
  obtain ⟨rq, hrq⟩ : ∃ rq, rankI Q = rq := ⟨_, rfl⟩
  rw [hka] at KA ka4
  rw [hkb] at KB kb4
  rw [hkc] at KC nX nY
  rw [hX] at AX RX oA nX
  rw [hY] at AY RY oA nY
  rw [hP] at MP RP oM
  rw [hQ] at MQ RQ oM
  rw [hra] at RA hsw
  rw [hrb] at RB hsw
  rw [hrx] at RX oA
  rw [hry] at RY oA
  rw [hrp] at RP oM
  rw [hrq] at RQ oM
  have a4 : (ka == 4) = false := by simpa using ka4
  have b4 : (kb == 4) = false := by simpa using kb4
  have OA := Lib.hid oA
  have OM := Lib.hid oM
  have NX := Lib.hid nX
  have NY := Lib.hid nY
  have HSW := Lib.hid hsw
  replace KA := Lib.hid KA
  replace KB := Lib.hid KB
  replace KC := Lib.hid KC
  replace RA := Lib.hid RA
  replace RB := Lib.hid RB
  replace AX := Lib.hid AX
  replace AY := Lib.hid AY
  replace MP := Lib.hid MP
  replace MQ := Lib.hid MQ
  replace RX := Lib.hid RX
  replace RY := Lib.hid RY
  replace RP := Lib.hid RP
  replace RQ := Lib.hid RQ
  clear oA oM nX nY hsw gc hka hkb hkc hX hY hP hQ hra hrb hrx hry hrp hrq ha hb hc ha' hb' k1 k2 hle ka4 kb4
  have hB : Below w.heap.size w w := Below.refl _ _
  go_enter Try.func8, Try.ntmps8
  go_upto_if 31 with (first | (go_at_call 10; (with_reducible refine (shown4_any _).mono ?_); rintro e w1 ⟨rfl, hb⟩; replace hB := Bel.st hB hb; clear hb) | (go_at_call 21; (first | (with_reducible refine (KA.out _).mono ?_) | (with_reducible refine (KB.out _).mono ?_) | (with_reducible refine (KC.out _).mono ?_)); rintro e w' ⟨rfl, rfl⟩) | (go_at_call 22; (first | (with_reducible refine (RA.out _).mono ?_) | (with_reducible refine (RB.out _).mono ?_) | (with_reducible refine (RX.out _).mono ?_) | (with_reducible refine (RY.out _).mono ?_) | (with_reducible refine (RP.out _).mono ?_) | (with_reducible refine (RQ.out _).mono ?_)); rintro e w' ⟨rfl, rfl⟩))
  go_cut [0, 1, 8] (fun s0 s1 s8 wx => s0 = .int .u64 a' ∧ s1 = .int .u64 b' ∧ wx = w1)
  case first =>
    rcases HSW.out with ⟨g, g1, g2⟩ | ⟨g, g1, g2⟩
    · have g' : ¬ rb < ra := by omega
      have G1 := Lib.hid g1
      have G2 := Lib.hid g2
      clear g g1 g2
      go_wp2
      go_meet
      exact ⟨by rw [G1.out], by rw [G2.out], rfl⟩
    · have G1 := Lib.hid g1
      have G2 := Lib.hid g2
      clear g1 g2
      go_wp2
      go_meet
      exact ⟨by rw [G1.out], by rw [G2.out], rfl⟩
  case rest =>
    obtain ⟨rfl, rfl, rfl⟩ := hcut
    clear HSW
    by_cases hx : X = NAN
    · have hk := NX.out hx
      unfold NAN at hx
      subst hx
      clear OA OM NX NY
      go_wp2_with (first | (go_at_call 21; (first | (with_reducible refine (KA.out _).mono ?_) | (with_reducible refine (KB.out _).mono ?_) | (with_reducible refine (KC.out _).mono ?_)); rintro e w' ⟨rfl, rfl⟩) | (go_at_call 22; (first | (with_reducible refine (RA.out _).mono ?_) | (with_reducible refine (RB.out _).mono ?_) | (with_reducible refine (RX.out _).mono ?_) | (with_reducible refine (RY.out _).mono ?_) | (with_reducible refine (RP.out _).mono ?_) | (with_reducible refine (RQ.out _).mono ?_)); rintro e w' ⟨rfl, rfl⟩) | (go_at_call 11; (first | (with_reducible refine (AX.out _).mono ?_) | (with_reducible refine (AY.out _).mono ?_)); rintro e w1 ⟨rfl, hb⟩; replace hB := Bel.st hB hb; clear hb) | (go_at_call 15; (first | (with_reducible refine (MP.out _).mono ?_) | (with_reducible refine (MQ.out _).mono ?_)); rintro e w1 ⟨rfl, hb⟩; replace hB := Bel.st hB hb; clear hb))
      go_ret
      exact ⟨retB (by simp), hB⟩
    · have hx' : (X == 9221120237041090560) = false := by simpa [NAN] using hx
      by_cases hy : Y = NAN
      · have hk := NY.out hy
        unfold NAN at hy
        subst hy
        clear OA OM NX NY hx
        go_wp2_with (first | (go_at_call 21; (first | (with_reducible refine (KA.out _).mono ?_) | (with_reducible refine (KB.out _).mono ?_) | (with_reducible refine (KC.out _).mono ?_)); rintro e w' ⟨rfl, rfl⟩) | (go_at_call 22; (first | (with_reducible refine (RA.out _).mono ?_) | (with_reducible refine (RB.out _).mono ?_) | (with_reducible refine (RX.out _).mono ?_) | (with_reducible refine (RY.out _).mono ?_) | (with_reducible refine (RP.out _).mono ?_) | (with_reducible refine (RQ.out _).mono ?_)); rintro e w' ⟨rfl, rfl⟩) | (go_at_call 11; (first | (with_reducible refine (AX.out _).mono ?_) | (with_reducible refine (AY.out _).mono ?_)); rintro e w1 ⟨rfl, hb⟩; replace hB := Bel.st hB hb; clear hb) | (go_at_call 15; (first | (with_reducible refine (MP.out _).mono ?_) | (with_reducible refine (MQ.out _).mono ?_)); rintro e w1 ⟨rfl, hb⟩; replace hB := Bel.st hB hb; clear hb))
        go_ret
        exact ⟨retB (by simp), hB⟩
      · have hy' : (Y == 9221120237041090560) = false := by simpa [NAN] using hy
        have hxy := OA.out hx hy
        have hxy' : ¬ ry < rx := by omega
        clear hx hy OA NX NY
        by_cases hp : P = NAN
        · unfold NAN at hp
          subst hp
          clear OM hxy
          go_wp2_with (first | (go_at_call 21; (first | (with_reducible refine (KA.out _).mono ?_) | (with_reducible refine (KB.out _).mono ?_) | (with_reducible refine (KC.out _).mono ?_)); rintro e w' ⟨rfl, rfl⟩) | (go_at_call 22; (first | (with_reducible refine (RA.out _).mono ?_) | (with_reducible refine (RB.out _).mono ?_) | (with_reducible refine (RX.out _).mono ?_) | (with_reducible refine (RY.out _).mono ?_) | (with_reducible refine (RP.out _).mono ?_) | (with_reducible refine (RQ.out _).mono ?_)); rintro e w' ⟨rfl, rfl⟩) | (go_at_call 11; (first | (with_reducible refine (AX.out _).mono ?_) | (with_reducible refine (AY.out _).mono ?_)); rintro e w1 ⟨rfl, hb⟩; replace hB := Bel.st hB hb; clear hb) | (go_at_call 15; (first | (with_reducible refine (MP.out _).mono ?_) | (with_reducible refine (MQ.out _).mono ?_)); rintro e w1 ⟨rfl, hb⟩; replace hB := Bel.st hB hb; clear hb))
          go_ret
          exact ⟨rfl, hB⟩
        · have hp' : (P == 9221120237041090560) = false := by simpa [NAN] using hp
          by_cases hq : Q = NAN
          · unfold NAN at hq
            subst hq
            clear OM hxy hp
            go_wp2_with (first | (go_at_call 21; (first | (with_reducible refine (KA.out _).mono ?_) | (with_reducible refine (KB.out _).mono ?_) | (with_reducible refine (KC.out _).mono ?_)); rintro e w' ⟨rfl, rfl⟩) | (go_at_call 22; (first | (with_reducible refine (RA.out _).mono ?_) | (with_reducible refine (RB.out _).mono ?_) | (with_reducible refine (RX.out _).mono ?_) | (with_reducible refine (RY.out _).mono ?_) | (with_reducible refine (RP.out _).mono ?_) | (with_reducible refine (RQ.out _).mono ?_)); rintro e w' ⟨rfl, rfl⟩) | (go_at_call 11; (first | (with_reducible refine (AX.out _).mono ?_) | (with_reducible refine (AY.out _).mono ?_)); rintro e w1 ⟨rfl, hb⟩; replace hB := Bel.st hB hb; clear hb) | (go_at_call 15; (first | (with_reducible refine (MP.out _).mono ?_) | (with_reducible refine (MQ.out _).mono ?_)); rintro e w1 ⟨rfl, hb⟩; replace hB := Bel.st hB hb; clear hb))
            go_ret
            exact ⟨rfl, hB⟩
          · have hq' : (Q == 9221120237041090560) = false := by simpa [NAN] using hq
            obtain ⟨o1, o2⟩ := OM.out hp hq
            by_cases hc : 9223372036854775808 ≤ c
            · have hr := o2 (decide_eq_true hc)
              clear OM hxy hp hq o1 o2
              go_wp2_with (first | (go_at_call 21; (first | (with_reducible refine (KA.out _).mono ?_) | (with_reducible refine (KB.out _).mono ?_) | (with_reducible refine (KC.out _).mono ?_)); rintro e w' ⟨rfl, rfl⟩) | (go_at_call 22; (first | (with_reducible refine (RA.out _).mono ?_) | (with_reducible refine (RB.out _).mono ?_) | (with_reducible refine (RX.out _).mono ?_) | (with_reducible refine (RY.out _).mono ?_) | (with_reducible refine (RP.out _).mono ?_) | (with_reducible refine (RQ.out _).mono ?_)); rintro e w' ⟨rfl, rfl⟩) | (go_at_call 11; (first | (with_reducible refine (AX.out _).mono ?_) | (with_reducible refine (AY.out _).mono ?_)); rintro e w1 ⟨rfl, hb⟩; replace hB := Bel.st hB hb; clear hb) | (go_at_call 15; (first | (with_reducible refine (MP.out _).mono ?_) | (with_reducible refine (MQ.out _).mono ?_)); rintro e w1 ⟨rfl, hb⟩; replace hB := Bel.st hB hb; clear hb))
              go_ret
              exact ⟨retB (by simp), hB⟩
            · have hr := o1 (decide_eq_false hc)
              clear OM hxy hp hq o1 o2
              go_wp2_with (first | (go_at_call 21; (first | (with_reducible refine (KA.out _).mono ?_) | (with_reducible refine (KB.out _).mono ?_) | (with_reducible refine (KC.out _).mono ?_)); rintro e w' ⟨rfl, rfl⟩) | (go_at_call 22; (first | (with_reducible refine (RA.out _).mono ?_) | (with_reducible refine (RB.out _).mono ?_) | (with_reducible refine (RX.out _).mono ?_) | (with_reducible refine (RY.out _).mono ?_) | (with_reducible refine (RP.out _).mono ?_) | (with_reducible refine (RQ.out _).mono ?_)); rintro e w' ⟨rfl, rfl⟩) | (go_at_call 11; (first | (with_reducible refine (AX.out _).mono ?_) | (with_reducible refine (AY.out _).mono ?_)); rintro e w1 ⟨rfl, hb⟩; replace hB := Bel.st hB hb; clear hb) | (go_at_call 15; (first | (with_reducible refine (MP.out _).mono ?_) | (with_reducible refine (MQ.out _).mono ?_)); rintro e w1 ⟨rfl, hb⟩; replace hB := Bel.st hB hb; clear hb))
              go_ret
              exact ⟨retB (by simp), hB⟩
theorem orders_walk4 (a b c : Int) (w : World) (ha : Wd a) (hb : Wd b) (hc : Wd c) : Calls Try.prog 8 #[.int .u64 a, .int .u64 b, .int .u64 c] w fun e w' => e = .returned (.bool true) ∧ Below w.heap.size w w' := by
  by_cases h : kd a = 4 ∨ kd b = 4
  · exact orders_none4 a b c w ha hb h
  · by_cases g : rankI a ≤ rankI b
    · exact orders_some4 a b c a b w ha hb hc (fun k => h (.inl k)) (fun k => h (.inr k)) ha hb (fun k => h (.inl k)) (fun k => h (.inr k)) g (.inl ⟨g, rfl, rfl⟩)
    · exact orders_some4 a b c b a w ha hb hc (fun k => h (.inl k)) (fun k => h (.inr k)) hb ha (fun k => h (.inr k)) (fun k => h (.inl k)) (by omega) (.inr ⟨by omega, rfl, rfl⟩)
set_option maxRecDepth 100000 in
set_option maxHeartbeats 8000000 in
theorem exact_some4 (a b a' b' : Int) (w : World) (ha' : Wd a') (hb' : Wd b') (hla : a' < 9223372036854775808) (hlb : b' < 9223372036854775808) (hle : a' ≤ b')
    (hsw : (a % 9223372036854775808 ≤ b % 9223372036854775808 ∧ a % 9223372036854775808 = a' ∧ b % 9223372036854775808 = b') ∨ (b % 9223372036854775808 < a % 9223372036854775808 ∧ b % 9223372036854775808 = a' ∧ a % 9223372036854775808 = b')) (ha : Wd a) (hb : Wd b) :
    Calls Try.prog 9 #[.int .u64 a, .int .u64 b] w fun e w' => e = .returned (.bool true) ∧ Below w.heap.size w w' := by
  have KB := fun v => rkind_any b' v hb'
  have AA := fun v => aadd_any a' a' v ha' ha'
  have SD := fun v => asub_any b' a' v hb' ha'
  have wd := wd_sub hb' ha'
  have AD := fun v => aadd_any a' (subI b' a') v ha' wd
  have SE := fun v => asub_any b' (subI b' a') v hb' wd
  have hX := exact_all ha' hb' hla hle hlb
  have hkb := kd_bd b'
  have waa := wd_add ha' ha'
  obtain ⟨kb, hk⟩ : ∃ kb, kd b' = kb := ⟨_, rfl⟩
  obtain ⟨T, hT⟩ : ∃ T, addI a' a' = T := ⟨_, rfl⟩
  obtain ⟨D, hD⟩ : ∃ D, subI b' a' = D := ⟨_, rfl⟩
  rw [hk] at KB hX hkb
  rw [hT] at AA hX waa
  rw [hD] at SD AD SE hX wd
  obtain ⟨t0, t1⟩ := waa
  obtain ⟨d0, d1⟩ := wd
  obtain ⟨a0, a1⟩ := ha
  obtain ⟨b0, b1⟩ := hb
  have HX := Lib.hid hX
  have HSW := Lib.hid hsw
  replace KB := Lib.hid KB
  replace AA := Lib.hid AA
  replace SD := Lib.hid SD
  have p0 := ha'.1
  have q0 := hb'.1
  clear hX hk hT hD ha' hb' hsw
  have hB : Below w.heap.size w w := Below.refl _ _
  go_enter Try.func9, Try.ntmps9
  go_upto_if 17 with ((go_at_call 10; (with_reducible refine (shown4_any _).mono ?_); rintro e w1 ⟨rfl, hb⟩; replace hB := Bel.st hB hb; clear hb))
  go_cut [0, 1, 6] (fun s0 s1 s6 wx => s0 = .int .u64 a' ∧ s1 = .int .u64 b' ∧ wx = w1)
  case first =>
    rcases HSW.out with ⟨g, g1, g2⟩ | ⟨g, g1, g2⟩
    · have g' : ¬ b % 9223372036854775808 < a % 9223372036854775808 := by omega
      have G1 := Lib.hid g1
      have G2 := Lib.hid g2
      clear g g1 g2
      go_wp2
      go_meet
      exact ⟨by rw [← G1.out], by rw [← G2.out], rfl⟩
    · have G1 := Lib.hid g1
      have G2 := Lib.hid g2
      clear g1 g2
      go_wp2
      go_meet
      exact ⟨by rw [← G1.out], by rw [← G2.out], rfl⟩
  case rest =>
    obtain ⟨rfl, rfl, rfl⟩ := hcut
    clear HSW
    by_cases h3 : 3 ≤ kb
    · clear HX AD SE
      go_wp2_with (first | (go_at_call 21; (with_reducible refine (KB.out _).mono ?_); rintro e w' ⟨rfl, rfl⟩) | (go_at_call 11; (with_reducible refine (AA.out _).mono ?_); rintro e w2 ⟨rfl, hb⟩; replace hB := Bel.st hB hb; clear hb))
      go_ret
      exact ⟨rfl, hB⟩
    · by_cases hbt : T < b'
      · clear HX AD SE
        go_wp2_with (first | (go_at_call 21; (with_reducible refine (KB.out _).mono ?_); rintro e w' ⟨rfl, rfl⟩) | (go_at_call 11; (with_reducible refine (AA.out _).mono ?_); rintro e w2 ⟨rfl, hb⟩; replace hB := Bel.st hB hb; clear hb))
        go_ret
        exact ⟨rfl, hB⟩
      · obtain ⟨x1, x2, x3, _⟩ := HX.out (by omega) (by omega)
        rw [x1] at AD
        rw [x2] at SE
        replace AD := Lib.hid AD
        replace SE := Lib.hid SE
        clear x1 x2 HX
        go_wp2_with (first | (go_at_call 21; (with_reducible refine (KB.out _).mono ?_); rintro e w' ⟨rfl, rfl⟩) | (go_at_call 11; (first | (with_reducible refine (AA.out _).mono ?_) | (with_reducible refine (AD.out _).mono ?_)); rintro e w2 ⟨rfl, hb⟩; replace hB := Bel.st hB hb; clear hb) | (go_at_call 13; (first | (with_reducible refine (SD.out _).mono ?_) | (with_reducible refine (SE.out _).mono ?_)); rintro e w2 ⟨rfl, hb⟩; replace hB := Bel.st hB hb; clear hb))
        go_ret
        exact ⟨retB (by simp), hB⟩
theorem exact_walk4 (a b : Int) (w : World) (ha : Wd a) (hb : Wd b) : Calls Try.prog 9 #[.int .u64 a, .int .u64 b] w fun e w' => e = .returned (.bool true) ∧ Below w.heap.size w w' := by
  have h1 := Int.emod_nonneg a (show (9223372036854775808 : Int) ≠ 0 by decide)
  have h2 := Int.emod_lt_of_pos a (show (0 : Int) < 9223372036854775808 by decide)
  have h3 := Int.emod_nonneg b (show (9223372036854775808 : Int) ≠ 0 by decide)
  have h4 := Int.emod_lt_of_pos b (show (0 : Int) < 9223372036854775808 by decide)
  by_cases g : a % 9223372036854775808 ≤ b % 9223372036854775808
  · exact exact_some4 a b _ _ w ⟨h1, by omega⟩ ⟨h3, by omega⟩ h2 h4 g (.inl ⟨g, rfl, rfl⟩) ha hb
  · exact exact_some4 a b _ _ w ⟨h3, by omega⟩ ⟨h1, by omega⟩ h4 h2 (by omega) (.inr ⟨by omega, rfl, rfl⟩) ha hb
end Go.Proofs.Ytgioliopoepaoaa
