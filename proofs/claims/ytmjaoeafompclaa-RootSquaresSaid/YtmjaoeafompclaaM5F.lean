/-
  M5F: the texts RootE, RootF, RootG, RootH, Law5 in one (a claim has at most 60 files).
-/
import Derived.Test.YtmjaoeafompclaaM5C
import Derived.Test.YtmjaoeafompclaaM5D
import Derived.Test.YtmjaoeafompclaaM5E

namespace Go.Proofs.Ytmjaoeafompclaa
open Go.RowKit Go.Shelf

theorem one_sq : mulI 4607182418800017408 4607182418800017408 = 4607182418800017408 := by decide +kernel
theorem pow_skip (a : Int) (u : Nat) : ∀ k, Pl.bl u ≤ k → powGo a u k 4607182418800017408 = powGo a u (Pl.bl u) 4607182418800017408
  | 0, h => by rw [show Pl.bl u = 0 by omega]
  | k + 1, h => by
    by_cases g : Pl.bl u = k + 1
    · rw [g]
    · have hu : u < 2 ^ k := Nat.lt_of_lt_of_le (Pl.lt_two_bl u) (Nat.pow_le_pow_right (by decide) (by omega))
      show powGo a u k _ = _
      rw [Nat.div_eq_of_lt hu, if_neg (by decide), one_sq]
      exact pow_skip a u k (by omega)
theorem wd_one : Wd 4607182418800017408 := ⟨by decide, by decide⟩
theorem wd_pow {a : Int} {u : Nat} : ∀ {k : Nat} {p : Int}, Wd p → Wd (powGo a u k p)
  | 0, _, h => h
  | k + 1, p, _ => by
    show Wd (powGo a u k _)
    apply wd_pow
    split
    · exact wd_mul
    · exact wd_mul

set_option maxRecDepth 100000 in
set_option maxHeartbeats 4000000 in
theorem power5_pos (a n : Int) (w : World) (ha : Wd a) (n0 : 0 ≤ n) (n1 : n < 9223372036854775808) (h4 : kd a ≠ 4) : Calls Try.prog 21 #[.int .u64 a, .int .i64 n] w fun e w' => e = .returned (.int .u64 (powI a n)) ∧ Below w.heap.size w w' := by
  have CN := fun v => none5_any a v ha
  rw [show (kd a == 4) = false by simpa using h4] at CN
  have CM := Lib.hid (fun (x y : Int) (v : World) (hx : Wd x) (hy : Wd y) => amul_any x y v hx hy)
  obtain ⟨u, rfl⟩ := Int.eq_ofNat_of_zero_le n0
  have hI : powI a (u : Int) = powGo a u (Pl.bl u) 4607182418800017408 := by
    unfold powI
    rw [if_neg h4, if_neg (by omega), Int.natAbs_natCast]
    exact pow_skip a u 64 (Pl.bl_le_of_lt (by omega))
  rw [hI]
  have hL : Pl.bl u ≤ 63 := Pl.bl_le_of_lt (by omega)
  have CL := fun v => len64 (u : Int) v (by omega) (by omega)
  rw [Int.toNat_natCast] at CL
  generalize Pl.bl u = L at *
  obtain ⟨T, hT⟩ : ∃ T, powGo a u L 4607182418800017408 = T := ⟨_, rfl⟩
  rw [hT]
  have T0 := Lib.hid hT
  have hd0 : decide ((u : Int) < 0) = false := by simp
  replace CN := Lib.hid CN
  replace CL := Lib.hid CL
  have HA := Lib.hid ha
  have HB := Lib.hid (Bel.re w)
  clear hI ha h4 hT n0
  go_enter Try.func21, Try.ntmps21
  go_wp2_with (first | (go_at_call 28; (with_reducible refine (CN.out _).mono ?_); rintro e w' ⟨rfl, rfl⟩) | (go_at_call 59; (with_reducible refine (CL.out _).mono ?_); rintro e w' ⟨rfl, rfl⟩))
  go_loopw [6, 7, 18] (fun pv _ iv wr => ∃ (i k : Nat) (p : Int), iv = .int .i64 i ∧ pv = .int .u64 p ∧ L = i + k ∧ powGo a u k p = T ∧ Wd p ∧ Below w.heap.size w wr) (fun _ _ iv _ => L - (intOf iv).toNat)
  case atStart => exact ⟨0, L, _, rfl, rfl, by omega, T0.out, wd_one, HB.out⟩
  case round =>
    obtain ⟨i, k, p, rfl, rfl, hLk, hpw, hwp, hB⟩ := hrel
    have HW := Lib.hid hwp
    have HB2 := Lib.hid hB
    clear hwp hB T0 HB
    have HK := Lib.hid hLk
    cases k with
    | zero =>
      have hiL : ¬ i < L := by omega
      obtain rfl : p = T := hpw
      clear hLk
      go_wp2
      go_ret
      exact ⟨rfl, HB2.out⟩
    | succ k =>
      have hiL : i < L := by omega
      have hk1 : (L : Int) - 1 - (i : Int) = (k : Int) := by omega
      have hk63 : k ≤ 63 := by omega
      obtain ⟨D, hD⟩ : ∃ D : Nat, u / 2 ^ k = D := ⟨_, rfl⟩
      have hpw2 : powGo a u k (if u / 2 ^ k % 2 = 1 then mulI (mulI p p) a else mulI p p) = T := hpw
      rw [hD] at hpw2
      have hDi : (u : Int) / 2 ^ k = (D : Int) := by rw [← hD]; simp
      have hDb : D ≤ u := by rw [← hD]; exact Nat.div_le_self _ _
      have hand := and_1 (D : Int) (by omega) (by omega)
      clear hLk hpw hD
      rcases Nat.mod_two_eq_zero_or_one D with g | g
      · rw [if_neg (by omega)] at hpw2
        rw [show (D : Int) % 2 = 0 by omega] at hand
        have HP := Lib.hid hpw2
        clear hpw2 g
        go_wp2_with fail
        (with_reducible refine (CM.out p p _ HW.out HW.out).mono ?_)
        rintro e w2 ⟨rfl, hb2⟩
        have HB3 := Lib.hid (Bel.st HB2.out hb2)
        clear hb2
        have HW2 := Lib.hid (wd_mul (a := p) (b := p))
        generalize mulI p p = q at *
        go_wp2_with (go_at_call 59; (with_reducible refine (CL.out _).mono ?_); rintro e w' ⟨rfl, rfl⟩)
        go_roundw
        case rel => exact ⟨i + 1, k, q, by go_num, rfl, by have := HK.out; omega, HP.out, HW2.out, HB3.out⟩
        case measure => simp [intOf]; omega
      · rw [if_pos g] at hpw2
        rw [show (D : Int) % 2 = 1 by omega] at hand
        have HP := Lib.hid hpw2
        clear hpw2 g
        go_wp2_with fail
        (with_reducible refine (CM.out p p _ HW.out HW.out).mono ?_)
        rintro e w2 ⟨rfl, hb2⟩
        have HB3 := Lib.hid (Bel.st HB2.out hb2)
        clear hb2
        have HW2 := Lib.hid (wd_mul (a := p) (b := p))
        generalize mulI p p = q at *
        go_wp2_with (first | (go_at_call 59; (with_reducible refine (CL.out _).mono ?_); rintro e w' ⟨rfl, rfl⟩) | (go_at_call 26; (with_reducible refine (CM.out q a _ HW2.out HA.out).mono ?_); rintro e w3 ⟨rfl, hb3⟩; have HB4 := Lib.hid (Bel.st HB3.out hb3); clear hb3))
        have HW3 := Lib.hid (wd_mul (a := q) (b := a))
        generalize mulI q a = q2 at *
        go_roundw
        case rel => exact ⟨i + 1, k, q2, by go_num, rfl, by have := HK.out; omega, HP.out, HW3.out, HB4.out⟩
        case measure => simp [intOf]; omega
set_option maxRecDepth 100000 in
set_option maxHeartbeats 4000000 in
theorem power5_neg (a n : Int) (w : World) (ha : Wd a) (n0 : n < 0) (n1 : -9223372036854775808 ≤ n) (h4 : kd a ≠ 4) : Calls Try.prog 21 #[.int .u64 a, .int .i64 n] w fun e w' => e = .returned (.int .u64 (powI a n)) ∧ Below w.heap.size w w' := by
  have CN := fun v => none5_any a v ha
  rw [show (kd a == 4) = false by simpa using h4] at CN
  have CM := Lib.hid (fun (x y : Int) (v : World) (hx : Wd x) (hy : Wd y) => amul_any x y v hx hy)
  obtain ⟨u, rfl⟩ : ∃ u : Nat, n = -(u : Int) := ⟨n.natAbs, by omega⟩
  have hu0 : 0 < u := by omega
  have hu1 : u ≤ 9223372036854775808 := by omega
  have hI : powI a (-(u : Int)) = divI 4607182418800017408 (powGo a u (Pl.bl u) 4607182418800017408) := by
    unfold powI
    rw [if_neg h4, if_pos n0, Int.natAbs_neg, Int.natAbs_natCast, pow_skip a u 64 (Pl.bl_le_of_lt (by omega))]
  rw [hI]
  have hL : Pl.bl u ≤ 64 := Pl.bl_le_of_lt (by omega)
  have HT := wd_pow (a := a) (u := u) (k := Pl.bl u) wd_one
  have CL := fun v => len64 (u : Int) v (by omega) (by omega)
  rw [Int.toNat_natCast] at CL
  generalize Pl.bl u = L at *
  obtain ⟨T, hT⟩ : ∃ T, powGo a u L 4607182418800017408 = T := ⟨_, rfl⟩
  rw [hT] at HT ⊢
  have T0 := Lib.hid hT
  have hd0 : decide (-(u : Int) < 0) = true := by simpa using hu0
  have CD := Lib.hid (fun v => div5_any 4607182418800017408 T v wd_one HT)
  have hw1 : IntKind.u64.wrap (-(u : Int)) = 18446744073709551616 - (u : Int) := by rw [IntKind.wrap_u64]; omega
  have hw2 : IntKind.u64.wrap (-(18446744073709551616 - (u : Int))) = (u : Int) := by rw [IntKind.wrap_u64]; omega
  replace CN := Lib.hid CN
  replace CL := Lib.hid CL
  have HA := Lib.hid ha
  have HB := Lib.hid (Bel.re w)
  clear hI ha h4 hT n0 n1 HT
  go_enter Try.func21, Try.ntmps21
  go_wp2_with (first | (go_at_call 28; (with_reducible refine (CN.out _).mono ?_); rintro e w' ⟨rfl, rfl⟩) | (go_at_call 59; (with_reducible refine (CL.out _).mono ?_); rintro e w' ⟨rfl, rfl⟩))
  go_loopw [6, 7, 18] (fun pv _ iv wr => ∃ (i k : Nat) (p : Int), iv = .int .i64 i ∧ pv = .int .u64 p ∧ L = i + k ∧ powGo a u k p = T ∧ Wd p ∧ Below w.heap.size w wr) (fun _ _ iv _ => L - (intOf iv).toNat)
  case atStart => exact ⟨0, L, _, rfl, rfl, by omega, T0.out, wd_one, HB.out⟩
  case round =>
    obtain ⟨i, k, p, rfl, rfl, hLk, hpw, hwp, hB⟩ := hrel
    have HW := Lib.hid hwp
    have HB2 := Lib.hid hB
    clear hwp hB T0 HB
    have HK := Lib.hid hLk
    cases k with
    | zero =>
      have hiL : ¬ i < L := by omega
      obtain rfl : p = T := hpw
      clear hLk
      go_wp2_with (go_at_call 13; (with_reducible refine (CD.out _).mono ?_); rintro e w3 ⟨rfl, hb3⟩)
      go_ret
      exact ⟨rfl, Bel.st HB2.out hb3⟩
    | succ k =>
      have hiL : i < L := by omega
      have hk1 : (L : Int) - 1 - (i : Int) = (k : Int) := by omega
      have hk63 : k ≤ 63 := by omega
      obtain ⟨D, hD⟩ : ∃ D : Nat, u / 2 ^ k = D := ⟨_, rfl⟩
      have hpw2 : powGo a u k (if u / 2 ^ k % 2 = 1 then mulI (mulI p p) a else mulI p p) = T := hpw
      rw [hD] at hpw2
      have hDi : (u : Int) / 2 ^ k = (D : Int) := by rw [← hD]; simp
      have hDb : D ≤ u := by rw [← hD]; exact Nat.div_le_self _ _
      have hand := and_1 (D : Int) (by omega) (by omega)
      clear hLk hpw hD
      rcases Nat.mod_two_eq_zero_or_one D with g | g
      · rw [if_neg (by omega)] at hpw2
        rw [show (D : Int) % 2 = 0 by omega] at hand
        have HP := Lib.hid hpw2
        clear hpw2 g
        go_wp2_with fail
        (with_reducible refine (CM.out p p _ HW.out HW.out).mono ?_)
        rintro e w2 ⟨rfl, hb2⟩
        have HB3 := Lib.hid (Bel.st HB2.out hb2)
        clear hb2
        have HW2 := Lib.hid (wd_mul (a := p) (b := p))
        generalize mulI p p = q at *
        go_wp2_with (go_at_call 59; (with_reducible refine (CL.out _).mono ?_); rintro e w' ⟨rfl, rfl⟩)
        go_roundw
        case rel => exact ⟨i + 1, k, q, by go_num, rfl, by have := HK.out; omega, HP.out, HW2.out, HB3.out⟩
        case measure => simp [intOf]; omega
      · rw [if_pos g] at hpw2
        rw [show (D : Int) % 2 = 1 by omega] at hand
        have HP := Lib.hid hpw2
        clear hpw2 g
        go_wp2_with fail
        (with_reducible refine (CM.out p p _ HW.out HW.out).mono ?_)
        rintro e w2 ⟨rfl, hb2⟩
        have HB3 := Lib.hid (Bel.st HB2.out hb2)
        clear hb2
        have HW2 := Lib.hid (wd_mul (a := p) (b := p))
        generalize mulI p p = q at *
        go_wp2_with (first | (go_at_call 59; (with_reducible refine (CL.out _).mono ?_); rintro e w' ⟨rfl, rfl⟩) | (go_at_call 26; (with_reducible refine (CM.out q a _ HW2.out HA.out).mono ?_); rintro e w3 ⟨rfl, hb3⟩; have HB4 := Lib.hid (Bel.st HB3.out hb3); clear hb3))
        have HW3 := Lib.hid (wd_mul (a := q) (b := a))
        generalize mulI q a = q2 at *
        go_roundw
        case rel => exact ⟨i + 1, k, q2, by go_num, rfl, by have := HK.out; omega, HP.out, HW3.out, HB4.out⟩
        case measure => simp [intOf]; omega
theorem power5_any (a n : Int) (w : World) (ha : Wd a) (n0 : -9223372036854775808 ≤ n) (n1 : n < 9223372036854775808) : Calls Try.prog 21 #[.int .u64 a, .int .i64 n] w fun e w' => e = .returned (.int .u64 (powI a n)) ∧ Below w.heap.size w w' := by
  by_cases h4 : kd a = 4
  · have hI : powI a n = 9221120237041090560 := by unfold powI; rw [if_pos h4]; rfl
    have CN := fun v => none5_any a v ha
    rw [show (kd a == 4) = true by simpa using h4] at CN
    replace CN := Lib.hid CN
    rw [hI]
    clear hI h4 ha n0 n1
    go_enter Try.func21, Try.ntmps21
    go_wp2_with (go_at_call 28; (with_reducible refine (CN.out _).mono ?_); rintro e w' ⟨rfl, rfl⟩)
    go_ret
    exact ⟨rfl, Below.refl _ _⟩
  · by_cases h0 : n < 0
    · exact power5_neg a n w ha h0 n0 h4
    · exact power5_pos a n w ha (by omega) n1 h4
end Go.Proofs.Ytmjaoeafompclaa

namespace Go.Proofs.Ytmjaoeafompclaa
open Go.RowKit Go.Shelf

theorem val4 (a b c d : Nat) : Pl.val [a, b, c, d] = a + 4294967296 * b + 18446744073709551616 * c + 79228162514264337593543950336 * d := by simp only [Pl.val, Pl.B32]; omega
set_option maxRecDepth 100000 in
set_option maxHeartbeats 2000000 in
theorem natural5_any (X n : Nat) (w : World) (hX : X < 340282366920938463463374607431768211456) (hn : n ≤ 7900) : Calls Try.prog 51 #[.agg #[.int .u64 (hiOf (X : Int)), .int .u64 (loOf (X : Int))], .int .i64 n] w (RetNat (X * 2 ^ n) w) := by
  obtain ⟨H, hH⟩ : ∃ H : Nat, hiOf (X : Int) = H := ⟨X / 18446744073709551616, by unfold hiOf; omega⟩
  obtain ⟨L, hL⟩ : ∃ L : Nat, loOf (X : Int) = L := ⟨X % 18446744073709551616, by unfold loOf; omega⟩
  have hXe : X = H * 18446744073709551616 + L := by unfold hiOf at hH; unfold loOf at hL; omega
  have hH1 : H < 18446744073709551616 := by unfold hiOf at hH; omega
  have hL1 : L < 18446744073709551616 := by unfold loOf at hL; omega
  rw [hH, hL]
  have HF := Lib.hid (show Pl.Fit [L % 4294967296, L / 4294967296, H % 4294967296, H / 4294967296] by
    intro x hx
    simp only [List.mem_cons, List.not_mem_nil, or_false] at hx
    unfold Pl.B32
    omega)
  have HV := Lib.hid (show Pl.val [L % 4294967296, L / 4294967296, H % 4294967296, H / 4294967296] = X by rw [val4, hXe]; omega)
  clear hH hL hXe hX
  go_enter Try.func51, Try.ntmps51
  go_wp2_with fail
  have hs := slice_block (w.alloc (Obj.cells #[Value.int .u64 H, Value.int .u64 L] 40)) _ 4 #[Value.int .u32 ((L : Int) % 4294967296), Value.int .u32 ((L : Int) / 4294967296), Value.int .u32 ((H : Int) % 4294967296), Value.int .u32 ((H : Int) / 4294967296)] 77 HF.out rfl (by simp [lv]) (by omega)
  rw [HV.out, show (w.alloc (Obj.cells #[Value.int .u64 H, Value.int .u64 L] 40)).heap.size = w.heap.size + 1 by simp] at hs
  (with_reducible refine (nshl_v n hs (by omega) hn).mono ?_)
  rintro e w2 ⟨v2, rfl, hv2, hb2⟩
  go_wp2
  go_ret
  exact ⟨v2, rfl, hv2, Bel.st (Bel.al (Bel.al (Bel.re w) _) _) hb2⟩
end Go.Proofs.Ytmjaoeafompclaa

namespace Go.Proofs.Ytmjaoeafompclaa
open Go.RowKit Go.Shelf

theorem sg_pow (s : Bool) (N k : Nat) : sg s (N * 2 ^ k) = sg s N * 2 ^ k := by
  unfold sg
  cases s <;> simp [Int.neg_mul]
theorem fbits_units {S : Int} {k : Nat} {l : Int} (hl : l + 2148 = k) : fbits (decide (S * 2 ^ k < 0)) (S * 2 ^ k).natAbs (-2148) false = fbits (decide (S < 0)) S.natAbs l false := by
  have h1 : (S * 2 ^ k).natAbs = S.natAbs * 2 ^ k := by
    rw [Int.natAbs_mul, Int.natAbs_pow]; rfl
  have h2 : decide (S * 2 ^ k < 0) = decide (S < 0) := by
    have hp : (0 : Int) < 2 ^ k := Int.pow_pos (by decide)
    by_cases h : S < 0
    · rw [decide_eq_true h, decide_eq_true (Int.mul_neg_of_neg_of_pos h hp)]
    · rw [decide_eq_false h, decide_eq_false (by have := Int.mul_nonneg (show 0 ≤ S by omega) (Int.le_of_lt hp); omega)]
  rw [h1, h2, fbits_scale, show (-2148 : Int) + k = l by omega]
/-- The exact product and sum at the lower exponent. -/
theorem fsum_at {a b c : Int} {m n q X Y k dx dy : Nat} {e f h low : Int} (hm : mant a = m) (hn : mant b = n) (hq : mant c = q) (he : expo a = e) (hf : expo b = f) (hh : expo c = h)
    (hk : low + 2148 = k) (hdx : e + f = low + dx) (hdy : h = low + dy) (hX : m * n * 2 ^ dx = X) (hY : q * 2 ^ dy = Y) : fsum a b c = (sg (sgn a != sgn b) X + sg (sgn c) Y) * 2 ^ k := by
  have ea := expo_bd (x := a)
  have eb := expo_bd (x := b)
  have ec := expo_bd (x := c)
  unfold fsum sv
  rw [sg_mul]
  have h1 : fn a * fn b = X * 2 ^ k := by
    unfold fn
    rw [hm, hn, he, hf, Int.toNat_natCast, Int.toNat_natCast, ← hX]
    have : 2 ^ (e + 1074).toNat * 2 ^ (f + 1074).toNat = 2 ^ dx * 2 ^ k := by rw [← Nat.pow_add, ← Nat.pow_add]; congr 1; omega
    grind
  have h2 : fn c * 2 ^ 1074 = Y * 2 ^ k := by
    unfold fn
    rw [hq, hh, Int.toNat_natCast, ← hY]
    generalize hK : 1074 = K at *
    have : 2 ^ (h + (K : Int)).toNat * 2 ^ K = 2 ^ dy * 2 ^ k := by rw [← Nat.pow_add, ← Nat.pow_add]; congr 1; omega
    grind
  have h3 : sg (sgn c) (fn c) * 2 ^ 1074 = sg (sgn c) (fn c * 2 ^ 1074) := (sg_pow _ _ _).symm
  rw [h3, h1, h2, sg_pow, sg_pow, Int.add_mul]
theorem fma_at {a b c : Int} {X Y k : Nat} {low : Int} (h0 : kd a ≠ 0) (h1 : kd b ≠ 0) (hk : low + 2148 = k) (h : fsum a b c = (sg (sgn a != sgn b) X + sg (sgn c) Y) * 2 ^ k) :
    fmaF a b c = if sumN (sgn a != sgn b) (sgn c) X Y = 0 then 0 else fbits (sumS (sgn a != sgn b) (sgn c) X Y) (sumN (sgn a != sgn b) (sgn c) X Y) low false := by
  unfold fmaF
  rw [h]
  have hz := sum_sg (sgn a != sgn b) (sgn c) X Y
  have hs := sum_sgn (sgn a != sgn b) (sgn c) X Y
  generalize sg (sgn a != sgn b) X + sg (sgn c) Y = S at *
  generalize sumN (sgn a != sgn b) (sgn c) X Y = T at *
  have hp : (2 : Int) ^ k ≠ 0 := Int.ne_of_gt (Int.pow_pos (by decide))
  by_cases hT : T = 0
  · have hS : S = 0 := by omega
    rw [hS, Int.zero_mul, if_pos rfl, if_neg (by omega), if_pos hT]
  · have hS : S * 2 ^ k ≠ 0 := Int.mul_ne_zero (by omega) hp
    rw [if_neg hS, if_neg hT, fbits_units hk, hs hT, hz]

set_option maxRecDepth 100000 in
set_option maxHeartbeats 8000000 in
theorem fma5_fin (a b c : Int) (w : World) (ha : Wd a) (hb : Wd b) (hc : Wd c) (ka : kd a = 1 ∨ kd a = 2) (kb : kd b = 1 ∨ kd b = 2) (ia : Kin a false false false) (ib : Kin b false false false) {zc : Bool} (ic : Kin c false false zc) : Calls Try.prog 17 #[.int .u64 a, .int .u64 b, .int .u64 c] w fun e w' => e = .returned (.int .u64 (fmaF a b c)) ∧ Below w.heap.size w w' := by
  have NA := Lib.hid (none5_k ha ia)
  have EA := Lib.hid (endless5_k ha ia)
  have ZA := Lib.hid (zero5_k ha ia)
  have NB := Lib.hid (none5_k hb ib)
  have EB := Lib.hid (endless5_k hb ib)
  have ZB := Lib.hid (zero5_k hb ib)
  have NC := Lib.hid (none5_k hc ic)
  have EC := Lib.hid (endless5_k hc ic)
  have ZC := Lib.hid (zero5_k hc ic)
  have SA := fun v => split_any a v ha
  have SB := fun v => split_any b v hb
  have SC := fun v => split_any c v hc
  have ma := mant_bd (x := a)
  have mb := mant_bd (x := b)
  have mc := mant_bd (x := c)
  have ma0 := mant_pos ka
  have mb0 := mant_pos kb
  have ea := expo_bd (x := a)
  have eb := expo_bd (x := b)
  have ec := expo_bd (x := c)
  have hng := sign_ne ha hb
  obtain ⟨m, hm⟩ : ∃ m : Nat, mant a = m := ⟨(mant a).toNat, by omega⟩
  obtain ⟨n, hn⟩ : ∃ n : Nat, mant b = n := ⟨(mant b).toNat, by omega⟩
  obtain ⟨q, hq⟩ : ∃ q : Nat, mant c = q := ⟨(mant c).toNat, by omega⟩
  obtain ⟨e, he⟩ : ∃ e, expo a = e := ⟨_, rfl⟩
  obtain ⟨f, hf⟩ : ∃ f, expo b = f := ⟨_, rfl⟩
  obtain ⟨h, hh⟩ : ∃ h, expo c = h := ⟨_, rfl⟩
  rw [hm] at SA ma ma0
  rw [hn] at SB mb mb0
  rw [hq] at SC mc
  rw [he] at SA ea
  rw [hf] at SB eb
  rw [hh] at SC ec
  obtain ⟨low, hlow⟩ : ∃ low, min (e + f) h = low := ⟨_, rfl⟩
  obtain ⟨k, hk⟩ : ∃ k : Nat, low + 2148 = k := ⟨(low + 2148).toNat, by omega⟩
  obtain ⟨dx, hdx⟩ : ∃ d : Nat, e + f = low + d := ⟨(e + f - low).toNat, by omega⟩
  obtain ⟨dy, hdy⟩ : ∃ d : Nat, h = low + d := ⟨(h - low).toNat, by omega⟩
  have hdx1 : dx ≤ 3100 := by omega
  have hdy1 : dy ≤ 3200 := by omega
  obtain ⟨X, hX⟩ : ∃ X, m * n * 2 ^ dx = X := ⟨_, rfl⟩
  obtain ⟨Y, hY⟩ : ∃ Y, q * 2 ^ dy = Y := ⟨_, rfl⟩
  have hF := fma_at (a := a) (b := b) (c := c) (by omega) (by omega) hk (fsum_at hm hn hq he hf hh hk hdx hdy hX hY)
  obtain ⟨P, hP⟩ : ∃ P, m * n = P := ⟨_, rfl⟩
  have hPi : (m : Int) * (n : Int) = (P : Int) := by rw [← hP]; simp
  have hPb : P ≤ 9007199254740991 * 9007199254740991 := by rw [← hP]; exact Nat.mul_le_mul (by omega) (by omega)
  have hP0 : 0 < P := by rw [← hP]; exact Nat.mul_pos (by omega) (by omega)
  rw [hP] at hX
  have hX0 : 0 < X := by rw [← hX]; exact Nat.mul_pos hP0 (Nat.two_pow_pos _)
  have CW := fun v => wmul_any (m : Int) (n : Int) v ⟨by omega, by omega⟩ ⟨by omega, by omega⟩
  rw [hPi] at CW
  have NX := fun v => natural5_any P dx v (by omega) (by omega)
  have NY := fun v => natural5_any q dy v (by omega) (by omega)
  rw [show hiOf (q : Int) = 0 by unfold hiOf; omega, show loOf (q : Int) = q by unfold loOf; omega] at NY
  rw [hX] at NX
  rw [hY] at NY
  have bX : X < Pl.B32 ^ 101 := by
    have h1 : P < 2 ^ 110 := by omega
    have h2 : X < 2 ^ 110 * 2 ^ dx := by rw [← hX]; exact (Nat.mul_lt_mul_right (Nat.two_pow_pos dx)).2 h1
    rw [← Nat.pow_add] at h2
    exact limb_bd h2 (by omega)
  have bY : Y < Pl.B32 ^ 102 := by
    have h1 : q < 2 ^ 53 := by omega
    have h2 : Y < 2 ^ 53 * 2 ^ dy := by rw [← hY]; exact (Nat.mul_lt_mul_right (Nat.two_pow_pos dy)).2 h1
    rw [← Nat.pow_add] at h2
    exact limb_bd h2 (by omega)
  have bX2 : X < Pl.B32 ^ 103 := Nat.lt_of_lt_of_le bX (Nat.pow_le_pow_right Pl.B32_pos (by decide))
  have bY2 : Y < Pl.B32 ^ 103 := Nat.lt_of_lt_of_le bY (Nat.pow_le_pow_right Pl.B32_pos (by decide))
  have bXY : X + Y < Pl.B32 ^ 104 := by
    rw [Nat.pow_succ]
    have : Pl.B32 ^ 103 * 2 ≤ Pl.B32 ^ 103 * Pl.B32 := Nat.mul_le_mul_left _ (by decide)
    generalize Pl.B32 ^ 103 = Q at *
    omega
  generalize fmaF a b c = Z at *
  generalize (sgn a != sgn b) = ng at *
  generalize sgn c = nc at *
  obtain ⟨PH, hPH⟩ : ∃ PH, hiOf (P : Int) = PH := ⟨_, rfl⟩
  obtain ⟨PL, hPL⟩ : ∃ PL, loOf (P : Int) = PL := ⟨_, rfl⟩
  rw [hPH, hPL] at CW NX
  have hex : e + f - low = (dx : Int) := by omega
  have hey : h - low = (dy : Int) := by omega
  have low0 : -2148 ≤ low ∧ low ≤ 971 := by omega
  have a0 := ha.1
  have b0 := hb.1
  have RN := fun (N : Nat) (s : Bool) (v : World) (y : Value) (hy : NatV v y N) (hN : N < Pl.B32 ^ 104) => fround_any s false low v (hy.slice hN) (by decide) (by omega) (by omega)
  replace SA := Lib.hid SA
  replace SB := Lib.hid SB
  replace SC := Lib.hid SC
  replace CW := Lib.hid CW
  replace NX := Lib.hid NX
  replace NY := Lib.hid NY
  replace RN := Lib.hid RN
  replace bX := Lib.hid bX2
  replace bY := Lib.hid bY2
  replace bXY := Lib.hid bXY
  have HF := Lib.hid hF
  have HX0 := Lib.hid hX0
  have HB := Bel.re w
  clear ha hb hc ka kb ia ib ic hm hn hq he hf hh hk hdx hdy hX hY hP hPi hPb hP0 hPH hPL hF hX0 ma0 mb0 bX2 bY2
  by_cases hs : ng = nc
  · subst hs
    go_enter Try.func17, Try.ntmps17
    go_wp2_with (first | (go_at_call 28; (first | (with_reducible refine (NA.out _).mono ?_) | (with_reducible refine (NB.out _).mono ?_) | (with_reducible refine (NC.out _).mono ?_)); rintro e w' ⟨rfl, rfl⟩) | (go_at_call 29; (first | (with_reducible refine (EA.out _).mono ?_) | (with_reducible refine (EB.out _).mono ?_) | (with_reducible refine (EC.out _).mono ?_)); rintro e w' ⟨rfl, rfl⟩) | (go_at_call 30; (first | (with_reducible refine (ZA.out _).mono ?_) | (with_reducible refine (ZB.out _).mono ?_) | (with_reducible refine (ZC.out _).mono ?_)); rintro e w' ⟨rfl, rfl⟩) | (go_at_call 49; (first | (with_reducible refine (SA.out _).mono ?_) | (with_reducible refine (SB.out _).mono ?_) | (with_reducible refine (SC.out _).mono ?_)); rintro r w' ⟨rfl, rfl⟩) | (go_at_call 50; (with_reducible refine (CW.out _).mono ?_); rintro r w1 ⟨rfl, hb1⟩; replace HB := Bel.st HB hb1; have hz1 := hb1.size; clear hb1))
    (with_reducible refine (NX.out _).mono ?_)
    rintro r w2 ⟨vx, rfl, hvx, hb2⟩
    replace HB := Bel.st (Bel.al HB _) hb2
    have VX := Lib.hid hvx
    clear hb2 hvx
    go_wp2_with fail
    (with_reducible refine (NY.out _).mono ?_)
    rintro r w3 ⟨vy, rfl, hvy, hb3⟩
    replace HB := Bel.st HB hb3
    have VY := Lib.hid hvy
    replace VX := Lib.hid (VX.out.below hb3)
    clear hb3 hvy
    go_wp2_with fail
    (with_reducible refine (nadd_v (VX.out.slice bX.out) (VY.out.slice bY.out) (by decide)).mono ?_)
    rintro r w4 ⟨vs, rfl, hvs, hb4⟩
    replace HB := Bel.st HB hb4
    have VS := Lib.hid hvs
    clear hb4 hvs
    go_wp2_with fail
    (with_reducible refine (RN.out (X + Y) ng _ _ VS.out bXY.out).mono ?_)
    rintro r w5 ⟨rfl, hb5⟩
    replace HB := Bel.st HB hb5
    clear hb5
    go_wp2
    go_ret
    exact ⟨retW (by rw [HF.out]; unfold sumN sumS; rw [if_pos rfl, if_pos rfl, if_neg (by have := HX0.out; omega)]), HB⟩
  · have hs1 : (ng == nc) = false := by simpa using hs
    have HS := Lib.hid hs
    have hF2 : Z = if X = Y then 0 else if Y ≤ X then fbits ng (X - Y) low false else fbits nc (Y - X) low false := by
      rw [HF.out]
      unfold sumN sumS
      rw [if_neg hs, if_neg hs]
      by_cases g : X = Y
      · rw [if_pos g, if_pos (by rw [g]; simp)]
      · rw [if_neg g]
        by_cases g2 : Y ≤ X
        · rw [if_pos g2, if_pos g2, if_pos g2, if_neg (by omega)]
        · rw [if_neg g2, if_neg g2, if_neg g2, if_neg (by omega)]
    clear HF hs
    rcases Nat.lt_trichotomy X Y with gt | gt | gt
    · rw [if_neg (by omega), if_neg (by omega)] at hF2
      have HF := Lib.hid hF2
      have HC := Lib.hid (cmp_lt' gt)
      have HG := Lib.hid (Nat.le_of_lt gt)
      clear hF2 gt
      go_enter Try.func17, Try.ntmps17
      go_wp2_with (first | (go_at_call 28; (first | (with_reducible refine (NA.out _).mono ?_) | (with_reducible refine (NB.out _).mono ?_) | (with_reducible refine (NC.out _).mono ?_)); rintro e w' ⟨rfl, rfl⟩) | (go_at_call 29; (first | (with_reducible refine (EA.out _).mono ?_) | (with_reducible refine (EB.out _).mono ?_) | (with_reducible refine (EC.out _).mono ?_)); rintro e w' ⟨rfl, rfl⟩) | (go_at_call 30; (first | (with_reducible refine (ZA.out _).mono ?_) | (with_reducible refine (ZB.out _).mono ?_) | (with_reducible refine (ZC.out _).mono ?_)); rintro e w' ⟨rfl, rfl⟩) | (go_at_call 49; (first | (with_reducible refine (SA.out _).mono ?_) | (with_reducible refine (SB.out _).mono ?_) | (with_reducible refine (SC.out _).mono ?_)); rintro r w' ⟨rfl, rfl⟩) | (go_at_call 50; (with_reducible refine (CW.out _).mono ?_); rintro r w1 ⟨rfl, hb1⟩; replace HB := Bel.st HB hb1; have hz1 := hb1.size; clear hb1))
      (with_reducible refine (NX.out _).mono ?_)
      rintro r w2 ⟨vx, rfl, hvx, hb2⟩
      replace HB := Bel.st (Bel.al HB _) hb2
      have VX := Lib.hid hvx
      clear hb2 hvx
      go_wp2_with fail
      (with_reducible refine (NY.out _).mono ?_)
      rintro r w3 ⟨vy, rfl, hvy, hb3⟩
      replace HB := Bel.st HB hb3
      have VY := Lib.hid hvy
      replace VX := Lib.hid (VX.out.below hb3)
      clear hb3 hvy
      go_wp2_with fail
      (with_reducible refine (ncmp_v (VX.out.slice bX.out) (VY.out.slice bY.out) (by decide)).mono ?_)
      rw [HC.out]
      rintro r w4 ⟨rfl, hb4⟩
      replace HB := Bel.st HB hb4
      replace VX := Lib.hid (VX.out.below hb4)
      replace VY := Lib.hid (VY.out.below hb4)
      clear hb4
      go_wp2_with fail
      (with_reducible refine (nsub_v (VY.out.slice bY.out) (VX.out.slice bX.out) (by decide) HG.out).mono ?_)
      rintro r w5 ⟨vs, rfl, hvs, hb5⟩
      replace HB := Bel.st HB hb5
      have VS := Lib.hid hvs
      clear hb5 hvs
      go_wp2_with fail
      (with_reducible refine (RN.out (Y - X) nc _ _ VS.out (by have := bXY.out; omega)).mono ?_)
      rintro r w6 ⟨rfl, hb6⟩
      replace HB := Bel.st HB hb6
      clear hb6
      go_wp2
      go_ret
      exact ⟨retW HF.out.symm, HB⟩
    · rw [if_pos gt] at hF2
      have HF := Lib.hid hF2
      have HC := Lib.hid (cmp_eq' gt)
      clear hF2 gt
      go_enter Try.func17, Try.ntmps17
      go_wp2_with (first | (go_at_call 28; (first | (with_reducible refine (NA.out _).mono ?_) | (with_reducible refine (NB.out _).mono ?_) | (with_reducible refine (NC.out _).mono ?_)); rintro e w' ⟨rfl, rfl⟩) | (go_at_call 29; (first | (with_reducible refine (EA.out _).mono ?_) | (with_reducible refine (EB.out _).mono ?_) | (with_reducible refine (EC.out _).mono ?_)); rintro e w' ⟨rfl, rfl⟩) | (go_at_call 30; (first | (with_reducible refine (ZA.out _).mono ?_) | (with_reducible refine (ZB.out _).mono ?_) | (with_reducible refine (ZC.out _).mono ?_)); rintro e w' ⟨rfl, rfl⟩) | (go_at_call 49; (first | (with_reducible refine (SA.out _).mono ?_) | (with_reducible refine (SB.out _).mono ?_) | (with_reducible refine (SC.out _).mono ?_)); rintro r w' ⟨rfl, rfl⟩) | (go_at_call 50; (with_reducible refine (CW.out _).mono ?_); rintro r w1 ⟨rfl, hb1⟩; replace HB := Bel.st HB hb1; have hz1 := hb1.size; clear hb1))
      (with_reducible refine (NX.out _).mono ?_)
      rintro r w2 ⟨vx, rfl, hvx, hb2⟩
      replace HB := Bel.st (Bel.al HB _) hb2
      have VX := Lib.hid hvx
      clear hb2 hvx
      go_wp2_with fail
      (with_reducible refine (NY.out _).mono ?_)
      rintro r w3 ⟨vy, rfl, hvy, hb3⟩
      replace HB := Bel.st HB hb3
      have VY := Lib.hid hvy
      replace VX := Lib.hid (VX.out.below hb3)
      clear hb3 hvy
      go_wp2_with fail
      (with_reducible refine (ncmp_v (VX.out.slice bX.out) (VY.out.slice bY.out) (by decide)).mono ?_)
      rw [HC.out]
      rintro r w4 ⟨rfl, hb4⟩
      replace HB := Bel.st HB hb4
      replace VX := Lib.hid (VX.out.below hb4)
      replace VY := Lib.hid (VY.out.below hb4)
      clear hb4
      go_wp2
      go_ret
      exact ⟨retW HF.out.symm, HB⟩
    · rw [if_neg (by omega), if_pos (Nat.le_of_lt gt)] at hF2
      have HF := Lib.hid hF2
      have HC := Lib.hid (cmp_gt' gt)
      have HG := Lib.hid (Nat.le_of_lt gt)
      clear hF2 gt
      go_enter Try.func17, Try.ntmps17
      go_wp2_with (first | (go_at_call 28; (first | (with_reducible refine (NA.out _).mono ?_) | (with_reducible refine (NB.out _).mono ?_) | (with_reducible refine (NC.out _).mono ?_)); rintro e w' ⟨rfl, rfl⟩) | (go_at_call 29; (first | (with_reducible refine (EA.out _).mono ?_) | (with_reducible refine (EB.out _).mono ?_) | (with_reducible refine (EC.out _).mono ?_)); rintro e w' ⟨rfl, rfl⟩) | (go_at_call 30; (first | (with_reducible refine (ZA.out _).mono ?_) | (with_reducible refine (ZB.out _).mono ?_) | (with_reducible refine (ZC.out _).mono ?_)); rintro e w' ⟨rfl, rfl⟩) | (go_at_call 49; (first | (with_reducible refine (SA.out _).mono ?_) | (with_reducible refine (SB.out _).mono ?_) | (with_reducible refine (SC.out _).mono ?_)); rintro r w' ⟨rfl, rfl⟩) | (go_at_call 50; (with_reducible refine (CW.out _).mono ?_); rintro r w1 ⟨rfl, hb1⟩; replace HB := Bel.st HB hb1; have hz1 := hb1.size; clear hb1))
      (with_reducible refine (NX.out _).mono ?_)
      rintro r w2 ⟨vx, rfl, hvx, hb2⟩
      replace HB := Bel.st (Bel.al HB _) hb2
      have VX := Lib.hid hvx
      clear hb2 hvx
      go_wp2_with fail
      (with_reducible refine (NY.out _).mono ?_)
      rintro r w3 ⟨vy, rfl, hvy, hb3⟩
      replace HB := Bel.st HB hb3
      have VY := Lib.hid hvy
      replace VX := Lib.hid (VX.out.below hb3)
      clear hb3 hvy
      go_wp2_with fail
      (with_reducible refine (ncmp_v (VX.out.slice bX.out) (VY.out.slice bY.out) (by decide)).mono ?_)
      rw [HC.out]
      rintro r w4 ⟨rfl, hb4⟩
      replace HB := Bel.st HB hb4
      replace VX := Lib.hid (VX.out.below hb4)
      replace VY := Lib.hid (VY.out.below hb4)
      clear hb4
      go_wp2_with fail
      (with_reducible refine (nsub_v (VX.out.slice bX.out) (VY.out.slice bY.out) (by decide) HG.out).mono ?_)
      rintro r w5 ⟨vs, rfl, hvs, hb5⟩
      replace HB := Bel.st HB hb5
      have VS := Lib.hid hvs
      clear hb5 hvs
      go_wp2_with fail
      (with_reducible refine (RN.out (X - Y) ng _ _ VS.out (by have := bXY.out; omega)).mono ?_)
      rintro r w6 ⟨rfl, hb6⟩
      replace HB := Bel.st HB hb6
      clear hb6
      go_wp2
      go_ret
      exact ⟨retW HF.out.symm, HB⟩
end Go.Proofs.Ytmjaoeafompclaa

namespace Go.Proofs.Ytmjaoeafompclaa
open Go.RowKit Go.Shelf

theorem wd_sb (s : Bool) : Wd (sb s) := by cases s <;> exact ⟨by decide, by decide⟩
theorem sgn_one {c : Int} (hc : Wd c) : (c / 9223372036854775808 == 1) = sgn c := by
  rw [top_bit hc]
  cases sgn c <;> rfl
theorem kd_sb (s : Bool) : kd (sb s) = 0 := by cases s <;> decide
theorem fma_zero {a b c : Int} (ha : Wd a) (hb : Wd b) (hc : Wd c) (h : kd a = 0 ∨ kd b = 0) (kc : kd c ≤ 2) : fmaF a b c = addI (sb (sgn a != sgn b)) c := by
  have hz : sv a * sv b = 0 := by
    rcases h with h | h
    · rw [sv_zero ha h, Int.zero_mul]
    · rw [sv_zero hb h, Int.mul_zero]
  have hf : fsum a b c = sv c * 2 ^ 1074 := by unfold fsum; rw [hz, Int.zero_add]
  have hk := kd_sb (sgn a != sgn b)
  unfold fmaF
  rw [hf]
  by_cases h0 : kd c = 0
  · rw [sv_zero hc h0, Int.zero_mul, if_pos rfl, addI_zero hk h0]
    have hw := zero_word' hc h0
    generalize (sgn a != sgn b) = ng at *
    generalize sgn c = sc at *
    subst hw
    cases ng <;> cases sc <;> first | (simp [h, sb]; done) | (simp [h, sb]; decide)
  · have hn : fn c ≠ 0 := fn_ne hc kc h0
    have hs : sv c ≠ 0 := by unfold sv sg; split <;> omega
    have hp : (2 : Int) ^ 1074 ≠ 0 := Int.ne_of_gt (Int.pow_pos (by decide))
    rw [if_neg (Int.mul_ne_zero hs hp), addI_fin (by omega) kc (.inr h0), sv_zero (wd_sb _) hk, Int.zero_add, rnd_sv hc kc h0]
    have e := fbits_units (S := sv c) (k := 1074) (l := -1074) (by decide)
    rw [e]
    exact rnd_sv hc kc h0

set_option maxRecDepth 100000 in
set_option maxHeartbeats 16000000 in
theorem fma5_inf (a b c : Int) (w : World) (ha : Wd a) (hb : Wd b) (hc : Wd c) (ka : kd a = 3) (ia : Kin a false true false) : Calls Try.prog 17 #[.int .u64 a, .int .u64 b, .int .u64 c] w fun e w' => e = .returned (.int .u64 (fmaI a b c)) ∧ Below w.heap.size w w' := by
  have hng := sign_ne ha hb
  have hsc := sgn_one hc
  have a0 := ha.1
  have b0 := hb.1
  have c0 := hc.1
  have ba := kd_bd a
  have bb := kd_bd b
  have bc := kd_bd c
  have HB := Bel.re w
  rcases kin_cases b with ⟨kb, ib⟩ | ⟨kb, ib⟩ | ⟨kb, ib⟩ | ⟨kb, ib⟩
  · have ic : Kin c (kd c == 4) (kd c == 3) (kd c == 0) := ⟨rfl, rfl, rfl⟩
    have hI : fmaI a b c = 9221120237041090560 := by unfold fmaI; rw [if_pos (by omega)]; rfl
    rw [hI]
    clear hI
    generalize (sgn a != sgn b) = ng at *
    have NA := Lib.hid (none5_k ha ia)
    have EA := Lib.hid (endless5_k ha ia)
    have ZA := Lib.hid (zero5_k ha ia)
    have NB := Lib.hid (none5_k hb ib)
    have EB := Lib.hid (endless5_k hb ib)
    have ZB := Lib.hid (zero5_k hb ib)
    have NC := Lib.hid (none5_k hc ic)
    have EC := Lib.hid (endless5_k hc ic)
    have ZC := Lib.hid (zero5_k hc ic)
    clear ia ib ic ka ha hb hc ba bb bc kb
    go_enter Try.func17, Try.ntmps17
    go_wp2_with (first | (go_at_call 28; (first | (with_reducible refine (NA.out _).mono ?_) | (with_reducible refine (NB.out _).mono ?_) | (with_reducible refine (NC.out _).mono ?_)); rintro e w' ⟨rfl, rfl⟩) | (go_at_call 29; (first | (with_reducible refine (EA.out _).mono ?_) | (with_reducible refine (EB.out _).mono ?_) | (with_reducible refine (EC.out _).mono ?_)); rintro e w' ⟨rfl, rfl⟩) | (go_at_call 30; (first | (with_reducible refine (ZA.out _).mono ?_) | (with_reducible refine (ZB.out _).mono ?_) | (with_reducible refine (ZC.out _).mono ?_)); rintro e w' ⟨rfl, rfl⟩) | (go_at_call 31; (first | (with_reducible refine (with5_inf _ _).mono ?_) | (with_reducible refine (with5_zero _ _).mono ?_)); rintro e w' ⟨rfl, rfl⟩))
    all_goals (go_ret; exact ⟨rfl, HB⟩)
  · rcases kin_cases c with ⟨kc, ic⟩ | ⟨kc, ic⟩ | ⟨kc, ic⟩ | ⟨kc, ic⟩
    · skip
      have hI : fmaI a b c = 9221120237041090560 := by unfold fmaI; rw [if_pos (by omega)]; rfl
      rw [hI]
      clear hI
      generalize (sgn a != sgn b) = ng at *
      have NA := Lib.hid (none5_k ha ia)
      have EA := Lib.hid (endless5_k ha ia)
      have ZA := Lib.hid (zero5_k ha ia)
      have NB := Lib.hid (none5_k hb ib)
      have EB := Lib.hid (endless5_k hb ib)
      have ZB := Lib.hid (zero5_k hb ib)
      have NC := Lib.hid (none5_k hc ic)
      have EC := Lib.hid (endless5_k hc ic)
      have ZC := Lib.hid (zero5_k hc ic)
      clear ia ib ic ka ha hb hc ba bb bc kb kc
      go_enter Try.func17, Try.ntmps17
      go_wp2_with (first | (go_at_call 28; (first | (with_reducible refine (NA.out _).mono ?_) | (with_reducible refine (NB.out _).mono ?_) | (with_reducible refine (NC.out _).mono ?_)); rintro e w' ⟨rfl, rfl⟩) | (go_at_call 29; (first | (with_reducible refine (EA.out _).mono ?_) | (with_reducible refine (EB.out _).mono ?_) | (with_reducible refine (EC.out _).mono ?_)); rintro e w' ⟨rfl, rfl⟩) | (go_at_call 30; (first | (with_reducible refine (ZA.out _).mono ?_) | (with_reducible refine (ZB.out _).mono ?_) | (with_reducible refine (ZC.out _).mono ?_)); rintro e w' ⟨rfl, rfl⟩) | (go_at_call 31; (first | (with_reducible refine (with5_inf _ _).mono ?_) | (with_reducible refine (with5_zero _ _).mono ?_)); rintro e w' ⟨rfl, rfl⟩))
      all_goals (go_ret; exact ⟨rfl, HB⟩)
    · skip
      have hI : fmaI a b c = if sgn c ≠ (sgn a != sgn b) then 9221120237041090560 else sb (sgn a != sgn b) + INFI := by
        unfold fmaI
        by_cases h : sgn c ≠ (sgn a != sgn b)
        · rw [if_pos h, if_pos (.inr (.inr (.inr (.inr ⟨by omega, kc, h⟩))))]; rfl
        · rw [if_neg h, if_neg (by rintro (g | g | g | g | ⟨_, _, g⟩) <;> first | omega | exact h g), if_pos (by omega)]
      rw [hI]
      clear hI
      generalize (sgn a != sgn b) = ng at *
      generalize sgn c = sc at *
      have NA := Lib.hid (none5_k ha ia)
      have EA := Lib.hid (endless5_k ha ia)
      have ZA := Lib.hid (zero5_k ha ia)
      have NB := Lib.hid (none5_k hb ib)
      have EB := Lib.hid (endless5_k hb ib)
      have ZB := Lib.hid (zero5_k hb ib)
      have NC := Lib.hid (none5_k hc ic)
      have EC := Lib.hid (endless5_k hc ic)
      have ZC := Lib.hid (zero5_k hc ic)
      clear ia ib ic ka ha hb hc ba bb bc kb kc
      cases ng <;> cases sc
      all_goals
        go_enter Try.func17, Try.ntmps17
        go_wp2_with (first | (go_at_call 28; (first | (with_reducible refine (NA.out _).mono ?_) | (with_reducible refine (NB.out _).mono ?_) | (with_reducible refine (NC.out _).mono ?_)); rintro e w' ⟨rfl, rfl⟩) | (go_at_call 29; (first | (with_reducible refine (EA.out _).mono ?_) | (with_reducible refine (EB.out _).mono ?_) | (with_reducible refine (EC.out _).mono ?_)); rintro e w' ⟨rfl, rfl⟩) | (go_at_call 30; (first | (with_reducible refine (ZA.out _).mono ?_) | (with_reducible refine (ZB.out _).mono ?_) | (with_reducible refine (ZC.out _).mono ?_)); rintro e w' ⟨rfl, rfl⟩) | (go_at_call 31; (first | (with_reducible refine (with5_inf _ _).mono ?_) | (with_reducible refine (with5_zero _ _).mono ?_)); rintro e w' ⟨rfl, rfl⟩))
        all_goals (go_ret; exact ⟨rfl, HB⟩)
    · skip
      have hI : fmaI a b c = sb (sgn a != sgn b) + INFI := by unfold fmaI; rw [if_neg (by omega), if_pos (by omega)]
      rw [hI]
      clear hI
      generalize (sgn a != sgn b) = ng at *
      have NA := Lib.hid (none5_k ha ia)
      have EA := Lib.hid (endless5_k ha ia)
      have ZA := Lib.hid (zero5_k ha ia)
      have NB := Lib.hid (none5_k hb ib)
      have EB := Lib.hid (endless5_k hb ib)
      have ZB := Lib.hid (zero5_k hb ib)
      have NC := Lib.hid (none5_k hc ic)
      have EC := Lib.hid (endless5_k hc ic)
      have ZC := Lib.hid (zero5_k hc ic)
      clear ia ib ic ka ha hb hc ba bb bc kb kc
      go_enter Try.func17, Try.ntmps17
      go_wp2_with (first | (go_at_call 28; (first | (with_reducible refine (NA.out _).mono ?_) | (with_reducible refine (NB.out _).mono ?_) | (with_reducible refine (NC.out _).mono ?_)); rintro e w' ⟨rfl, rfl⟩) | (go_at_call 29; (first | (with_reducible refine (EA.out _).mono ?_) | (with_reducible refine (EB.out _).mono ?_) | (with_reducible refine (EC.out _).mono ?_)); rintro e w' ⟨rfl, rfl⟩) | (go_at_call 30; (first | (with_reducible refine (ZA.out _).mono ?_) | (with_reducible refine (ZB.out _).mono ?_) | (with_reducible refine (ZC.out _).mono ?_)); rintro e w' ⟨rfl, rfl⟩) | (go_at_call 31; (first | (with_reducible refine (with5_inf _ _).mono ?_) | (with_reducible refine (with5_zero _ _).mono ?_)); rintro e w' ⟨rfl, rfl⟩))
      all_goals (go_ret; exact ⟨rfl, HB⟩)
    · skip
      have hI : fmaI a b c = sb (sgn a != sgn b) + INFI := by unfold fmaI; rw [if_neg (by omega), if_pos (by omega)]
      rw [hI]
      clear hI
      generalize (sgn a != sgn b) = ng at *
      have NA := Lib.hid (none5_k ha ia)
      have EA := Lib.hid (endless5_k ha ia)
      have ZA := Lib.hid (zero5_k ha ia)
      have NB := Lib.hid (none5_k hb ib)
      have EB := Lib.hid (endless5_k hb ib)
      have ZB := Lib.hid (zero5_k hb ib)
      have NC := Lib.hid (none5_k hc ic)
      have EC := Lib.hid (endless5_k hc ic)
      have ZC := Lib.hid (zero5_k hc ic)
      clear ia ib ic ka ha hb hc ba bb bc kb kc
      go_enter Try.func17, Try.ntmps17
      go_wp2_with (first | (go_at_call 28; (first | (with_reducible refine (NA.out _).mono ?_) | (with_reducible refine (NB.out _).mono ?_) | (with_reducible refine (NC.out _).mono ?_)); rintro e w' ⟨rfl, rfl⟩) | (go_at_call 29; (first | (with_reducible refine (EA.out _).mono ?_) | (with_reducible refine (EB.out _).mono ?_) | (with_reducible refine (EC.out _).mono ?_)); rintro e w' ⟨rfl, rfl⟩) | (go_at_call 30; (first | (with_reducible refine (ZA.out _).mono ?_) | (with_reducible refine (ZB.out _).mono ?_) | (with_reducible refine (ZC.out _).mono ?_)); rintro e w' ⟨rfl, rfl⟩) | (go_at_call 31; (first | (with_reducible refine (with5_inf _ _).mono ?_) | (with_reducible refine (with5_zero _ _).mono ?_)); rintro e w' ⟨rfl, rfl⟩))
      all_goals (go_ret; exact ⟨rfl, HB⟩)
  · rcases kin_cases c with ⟨kc, ic⟩ | ⟨kc, ic⟩ | ⟨kc, ic⟩ | ⟨kc, ic⟩
    · skip
      have hI : fmaI a b c = 9221120237041090560 := by unfold fmaI; rw [if_pos (by omega)]; rfl
      rw [hI]
      clear hI
      generalize (sgn a != sgn b) = ng at *
      have NA := Lib.hid (none5_k ha ia)
      have EA := Lib.hid (endless5_k ha ia)
      have ZA := Lib.hid (zero5_k ha ia)
      have NB := Lib.hid (none5_k hb ib)
      have EB := Lib.hid (endless5_k hb ib)
      have ZB := Lib.hid (zero5_k hb ib)
      have NC := Lib.hid (none5_k hc ic)
      have EC := Lib.hid (endless5_k hc ic)
      have ZC := Lib.hid (zero5_k hc ic)
      clear ia ib ic ka ha hb hc ba bb bc kb kc
      go_enter Try.func17, Try.ntmps17
      go_wp2_with (first | (go_at_call 28; (first | (with_reducible refine (NA.out _).mono ?_) | (with_reducible refine (NB.out _).mono ?_) | (with_reducible refine (NC.out _).mono ?_)); rintro e w' ⟨rfl, rfl⟩) | (go_at_call 29; (first | (with_reducible refine (EA.out _).mono ?_) | (with_reducible refine (EB.out _).mono ?_) | (with_reducible refine (EC.out _).mono ?_)); rintro e w' ⟨rfl, rfl⟩) | (go_at_call 30; (first | (with_reducible refine (ZA.out _).mono ?_) | (with_reducible refine (ZB.out _).mono ?_) | (with_reducible refine (ZC.out _).mono ?_)); rintro e w' ⟨rfl, rfl⟩) | (go_at_call 31; (first | (with_reducible refine (with5_inf _ _).mono ?_) | (with_reducible refine (with5_zero _ _).mono ?_)); rintro e w' ⟨rfl, rfl⟩))
      all_goals (go_ret; exact ⟨rfl, HB⟩)
    · skip
      have hI : fmaI a b c = 9221120237041090560 := by unfold fmaI; rw [if_pos (by omega)]; rfl
      rw [hI]
      clear hI
      generalize (sgn a != sgn b) = ng at *
      have NA := Lib.hid (none5_k ha ia)
      have EA := Lib.hid (endless5_k ha ia)
      have ZA := Lib.hid (zero5_k ha ia)
      have NB := Lib.hid (none5_k hb ib)
      have EB := Lib.hid (endless5_k hb ib)
      have ZB := Lib.hid (zero5_k hb ib)
      have NC := Lib.hid (none5_k hc ic)
      have EC := Lib.hid (endless5_k hc ic)
      have ZC := Lib.hid (zero5_k hc ic)
      clear ia ib ic ka ha hb hc ba bb bc kb kc
      go_enter Try.func17, Try.ntmps17
      go_wp2_with (first | (go_at_call 28; (first | (with_reducible refine (NA.out _).mono ?_) | (with_reducible refine (NB.out _).mono ?_) | (with_reducible refine (NC.out _).mono ?_)); rintro e w' ⟨rfl, rfl⟩) | (go_at_call 29; (first | (with_reducible refine (EA.out _).mono ?_) | (with_reducible refine (EB.out _).mono ?_) | (with_reducible refine (EC.out _).mono ?_)); rintro e w' ⟨rfl, rfl⟩) | (go_at_call 30; (first | (with_reducible refine (ZA.out _).mono ?_) | (with_reducible refine (ZB.out _).mono ?_) | (with_reducible refine (ZC.out _).mono ?_)); rintro e w' ⟨rfl, rfl⟩) | (go_at_call 31; (first | (with_reducible refine (with5_inf _ _).mono ?_) | (with_reducible refine (with5_zero _ _).mono ?_)); rintro e w' ⟨rfl, rfl⟩))
      all_goals (go_ret; exact ⟨rfl, HB⟩)
    · skip
      have hI : fmaI a b c = 9221120237041090560 := by unfold fmaI; rw [if_pos (by omega)]; rfl
      rw [hI]
      clear hI
      generalize (sgn a != sgn b) = ng at *
      have NA := Lib.hid (none5_k ha ia)
      have EA := Lib.hid (endless5_k ha ia)
      have ZA := Lib.hid (zero5_k ha ia)
      have NB := Lib.hid (none5_k hb ib)
      have EB := Lib.hid (endless5_k hb ib)
      have ZB := Lib.hid (zero5_k hb ib)
      have NC := Lib.hid (none5_k hc ic)
      have EC := Lib.hid (endless5_k hc ic)
      have ZC := Lib.hid (zero5_k hc ic)
      clear ia ib ic ka ha hb hc ba bb bc kb kc
      go_enter Try.func17, Try.ntmps17
      go_wp2_with (first | (go_at_call 28; (first | (with_reducible refine (NA.out _).mono ?_) | (with_reducible refine (NB.out _).mono ?_) | (with_reducible refine (NC.out _).mono ?_)); rintro e w' ⟨rfl, rfl⟩) | (go_at_call 29; (first | (with_reducible refine (EA.out _).mono ?_) | (with_reducible refine (EB.out _).mono ?_) | (with_reducible refine (EC.out _).mono ?_)); rintro e w' ⟨rfl, rfl⟩) | (go_at_call 30; (first | (with_reducible refine (ZA.out _).mono ?_) | (with_reducible refine (ZB.out _).mono ?_) | (with_reducible refine (ZC.out _).mono ?_)); rintro e w' ⟨rfl, rfl⟩) | (go_at_call 31; (first | (with_reducible refine (with5_inf _ _).mono ?_) | (with_reducible refine (with5_zero _ _).mono ?_)); rintro e w' ⟨rfl, rfl⟩))
      all_goals (go_ret; exact ⟨rfl, HB⟩)
    · skip
      have hI : fmaI a b c = 9221120237041090560 := by unfold fmaI; rw [if_pos (by omega)]; rfl
      rw [hI]
      clear hI
      generalize (sgn a != sgn b) = ng at *
      have NA := Lib.hid (none5_k ha ia)
      have EA := Lib.hid (endless5_k ha ia)
      have ZA := Lib.hid (zero5_k ha ia)
      have NB := Lib.hid (none5_k hb ib)
      have EB := Lib.hid (endless5_k hb ib)
      have ZB := Lib.hid (zero5_k hb ib)
      have NC := Lib.hid (none5_k hc ic)
      have EC := Lib.hid (endless5_k hc ic)
      have ZC := Lib.hid (zero5_k hc ic)
      clear ia ib ic ka ha hb hc ba bb bc kb kc
      go_enter Try.func17, Try.ntmps17
      go_wp2_with (first | (go_at_call 28; (first | (with_reducible refine (NA.out _).mono ?_) | (with_reducible refine (NB.out _).mono ?_) | (with_reducible refine (NC.out _).mono ?_)); rintro e w' ⟨rfl, rfl⟩) | (go_at_call 29; (first | (with_reducible refine (EA.out _).mono ?_) | (with_reducible refine (EB.out _).mono ?_) | (with_reducible refine (EC.out _).mono ?_)); rintro e w' ⟨rfl, rfl⟩) | (go_at_call 30; (first | (with_reducible refine (ZA.out _).mono ?_) | (with_reducible refine (ZB.out _).mono ?_) | (with_reducible refine (ZC.out _).mono ?_)); rintro e w' ⟨rfl, rfl⟩) | (go_at_call 31; (first | (with_reducible refine (with5_inf _ _).mono ?_) | (with_reducible refine (with5_zero _ _).mono ?_)); rintro e w' ⟨rfl, rfl⟩))
      all_goals (go_ret; exact ⟨rfl, HB⟩)
  · rcases kin_cases c with ⟨kc, ic⟩ | ⟨kc, ic⟩ | ⟨kc, ic⟩ | ⟨kc, ic⟩
    · skip
      have hI : fmaI a b c = 9221120237041090560 := by unfold fmaI; rw [if_pos (by omega)]; rfl
      rw [hI]
      clear hI
      generalize (sgn a != sgn b) = ng at *
      have NA := Lib.hid (none5_k ha ia)
      have EA := Lib.hid (endless5_k ha ia)
      have ZA := Lib.hid (zero5_k ha ia)
      have NB := Lib.hid (none5_k hb ib)
      have EB := Lib.hid (endless5_k hb ib)
      have ZB := Lib.hid (zero5_k hb ib)
      have NC := Lib.hid (none5_k hc ic)
      have EC := Lib.hid (endless5_k hc ic)
      have ZC := Lib.hid (zero5_k hc ic)
      clear ia ib ic ka ha hb hc ba bb bc kb kc
      go_enter Try.func17, Try.ntmps17
      go_wp2_with (first | (go_at_call 28; (first | (with_reducible refine (NA.out _).mono ?_) | (with_reducible refine (NB.out _).mono ?_) | (with_reducible refine (NC.out _).mono ?_)); rintro e w' ⟨rfl, rfl⟩) | (go_at_call 29; (first | (with_reducible refine (EA.out _).mono ?_) | (with_reducible refine (EB.out _).mono ?_) | (with_reducible refine (EC.out _).mono ?_)); rintro e w' ⟨rfl, rfl⟩) | (go_at_call 30; (first | (with_reducible refine (ZA.out _).mono ?_) | (with_reducible refine (ZB.out _).mono ?_) | (with_reducible refine (ZC.out _).mono ?_)); rintro e w' ⟨rfl, rfl⟩) | (go_at_call 31; (first | (with_reducible refine (with5_inf _ _).mono ?_) | (with_reducible refine (with5_zero _ _).mono ?_)); rintro e w' ⟨rfl, rfl⟩))
      all_goals (go_ret; exact ⟨rfl, HB⟩)
    · skip
      have hI : fmaI a b c = if sgn c ≠ (sgn a != sgn b) then 9221120237041090560 else sb (sgn a != sgn b) + INFI := by
        unfold fmaI
        by_cases h : sgn c ≠ (sgn a != sgn b)
        · rw [if_pos h, if_pos (.inr (.inr (.inr (.inr ⟨by omega, kc, h⟩))))]; rfl
        · rw [if_neg h, if_neg (by rintro (g | g | g | g | ⟨_, _, g⟩) <;> first | omega | exact h g), if_pos (by omega)]
      rw [hI]
      clear hI
      generalize (sgn a != sgn b) = ng at *
      generalize sgn c = sc at *
      have NA := Lib.hid (none5_k ha ia)
      have EA := Lib.hid (endless5_k ha ia)
      have ZA := Lib.hid (zero5_k ha ia)
      have NB := Lib.hid (none5_k hb ib)
      have EB := Lib.hid (endless5_k hb ib)
      have ZB := Lib.hid (zero5_k hb ib)
      have NC := Lib.hid (none5_k hc ic)
      have EC := Lib.hid (endless5_k hc ic)
      have ZC := Lib.hid (zero5_k hc ic)
      clear ia ib ic ka ha hb hc ba bb bc kb kc
      cases ng <;> cases sc
      all_goals
        go_enter Try.func17, Try.ntmps17
        go_wp2_with (first | (go_at_call 28; (first | (with_reducible refine (NA.out _).mono ?_) | (with_reducible refine (NB.out _).mono ?_) | (with_reducible refine (NC.out _).mono ?_)); rintro e w' ⟨rfl, rfl⟩) | (go_at_call 29; (first | (with_reducible refine (EA.out _).mono ?_) | (with_reducible refine (EB.out _).mono ?_) | (with_reducible refine (EC.out _).mono ?_)); rintro e w' ⟨rfl, rfl⟩) | (go_at_call 30; (first | (with_reducible refine (ZA.out _).mono ?_) | (with_reducible refine (ZB.out _).mono ?_) | (with_reducible refine (ZC.out _).mono ?_)); rintro e w' ⟨rfl, rfl⟩) | (go_at_call 31; (first | (with_reducible refine (with5_inf _ _).mono ?_) | (with_reducible refine (with5_zero _ _).mono ?_)); rintro e w' ⟨rfl, rfl⟩))
        all_goals (go_ret; exact ⟨rfl, HB⟩)
    · skip
      have hI : fmaI a b c = sb (sgn a != sgn b) + INFI := by unfold fmaI; rw [if_neg (by omega), if_pos (by omega)]
      rw [hI]
      clear hI
      generalize (sgn a != sgn b) = ng at *
      have NA := Lib.hid (none5_k ha ia)
      have EA := Lib.hid (endless5_k ha ia)
      have ZA := Lib.hid (zero5_k ha ia)
      have NB := Lib.hid (none5_k hb ib)
      have EB := Lib.hid (endless5_k hb ib)
      have ZB := Lib.hid (zero5_k hb ib)
      have NC := Lib.hid (none5_k hc ic)
      have EC := Lib.hid (endless5_k hc ic)
      have ZC := Lib.hid (zero5_k hc ic)
      clear ia ib ic ka ha hb hc ba bb bc kb kc
      go_enter Try.func17, Try.ntmps17
      go_wp2_with (first | (go_at_call 28; (first | (with_reducible refine (NA.out _).mono ?_) | (with_reducible refine (NB.out _).mono ?_) | (with_reducible refine (NC.out _).mono ?_)); rintro e w' ⟨rfl, rfl⟩) | (go_at_call 29; (first | (with_reducible refine (EA.out _).mono ?_) | (with_reducible refine (EB.out _).mono ?_) | (with_reducible refine (EC.out _).mono ?_)); rintro e w' ⟨rfl, rfl⟩) | (go_at_call 30; (first | (with_reducible refine (ZA.out _).mono ?_) | (with_reducible refine (ZB.out _).mono ?_) | (with_reducible refine (ZC.out _).mono ?_)); rintro e w' ⟨rfl, rfl⟩) | (go_at_call 31; (first | (with_reducible refine (with5_inf _ _).mono ?_) | (with_reducible refine (with5_zero _ _).mono ?_)); rintro e w' ⟨rfl, rfl⟩))
      all_goals (go_ret; exact ⟨rfl, HB⟩)
    · skip
      have hI : fmaI a b c = sb (sgn a != sgn b) + INFI := by unfold fmaI; rw [if_neg (by omega), if_pos (by omega)]
      rw [hI]
      clear hI
      generalize (sgn a != sgn b) = ng at *
      have NA := Lib.hid (none5_k ha ia)
      have EA := Lib.hid (endless5_k ha ia)
      have ZA := Lib.hid (zero5_k ha ia)
      have NB := Lib.hid (none5_k hb ib)
      have EB := Lib.hid (endless5_k hb ib)
      have ZB := Lib.hid (zero5_k hb ib)
      have NC := Lib.hid (none5_k hc ic)
      have EC := Lib.hid (endless5_k hc ic)
      have ZC := Lib.hid (zero5_k hc ic)
      clear ia ib ic ka ha hb hc ba bb bc kb kc
      go_enter Try.func17, Try.ntmps17
      go_wp2_with (first | (go_at_call 28; (first | (with_reducible refine (NA.out _).mono ?_) | (with_reducible refine (NB.out _).mono ?_) | (with_reducible refine (NC.out _).mono ?_)); rintro e w' ⟨rfl, rfl⟩) | (go_at_call 29; (first | (with_reducible refine (EA.out _).mono ?_) | (with_reducible refine (EB.out _).mono ?_) | (with_reducible refine (EC.out _).mono ?_)); rintro e w' ⟨rfl, rfl⟩) | (go_at_call 30; (first | (with_reducible refine (ZA.out _).mono ?_) | (with_reducible refine (ZB.out _).mono ?_) | (with_reducible refine (ZC.out _).mono ?_)); rintro e w' ⟨rfl, rfl⟩) | (go_at_call 31; (first | (with_reducible refine (with5_inf _ _).mono ?_) | (with_reducible refine (with5_zero _ _).mono ?_)); rintro e w' ⟨rfl, rfl⟩))
      all_goals (go_ret; exact ⟨rfl, HB⟩)
set_option maxRecDepth 100000 in
set_option maxHeartbeats 16000000 in
theorem fma5_zero (a b c : Int) (w : World) (ha : Wd a) (hb : Wd b) (hc : Wd c) (ka : kd a = 0) (ia : Kin a false false true) : Calls Try.prog 17 #[.int .u64 a, .int .u64 b, .int .u64 c] w fun e w' => e = .returned (.int .u64 (fmaI a b c)) ∧ Below w.heap.size w w' := by
  have hng := sign_ne ha hb
  have hsc := sgn_one hc
  have a0 := ha.1
  have b0 := hb.1
  have c0 := hc.1
  have ba := kd_bd a
  have bb := kd_bd b
  have bc := kd_bd c
  have HB := Bel.re w
  rcases kin_cases b with ⟨kb, ib⟩ | ⟨kb, ib⟩ | ⟨kb, ib⟩ | ⟨kb, ib⟩
  · have ic : Kin c (kd c == 4) (kd c == 3) (kd c == 0) := ⟨rfl, rfl, rfl⟩
    have hI : fmaI a b c = 9221120237041090560 := by unfold fmaI; rw [if_pos (by omega)]; rfl
    rw [hI]
    clear hI
    generalize (sgn a != sgn b) = ng at *
    have NA := Lib.hid (none5_k ha ia)
    have EA := Lib.hid (endless5_k ha ia)
    have ZA := Lib.hid (zero5_k ha ia)
    have NB := Lib.hid (none5_k hb ib)
    have EB := Lib.hid (endless5_k hb ib)
    have ZB := Lib.hid (zero5_k hb ib)
    have NC := Lib.hid (none5_k hc ic)
    have EC := Lib.hid (endless5_k hc ic)
    have ZC := Lib.hid (zero5_k hc ic)
    clear ia ib ic ka ha hb hc ba bb bc kb
    go_enter Try.func17, Try.ntmps17
    go_wp2_with (first | (go_at_call 28; (first | (with_reducible refine (NA.out _).mono ?_) | (with_reducible refine (NB.out _).mono ?_) | (with_reducible refine (NC.out _).mono ?_)); rintro e w' ⟨rfl, rfl⟩) | (go_at_call 29; (first | (with_reducible refine (EA.out _).mono ?_) | (with_reducible refine (EB.out _).mono ?_) | (with_reducible refine (EC.out _).mono ?_)); rintro e w' ⟨rfl, rfl⟩) | (go_at_call 30; (first | (with_reducible refine (ZA.out _).mono ?_) | (with_reducible refine (ZB.out _).mono ?_) | (with_reducible refine (ZC.out _).mono ?_)); rintro e w' ⟨rfl, rfl⟩) | (go_at_call 31; (first | (with_reducible refine (with5_inf _ _).mono ?_) | (with_reducible refine (with5_zero _ _).mono ?_)); rintro e w' ⟨rfl, rfl⟩))
    all_goals (go_ret; exact ⟨rfl, HB⟩)
  · rcases kin_cases c with ⟨kc, ic⟩ | ⟨kc, ic⟩ | ⟨kc, ic⟩ | ⟨kc, ic⟩
    · skip
      have hI : fmaI a b c = 9221120237041090560 := by unfold fmaI; rw [if_pos (by omega)]; rfl
      rw [hI]
      clear hI
      generalize (sgn a != sgn b) = ng at *
      have NA := Lib.hid (none5_k ha ia)
      have EA := Lib.hid (endless5_k ha ia)
      have ZA := Lib.hid (zero5_k ha ia)
      have NB := Lib.hid (none5_k hb ib)
      have EB := Lib.hid (endless5_k hb ib)
      have ZB := Lib.hid (zero5_k hb ib)
      have NC := Lib.hid (none5_k hc ic)
      have EC := Lib.hid (endless5_k hc ic)
      have ZC := Lib.hid (zero5_k hc ic)
      clear ia ib ic ka ha hb hc ba bb bc kb kc
      go_enter Try.func17, Try.ntmps17
      go_wp2_with (first | (go_at_call 28; (first | (with_reducible refine (NA.out _).mono ?_) | (with_reducible refine (NB.out _).mono ?_) | (with_reducible refine (NC.out _).mono ?_)); rintro e w' ⟨rfl, rfl⟩) | (go_at_call 29; (first | (with_reducible refine (EA.out _).mono ?_) | (with_reducible refine (EB.out _).mono ?_) | (with_reducible refine (EC.out _).mono ?_)); rintro e w' ⟨rfl, rfl⟩) | (go_at_call 30; (first | (with_reducible refine (ZA.out _).mono ?_) | (with_reducible refine (ZB.out _).mono ?_) | (with_reducible refine (ZC.out _).mono ?_)); rintro e w' ⟨rfl, rfl⟩) | (go_at_call 31; (first | (with_reducible refine (with5_inf _ _).mono ?_) | (with_reducible refine (with5_zero _ _).mono ?_)); rintro e w' ⟨rfl, rfl⟩))
      all_goals (go_ret; exact ⟨rfl, HB⟩)
    · skip
      have hI : fmaI a b c = 9221120237041090560 := by unfold fmaI; rw [if_pos (by omega)]; rfl
      rw [hI]
      clear hI
      generalize (sgn a != sgn b) = ng at *
      have NA := Lib.hid (none5_k ha ia)
      have EA := Lib.hid (endless5_k ha ia)
      have ZA := Lib.hid (zero5_k ha ia)
      have NB := Lib.hid (none5_k hb ib)
      have EB := Lib.hid (endless5_k hb ib)
      have ZB := Lib.hid (zero5_k hb ib)
      have NC := Lib.hid (none5_k hc ic)
      have EC := Lib.hid (endless5_k hc ic)
      have ZC := Lib.hid (zero5_k hc ic)
      clear ia ib ic ka ha hb hc ba bb bc kb kc
      go_enter Try.func17, Try.ntmps17
      go_wp2_with (first | (go_at_call 28; (first | (with_reducible refine (NA.out _).mono ?_) | (with_reducible refine (NB.out _).mono ?_) | (with_reducible refine (NC.out _).mono ?_)); rintro e w' ⟨rfl, rfl⟩) | (go_at_call 29; (first | (with_reducible refine (EA.out _).mono ?_) | (with_reducible refine (EB.out _).mono ?_) | (with_reducible refine (EC.out _).mono ?_)); rintro e w' ⟨rfl, rfl⟩) | (go_at_call 30; (first | (with_reducible refine (ZA.out _).mono ?_) | (with_reducible refine (ZB.out _).mono ?_) | (with_reducible refine (ZC.out _).mono ?_)); rintro e w' ⟨rfl, rfl⟩) | (go_at_call 31; (first | (with_reducible refine (with5_inf _ _).mono ?_) | (with_reducible refine (with5_zero _ _).mono ?_)); rintro e w' ⟨rfl, rfl⟩))
      all_goals (go_ret; exact ⟨rfl, HB⟩)
    · skip
      have hI : fmaI a b c = 9221120237041090560 := by unfold fmaI; rw [if_pos (by omega)]; rfl
      rw [hI]
      clear hI
      generalize (sgn a != sgn b) = ng at *
      have NA := Lib.hid (none5_k ha ia)
      have EA := Lib.hid (endless5_k ha ia)
      have ZA := Lib.hid (zero5_k ha ia)
      have NB := Lib.hid (none5_k hb ib)
      have EB := Lib.hid (endless5_k hb ib)
      have ZB := Lib.hid (zero5_k hb ib)
      have NC := Lib.hid (none5_k hc ic)
      have EC := Lib.hid (endless5_k hc ic)
      have ZC := Lib.hid (zero5_k hc ic)
      clear ia ib ic ka ha hb hc ba bb bc kb kc
      go_enter Try.func17, Try.ntmps17
      go_wp2_with (first | (go_at_call 28; (first | (with_reducible refine (NA.out _).mono ?_) | (with_reducible refine (NB.out _).mono ?_) | (with_reducible refine (NC.out _).mono ?_)); rintro e w' ⟨rfl, rfl⟩) | (go_at_call 29; (first | (with_reducible refine (EA.out _).mono ?_) | (with_reducible refine (EB.out _).mono ?_) | (with_reducible refine (EC.out _).mono ?_)); rintro e w' ⟨rfl, rfl⟩) | (go_at_call 30; (first | (with_reducible refine (ZA.out _).mono ?_) | (with_reducible refine (ZB.out _).mono ?_) | (with_reducible refine (ZC.out _).mono ?_)); rintro e w' ⟨rfl, rfl⟩) | (go_at_call 31; (first | (with_reducible refine (with5_inf _ _).mono ?_) | (with_reducible refine (with5_zero _ _).mono ?_)); rintro e w' ⟨rfl, rfl⟩))
      all_goals (go_ret; exact ⟨rfl, HB⟩)
    · skip
      have hI : fmaI a b c = 9221120237041090560 := by unfold fmaI; rw [if_pos (by omega)]; rfl
      rw [hI]
      clear hI
      generalize (sgn a != sgn b) = ng at *
      have NA := Lib.hid (none5_k ha ia)
      have EA := Lib.hid (endless5_k ha ia)
      have ZA := Lib.hid (zero5_k ha ia)
      have NB := Lib.hid (none5_k hb ib)
      have EB := Lib.hid (endless5_k hb ib)
      have ZB := Lib.hid (zero5_k hb ib)
      have NC := Lib.hid (none5_k hc ic)
      have EC := Lib.hid (endless5_k hc ic)
      have ZC := Lib.hid (zero5_k hc ic)
      clear ia ib ic ka ha hb hc ba bb bc kb kc
      go_enter Try.func17, Try.ntmps17
      go_wp2_with (first | (go_at_call 28; (first | (with_reducible refine (NA.out _).mono ?_) | (with_reducible refine (NB.out _).mono ?_) | (with_reducible refine (NC.out _).mono ?_)); rintro e w' ⟨rfl, rfl⟩) | (go_at_call 29; (first | (with_reducible refine (EA.out _).mono ?_) | (with_reducible refine (EB.out _).mono ?_) | (with_reducible refine (EC.out _).mono ?_)); rintro e w' ⟨rfl, rfl⟩) | (go_at_call 30; (first | (with_reducible refine (ZA.out _).mono ?_) | (with_reducible refine (ZB.out _).mono ?_) | (with_reducible refine (ZC.out _).mono ?_)); rintro e w' ⟨rfl, rfl⟩) | (go_at_call 31; (first | (with_reducible refine (with5_inf _ _).mono ?_) | (with_reducible refine (with5_zero _ _).mono ?_)); rintro e w' ⟨rfl, rfl⟩))
      all_goals (go_ret; exact ⟨rfl, HB⟩)
  · rcases kin_cases c with ⟨kc, ic⟩ | ⟨kc, ic⟩ | ⟨kc, ic⟩ | ⟨kc, ic⟩
    · skip
      have hI : fmaI a b c = 9221120237041090560 := by unfold fmaI; rw [if_pos (by omega)]; rfl
      rw [hI]
      clear hI
      generalize (sgn a != sgn b) = ng at *
      have NA := Lib.hid (none5_k ha ia)
      have EA := Lib.hid (endless5_k ha ia)
      have ZA := Lib.hid (zero5_k ha ia)
      have NB := Lib.hid (none5_k hb ib)
      have EB := Lib.hid (endless5_k hb ib)
      have ZB := Lib.hid (zero5_k hb ib)
      have NC := Lib.hid (none5_k hc ic)
      have EC := Lib.hid (endless5_k hc ic)
      have ZC := Lib.hid (zero5_k hc ic)
      clear ia ib ic ka ha hb hc ba bb bc kb kc
      go_enter Try.func17, Try.ntmps17
      go_wp2_with (first | (go_at_call 28; (first | (with_reducible refine (NA.out _).mono ?_) | (with_reducible refine (NB.out _).mono ?_) | (with_reducible refine (NC.out _).mono ?_)); rintro e w' ⟨rfl, rfl⟩) | (go_at_call 29; (first | (with_reducible refine (EA.out _).mono ?_) | (with_reducible refine (EB.out _).mono ?_) | (with_reducible refine (EC.out _).mono ?_)); rintro e w' ⟨rfl, rfl⟩) | (go_at_call 30; (first | (with_reducible refine (ZA.out _).mono ?_) | (with_reducible refine (ZB.out _).mono ?_) | (with_reducible refine (ZC.out _).mono ?_)); rintro e w' ⟨rfl, rfl⟩) | (go_at_call 31; (first | (with_reducible refine (with5_inf _ _).mono ?_) | (with_reducible refine (with5_zero _ _).mono ?_)); rintro e w' ⟨rfl, rfl⟩))
      all_goals (go_ret; exact ⟨rfl, HB⟩)
    · skip
      have hI : fmaI a b c = c := by unfold fmaI; rw [if_neg (by omega), if_neg (by omega), if_pos (by omega)]
      rw [hI]
      clear hI
      generalize (sgn a != sgn b) = ng at *
      have NA := Lib.hid (none5_k ha ia)
      have EA := Lib.hid (endless5_k ha ia)
      have ZA := Lib.hid (zero5_k ha ia)
      have NB := Lib.hid (none5_k hb ib)
      have EB := Lib.hid (endless5_k hb ib)
      have ZB := Lib.hid (zero5_k hb ib)
      have NC := Lib.hid (none5_k hc ic)
      have EC := Lib.hid (endless5_k hc ic)
      have ZC := Lib.hid (zero5_k hc ic)
      clear ia ib ic ka ha hb hc ba bb bc kb kc
      go_enter Try.func17, Try.ntmps17
      go_wp2_with (first | (go_at_call 28; (first | (with_reducible refine (NA.out _).mono ?_) | (with_reducible refine (NB.out _).mono ?_) | (with_reducible refine (NC.out _).mono ?_)); rintro e w' ⟨rfl, rfl⟩) | (go_at_call 29; (first | (with_reducible refine (EA.out _).mono ?_) | (with_reducible refine (EB.out _).mono ?_) | (with_reducible refine (EC.out _).mono ?_)); rintro e w' ⟨rfl, rfl⟩) | (go_at_call 30; (first | (with_reducible refine (ZA.out _).mono ?_) | (with_reducible refine (ZB.out _).mono ?_) | (with_reducible refine (ZC.out _).mono ?_)); rintro e w' ⟨rfl, rfl⟩) | (go_at_call 31; (first | (with_reducible refine (with5_inf _ _).mono ?_) | (with_reducible refine (with5_zero _ _).mono ?_)); rintro e w' ⟨rfl, rfl⟩))
      all_goals (go_ret; exact ⟨rfl, HB⟩)
    · skip
      have hI : fmaI a b c = addI (sb (sgn a != sgn b)) c := by unfold fmaI; rw [if_neg (by omega), if_neg (by omega), if_neg (by omega), fma_zero ha hb hc (by omega) (by omega)]
      rw [hI]
      clear hI
      generalize (sgn a != sgn b) = ng at *
      have CA := Lib.hid (fun v => aadd_any (sb ng) c v (wd_sb ng) hc)
      have NA := Lib.hid (none5_k ha ia)
      have EA := Lib.hid (endless5_k ha ia)
      have ZA := Lib.hid (zero5_k ha ia)
      have NB := Lib.hid (none5_k hb ib)
      have EB := Lib.hid (endless5_k hb ib)
      have ZB := Lib.hid (zero5_k hb ib)
      have NC := Lib.hid (none5_k hc ic)
      have EC := Lib.hid (endless5_k hc ic)
      have ZC := Lib.hid (zero5_k hc ic)
      clear ia ib ic ka ha hb hc ba bb bc kb kc
      go_enter Try.func17, Try.ntmps17
      go_wp2_with (first | (go_at_call 28; (first | (with_reducible refine (NA.out _).mono ?_) | (with_reducible refine (NB.out _).mono ?_) | (with_reducible refine (NC.out _).mono ?_)); rintro e w' ⟨rfl, rfl⟩) | (go_at_call 29; (first | (with_reducible refine (EA.out _).mono ?_) | (with_reducible refine (EB.out _).mono ?_) | (with_reducible refine (EC.out _).mono ?_)); rintro e w' ⟨rfl, rfl⟩) | (go_at_call 30; (first | (with_reducible refine (ZA.out _).mono ?_) | (with_reducible refine (ZB.out _).mono ?_) | (with_reducible refine (ZC.out _).mono ?_)); rintro e w' ⟨rfl, rfl⟩) | (go_at_call 31; (first | (with_reducible refine (with5_inf _ _).mono ?_) | (with_reducible refine (with5_zero _ _).mono ?_)); rintro e w' ⟨rfl, rfl⟩) | (go_at_call 25; (with_reducible refine (CA.out _).mono ?_); rintro e w1 ⟨rfl, hb1⟩; replace HB := Bel.st HB hb1; clear hb1))
      all_goals (go_ret; exact ⟨rfl, HB⟩)
    · skip
      have hI : fmaI a b c = addI (sb (sgn a != sgn b)) c := by unfold fmaI; rw [if_neg (by omega), if_neg (by omega), if_neg (by omega), fma_zero ha hb hc (by omega) (by omega)]
      rw [hI]
      clear hI
      generalize (sgn a != sgn b) = ng at *
      have CA := Lib.hid (fun v => aadd_any (sb ng) c v (wd_sb ng) hc)
      have NA := Lib.hid (none5_k ha ia)
      have EA := Lib.hid (endless5_k ha ia)
      have ZA := Lib.hid (zero5_k ha ia)
      have NB := Lib.hid (none5_k hb ib)
      have EB := Lib.hid (endless5_k hb ib)
      have ZB := Lib.hid (zero5_k hb ib)
      have NC := Lib.hid (none5_k hc ic)
      have EC := Lib.hid (endless5_k hc ic)
      have ZC := Lib.hid (zero5_k hc ic)
      clear ia ib ic ka ha hb hc ba bb bc kb kc
      go_enter Try.func17, Try.ntmps17
      go_wp2_with (first | (go_at_call 28; (first | (with_reducible refine (NA.out _).mono ?_) | (with_reducible refine (NB.out _).mono ?_) | (with_reducible refine (NC.out _).mono ?_)); rintro e w' ⟨rfl, rfl⟩) | (go_at_call 29; (first | (with_reducible refine (EA.out _).mono ?_) | (with_reducible refine (EB.out _).mono ?_) | (with_reducible refine (EC.out _).mono ?_)); rintro e w' ⟨rfl, rfl⟩) | (go_at_call 30; (first | (with_reducible refine (ZA.out _).mono ?_) | (with_reducible refine (ZB.out _).mono ?_) | (with_reducible refine (ZC.out _).mono ?_)); rintro e w' ⟨rfl, rfl⟩) | (go_at_call 31; (first | (with_reducible refine (with5_inf _ _).mono ?_) | (with_reducible refine (with5_zero _ _).mono ?_)); rintro e w' ⟨rfl, rfl⟩) | (go_at_call 25; (with_reducible refine (CA.out _).mono ?_); rintro e w1 ⟨rfl, hb1⟩; replace HB := Bel.st HB hb1; clear hb1))
      all_goals (go_ret; exact ⟨rfl, HB⟩)
  · rcases kin_cases c with ⟨kc, ic⟩ | ⟨kc, ic⟩ | ⟨kc, ic⟩ | ⟨kc, ic⟩
    · skip
      have hI : fmaI a b c = 9221120237041090560 := by unfold fmaI; rw [if_pos (by omega)]; rfl
      rw [hI]
      clear hI
      generalize (sgn a != sgn b) = ng at *
      have NA := Lib.hid (none5_k ha ia)
      have EA := Lib.hid (endless5_k ha ia)
      have ZA := Lib.hid (zero5_k ha ia)
      have NB := Lib.hid (none5_k hb ib)
      have EB := Lib.hid (endless5_k hb ib)
      have ZB := Lib.hid (zero5_k hb ib)
      have NC := Lib.hid (none5_k hc ic)
      have EC := Lib.hid (endless5_k hc ic)
      have ZC := Lib.hid (zero5_k hc ic)
      clear ia ib ic ka ha hb hc ba bb bc kb kc
      go_enter Try.func17, Try.ntmps17
      go_wp2_with (first | (go_at_call 28; (first | (with_reducible refine (NA.out _).mono ?_) | (with_reducible refine (NB.out _).mono ?_) | (with_reducible refine (NC.out _).mono ?_)); rintro e w' ⟨rfl, rfl⟩) | (go_at_call 29; (first | (with_reducible refine (EA.out _).mono ?_) | (with_reducible refine (EB.out _).mono ?_) | (with_reducible refine (EC.out _).mono ?_)); rintro e w' ⟨rfl, rfl⟩) | (go_at_call 30; (first | (with_reducible refine (ZA.out _).mono ?_) | (with_reducible refine (ZB.out _).mono ?_) | (with_reducible refine (ZC.out _).mono ?_)); rintro e w' ⟨rfl, rfl⟩) | (go_at_call 31; (first | (with_reducible refine (with5_inf _ _).mono ?_) | (with_reducible refine (with5_zero _ _).mono ?_)); rintro e w' ⟨rfl, rfl⟩))
      all_goals (go_ret; exact ⟨rfl, HB⟩)
    · skip
      have hI : fmaI a b c = c := by unfold fmaI; rw [if_neg (by omega), if_neg (by omega), if_pos (by omega)]
      rw [hI]
      clear hI
      generalize (sgn a != sgn b) = ng at *
      have NA := Lib.hid (none5_k ha ia)
      have EA := Lib.hid (endless5_k ha ia)
      have ZA := Lib.hid (zero5_k ha ia)
      have NB := Lib.hid (none5_k hb ib)
      have EB := Lib.hid (endless5_k hb ib)
      have ZB := Lib.hid (zero5_k hb ib)
      have NC := Lib.hid (none5_k hc ic)
      have EC := Lib.hid (endless5_k hc ic)
      have ZC := Lib.hid (zero5_k hc ic)
      clear ia ib ic ka ha hb hc ba bb bc kb kc
      go_enter Try.func17, Try.ntmps17
      go_wp2_with (first | (go_at_call 28; (first | (with_reducible refine (NA.out _).mono ?_) | (with_reducible refine (NB.out _).mono ?_) | (with_reducible refine (NC.out _).mono ?_)); rintro e w' ⟨rfl, rfl⟩) | (go_at_call 29; (first | (with_reducible refine (EA.out _).mono ?_) | (with_reducible refine (EB.out _).mono ?_) | (with_reducible refine (EC.out _).mono ?_)); rintro e w' ⟨rfl, rfl⟩) | (go_at_call 30; (first | (with_reducible refine (ZA.out _).mono ?_) | (with_reducible refine (ZB.out _).mono ?_) | (with_reducible refine (ZC.out _).mono ?_)); rintro e w' ⟨rfl, rfl⟩) | (go_at_call 31; (first | (with_reducible refine (with5_inf _ _).mono ?_) | (with_reducible refine (with5_zero _ _).mono ?_)); rintro e w' ⟨rfl, rfl⟩))
      all_goals (go_ret; exact ⟨rfl, HB⟩)
    · skip
      have hI : fmaI a b c = addI (sb (sgn a != sgn b)) c := by unfold fmaI; rw [if_neg (by omega), if_neg (by omega), if_neg (by omega), fma_zero ha hb hc (by omega) (by omega)]
      rw [hI]
      clear hI
      generalize (sgn a != sgn b) = ng at *
      have CA := Lib.hid (fun v => aadd_any (sb ng) c v (wd_sb ng) hc)
      have NA := Lib.hid (none5_k ha ia)
      have EA := Lib.hid (endless5_k ha ia)
      have ZA := Lib.hid (zero5_k ha ia)
      have NB := Lib.hid (none5_k hb ib)
      have EB := Lib.hid (endless5_k hb ib)
      have ZB := Lib.hid (zero5_k hb ib)
      have NC := Lib.hid (none5_k hc ic)
      have EC := Lib.hid (endless5_k hc ic)
      have ZC := Lib.hid (zero5_k hc ic)
      clear ia ib ic ka ha hb hc ba bb bc kb kc
      go_enter Try.func17, Try.ntmps17
      go_wp2_with (first | (go_at_call 28; (first | (with_reducible refine (NA.out _).mono ?_) | (with_reducible refine (NB.out _).mono ?_) | (with_reducible refine (NC.out _).mono ?_)); rintro e w' ⟨rfl, rfl⟩) | (go_at_call 29; (first | (with_reducible refine (EA.out _).mono ?_) | (with_reducible refine (EB.out _).mono ?_) | (with_reducible refine (EC.out _).mono ?_)); rintro e w' ⟨rfl, rfl⟩) | (go_at_call 30; (first | (with_reducible refine (ZA.out _).mono ?_) | (with_reducible refine (ZB.out _).mono ?_) | (with_reducible refine (ZC.out _).mono ?_)); rintro e w' ⟨rfl, rfl⟩) | (go_at_call 31; (first | (with_reducible refine (with5_inf _ _).mono ?_) | (with_reducible refine (with5_zero _ _).mono ?_)); rintro e w' ⟨rfl, rfl⟩) | (go_at_call 25; (with_reducible refine (CA.out _).mono ?_); rintro e w1 ⟨rfl, hb1⟩; replace HB := Bel.st HB hb1; clear hb1))
      all_goals (go_ret; exact ⟨rfl, HB⟩)
    · skip
      have hI : fmaI a b c = addI (sb (sgn a != sgn b)) c := by unfold fmaI; rw [if_neg (by omega), if_neg (by omega), if_neg (by omega), fma_zero ha hb hc (by omega) (by omega)]
      rw [hI]
      clear hI
      generalize (sgn a != sgn b) = ng at *
      have CA := Lib.hid (fun v => aadd_any (sb ng) c v (wd_sb ng) hc)
      have NA := Lib.hid (none5_k ha ia)
      have EA := Lib.hid (endless5_k ha ia)
      have ZA := Lib.hid (zero5_k ha ia)
      have NB := Lib.hid (none5_k hb ib)
      have EB := Lib.hid (endless5_k hb ib)
      have ZB := Lib.hid (zero5_k hb ib)
      have NC := Lib.hid (none5_k hc ic)
      have EC := Lib.hid (endless5_k hc ic)
      have ZC := Lib.hid (zero5_k hc ic)
      clear ia ib ic ka ha hb hc ba bb bc kb kc
      go_enter Try.func17, Try.ntmps17
      go_wp2_with (first | (go_at_call 28; (first | (with_reducible refine (NA.out _).mono ?_) | (with_reducible refine (NB.out _).mono ?_) | (with_reducible refine (NC.out _).mono ?_)); rintro e w' ⟨rfl, rfl⟩) | (go_at_call 29; (first | (with_reducible refine (EA.out _).mono ?_) | (with_reducible refine (EB.out _).mono ?_) | (with_reducible refine (EC.out _).mono ?_)); rintro e w' ⟨rfl, rfl⟩) | (go_at_call 30; (first | (with_reducible refine (ZA.out _).mono ?_) | (with_reducible refine (ZB.out _).mono ?_) | (with_reducible refine (ZC.out _).mono ?_)); rintro e w' ⟨rfl, rfl⟩) | (go_at_call 31; (first | (with_reducible refine (with5_inf _ _).mono ?_) | (with_reducible refine (with5_zero _ _).mono ?_)); rintro e w' ⟨rfl, rfl⟩) | (go_at_call 25; (with_reducible refine (CA.out _).mono ?_); rintro e w1 ⟨rfl, hb1⟩; replace HB := Bel.st HB hb1; clear hb1))
      all_goals (go_ret; exact ⟨rfl, HB⟩)
set_option maxRecDepth 100000 in
set_option maxHeartbeats 16000000 in
theorem fma5_other (a b c : Int) (w : World) (ha : Wd a) (hb : Wd b) (hc : Wd c) (ka : kd a = 1 ∨ kd a = 2) (ia : Kin a false false false) : Calls Try.prog 17 #[.int .u64 a, .int .u64 b, .int .u64 c] w fun e w' => e = .returned (.int .u64 (fmaI a b c)) ∧ Below w.heap.size w w' := by
  have hng := sign_ne ha hb
  have hsc := sgn_one hc
  have a0 := ha.1
  have b0 := hb.1
  have c0 := hc.1
  have ba := kd_bd a
  have bb := kd_bd b
  have bc := kd_bd c
  have HB := Bel.re w
  rcases kin_cases b with ⟨kb, ib⟩ | ⟨kb, ib⟩ | ⟨kb, ib⟩ | ⟨kb, ib⟩
  · have ic : Kin c (kd c == 4) (kd c == 3) (kd c == 0) := ⟨rfl, rfl, rfl⟩
    have hI : fmaI a b c = 9221120237041090560 := by unfold fmaI; rw [if_pos (by omega)]; rfl
    rw [hI]
    clear hI
    generalize (sgn a != sgn b) = ng at *
    have NA := Lib.hid (none5_k ha ia)
    have EA := Lib.hid (endless5_k ha ia)
    have ZA := Lib.hid (zero5_k ha ia)
    have NB := Lib.hid (none5_k hb ib)
    have EB := Lib.hid (endless5_k hb ib)
    have ZB := Lib.hid (zero5_k hb ib)
    have NC := Lib.hid (none5_k hc ic)
    have EC := Lib.hid (endless5_k hc ic)
    have ZC := Lib.hid (zero5_k hc ic)
    clear ia ib ic ka ha hb hc ba bb bc kb
    go_enter Try.func17, Try.ntmps17
    go_wp2_with (first | (go_at_call 28; (first | (with_reducible refine (NA.out _).mono ?_) | (with_reducible refine (NB.out _).mono ?_) | (with_reducible refine (NC.out _).mono ?_)); rintro e w' ⟨rfl, rfl⟩) | (go_at_call 29; (first | (with_reducible refine (EA.out _).mono ?_) | (with_reducible refine (EB.out _).mono ?_) | (with_reducible refine (EC.out _).mono ?_)); rintro e w' ⟨rfl, rfl⟩) | (go_at_call 30; (first | (with_reducible refine (ZA.out _).mono ?_) | (with_reducible refine (ZB.out _).mono ?_) | (with_reducible refine (ZC.out _).mono ?_)); rintro e w' ⟨rfl, rfl⟩) | (go_at_call 31; (first | (with_reducible refine (with5_inf _ _).mono ?_) | (with_reducible refine (with5_zero _ _).mono ?_)); rintro e w' ⟨rfl, rfl⟩))
    all_goals (go_ret; exact ⟨rfl, HB⟩)
  · rcases kin_cases c with ⟨kc, ic⟩ | ⟨kc, ic⟩ | ⟨kc, ic⟩ | ⟨kc, ic⟩
    · skip
      have hI : fmaI a b c = 9221120237041090560 := by unfold fmaI; rw [if_pos (by omega)]; rfl
      rw [hI]
      clear hI
      generalize (sgn a != sgn b) = ng at *
      have NA := Lib.hid (none5_k ha ia)
      have EA := Lib.hid (endless5_k ha ia)
      have ZA := Lib.hid (zero5_k ha ia)
      have NB := Lib.hid (none5_k hb ib)
      have EB := Lib.hid (endless5_k hb ib)
      have ZB := Lib.hid (zero5_k hb ib)
      have NC := Lib.hid (none5_k hc ic)
      have EC := Lib.hid (endless5_k hc ic)
      have ZC := Lib.hid (zero5_k hc ic)
      clear ia ib ic ka ha hb hc ba bb bc kb kc
      go_enter Try.func17, Try.ntmps17
      go_wp2_with (first | (go_at_call 28; (first | (with_reducible refine (NA.out _).mono ?_) | (with_reducible refine (NB.out _).mono ?_) | (with_reducible refine (NC.out _).mono ?_)); rintro e w' ⟨rfl, rfl⟩) | (go_at_call 29; (first | (with_reducible refine (EA.out _).mono ?_) | (with_reducible refine (EB.out _).mono ?_) | (with_reducible refine (EC.out _).mono ?_)); rintro e w' ⟨rfl, rfl⟩) | (go_at_call 30; (first | (with_reducible refine (ZA.out _).mono ?_) | (with_reducible refine (ZB.out _).mono ?_) | (with_reducible refine (ZC.out _).mono ?_)); rintro e w' ⟨rfl, rfl⟩) | (go_at_call 31; (first | (with_reducible refine (with5_inf _ _).mono ?_) | (with_reducible refine (with5_zero _ _).mono ?_)); rintro e w' ⟨rfl, rfl⟩))
      all_goals (go_ret; exact ⟨rfl, HB⟩)
    · skip
      have hI : fmaI a b c = if sgn c ≠ (sgn a != sgn b) then 9221120237041090560 else sb (sgn a != sgn b) + INFI := by
        unfold fmaI
        by_cases h : sgn c ≠ (sgn a != sgn b)
        · rw [if_pos h, if_pos (.inr (.inr (.inr (.inr ⟨by omega, kc, h⟩))))]; rfl
        · rw [if_neg h, if_neg (by rintro (g | g | g | g | ⟨_, _, g⟩) <;> first | omega | exact h g), if_pos (by omega)]
      rw [hI]
      clear hI
      generalize (sgn a != sgn b) = ng at *
      generalize sgn c = sc at *
      have NA := Lib.hid (none5_k ha ia)
      have EA := Lib.hid (endless5_k ha ia)
      have ZA := Lib.hid (zero5_k ha ia)
      have NB := Lib.hid (none5_k hb ib)
      have EB := Lib.hid (endless5_k hb ib)
      have ZB := Lib.hid (zero5_k hb ib)
      have NC := Lib.hid (none5_k hc ic)
      have EC := Lib.hid (endless5_k hc ic)
      have ZC := Lib.hid (zero5_k hc ic)
      clear ia ib ic ka ha hb hc ba bb bc kb kc
      cases ng <;> cases sc
      all_goals
        go_enter Try.func17, Try.ntmps17
        go_wp2_with (first | (go_at_call 28; (first | (with_reducible refine (NA.out _).mono ?_) | (with_reducible refine (NB.out _).mono ?_) | (with_reducible refine (NC.out _).mono ?_)); rintro e w' ⟨rfl, rfl⟩) | (go_at_call 29; (first | (with_reducible refine (EA.out _).mono ?_) | (with_reducible refine (EB.out _).mono ?_) | (with_reducible refine (EC.out _).mono ?_)); rintro e w' ⟨rfl, rfl⟩) | (go_at_call 30; (first | (with_reducible refine (ZA.out _).mono ?_) | (with_reducible refine (ZB.out _).mono ?_) | (with_reducible refine (ZC.out _).mono ?_)); rintro e w' ⟨rfl, rfl⟩) | (go_at_call 31; (first | (with_reducible refine (with5_inf _ _).mono ?_) | (with_reducible refine (with5_zero _ _).mono ?_)); rintro e w' ⟨rfl, rfl⟩))
        all_goals (go_ret; exact ⟨rfl, HB⟩)
    · skip
      have hI : fmaI a b c = sb (sgn a != sgn b) + INFI := by unfold fmaI; rw [if_neg (by omega), if_pos (by omega)]
      rw [hI]
      clear hI
      generalize (sgn a != sgn b) = ng at *
      have NA := Lib.hid (none5_k ha ia)
      have EA := Lib.hid (endless5_k ha ia)
      have ZA := Lib.hid (zero5_k ha ia)
      have NB := Lib.hid (none5_k hb ib)
      have EB := Lib.hid (endless5_k hb ib)
      have ZB := Lib.hid (zero5_k hb ib)
      have NC := Lib.hid (none5_k hc ic)
      have EC := Lib.hid (endless5_k hc ic)
      have ZC := Lib.hid (zero5_k hc ic)
      clear ia ib ic ka ha hb hc ba bb bc kb kc
      go_enter Try.func17, Try.ntmps17
      go_wp2_with (first | (go_at_call 28; (first | (with_reducible refine (NA.out _).mono ?_) | (with_reducible refine (NB.out _).mono ?_) | (with_reducible refine (NC.out _).mono ?_)); rintro e w' ⟨rfl, rfl⟩) | (go_at_call 29; (first | (with_reducible refine (EA.out _).mono ?_) | (with_reducible refine (EB.out _).mono ?_) | (with_reducible refine (EC.out _).mono ?_)); rintro e w' ⟨rfl, rfl⟩) | (go_at_call 30; (first | (with_reducible refine (ZA.out _).mono ?_) | (with_reducible refine (ZB.out _).mono ?_) | (with_reducible refine (ZC.out _).mono ?_)); rintro e w' ⟨rfl, rfl⟩) | (go_at_call 31; (first | (with_reducible refine (with5_inf _ _).mono ?_) | (with_reducible refine (with5_zero _ _).mono ?_)); rintro e w' ⟨rfl, rfl⟩))
      all_goals (go_ret; exact ⟨rfl, HB⟩)
    · skip
      have hI : fmaI a b c = sb (sgn a != sgn b) + INFI := by unfold fmaI; rw [if_neg (by omega), if_pos (by omega)]
      rw [hI]
      clear hI
      generalize (sgn a != sgn b) = ng at *
      have NA := Lib.hid (none5_k ha ia)
      have EA := Lib.hid (endless5_k ha ia)
      have ZA := Lib.hid (zero5_k ha ia)
      have NB := Lib.hid (none5_k hb ib)
      have EB := Lib.hid (endless5_k hb ib)
      have ZB := Lib.hid (zero5_k hb ib)
      have NC := Lib.hid (none5_k hc ic)
      have EC := Lib.hid (endless5_k hc ic)
      have ZC := Lib.hid (zero5_k hc ic)
      clear ia ib ic ka ha hb hc ba bb bc kb kc
      go_enter Try.func17, Try.ntmps17
      go_wp2_with (first | (go_at_call 28; (first | (with_reducible refine (NA.out _).mono ?_) | (with_reducible refine (NB.out _).mono ?_) | (with_reducible refine (NC.out _).mono ?_)); rintro e w' ⟨rfl, rfl⟩) | (go_at_call 29; (first | (with_reducible refine (EA.out _).mono ?_) | (with_reducible refine (EB.out _).mono ?_) | (with_reducible refine (EC.out _).mono ?_)); rintro e w' ⟨rfl, rfl⟩) | (go_at_call 30; (first | (with_reducible refine (ZA.out _).mono ?_) | (with_reducible refine (ZB.out _).mono ?_) | (with_reducible refine (ZC.out _).mono ?_)); rintro e w' ⟨rfl, rfl⟩) | (go_at_call 31; (first | (with_reducible refine (with5_inf _ _).mono ?_) | (with_reducible refine (with5_zero _ _).mono ?_)); rintro e w' ⟨rfl, rfl⟩))
      all_goals (go_ret; exact ⟨rfl, HB⟩)
  · rcases kin_cases c with ⟨kc, ic⟩ | ⟨kc, ic⟩ | ⟨kc, ic⟩ | ⟨kc, ic⟩
    · skip
      have hI : fmaI a b c = 9221120237041090560 := by unfold fmaI; rw [if_pos (by omega)]; rfl
      rw [hI]
      clear hI
      generalize (sgn a != sgn b) = ng at *
      have NA := Lib.hid (none5_k ha ia)
      have EA := Lib.hid (endless5_k ha ia)
      have ZA := Lib.hid (zero5_k ha ia)
      have NB := Lib.hid (none5_k hb ib)
      have EB := Lib.hid (endless5_k hb ib)
      have ZB := Lib.hid (zero5_k hb ib)
      have NC := Lib.hid (none5_k hc ic)
      have EC := Lib.hid (endless5_k hc ic)
      have ZC := Lib.hid (zero5_k hc ic)
      clear ia ib ic ka ha hb hc ba bb bc kb kc
      go_enter Try.func17, Try.ntmps17
      go_wp2_with (first | (go_at_call 28; (first | (with_reducible refine (NA.out _).mono ?_) | (with_reducible refine (NB.out _).mono ?_) | (with_reducible refine (NC.out _).mono ?_)); rintro e w' ⟨rfl, rfl⟩) | (go_at_call 29; (first | (with_reducible refine (EA.out _).mono ?_) | (with_reducible refine (EB.out _).mono ?_) | (with_reducible refine (EC.out _).mono ?_)); rintro e w' ⟨rfl, rfl⟩) | (go_at_call 30; (first | (with_reducible refine (ZA.out _).mono ?_) | (with_reducible refine (ZB.out _).mono ?_) | (with_reducible refine (ZC.out _).mono ?_)); rintro e w' ⟨rfl, rfl⟩) | (go_at_call 31; (first | (with_reducible refine (with5_inf _ _).mono ?_) | (with_reducible refine (with5_zero _ _).mono ?_)); rintro e w' ⟨rfl, rfl⟩))
      all_goals (go_ret; exact ⟨rfl, HB⟩)
    · skip
      have hI : fmaI a b c = c := by unfold fmaI; rw [if_neg (by omega), if_neg (by omega), if_pos (by omega)]
      rw [hI]
      clear hI
      generalize (sgn a != sgn b) = ng at *
      have NA := Lib.hid (none5_k ha ia)
      have EA := Lib.hid (endless5_k ha ia)
      have ZA := Lib.hid (zero5_k ha ia)
      have NB := Lib.hid (none5_k hb ib)
      have EB := Lib.hid (endless5_k hb ib)
      have ZB := Lib.hid (zero5_k hb ib)
      have NC := Lib.hid (none5_k hc ic)
      have EC := Lib.hid (endless5_k hc ic)
      have ZC := Lib.hid (zero5_k hc ic)
      clear ia ib ic ka ha hb hc ba bb bc kb kc
      go_enter Try.func17, Try.ntmps17
      go_wp2_with (first | (go_at_call 28; (first | (with_reducible refine (NA.out _).mono ?_) | (with_reducible refine (NB.out _).mono ?_) | (with_reducible refine (NC.out _).mono ?_)); rintro e w' ⟨rfl, rfl⟩) | (go_at_call 29; (first | (with_reducible refine (EA.out _).mono ?_) | (with_reducible refine (EB.out _).mono ?_) | (with_reducible refine (EC.out _).mono ?_)); rintro e w' ⟨rfl, rfl⟩) | (go_at_call 30; (first | (with_reducible refine (ZA.out _).mono ?_) | (with_reducible refine (ZB.out _).mono ?_) | (with_reducible refine (ZC.out _).mono ?_)); rintro e w' ⟨rfl, rfl⟩) | (go_at_call 31; (first | (with_reducible refine (with5_inf _ _).mono ?_) | (with_reducible refine (with5_zero _ _).mono ?_)); rintro e w' ⟨rfl, rfl⟩))
      all_goals (go_ret; exact ⟨rfl, HB⟩)
    · skip
      have hI : fmaI a b c = addI (sb (sgn a != sgn b)) c := by unfold fmaI; rw [if_neg (by omega), if_neg (by omega), if_neg (by omega), fma_zero ha hb hc (by omega) (by omega)]
      rw [hI]
      clear hI
      generalize (sgn a != sgn b) = ng at *
      have CA := Lib.hid (fun v => aadd_any (sb ng) c v (wd_sb ng) hc)
      have NA := Lib.hid (none5_k ha ia)
      have EA := Lib.hid (endless5_k ha ia)
      have ZA := Lib.hid (zero5_k ha ia)
      have NB := Lib.hid (none5_k hb ib)
      have EB := Lib.hid (endless5_k hb ib)
      have ZB := Lib.hid (zero5_k hb ib)
      have NC := Lib.hid (none5_k hc ic)
      have EC := Lib.hid (endless5_k hc ic)
      have ZC := Lib.hid (zero5_k hc ic)
      clear ia ib ic ka ha hb hc ba bb bc kb kc
      go_enter Try.func17, Try.ntmps17
      go_wp2_with (first | (go_at_call 28; (first | (with_reducible refine (NA.out _).mono ?_) | (with_reducible refine (NB.out _).mono ?_) | (with_reducible refine (NC.out _).mono ?_)); rintro e w' ⟨rfl, rfl⟩) | (go_at_call 29; (first | (with_reducible refine (EA.out _).mono ?_) | (with_reducible refine (EB.out _).mono ?_) | (with_reducible refine (EC.out _).mono ?_)); rintro e w' ⟨rfl, rfl⟩) | (go_at_call 30; (first | (with_reducible refine (ZA.out _).mono ?_) | (with_reducible refine (ZB.out _).mono ?_) | (with_reducible refine (ZC.out _).mono ?_)); rintro e w' ⟨rfl, rfl⟩) | (go_at_call 31; (first | (with_reducible refine (with5_inf _ _).mono ?_) | (with_reducible refine (with5_zero _ _).mono ?_)); rintro e w' ⟨rfl, rfl⟩) | (go_at_call 25; (with_reducible refine (CA.out _).mono ?_); rintro e w1 ⟨rfl, hb1⟩; replace HB := Bel.st HB hb1; clear hb1))
      all_goals (go_ret; exact ⟨rfl, HB⟩)
    · skip
      have hI : fmaI a b c = addI (sb (sgn a != sgn b)) c := by unfold fmaI; rw [if_neg (by omega), if_neg (by omega), if_neg (by omega), fma_zero ha hb hc (by omega) (by omega)]
      rw [hI]
      clear hI
      generalize (sgn a != sgn b) = ng at *
      have CA := Lib.hid (fun v => aadd_any (sb ng) c v (wd_sb ng) hc)
      have NA := Lib.hid (none5_k ha ia)
      have EA := Lib.hid (endless5_k ha ia)
      have ZA := Lib.hid (zero5_k ha ia)
      have NB := Lib.hid (none5_k hb ib)
      have EB := Lib.hid (endless5_k hb ib)
      have ZB := Lib.hid (zero5_k hb ib)
      have NC := Lib.hid (none5_k hc ic)
      have EC := Lib.hid (endless5_k hc ic)
      have ZC := Lib.hid (zero5_k hc ic)
      clear ia ib ic ka ha hb hc ba bb bc kb kc
      go_enter Try.func17, Try.ntmps17
      go_wp2_with (first | (go_at_call 28; (first | (with_reducible refine (NA.out _).mono ?_) | (with_reducible refine (NB.out _).mono ?_) | (with_reducible refine (NC.out _).mono ?_)); rintro e w' ⟨rfl, rfl⟩) | (go_at_call 29; (first | (with_reducible refine (EA.out _).mono ?_) | (with_reducible refine (EB.out _).mono ?_) | (with_reducible refine (EC.out _).mono ?_)); rintro e w' ⟨rfl, rfl⟩) | (go_at_call 30; (first | (with_reducible refine (ZA.out _).mono ?_) | (with_reducible refine (ZB.out _).mono ?_) | (with_reducible refine (ZC.out _).mono ?_)); rintro e w' ⟨rfl, rfl⟩) | (go_at_call 31; (first | (with_reducible refine (with5_inf _ _).mono ?_) | (with_reducible refine (with5_zero _ _).mono ?_)); rintro e w' ⟨rfl, rfl⟩) | (go_at_call 25; (with_reducible refine (CA.out _).mono ?_); rintro e w1 ⟨rfl, hb1⟩; replace HB := Bel.st HB hb1; clear hb1))
      all_goals (go_ret; exact ⟨rfl, HB⟩)
  · rcases kin_cases c with ⟨kc, ic⟩ | ⟨kc, ic⟩ | ⟨kc, ic⟩ | ⟨kc, ic⟩
    · skip
      have hI : fmaI a b c = 9221120237041090560 := by unfold fmaI; rw [if_pos (by omega)]; rfl
      rw [hI]
      clear hI
      generalize (sgn a != sgn b) = ng at *
      have NA := Lib.hid (none5_k ha ia)
      have EA := Lib.hid (endless5_k ha ia)
      have ZA := Lib.hid (zero5_k ha ia)
      have NB := Lib.hid (none5_k hb ib)
      have EB := Lib.hid (endless5_k hb ib)
      have ZB := Lib.hid (zero5_k hb ib)
      have NC := Lib.hid (none5_k hc ic)
      have EC := Lib.hid (endless5_k hc ic)
      have ZC := Lib.hid (zero5_k hc ic)
      clear ia ib ic ka ha hb hc ba bb bc kb kc
      go_enter Try.func17, Try.ntmps17
      go_wp2_with (first | (go_at_call 28; (first | (with_reducible refine (NA.out _).mono ?_) | (with_reducible refine (NB.out _).mono ?_) | (with_reducible refine (NC.out _).mono ?_)); rintro e w' ⟨rfl, rfl⟩) | (go_at_call 29; (first | (with_reducible refine (EA.out _).mono ?_) | (with_reducible refine (EB.out _).mono ?_) | (with_reducible refine (EC.out _).mono ?_)); rintro e w' ⟨rfl, rfl⟩) | (go_at_call 30; (first | (with_reducible refine (ZA.out _).mono ?_) | (with_reducible refine (ZB.out _).mono ?_) | (with_reducible refine (ZC.out _).mono ?_)); rintro e w' ⟨rfl, rfl⟩) | (go_at_call 31; (first | (with_reducible refine (with5_inf _ _).mono ?_) | (with_reducible refine (with5_zero _ _).mono ?_)); rintro e w' ⟨rfl, rfl⟩))
      all_goals (go_ret; exact ⟨rfl, HB⟩)
    · skip
      have hI : fmaI a b c = c := by unfold fmaI; rw [if_neg (by omega), if_neg (by omega), if_pos (by omega)]
      rw [hI]
      clear hI
      generalize (sgn a != sgn b) = ng at *
      have NA := Lib.hid (none5_k ha ia)
      have EA := Lib.hid (endless5_k ha ia)
      have ZA := Lib.hid (zero5_k ha ia)
      have NB := Lib.hid (none5_k hb ib)
      have EB := Lib.hid (endless5_k hb ib)
      have ZB := Lib.hid (zero5_k hb ib)
      have NC := Lib.hid (none5_k hc ic)
      have EC := Lib.hid (endless5_k hc ic)
      have ZC := Lib.hid (zero5_k hc ic)
      clear ia ib ic ka ha hb hc ba bb bc kb kc
      go_enter Try.func17, Try.ntmps17
      go_wp2_with (first | (go_at_call 28; (first | (with_reducible refine (NA.out _).mono ?_) | (with_reducible refine (NB.out _).mono ?_) | (with_reducible refine (NC.out _).mono ?_)); rintro e w' ⟨rfl, rfl⟩) | (go_at_call 29; (first | (with_reducible refine (EA.out _).mono ?_) | (with_reducible refine (EB.out _).mono ?_) | (with_reducible refine (EC.out _).mono ?_)); rintro e w' ⟨rfl, rfl⟩) | (go_at_call 30; (first | (with_reducible refine (ZA.out _).mono ?_) | (with_reducible refine (ZB.out _).mono ?_) | (with_reducible refine (ZC.out _).mono ?_)); rintro e w' ⟨rfl, rfl⟩) | (go_at_call 31; (first | (with_reducible refine (with5_inf _ _).mono ?_) | (with_reducible refine (with5_zero _ _).mono ?_)); rintro e w' ⟨rfl, rfl⟩))
      all_goals (go_ret; exact ⟨rfl, HB⟩)
    · skip
      have hI : fmaI a b c = fmaF a b c := by unfold fmaI; rw [if_neg (by omega), if_neg (by omega), if_neg (by omega)]
      rw [hI]
      exact fma5_fin a b c w ha hb hc ka kb ia ib ic
    · skip
      have hI : fmaI a b c = fmaF a b c := by unfold fmaI; rw [if_neg (by omega), if_neg (by omega), if_neg (by omega)]
      rw [hI]
      exact fma5_fin a b c w ha hb hc ka kb ia ib ic
set_option maxRecDepth 100000 in
set_option maxHeartbeats 4000000 in
theorem fma5_any (a b c : Int) (w : World) (ha : Wd a) (hb : Wd b) (hc : Wd c) : Calls Try.prog 17 #[.int .u64 a, .int .u64 b, .int .u64 c] w fun e w' => e = .returned (.int .u64 (fmaI a b c)) ∧ Below w.heap.size w w' := by
  rcases kin_cases a with ⟨ka, ia⟩ | ⟨ka, ia⟩ | ⟨ka, ia⟩ | ⟨ka, ia⟩
  · have hng := sign_ne ha hb
    have hsc := sgn_one hc
    have a0 := ha.1
    have b0 := hb.1
    have c0 := hc.1
    have ba := kd_bd a
    have bb := kd_bd b
    have bc := kd_bd c
    have HB := Bel.re w
    have ib : Kin b (kd b == 4) (kd b == 3) (kd b == 0) := ⟨rfl, rfl, rfl⟩
    have ic : Kin c (kd c == 4) (kd c == 3) (kd c == 0) := ⟨rfl, rfl, rfl⟩
    have hI : fmaI a b c = 9221120237041090560 := by unfold fmaI; rw [if_pos (by omega)]; rfl
    rw [hI]
    clear hI
    generalize (sgn a != sgn b) = ng at *
    have NA := Lib.hid (none5_k ha ia)
    have EA := Lib.hid (endless5_k ha ia)
    have ZA := Lib.hid (zero5_k ha ia)
    have NB := Lib.hid (none5_k hb ib)
    have EB := Lib.hid (endless5_k hb ib)
    have ZB := Lib.hid (zero5_k hb ib)
    have NC := Lib.hid (none5_k hc ic)
    have EC := Lib.hid (endless5_k hc ic)
    have ZC := Lib.hid (zero5_k hc ic)
    clear ia ib ic ka ha hb hc ba bb bc
    go_enter Try.func17, Try.ntmps17
    go_wp2_with (first | (go_at_call 28; (first | (with_reducible refine (NA.out _).mono ?_) | (with_reducible refine (NB.out _).mono ?_) | (with_reducible refine (NC.out _).mono ?_)); rintro e w' ⟨rfl, rfl⟩) | (go_at_call 29; (first | (with_reducible refine (EA.out _).mono ?_) | (with_reducible refine (EB.out _).mono ?_) | (with_reducible refine (EC.out _).mono ?_)); rintro e w' ⟨rfl, rfl⟩) | (go_at_call 30; (first | (with_reducible refine (ZA.out _).mono ?_) | (with_reducible refine (ZB.out _).mono ?_) | (with_reducible refine (ZC.out _).mono ?_)); rintro e w' ⟨rfl, rfl⟩) | (go_at_call 31; (first | (with_reducible refine (with5_inf _ _).mono ?_) | (with_reducible refine (with5_zero _ _).mono ?_)); rintro e w' ⟨rfl, rfl⟩))
    all_goals (go_ret; exact ⟨rfl, HB⟩)
  · exact fma5_inf a b c w ha hb hc ka ia
  · exact fma5_zero a b c w ha hb hc ka ia
  · exact fma5_other a b c w ha hb hc ka ia
end Go.Proofs.Ytmjaoeafompclaa

namespace Go.Proofs.Ytmjaoeafompclaa
open Go.RowKit Go.Shelf

theorem rt_is {A r : Nat} (h1 : r * r ≤ A) (h2 : A < (r + 1) * (r + 1)) : Pl.rt A = r := (Pl.rt_unique h1 h2).symm
theorem sqrt_two : sqrtI 4611686018427387904 = 4609047870845172685 := by
  have h : Pl.rt ((mant 4611686018427387904).toNat * 2 ^ sqK (expo 4611686018427387904)) = 1750711592962066872460373069 := rt_is (by decide +kernel) (by decide +kernel)
  unfold sqrtI
  rw [h]
  decide +kernel
theorem sqrt_least : sqrtI 1 = 2188749418902061056 := by
  have h : Pl.rt ((mant 1).toNat * 2 ^ sqK (expo 1)) = 18446744073709551616 := rt_is (by decide +kernel) (by decide +kernel)
  unfold sqrtI
  rw [h]
  decide +kernel
set_option maxRecDepth 100000 in
set_option maxHeartbeats 8000000 in
theorem shown5_any (w : World) : Calls Try.prog 12 #[] w fun e w' => e = .returned (.bool true) ∧ Below w.heap.size w w' := by
  have j0 : divI 4607182418800017408 4613937818241073152 = 4599676419421066581 := by decide +kernel
  have j1 : divI 4607182418800017408 9223372036854775808 = 18442240474082181120 := by decide +kernel
  have j2 : divI 0 0 = 9221120237041090560 := by decide +kernel
  have j3 : divI 13830554455654793216 9218868437227405312 = 9223372036854775808 := by decide +kernel
  have j4 : divI 1 4611686018427387904 = 0 := by decide +kernel
  have j5 : sqrtI 13830554455654793216 = 9221120237041090560 := by decide +kernel
  have j6 : sqrtI 9223372036854775808 = 9223372036854775808 := by decide +kernel
  have j7 : fmaI 4591870180066957722 4621819117588971520 13830554455654793216 = 4363988038922010624 := by decide +kernel
  have j8 : fmaI 9218868437227405312 0 4607182418800017408 = 9221120237041090560 := by decide +kernel
  have j9 : fmaI 4607182418800017408 9223372036854775808 0 = 0 := by decide +kernel
  have j10 : modI 4619567317775286272 4613937818241073152 = 4607182418800017408 := by decide +kernel
  have j11 : modI 13842939354630062080 4613937818241073152 = 13830554455654793216 := by decide +kernel
  have j12 : modI 9094988921128908188 4619567317775286272 = 4607182418800017408 := by decide +kernel
  have j13 : modI 13841813454723219456 4613937818241073152 = 9223372036854775808 := by decide +kernel
  have j14 : modI 4607182418800017408 0 = 9221120237041090560 := by decide +kernel
  have j15 : modI 4617315517961601024 9218868437227405312 = 4617315517961601024 := by decide +kernel
  have j16 : powI 4611686018427387904 10 = 4652218415073722368 := by decide +kernel
  have j17 : powI 4611686018427387904 (-1074) = 0 := by decide +kernel
  have j18 : powI 0 0 = 4607182418800017408 := by decide +kernel
  have j19 : powI 4621819117588971520 23 = 4950912855330343670 := by decide +kernel
  have k1 := sqrt_two
  have k2 := sqrt_least
  have hB := Bel.re w
  go_enter Try.func12, Try.ntmps12
  go_wp2_with (first
    | (go_at_call 13; (with_reducible refine (div5_any _ _ _ (Wd.mk (by decide) (by decide)) (Wd.mk (by decide) (by decide))).mono ?_); rintro e w1 ⟨rfl, hb⟩; replace hB := Bel.st hB hb; clear hb)
    | (go_at_call 15; (with_reducible refine (sqrt5_any _ _ (Wd.mk (by decide) (by decide))).mono ?_); rintro e w1 ⟨rfl, hb⟩; replace hB := Bel.st hB hb; clear hb)
    | (go_at_call 17; (with_reducible refine (fma5_any _ _ _ _ (Wd.mk (by decide) (by decide)) (Wd.mk (by decide) (by decide)) (Wd.mk (by decide) (by decide))).mono ?_); rintro e w1 ⟨rfl, hb⟩; replace hB := Bel.st hB hb; clear hb)
    | (go_at_call 19; (with_reducible refine (mod5_any _ _ _ (Wd.mk (by decide) (by decide)) (Wd.mk (by decide) (by decide))).mono ?_); rintro e w1 ⟨rfl, hb⟩; replace hB := Bel.st hB hb; clear hb)
    | (go_at_call 21; (with_reducible refine (power5_any _ _ _ (Wd.mk (by decide) (by decide)) (by decide) (by decide)).mono ?_); rintro e w1 ⟨rfl, hb⟩; replace hB := Bel.st hB hb; clear hb))
  go_ret
  exact ⟨rfl, hB⟩
end Go.Proofs.Ytmjaoeafompclaa
