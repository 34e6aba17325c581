/-
  float.Join answers the nearest number.
-/
import Derived.Test.YtjlmchbpdkojeaaFloatC
namespace Go.Proofs.Ytjlmchbpdkojeaa
open Go.RowKit Go.Shelf

/-- The bits of the number nearest to N * 2^e (and a little more), with a sign. -/
def fbits (neg : Bool) (N : Nat) (e : Int) (more : Bool) : Int := sb neg + (Pl.mag N e more : Int)

theorem shrN_nat (N k : Nat) : shrN (N : Int) k = ((N / 2 ^ k : Nat) : Int) := by unfold shrN; simp
theorem lostN_nat (N k : Nat) : lostN (N : Int) k = decide (N % 2 ^ k ≠ 0) := by
  unfold lostN
  have : (N : Int) % 2 ^ k = ((N % 2 ^ k : Nat) : Int) := by simp
  rw [this, decide_eq_decide]
  omega
theorem hbit_nat (N k : Nat) : hbit (N : Int) k = decide (N / 2 ^ k % 2 = 1) := by
  unfold hbit
  rw [shrN_nat, decide_eq_decide]
  omega

theorem mag_zero (e : Int) (more : Bool) : Pl.mag 0 e more = 0 := rfl
theorem mag_low {N : Nat} {e : Int} {more : Bool} (h : e < -10000) (hb : e + Pl.bl N < -2000) : Pl.mag N e more = 0 := by
  by_cases hN : N = 0
  · subst hN; rfl
  · have hu : Pl.un N e = -1074 := by unfold Pl.un; omega
    unfold Pl.mag
    rw [if_neg hN, hu, if_neg (by omega)]
    have hk : Pl.rne N (-1074 - e).toNat more = 0 := by
      obtain ⟨k, hk⟩ : ∃ k, (-1074 - e).toNat = k + 1 := ⟨(-1074 - e).toNat - 1, by omega⟩
      rw [hk]
      have hlt : N < 2 ^ k := Nat.lt_of_lt_of_le (Pl.lt_two_bl N) (Nat.pow_le_pow_right (by omega) (by omega))
      have h2 : N / 2 ^ (k + 1) = 0 := Nat.div_eq_of_lt (by rw [Nat.pow_succ]; omega)
      unfold Pl.rne
      rw [h2, Nat.add_sub_cancel, Nat.div_eq_of_lt hlt]
      simp
    rw [hk]
    have hz : ((-1074 : Int) + 1074).toNat = 0 := by decide
    rw [hz]; simp
theorem inf_le (n t : Nat) (h : 2047 ≤ n) : min Pl.INF (n * 2 ^ 52 + t) = Pl.INF := by
  have h2 : ∀ P : Nat, 2047 * P ≤ n * P + t := fun P => Nat.le_trans (Nat.mul_le_mul_right P h) (Nat.le_add_right _ _)
  exact Nat.min_eq_left (h2 _)
theorem mag_high {N : Nat} {e : Int} {more : Bool} (hN : N ≠ 0) (h : 2000 < e) : Pl.mag N e more = Pl.INF := by
  have hb := Pl.bl_pos hN
  have hu : 1948 < Pl.un N e := by unfold Pl.un; omega
  unfold Pl.mag
  rw [if_neg hN, inf_le _ _ (by omega)]

/-- What packI makes of the last places. -/
theorem packI_eq (neg : Bool) (m : Nat) (u : Int) (hu : -1074 ≤ u) (h : u = -1074 ∨ 4503599627370496 ≤ m) (hm : m ≤ 9007199254740992) : packI neg m u = sb neg + (min Pl.INF ((u + 1074).toNat * 2 ^ 52 + m) : Nat) := by
  obtain ⟨J, hJ⟩ : ∃ J : Nat, u = (J : Int) - 1074 := ⟨(u + 1074).toNat, by omega⟩
  subst hJ
  have e : ((J : Int) - 1074 + 1074).toNat = J := by omega
  have key : (if (m : Int) < 4503599627370496 then (m : Int) else min INFI (((J : Int) - 1074 + 1074) * 4503599627370496 + m)) = ((min Pl.INF (J * 2 ^ 52 + m) : Nat) : Int) := by
    rw [Pl.INF_eq]
    unfold INFI
    split <;> omega
  unfold packI
  rw [key, e]

theorem mag_bits_up {N : Nat} {u e : Int} {k : Nat} (neg more : Bool) (hN : N ≠ 0) (hu : u = Pl.un N e) (hle : u ≤ e) (hk : e - u = k) :
    N * 2 ^ k < 9007199254740992 ∧ packI neg ((N * 2 ^ k : Nat) : Int) u = fbits neg N e more := by
  have h1 := Pl.two_bl_le hN
  have h2 := Pl.lt_two_bl N
  have h3 := Pl.bl_pos hN
  have hu' := hu
  unfold Pl.un at hu'
  have hlt : N * 2 ^ k < 9007199254740992 := by
    have g : N * 2 ^ k < 2 ^ Pl.bl N * 2 ^ k := (Nat.mul_lt_mul_right (Nat.two_pow_pos k)).2 h2
    rw [← Nat.pow_add] at g
    have g2 : 2 ^ (Pl.bl N + k) ≤ 2 ^ 53 := Nat.pow_le_pow_right (by omega) (by omega)
    have : (2 : Nat) ^ 53 = 9007199254740992 := by decide
    omega
  have hge : u = -1074 ∨ 4503599627370496 ≤ N * 2 ^ k := by
    by_cases hz : u = -1074
    · exact .inl hz
    · right
      have g : 2 ^ (Pl.bl N - 1) * 2 ^ k ≤ N * 2 ^ k := Nat.mul_le_mul_right _ h1
      rw [← Nat.pow_add] at g
      have e1 : Pl.bl N - 1 + k = 52 := by omega
      rw [e1] at g
      have : (2 : Nat) ^ 52 = 4503599627370496 := by decide
      omega
  refine ⟨hlt, ?_⟩
  rw [packI_eq neg (N * 2 ^ k) u (by omega) hge (by omega)]
  unfold fbits Pl.mag
  rw [if_neg hN, ← hu, if_pos hle]
  have : (e - u).toNat = k := by omega
  rw [this]
theorem mag_bits_down {N : Nat} {u e : Int} {k : Nat} (neg more : Bool) (hN : N ≠ 0) (hu : u = Pl.un N e) (hk : u - e = k + 1) :
    Pl.rne N (k + 1) more ≤ 9007199254740992 ∧ N / 2 ^ k < 36893488147419103232 ∧ N / 2 ^ (k + 1) < 9007199254740992 ∧ packI neg ((Pl.rne N (k + 1) more : Nat) : Int) u = fbits neg N e more := by
  have h1 := Pl.two_bl_le hN
  have h2 := Pl.lt_two_bl N
  have h3 := Pl.bl_pos hN
  have hu' := hu
  unfold Pl.un at hu'
  have p53 : (2 : Nat) ^ 53 = 9007199254740992 := by decide
  have p52 : (2 : Nat) ^ 52 = 4503599627370496 := by decide
  have hlt : N / 2 ^ (k + 1) < 9007199254740992 := by
    rw [Nat.div_lt_iff_lt_mul (Nat.two_pow_pos _), ← p53, ← Nat.pow_add]
    exact Nat.lt_of_lt_of_le h2 (Nat.pow_le_pow_right (by omega) (by omega))
  have hq : N / 2 ^ k < 36893488147419103232 := by
    have e1 : N / 2 ^ k / 2 = N / 2 ^ (k + 1) := by rw [Nat.div_div_eq_div_mul, Nat.pow_succ]
    omega
  have hr : Pl.rne N (k + 1) more ≤ N / 2 ^ (k + 1) + 1 ∧ N / 2 ^ (k + 1) ≤ Pl.rne N (k + 1) more := by
    unfold Pl.rne
    constructor <;> split <;> omega
  have hge : u = -1074 ∨ 4503599627370496 ≤ Pl.rne N (k + 1) more := by
    by_cases hz : u = -1074
    · exact .inl hz
    · right
      have g : 2 ^ 52 ≤ N / 2 ^ (k + 1) := by
        rw [Nat.le_div_iff_mul_le (Nat.two_pow_pos _), ← Nat.pow_add]
        have e1 : 52 + (k + 1) = Pl.bl N - 1 := by omega
        rw [e1]; exact h1
      omega
  refine ⟨by omega, hq, hlt, ?_⟩
  rw [packI_eq neg _ u (by omega) hge (by omega)]
  unfold fbits Pl.mag
  rw [if_neg hN, ← hu, if_neg (by omega)]
  have : (u - e).toNat = k + 1 := by omega
  rw [this]


set_option maxHeartbeats 2000000 in
theorem join_any (neg : Bool) (h l e : Int) (more : Bool) (w : World) (hh : Wd h) (hl : Wd l) (e0 : -9223372036854775808 ≤ e) (e1 : e < 9223372036854775808) :
    Calls Try.prog 37 #[.bool neg, .agg #[.int .u64 h, .int .u64 l], .int .i64 e, .bool more] w fun r w' => r = .returned (.int .u64 (fbits neg (num h l).toNat e more)) ∧ Below w.heap.size w w' := by
  obtain ⟨A0, A1⟩ := num_bd hh hl
  have hL : Pl.bl (num h l).toNat ≤ 128 := Pl.bl_le_of_lt (by
    have : (2 : Nat) ^ 128 = 340282366920938463463374607431768211456 := by decide
    omega)
  obtain ⟨L, hLe⟩ : ∃ L, Pl.bl (num h l).toNat = L := ⟨_, rfl⟩
  by_cases hlow : (L : Int) = 0 ∨ e < -10000
  · have hf : fbits neg (num h l).toNat e more = sb neg := by
      unfold fbits
      rcases hlow with h0 | h0
      · have : (num h l).toNat = 0 := by
          by_cases hz : (num h l).toNat = 0
          · exact hz
          · have := Pl.bl_pos hz; omega
        rw [this, mag_zero]; simp
      · rw [mag_low h0 (by omega)]; simp
    have HF := Lib.hid hf
    have l1 : (L : Int) ≤ 128 := by omega
    clear hf
    go_enter Try.func37, Try.ntmps37
    go_wp2_with (first | (go_at_call 55; refine (wlen_any h l _ hh hl).mono ?_; rw [hLe]; rintro r w1 ⟨rfl, hb1⟩) | (go_at_call 76; refine (far_low neg L e _ (by omega) l1 e0 hlow).mono ?_; rintro r w2 ⟨rfl, rfl⟩) | go_in)
    go_ret
    exact ⟨ret_int HF.out.symm, below_trans' (hb1.mono (by simp)) ((Below.refl _ _).alloc (Nat.le_refl _) _)⟩
  · have L0 : (0 : Int) < L := by omega
    have l1 : (L : Int) ≤ 128 := by omega
    have hN : (num h l).toNat ≠ 0 := by intro hz; rw [hz] at hLe; simp [Pl.bl] at hLe; omega
    have hA : num h l = ((num h l).toNat : Int) := by omega
    by_cases hhi : 2000 < e
    · have hf : fbits neg (num h l).toNat e more = sb neg + INFI := by
        unfold fbits
        rw [mag_high hN hhi]; rfl
      have HF := Lib.hid hf
      clear hf hA
      go_enter Try.func37, Try.ntmps37
      go_wp2_with (first | (go_at_call 55; refine (wlen_any h l _ hh hl).mono ?_; rw [hLe]; rintro r w1 ⟨rfl, hb1⟩; have q0 : w1.cell? ⟨w.heap.size, 0, none⟩ = some (.int .u64 h) := (hb1.cell (p := ⟨w.heap.size, 0, none⟩) (by simp)).trans (by simp [go_sem]); have q1 : w1.cell? ⟨w.heap.size, 1, none⟩ = some (.int .u64 l) := (hb1.cell (p := ⟨w.heap.size, 1, none⟩) (by simp)).trans (by simp [go_sem]); have z1 : w.heap.size < w1.heap.size := Nat.lt_of_lt_of_le (by simp) hb1.size) | (go_at_call 76; refine (far_high neg L e _ L0 hhi).mono ?_; rintro r w2 ⟨rfl, rfl⟩) | go_in)
      go_ret
      exact ⟨ret_int HF.out.symm, below_trans' (hb1.mono (by simp)) ((Below.refl _ _).alloc (Nat.le_refl _) _)⟩
    · have e2 : -10000 ≤ e := by omega
      have e3 : e ≤ 2000 := by omega
      obtain ⟨u, hu⟩ : ∃ u, max (e + (L : Int) - 53) (-1074) = u := ⟨_, rfl⟩
      have hun : u = Pl.un (num h l).toNat e := by unfold Pl.un; rw [hLe]; exact hu.symm
      have u0 : -1074 ≤ u := by omega
      have u1 : u ≤ 3000 := by omega
      by_cases hle : u - e ≤ 0
      · obtain ⟨k, hk⟩ : ∃ k : Nat, e - u = k := ⟨(e - u).toNat, by omega⟩
        obtain ⟨m1, mf⟩ := mag_bits_up neg more hN hun (by omega) hk
        have hm : loOf (shlN (num h l) k) = (((num h l).toNat * 2 ^ k : Nat) : Int) := by
          rw [hA]
          unfold loOf shlN bit128
          have : ((num h l).toNat : Int) * 2 ^ k = (((num h l).toNat * 2 ^ k : Nat) : Int) := by simp
          rw [Int.toNat_natCast, this]; omega
        generalize ((num h l).toNat * 2 ^ k : Nat) = M at *
        have HF := Lib.hid mf
        have HK := Lib.hid (show max (-(u - e)) 0 = (k : Int) by omega)
        clear mf hA hun hk
        go_enter Try.func37, Try.ntmps37
        go_wp2_with (first | (go_at_call 55; refine (wlen_any h l _ hh hl).mono ?_; rw [hLe]; rintro r w1 ⟨rfl, hb1⟩; have q0 : w1.cell? ⟨w.heap.size, 0, none⟩ = some (.int .u64 h) := (hb1.cell (p := ⟨w.heap.size, 0, none⟩) (by simp)).trans (by simp [go_sem]); have q1 : w1.cell? ⟨w.heap.size, 1, none⟩ = some (.int .u64 l) := (hb1.cell (p := ⟨w.heap.size, 1, none⟩) (by simp)).trans (by simp [go_sem]); have z1 : w.heap.size < w1.heap.size := Nat.lt_of_lt_of_le (by simp) hb1.size) | (go_at_call 76; refine (far_no neg L e _ L0 e2 e3).mono ?_; rintro r w2 ⟨rfl, rfl⟩) | (go_at_call 77; refine (unit_any L e _ (by omega) l1 e2 e3).mono ?_; rw [hu]; rintro r w2 ⟨rfl, rfl⟩) | (go_at_call 56; refine (clo_up h l (u - e) w.heap.size k _ hh hl hle (by omega) HK.out (by assumption) (by assumption)).mono ?_; rintro r w3 ⟨rfl, hb3⟩) | (go_at_call 78; refine (pack_any neg M u _ (by omega) (by omega) u0 (by omega)).mono ?_; rintro r w4 ⟨rfl, rfl⟩) | go_in)
        go_ret
        exact ⟨ret_int HF.out, below_trans' (hb3.mono (by omega)) (below_trans' (hb1.mono (by simp)) ((Below.refl _ _).alloc (Nat.le_refl _) _))⟩
      · obtain ⟨k, hk⟩ : ∃ k : Nat, u - e = (k : Int) + 1 := ⟨(u - e - 1).toNat, by omega⟩
        obtain ⟨m1, m2, m3, mf⟩ := mag_bits_down neg more hN hun hk
        have eX : shrN (num h l) k = (((num h l).toNat / 2 ^ k : Nat) : Int) := by
          have := shrN_nat (num h l).toNat k
          rw [← hA] at this; exact this
        have eM : shrN (num h l) (k + 1) = (((num h l).toNat / 2 ^ (k + 1) : Nat) : Int) := by
          have := shrN_nat (num h l).toNat (k + 1)
          rw [← hA] at this; exact this
        have eH : hbit (num h l) k = decide ((num h l).toNat / 2 ^ k % 2 = 1) := by
          have := hbit_nat (num h l).toNat k
          rw [← hA] at this; exact this
        have eR : lostN (num h l) k = decide ((num h l).toNat % 2 ^ k ≠ 0) := by
          have := lostN_nat (num h l).toNat k
          rw [← hA] at this; exact this
        have hX : shrN (num h l) k < 36893488147419103232 := by rw [eX]; omega
        have hr : Pl.rne (num h l).toNat (k + 1) more = (num h l).toNat / 2 ^ (k + 1) + if (hbit (num h l) k && (lostN (num h l) k || more || decide ((num h l).toNat / 2 ^ (k + 1) % 2 = 1))) = true then 1 else 0 := by
          unfold Pl.rne
          rw [eH, eR, Nat.add_sub_cancel]
          congr 1
          simp [Bool.or_assoc]
        have HK := Lib.hid (show max (u - e - 1) 0 = (k : Int) by omega)
        have HX := Lib.hid hX
        generalize ((num h l).toNat / 2 ^ (k + 1) : Nat) = M at *
        have p1 := and_1 (M : Int) (by omega) (by omega)
        have HF := Lib.hid mf
        have HR := Lib.hid hr
        have HM := Lib.hid eM
        clear mf hA hun hk eX eH eR hX hr eM
        generalize hB : hbit (num h l) k = B at *
        generalize hD : lostN (num h l) k = D at *
        have hPM : ((M : Int) % 2 == 1) = decide (M % 2 = 1) := by
          rw [Bool.eq_iff_iff]; simp; omega
        generalize hP : decide (M % 2 = 1) = P at *
        have m3' : (M : Int) ≤ 9007199254740991 := by omega
        cases B
        · go_enter Try.func37, Try.ntmps37
          go_wp2_with (first | (go_at_call 55; refine (wlen_any h l _ hh hl).mono ?_; rw [hLe]; rintro r w1 ⟨rfl, hb1⟩; have q0 : w1.cell? ⟨w.heap.size, 0, none⟩ = some (.int .u64 h) := (hb1.cell (p := ⟨w.heap.size, 0, none⟩) (by simp)).trans (by simp [go_sem]); have q1 : w1.cell? ⟨w.heap.size, 1, none⟩ = some (.int .u64 l) := (hb1.cell (p := ⟨w.heap.size, 1, none⟩) (by simp)).trans (by simp [go_sem]); have z1 : w.heap.size < w1.heap.size := Nat.lt_of_lt_of_le (by simp) hb1.size) | (go_at_call 76; refine (far_no neg L e _ L0 e2 e3).mono ?_; rintro r w2 ⟨rfl, rfl⟩) | (go_at_call 77; refine (unit_any L e _ (by omega) l1 e2 e3).mono ?_; rw [hu]; rintro r w2 ⟨rfl, rfl⟩) | (go_at_call 56; refine (clo_down h l (u - e) w.heap.size k _ hh hl (by omega) HK.out (by omega) HX.out (by assumption) (by assumption)).mono ?_; rw [HM.out, hB, hD]; rintro r w3 ⟨rfl, hb3⟩) | (go_at_call 78; refine (pack_any neg _ u _ (by omega) (by omega) u0 (by omega)).mono ?_; rintro r w4 ⟨rfl, rfl⟩) | go_in)
          go_ret
          exact ⟨ret_int (by have h9 := HF.out; rw [HR.out] at h9; simpa using h9), below_trans' (hb3.mono (by omega)) (below_trans' (hb1.mono (by simp)) ((Below.refl _ _).alloc (Nat.le_refl _) _))⟩
        · cases D
          · cases more
            · cases P
              · go_enter Try.func37, Try.ntmps37
                go_wp2_with (first | (go_at_call 55; refine (wlen_any h l _ hh hl).mono ?_; rw [hLe]; rintro r w1 ⟨rfl, hb1⟩; have q0 : w1.cell? ⟨w.heap.size, 0, none⟩ = some (.int .u64 h) := (hb1.cell (p := ⟨w.heap.size, 0, none⟩) (by simp)).trans (by simp [go_sem]); have q1 : w1.cell? ⟨w.heap.size, 1, none⟩ = some (.int .u64 l) := (hb1.cell (p := ⟨w.heap.size, 1, none⟩) (by simp)).trans (by simp [go_sem]); have z1 : w.heap.size < w1.heap.size := Nat.lt_of_lt_of_le (by simp) hb1.size) | (go_at_call 76; refine (far_no neg L e _ L0 e2 e3).mono ?_; rintro r w2 ⟨rfl, rfl⟩) | (go_at_call 77; refine (unit_any L e _ (by omega) l1 e2 e3).mono ?_; rw [hu]; rintro r w2 ⟨rfl, rfl⟩) | (go_at_call 56; refine (clo_down h l (u - e) w.heap.size k _ hh hl (by omega) HK.out (by omega) HX.out (by assumption) (by assumption)).mono ?_; rw [HM.out, hB, hD]; rintro r w3 ⟨rfl, hb3⟩) | (go_at_call 78; refine (pack_any neg _ u _ (by omega) (by omega) u0 (by omega)).mono ?_; rintro r w4 ⟨rfl, rfl⟩) | go_in)
                go_ret
                exact ⟨ret_int (by have h9 := HF.out; rw [HR.out] at h9; simpa using h9), below_trans' (hb3.mono (by omega)) (below_trans' (hb1.mono (by simp)) ((Below.refl _ _).alloc (Nat.le_refl _) _))⟩
              · go_enter Try.func37, Try.ntmps37
                go_wp2_with (first | (go_at_call 55; refine (wlen_any h l _ hh hl).mono ?_; rw [hLe]; rintro r w1 ⟨rfl, hb1⟩; have q0 : w1.cell? ⟨w.heap.size, 0, none⟩ = some (.int .u64 h) := (hb1.cell (p := ⟨w.heap.size, 0, none⟩) (by simp)).trans (by simp [go_sem]); have q1 : w1.cell? ⟨w.heap.size, 1, none⟩ = some (.int .u64 l) := (hb1.cell (p := ⟨w.heap.size, 1, none⟩) (by simp)).trans (by simp [go_sem]); have z1 : w.heap.size < w1.heap.size := Nat.lt_of_lt_of_le (by simp) hb1.size) | (go_at_call 76; refine (far_no neg L e _ L0 e2 e3).mono ?_; rintro r w2 ⟨rfl, rfl⟩) | (go_at_call 77; refine (unit_any L e _ (by omega) l1 e2 e3).mono ?_; rw [hu]; rintro r w2 ⟨rfl, rfl⟩) | (go_at_call 56; refine (clo_down h l (u - e) w.heap.size k _ hh hl (by omega) HK.out (by omega) HX.out (by assumption) (by assumption)).mono ?_; rw [HM.out, hB, hD]; rintro r w3 ⟨rfl, hb3⟩) | (go_at_call 78; refine (pack_any neg _ u _ (by omega) (by omega) u0 (by omega)).mono ?_; rintro r w4 ⟨rfl, rfl⟩) | go_in)
                go_ret
                exact ⟨ret_int (by have h9 := HF.out; rw [HR.out] at h9; simpa using h9), below_trans' (hb3.mono (by omega)) (below_trans' (hb1.mono (by simp)) ((Below.refl _ _).alloc (Nat.le_refl _) _))⟩
            · go_enter Try.func37, Try.ntmps37
              go_wp2_with (first | (go_at_call 55; refine (wlen_any h l _ hh hl).mono ?_; rw [hLe]; rintro r w1 ⟨rfl, hb1⟩; have q0 : w1.cell? ⟨w.heap.size, 0, none⟩ = some (.int .u64 h) := (hb1.cell (p := ⟨w.heap.size, 0, none⟩) (by simp)).trans (by simp [go_sem]); have q1 : w1.cell? ⟨w.heap.size, 1, none⟩ = some (.int .u64 l) := (hb1.cell (p := ⟨w.heap.size, 1, none⟩) (by simp)).trans (by simp [go_sem]); have z1 : w.heap.size < w1.heap.size := Nat.lt_of_lt_of_le (by simp) hb1.size) | (go_at_call 76; refine (far_no neg L e _ L0 e2 e3).mono ?_; rintro r w2 ⟨rfl, rfl⟩) | (go_at_call 77; refine (unit_any L e _ (by omega) l1 e2 e3).mono ?_; rw [hu]; rintro r w2 ⟨rfl, rfl⟩) | (go_at_call 56; refine (clo_down h l (u - e) w.heap.size k _ hh hl (by omega) HK.out (by omega) HX.out (by assumption) (by assumption)).mono ?_; rw [HM.out, hB, hD]; rintro r w3 ⟨rfl, hb3⟩) | (go_at_call 78; refine (pack_any neg _ u _ (by omega) (by omega) u0 (by omega)).mono ?_; rintro r w4 ⟨rfl, rfl⟩) | go_in)
              go_ret
              exact ⟨ret_int (by have h9 := HF.out; rw [HR.out] at h9; simpa using h9), below_trans' (hb3.mono (by omega)) (below_trans' (hb1.mono (by simp)) ((Below.refl _ _).alloc (Nat.le_refl _) _))⟩
          · go_enter Try.func37, Try.ntmps37
            go_wp2_with (first | (go_at_call 55; refine (wlen_any h l _ hh hl).mono ?_; rw [hLe]; rintro r w1 ⟨rfl, hb1⟩; have q0 : w1.cell? ⟨w.heap.size, 0, none⟩ = some (.int .u64 h) := (hb1.cell (p := ⟨w.heap.size, 0, none⟩) (by simp)).trans (by simp [go_sem]); have q1 : w1.cell? ⟨w.heap.size, 1, none⟩ = some (.int .u64 l) := (hb1.cell (p := ⟨w.heap.size, 1, none⟩) (by simp)).trans (by simp [go_sem]); have z1 : w.heap.size < w1.heap.size := Nat.lt_of_lt_of_le (by simp) hb1.size) | (go_at_call 76; refine (far_no neg L e _ L0 e2 e3).mono ?_; rintro r w2 ⟨rfl, rfl⟩) | (go_at_call 77; refine (unit_any L e _ (by omega) l1 e2 e3).mono ?_; rw [hu]; rintro r w2 ⟨rfl, rfl⟩) | (go_at_call 56; refine (clo_down h l (u - e) w.heap.size k _ hh hl (by omega) HK.out (by omega) HX.out (by assumption) (by assumption)).mono ?_; rw [HM.out, hB, hD]; rintro r w3 ⟨rfl, hb3⟩) | (go_at_call 78; refine (pack_any neg _ u _ (by omega) (by omega) u0 (by omega)).mono ?_; rintro r w4 ⟨rfl, rfl⟩) | go_in)
            go_ret
            exact ⟨ret_int (by have h9 := HF.out; rw [HR.out] at h9; simpa using h9), below_trans' (hb3.mono (by omega)) (below_trans' (hb1.mono (by simp)) ((Below.refl _ _).alloc (Nat.le_refl _) _))⟩
end Go.Proofs.Ytjlmchbpdkojeaa
