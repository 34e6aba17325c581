/-
  WholeNears: the walk.
-/
import Derived.Test.YtjlmchbpdkojeaaNears6B
import Derived.Test.YtjlmchbpdkojeaaArithA
import Derived.Test.YtjlmchbpdkojeaaRef3
namespace Go.Proofs.Ytjlmchbpdkojeaa
open Go.RowKit Go.Shelf

theorem cmpV_le {a b : Int} (h1 : kd a ≤ 2) (h2 : kd b ≤ 2) (h : rankI a ≤ rankI b) : cmpV a b ≤ 0 := by
  unfold cmpV cmpW cmpI
  rw [if_neg (by omega)]
  (repeat' split) <;> omega
theorem wholeE_ok {way : Int} (h0 : 0 ≤ way) (h5 : way ≤ 5) : wholeE way = 0 := by unfold wholeE; rw [if_neg (by omega)]
theorem sgn_top {a b : Int} (ha : Wd a) (hb : Wd b) (h : sgn a = sgn b) : a / 9223372036854775808 = b / 9223372036854775808 := by
  obtain ⟨a0, a1⟩ := ha
  obtain ⟨b0, b1⟩ := hb
  unfold sgn at h
  have : (9223372036854775808 ≤ a) ↔ (9223372036854775808 ≤ b) := by simpa using h
  omega

set_option maxRecDepth 100000 in
set_option maxHeartbeats 4000000 in
theorem nears6_far (x : Int) (w : World) (hx : Wd x) (h3 : 3 ≤ kd x) : Calls Try.prog 8 #[.int .u64 x] w fun e w' => e = .returned (.bool true) ∧ Below w.heap.size w w' := by
  have CK := fun (v : World) => rkind_any x v hx
  have CW := fun (v : World) => whole_any x 0 v hx
  have CI := fun (v : World) => wis_any x v hx
  have CR := fun (v : World) => rright_any x v hx
  have h1 : wholeI x 0 = rightI x := by
    have := kd_bd x
    unfold wholeI rightI
    rw [if_neg (by decide)]
    by_cases h : kd x = 4
    · rw [if_pos h, if_pos h]
    · rw [if_neg h, if_neg h, if_pos (by omega)]
  have h2 : isW x = false := by unfold isW; rw [decide_eq_false (by omega)]; rfl
  have h4 : wholeE 0 = 0 := by decide
  rw [h1, h4] at CW
  rw [h2] at CI
  obtain ⟨k, hk⟩ : ∃ k, kd x = k := ⟨_, rfl⟩
  obtain ⟨r, hr⟩ : ∃ r, rightI x = r := ⟨_, rfl⟩
  rw [hk] at CK h3
  rw [hr] at CW CR
  replace CK := Lib.hid CK
  replace CW := Lib.hid CW
  replace CI := Lib.hid CI
  replace CR := Lib.hid CR
  clear hk hr h1 h2 h4 hx
  have hB := Bel.re w
  go_enter Try.func8, Try.ntmps8
  go_wp2_with (first
    | (go_at_call 9; (with_reducible refine (shown6_any _).mono ?_); rintro e w1 ⟨rfl, hb⟩; replace hB := Bel.st hB hb; clear hb)
    | (go_at_call 26; (with_reducible refine (CK.out _).mono ?_); rintro e w' ⟨rfl, rfl⟩)
    | (go_at_call 27; (with_reducible refine (CR.out _).mono ?_); rintro e w' ⟨rfl, rfl⟩)
    | (go_at_call 20; (with_reducible refine (CW.out _).mono ?_); rintro e w1 ⟨rfl, hb⟩; replace hB := Bel.st hB hb; clear hb)
    | (go_at_call 14; (with_reducible refine (CI.out _).mono ?_); rintro e w1 ⟨rfl, hb⟩; replace hB := Bel.st hB hb; clear hb))
  go_ret
  exact ⟨rfl, hB⟩

theorem top_same {a b : Int} (a0 : 0 ≤ a) (b0 : 0 ≤ b) (h : a / 9223372036854775808 = b / 9223372036854775808) : (IntKind.u64.wrap (a.tdiv 9223372036854775808) != IntKind.u64.wrap (b.tdiv 9223372036854775808)) = false := by
  rw [Int.tdiv_eq_ediv_of_nonneg a0, Int.tdiv_eq_ediv_of_nonneg b0, h]
  simp
set_option maxRecDepth 100000 in
set_option maxHeartbeats 4000000 in
theorem nears6_near (x lo hi n m : Int) (b : Bool) (k : Int) (w : World) (hk : k ≤ 2)
    (CK : Hid (∀ v, Calls Try.prog 26 #[.int .u64 x] v fun e w' => e = .returned (.int .i64 k) ∧ v = w'))
    (C4 : Hid (∀ v : World, Calls Try.prog 20 #[.int .u64 x, .int .i64 4] v fun e w' => e = .returned (.tuple #[.int .u64 lo, .int .i64 0]) ∧ Below v.heap.size v w'))
    (C5 : Hid (∀ v : World, Calls Try.prog 20 #[.int .u64 x, .int .i64 5] v fun e w' => e = .returned (.tuple #[.int .u64 hi, .int .i64 0]) ∧ Below v.heap.size v w'))
    (CX : Hid (∀ j : Int, 0 ≤ j → j ≤ 5 → (∀ v : World, Calls Try.prog 20 #[.int .u64 x, .int .i64 j] v fun e w' => e = .returned (.tuple #[.int .u64 lo, .int .i64 0]) ∧ Below v.heap.size v w') ∨ (∀ v : World, Calls Try.prog 20 #[.int .u64 x, .int .i64 j] v fun e w' => e = .returned (.tuple #[.int .u64 hi, .int .i64 0]) ∧ Below v.heap.size v w')))
    (CL : Hid (∀ (j : Int) (v : World), 0 ≤ j → j ≤ 5 → Calls Try.prog 20 #[.int .u64 lo, .int .i64 j] v fun e w' => e = .returned (.tuple #[.int .u64 lo, .int .i64 0]) ∧ Below v.heap.size v w'))
    (CH : Hid (∀ (j : Int) (v : World), 0 ≤ j → j ≤ 5 → Calls Try.prog 20 #[.int .u64 hi, .int .i64 j] v fun e w' => e = .returned (.tuple #[.int .u64 hi, .int .i64 0]) ∧ Below v.heap.size v w'))
    (CI : Hid (∀ v : World, Calls Try.prog 14 #[.int .u64 x] v fun e w' => e = .returned (.bool b) ∧ Below v.heap.size v w'))
    (IL : Hid (∀ v : World, Calls Try.prog 14 #[.int .u64 lo] v fun e w' => e = .returned (.bool true) ∧ Below v.heap.size v w'))
    (IH : Hid (∀ v : World, Calls Try.prog 14 #[.int .u64 hi] v fun e w' => e = .returned (.bool true) ∧ Below v.heap.size v w'))
    (CM : Hid (∀ v : World, Calls Try.prog 10 #[.int .u64 lo, .int .u64 x] v fun e w' => e = .returned (.tuple #[.int .i64 n, .bool true]) ∧ v = w'))
    (CN : Hid (∀ v : World, Calls Try.prog 10 #[.int .u64 x, .int .u64 hi] v fun e w' => e = .returned (.tuple #[.int .i64 m, .bool true]) ∧ v = w'))
    (hn : n ≤ 0) (hm : m ≤ 0)
    (CS : Hid (b = false → ∀ v : World, Calls Try.prog 28 #[.int .u64 hi, .int .u64 lo] v fun e w' => e = .returned (.int .u64 4607182418800017408) ∧ Below v.heap.size v w'))
    (CT : Hid (∀ v : World, Calls Try.prog 20 #[.int .u64 (bits .xor .u64 x 9223372036854775808), .int .i64 4] v fun e w' => e = .returned (.tuple #[.int .u64 (bits .xor .u64 hi 9223372036854775808), .int .i64 0]) ∧ Below v.heap.size v w'))
    (tl : Hid (lo / 9223372036854775808 = x / 9223372036854775808)) (th : Hid (hi / 9223372036854775808 = x / 9223372036854775808))
    (hb : (b = true ∧ lo = x ∧ hi = x) ∨ (b = false ∧ lo ≠ x ∧ hi ≠ lo)) (x0 : 0 ≤ x) (l0 : 0 ≤ lo) (h0 : 0 ≤ hi)
    : Calls Try.prog 8 #[.int .u64 x] w fun e w' => e = .returned (.bool true) ∧ Below w.heap.size w w' := by
  have hB := Bel.re w
  rcases hb with ⟨rfl, rfl, rfl⟩ | ⟨rfl, hne, hne2⟩
  · clear CS IL IH tl th
    go_enter Try.func8, Try.ntmps8
    go_wp2_with (first
      | (go_at_call 9; (with_reducible refine (shown6_any _).mono ?_); rintro e w1 ⟨rfl, hb⟩; replace hB := Bel.st hB hb; clear hb)
      | (go_at_call 26; (with_reducible refine (CK.out _).mono ?_); rintro e w' ⟨rfl, rfl⟩)
      | (go_at_call 20; (first | (with_reducible refine (C4.out _).mono ?_) | (with_reducible refine (C5.out _).mono ?_)); rintro e w1 ⟨rfl, hb⟩; replace hB := Bel.st hB hb; clear hb)
      | (go_at_call 14; (with_reducible refine (CI.out _).mono ?_); rintro e w1 ⟨rfl, hb⟩; replace hB := Bel.st hB hb; clear hb))
    have HB := Lib.hid hB
    clear hB
    go_loopw [10] (fun iv wr => ∃ k : Nat, iv = .int .i64 k ∧ k ≤ 6 ∧ Below w.heap.size w wr) (fun iv _ => 6 - (intOf iv).toNat)
    case atStart => exact ⟨0, rfl, by omega, HB.out⟩
    case round =>
      clear HB
      obtain ⟨k, rfl, hk6, hB⟩ := hrel
      have HB := Lib.hid hB
      clear hB
      by_cases hlt : k < 6
      · have hki : (k : Int) < 6 := by omega
        have hk5 : (k : Int) ≤ 5 := by omega
        have hkp : (0 : Int) ≤ 5 - (k : Int) := by omega
        have C : ∀ v : World, Calls Try.prog 20 #[.int .u64 hi, .int .i64 k] v fun e w' => e = .returned (.tuple #[.int .u64 hi, .int .i64 0]) ∧ Below v.heap.size v w' := (CX.out k (by omega) (by omega)).elim id id
        replace C := Lib.hid C
        go_wp2_with fail
        (with_reducible refine (C.out _).mono ?_)
        rintro e w4 ⟨rfl, hb4⟩
        have HB4 := Lib.hid (Bel.st HB.out hb4)
        clear hb4
        go_wp2_with fail
        (with_reducible refine (CH.out (5 - (k : Int)) _ (by omega) (by omega)).mono ?_)
        rintro e w5 ⟨rfl, hb5⟩
        have HB5 := Lib.hid (Bel.st HB4.out hb5)
        clear hb5 HB4
        go_wp2_with fail
        (with_reducible refine (CI.out _).mono ?_)
        rintro e w6 ⟨rfl, hb6⟩
        have HB6 := Lib.hid (Bel.st HB5.out hb6)
        clear hb6 HB5
        go_wp2
        all_goals
          go_roundw
          case rel => exact ⟨k + 1, by go_num, by omega, HB6.out⟩
          case measure => simp [intOf]; omega
      · have hki : ¬ (k : Int) < 6 := by omega
        have hB := HB.out
        clear HB
        have d1 : decide (0 < n) = false := by simpa using hn
        have d2 : decide (0 < m) = false := by simpa using hm
        go_wp2_with (first
      | (go_at_call 9; (with_reducible refine (shown6_any _).mono ?_); rintro e w1 ⟨rfl, hb⟩; replace hB := Bel.st hB hb; clear hb)
      | (go_at_call 26; (with_reducible refine (CK.out _).mono ?_); rintro e w' ⟨rfl, rfl⟩)
      | (go_at_call 20; (first | (with_reducible refine (C4.out _).mono ?_) | (with_reducible refine (C5.out _).mono ?_) | (with_reducible refine (CT.out _).mono ?_)); rintro e w1 ⟨rfl, hb⟩; replace hB := Bel.st hB hb; clear hb)
      | (go_at_call 10; (first | (with_reducible refine (CM.out _).mono ?_) | (with_reducible refine (CN.out _).mono ?_)); rintro e w' ⟨rfl, rfl⟩)
      | (go_at_call 28; (with_reducible refine (CS.out rfl _).mono ?_); rintro e w1 ⟨rfl, hb⟩; replace hB := Bel.st hB hb; clear hb)
      | (go_at_call 14; (first | (with_reducible refine (CI.out _).mono ?_) | (with_reducible refine (IL.out _).mono ?_) | (with_reducible refine (IH.out _).mono ?_)); rintro e w1 ⟨rfl, hb⟩; replace hB := Bel.st hB hb; clear hb))
        go_ret
        exact ⟨rfl, hB⟩
  · have hnl : (lo == x) = false := by simpa using hne
    have hnl2 : (hi == lo) = false := by simpa using hne2
    have hk3 : decide (3 ≤ k) = false := by simp; omega
    have CS2 := Lib.hid (CS.out rfl)
    have tl2 := Lib.hid (top_same l0 x0 tl.out)
    have th2 := Lib.hid (top_same h0 x0 th.out)
    clear hne hne2 CS tl th
    go_enter Try.func8, Try.ntmps8
    go_wp2_with (first
      | (go_at_call 9; (with_reducible refine (shown6_any _).mono ?_); rintro e w1 ⟨rfl, hb⟩; replace hB := Bel.st hB hb; clear hb)
      | (go_at_call 26; (with_reducible refine (CK.out _).mono ?_); rintro e w' ⟨rfl, rfl⟩)
      | (go_at_call 20; (first | (with_reducible refine (C4.out _).mono ?_) | (with_reducible refine (C5.out _).mono ?_) | (with_reducible refine (CT.out _).mono ?_)); rintro e w1 ⟨rfl, hb⟩; replace hB := Bel.st hB hb; clear hb)
      | (go_at_call 10; (first | (with_reducible refine (CM.out _).mono ?_) | (with_reducible refine (CN.out _).mono ?_)); rintro e w' ⟨rfl, rfl⟩)
      | (go_at_call 28; (with_reducible refine (CS2.out _).mono ?_); rintro e w1 ⟨rfl, hb⟩; replace hB := Bel.st hB hb; clear hb)
      | (go_at_call 14; (first | (with_reducible refine (CI.out _).mono ?_) | (with_reducible refine (IL.out _).mono ?_) | (with_reducible refine (IH.out _).mono ?_)); rintro e w1 ⟨rfl, hb⟩; replace hB := Bel.st hB hb; clear hb))
    have HB := Lib.hid hB
    clear hB
    go_loopw [10] (fun iv wr => ∃ k : Nat, iv = .int .i64 k ∧ k ≤ 6 ∧ Below w.heap.size w wr) (fun iv _ => 6 - (intOf iv).toNat)
    case atStart => exact ⟨0, rfl, by omega, HB.out⟩
    case round =>
      clear HB
      obtain ⟨k, rfl, hk6, hB⟩ := hrel
      have HB := Lib.hid hB
      clear hB
      by_cases hlt : k < 6
      · have hki : (k : Int) < 6 := by omega
        have hk5 : (k : Int) ≤ 5 := by omega
        have hkp : (0 : Int) ≤ 5 - (k : Int) := by omega
        rcases CX.out k (by omega) (by omega) with C | C
        · replace C := Lib.hid C
          go_wp2_with fail
          (with_reducible refine (C.out _).mono ?_)
          rintro e w4 ⟨rfl, hb4⟩
          have HB4 := Lib.hid (Bel.st HB.out hb4)
          clear hb4
          go_wp2_with fail
          (with_reducible refine (CL.out (5 - (k : Int)) _ (by omega) (by omega)).mono ?_)
          rintro e w5 ⟨rfl, hb5⟩
          have HB5 := Lib.hid (Bel.st HB4.out hb5)
          clear hb5 HB4
          go_wp2_with fail
          (with_reducible refine (IL.out _).mono ?_)
          rintro e w6 ⟨rfl, hb6⟩
          have HB6 := Lib.hid (Bel.st HB5.out hb6)
          clear hb6 HB5
          have ht := tl2.out
          go_wp2
          all_goals
            go_roundw
            case rel => exact ⟨k + 1, by go_num, by omega, HB6.out⟩
            case measure => simp [intOf]; omega
        · replace C := Lib.hid C
          go_wp2_with fail
          (with_reducible refine (C.out _).mono ?_)
          rintro e w4 ⟨rfl, hb4⟩
          have HB4 := Lib.hid (Bel.st HB.out hb4)
          clear hb4
          go_wp2_with fail
          (with_reducible refine (CH.out (5 - (k : Int)) _ (by omega) (by omega)).mono ?_)
          rintro e w5 ⟨rfl, hb5⟩
          have HB5 := Lib.hid (Bel.st HB4.out hb5)
          clear hb5 HB4
          go_wp2_with fail
          (with_reducible refine (IH.out _).mono ?_)
          rintro e w6 ⟨rfl, hb6⟩
          have HB6 := Lib.hid (Bel.st HB5.out hb6)
          clear hb6 HB5
          have ht := th2.out
          go_wp2
          all_goals
            go_roundw
            case rel => exact ⟨k + 1, by go_num, by omega, HB6.out⟩
            case measure => simp [intOf]; omega
      · have hki : ¬ (k : Int) < 6 := by omega
        have hB := HB.out
        clear HB
        have d1 : decide (0 < n) = false := by simpa using hn
        have d2 : decide (0 < m) = false := by simpa using hm
        go_wp2_with (first
      | (go_at_call 9; (with_reducible refine (shown6_any _).mono ?_); rintro e w1 ⟨rfl, hb⟩; replace hB := Bel.st hB hb; clear hb)
      | (go_at_call 26; (with_reducible refine (CK.out _).mono ?_); rintro e w' ⟨rfl, rfl⟩)
      | (go_at_call 20; (first | (with_reducible refine (C4.out _).mono ?_) | (with_reducible refine (C5.out _).mono ?_) | (with_reducible refine (CT.out _).mono ?_)); rintro e w1 ⟨rfl, hb⟩; replace hB := Bel.st hB hb; clear hb)
      | (go_at_call 10; (first | (with_reducible refine (CM.out _).mono ?_) | (with_reducible refine (CN.out _).mono ?_)); rintro e w' ⟨rfl, rfl⟩)
      | (go_at_call 28; (with_reducible refine (CS2.out _).mono ?_); rintro e w1 ⟨rfl, hb⟩; replace hB := Bel.st hB hb; clear hb)
      | (go_at_call 14; (first | (with_reducible refine (CI.out _).mono ?_) | (with_reducible refine (IL.out _).mono ?_) | (with_reducible refine (IH.out _).mono ?_)); rintro e w1 ⟨rfl, hb⟩; replace hB := Bel.st hB hb; clear hb))
        go_ret
        exact ⟨rfl, hB⟩

theorem nears6_walk (x : Int) (w : World) (hx : Wd x) : Calls Try.prog 8 #[.int .u64 x] w fun e w' => e = .returned (.bool true) ∧ Below w.heap.size w w' := by
  by_cases h3 : 3 ≤ kd x
  · exact nears6_far x w hx h3
  · have hk : kd x ≤ 2 := by omega
    have h4 : kd x ≠ 4 := by omega
    obtain ⟨wl, wh, al, ah, two, sl, sh, rl, rh, kl, kh, is, turn⟩ := nears hx hk
    have el := whole_nat hx hk (way := 4) (by omega) (by omega)
    have eh := whole_nat hx hk (way := 5) (by omega) (by omega)
    have wdl : Wd (wholeI x 4) := by rw [el]; exact wd_fbits _ _ _ _
    have wdh : Wd (wholeI x 5) := by rw [eh]; exact wd_fbits _ _ _ _
    have z : ∀ j : Int, 0 ≤ j → j ≤ 5 → wholeE j = 0 := fun j j0 j5 => wholeE_ok j0 j5
    have CX : ∀ (j y : Int), 0 ≤ j → j ≤ 5 → wholeI x j = y → ∀ v : World, Calls Try.prog 20 #[.int .u64 x, .int .i64 j] v fun e w' => e = .returned (.tuple #[.int .u64 y, .int .i64 0]) ∧ Below v.heap.size v w' := by
      intro j y j0 j5 hy v
      have := whole_any x j v hx
      rw [hy, z j j0 j5] at this
      exact this
    have okl : cmpOk (wholeI x 4) x = true := by unfold cmpOk; rw [if_neg (by omega)]
    have okh : cmpOk x (wholeI x 5) = true := by unfold cmpOk; rw [if_neg (by omega)]
    have hn := negI_eq h4
    have hwh : kd (wholeI x 5) ≠ 4 := by omega
    have hnh := negI_eq hwh
    have xs := xor_sign x hx.1 hx.2
    have xh := xor_sign (wholeI x 5) wdh.1 wdh.2
    rw [← hn] at xs
    rw [← hnh] at xh
    refine nears6_near x (wholeI x 4) (wholeI x 5) (cmpV (wholeI x 4) x) (cmpV x (wholeI x 5)) (isW x) (kd x) w hk
      (Lib.hid fun v => rkind_any x v hx)
      (Lib.hid fun v => CX 4 _ (by omega) (by omega) rfl v)
      (Lib.hid fun v => CX 5 _ (by omega) (by omega) rfl v)
      (Lib.hid fun j j0 j5 => (two j j0 j5).elim (fun g => .inl (CX j _ j0 j5 g)) (fun g => .inr (CX j _ j0 j5 g)))
      (Lib.hid fun j v j0 j5 => ?_) (Lib.hid fun j v j0 j5 => ?_)
      (Lib.hid fun v => wis_any x v hx)
      (Lib.hid fun v => ?_) (Lib.hid fun v => ?_) (Lib.hid fun v => ?_) (Lib.hid fun v => ?_)
      (cmpV_le kl hk rl) (cmpV_le hk kh rh)
      (Lib.hid fun g v => ?_) (Lib.hid fun v => ?_)
      (Lib.hid (sgn_top wdl hx sl)) (Lib.hid (sgn_top wdh hx sh)) ?_ hx.1 wdl.1 wdh.1
    · have := whole_any (wholeI x 4) j v wdl
      rw [al j j0 j5, z j j0 j5] at this
      exact this
    · have := whole_any (wholeI x 5) j v wdh
      rw [ah j j0 j5, z j j0 j5] at this
      exact this
    · have := wis_any (wholeI x 4) v wdl
      rw [wl] at this
      exact this
    · have := wis_any (wholeI x 5) v wdh
      rw [wh] at this
      exact this
    · have := wcmp_any (wholeI x 4) x v wdl hx
      rw [okl] at this
      exact this
    · have := wcmp_any x (wholeI x 5) v hx wdh
      rw [okh] at this
      exact this
    · have := asub_any (wholeI x 5) (wholeI x 4) v wdh wdl
      rcases is with ⟨g2, _⟩ | ⟨_, _, g2⟩
      · rw [g] at g2; cases g2
      · rw [g2] at this
        exact this
    · rw [xs, xh]
      have := whole_any (negI x) 4 v (wd_neg hx)
      rw [turn, z 4 (by omega) (by omega)] at this
      exact this
    · rcases is with g | ⟨g1, g2, g3⟩
      · exact .inl g
      · refine .inr ⟨g1, g2, fun g => ?_⟩
        rw [g, sub_self_fin wdl kl] at g3
        omega
end Go.Proofs.Ytjlmchbpdkojeaa
