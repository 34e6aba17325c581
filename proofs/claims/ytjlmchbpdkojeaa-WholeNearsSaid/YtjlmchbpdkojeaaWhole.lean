/-
  The walks of package whole: order, Cmp, Sign, Min, Max, of, the split's ways.
-/
import Derived.Test.YtjlmchbpdkojeaaWholeP
import Derived.Test.YtjlmchbpdkojeaaKit
namespace Go.Proofs.Ytjlmchbpdkojeaa
open Go.RowKit Go.Shelf

theorem top_one {x : Int} (hx : Wd x) : (x / 9223372036854775808 == 1) = sgn x := by
  obtain ⟨h0, h1⟩ := hx
  unfold sgn
  by_cases g : 9223372036854775808 ≤ x
  · have : x / 9223372036854775808 = 1 := by omega
    rw [this, decide_eq_true g]; rfl
  · have : x / 9223372036854775808 = 0 := by omega
    rw [this, decide_eq_false g]; rfl
set_option maxHeartbeats 1000000 in
theorem order_any (x : Int) (w : World) (hx : Wd x) (hk : kd x ≠ 4) : Calls Try.prog 30 #[.int .u64 x] w fun e w' => e = .returned (.int .i64 (rankI x)) ∧ w = w' := by
  have ht := top_one hx
  have CA := fun v => abs_any x v hx
  have hA : absI x = x % 9223372036854775808 := by unfold absI; rw [if_neg hk]
  rw [hA] at CA
  obtain ⟨h0, h1⟩ := hx
  by_cases g : 9223372036854775808 ≤ x
  · have hs : sgn x = true := decide_eq_true g
    rw [hs] at ht
    have hr := Lib.hid (show rankI x = -(x - 9223372036854775808) by unfold rankI; rw [if_pos g])
    have hm : x % 9223372036854775808 = x - 9223372036854775808 := by omega
    rw [hm] at CA
    replace CA := Lib.hid CA
    clear hA hm hs
    go_enter Try.func30, Try.ntmps30
    go_wp2_with (go_at_call 47; (with_reducible refine (CA.out _).mono ?_); rintro e w' ⟨rfl, rfl⟩)
    go_ret
    exact ⟨retI (by rw [hr.out]), rfl⟩
  · have hs : sgn x = false := decide_eq_false g
    rw [hs] at ht
    have hr := Lib.hid (show rankI x = x by unfold rankI; rw [if_neg g])
    clear hA hs CA
    go_enter Try.func30, Try.ntmps30
    go_wp2
    go_ret
    exact ⟨retI (by rw [hr.out]), rfl⟩

theorem cmp_lt2 {a b : Int} (h : a < b) : cmpI a b = -1 := by unfold cmpI; rw [if_pos h]
theorem cmp_gt2 {a b : Int} (h : b < a) : cmpI a b = 1 := by unfold cmpI; rw [if_neg (by omega), if_neg (by omega)]
theorem cmp_eq2 {a b : Int} (h : a = b) : cmpI a b = 0 := by unfold cmpI; rw [if_neg (by omega), if_pos h]
theorem top_bit' {x : Int} (hx : Wd x) : x / 9223372036854775808 = if sgn x then 1 else 0 := by
  obtain ⟨h0, h1⟩ := hx
  unfold sgn
  by_cases h : 9223372036854775808 ≤ x
  · rw [decide_eq_true h, if_pos rfl]; omega
  · rw [decide_eq_false h, if_neg (by simp)]; omega
set_option maxHeartbeats 1000000 in
theorem wcmp_none (a b : Int) (w : World) (ha : Wd a) (hb : Wd b) (h : kd a = 4 ∨ kd b = 4) : Calls Try.prog 10 #[.int .u64 a, .int .u64 b] w fun e w' => e = .returned (.tuple #[.int .i64 0, .bool false]) ∧ w = w' := by
  have KA := fun v => kind_any a v ha
  have KB := fun v => kind_any b v hb
  obtain ⟨ka, hka⟩ : ∃ ka, kd a = ka := ⟨_, rfl⟩
  obtain ⟨kb, hkb⟩ : ∃ kb, kd b = kb := ⟨_, rfl⟩
  rw [hka] at KA h
  rw [hkb] at KB h
  replace KA := Lib.hid KA
  replace KB := Lib.hid KB
  clear hka hkb ha hb
  by_cases a4 : ka = 4
  · subst a4
    clear h
    go_enter Try.func10, Try.ntmps10
    go_wp2_with (go_at_call 29; (first | (with_reducible refine (KA.out _).mono ?_) | (with_reducible refine (KB.out _).mono ?_)); rintro e w' ⟨rfl, rfl⟩)
    go_ret2
    exact ⟨rfl, rfl⟩
  · obtain rfl : kb = 4 := h.resolve_left a4
    have a4' : (ka == 4) = false := by simpa using a4
    clear h a4
    go_enter Try.func10, Try.ntmps10
    go_wp2_with (go_at_call 29; (first | (with_reducible refine (KA.out _).mono ?_) | (with_reducible refine (KB.out _).mono ?_)); rintro e w' ⟨rfl, rfl⟩)
    go_ret2
    exact ⟨rfl, rfl⟩
set_option maxHeartbeats 2000000 in
theorem wcmp_some (a b : Int) (w : World) (ha : Wd a) (hb : Wd b) (h1 : kd a ≠ 4) (h2 : kd b ≠ 4) : Calls Try.prog 10 #[.int .u64 a, .int .u64 b] w fun e w' => e = .returned (.tuple #[.int .i64 (cmpW a b), .bool true]) ∧ w = w' := by
  have KA := fun v => kind_any a v ha
  have KB := fun v => kind_any b v hb
  have RA := fun v => order_any a v ha h1
  have RB := fun v => order_any b v hb h2
  unfold cmpW
  obtain ⟨ka, hka⟩ : ∃ ka, kd a = ka := ⟨_, rfl⟩
  obtain ⟨kb, hkb⟩ : ∃ kb, kd b = kb := ⟨_, rfl⟩
  obtain ⟨ra, hra⟩ : ∃ ra, rankI a = ra := ⟨_, rfl⟩
  obtain ⟨rb, hrb⟩ : ∃ rb, rankI b = rb := ⟨_, rfl⟩
  rw [hka] at KA h1
  rw [hkb] at KB h2
  rw [hra] at RA ⊢
  rw [hrb] at RB ⊢
  have a4 : (ka == 4) = false := by simpa using h1
  have b4 : (kb == 4) = false := by simpa using h2
  replace KA := Lib.hid KA
  replace KB := Lib.hid KB
  replace RA := Lib.hid RA
  replace RB := Lib.hid RB
  clear hka hkb hra hrb ha hb h1 h2
  rcases Int.lt_trichotomy ra rb with g | g | g
  · rw [cmp_lt2 g]
    go_enter Try.func10, Try.ntmps10
    go_wp2_with (first | (go_at_call 29; (first | (with_reducible refine (KA.out _).mono ?_) | (with_reducible refine (KB.out _).mono ?_)); rintro e w' ⟨rfl, rfl⟩) | (go_at_call 30; (first | (with_reducible refine (RA.out _).mono ?_) | (with_reducible refine (RB.out _).mono ?_)); rintro e w' ⟨rfl, rfl⟩))
    go_ret2
    exact ⟨rfl, rfl⟩
  · subst g
    rw [cmp_eq2 rfl]
    have g1 : ¬ ra < ra := by omega
    go_enter Try.func10, Try.ntmps10
    go_wp2_with (first | (go_at_call 29; (first | (with_reducible refine (KA.out _).mono ?_) | (with_reducible refine (KB.out _).mono ?_)); rintro e w' ⟨rfl, rfl⟩) | (go_at_call 30; (first | (with_reducible refine (RA.out _).mono ?_) | (with_reducible refine (RB.out _).mono ?_)); rintro e w' ⟨rfl, rfl⟩))
    go_ret2
    exact ⟨rfl, rfl⟩
  · rw [cmp_gt2 g]
    have g1 : ¬ ra < rb := by omega
    go_enter Try.func10, Try.ntmps10
    go_wp2_with (first | (go_at_call 29; (first | (with_reducible refine (KA.out _).mono ?_) | (with_reducible refine (KB.out _).mono ?_)); rintro e w' ⟨rfl, rfl⟩) | (go_at_call 30; (first | (with_reducible refine (RA.out _).mono ?_) | (with_reducible refine (RB.out _).mono ?_)); rintro e w' ⟨rfl, rfl⟩))
    go_ret2
    exact ⟨rfl, rfl⟩
def cmpV (a b : Int) : Int := if kd a = 4 ∨ kd b = 4 then 0 else cmpW a b
def cmpOk (a b : Int) : Bool := if kd a = 4 ∨ kd b = 4 then false else true
theorem wcmp_any (a b : Int) (w : World) (ha : Wd a) (hb : Wd b) : Calls Try.prog 10 #[.int .u64 a, .int .u64 b] w fun e w' => e = .returned (.tuple #[.int .i64 (cmpV a b), .bool (cmpOk a b)]) ∧ w = w' := by
  unfold cmpV cmpOk
  by_cases h : kd a = 4 ∨ kd b = 4
  · rw [if_pos h, if_pos h]; exact wcmp_none a b w ha hb h
  · rw [if_neg h, if_neg h]; exact wcmp_some a b w ha hb (fun g => h (.inl g)) (fun g => h (.inr g))
def signI (x : Int) : Int := cmpV x 0
set_option maxHeartbeats 1000000 in
theorem sign_any (x : Int) (w : World) (hx : Wd x) : Calls Try.prog 12 #[.int .u64 x] w fun e w' => e = .returned (.int .i64 (signI x)) ∧ w = w' := by
  have CC := Lib.hid (fun v => wcmp_any x 0 v hx ⟨by decide, by decide⟩)
  unfold signI
  clear hx
  go_enter Try.func12, Try.ntmps12
  go_wp2_with (go_at_call 10; (with_reducible refine (CC.out _).mono ?_); rintro e w' ⟨rfl, rfl⟩)
  go_ret
  exact ⟨rfl, rfl⟩
/-- What Min and Max choose. -/
theorem min_cases (a b : Int) : (cmpOk a b = false ∧ minI a b = NAN ∧ maxI a b = NAN) ∨ (cmpOk a b = true ∧ ((cmpV a b = -1 ∧ minI a b = a ∧ maxI a b = b) ∨ (cmpV a b = 1 ∧ minI a b = b ∧ maxI a b = a) ∨ (cmpV a b = 0 ∧ minI a b = (if sgn a = true then a else b) ∧ maxI a b = (if sgn a = true then b else a)))) := by
  unfold cmpOk cmpV cmpW minI maxI
  by_cases h : kd a = 4 ∨ kd b = 4
  · left; simp [h]
  · right
    rw [if_neg h, if_neg h, if_neg h, if_neg h]
    refine ⟨rfl, ?_⟩
    rcases Int.lt_trichotomy (rankI a) (rankI b) with g | g | g
    · left; rw [cmp_lt2 g, if_pos (.inl g), if_neg (by omega)]; exact ⟨rfl, rfl, rfl⟩
    · right; right
      rw [cmp_eq2 g]
      refine ⟨rfl, ?_, ?_⟩
      · by_cases s : sgn a = true
        · rw [if_pos (.inr ⟨g, s⟩), if_pos s]
        · rw [if_neg (by rintro (k | ⟨_, k⟩); omega; exact s k), if_neg s]
      · by_cases s : sgn a = true
        · rw [if_neg (by rintro (k | ⟨_, k⟩); omega; rw [s] at k; cases k), if_pos s]
        · rw [if_pos (.inr ⟨g, by simpa using s⟩), if_neg s]
    · right; left; rw [cmp_gt2 g, if_neg (by omega), if_pos (.inl g)]; exact ⟨rfl, rfl, rfl⟩
set_option maxHeartbeats 4000000 in
theorem wmin_any (a b : Int) (w : World) (ha : Wd a) (hb : Wd b) : Calls Try.prog 16 #[.int .u64 a, .int .u64 b] w fun e w' => e = .returned (.int .u64 (minI a b)) ∧ w = w' := by
  have CC := fun v => wcmp_any a b v ha hb
  have ht := top_bit' ha
  have hcs := min_cases a b
  obtain ⟨M, hM⟩ : ∃ M, minI a b = M := ⟨_, rfl⟩
  obtain ⟨n, hn⟩ : ∃ n, cmpV a b = n := ⟨_, rfl⟩
  obtain ⟨ok, hok⟩ : ∃ ok, cmpOk a b = ok := ⟨_, rfl⟩
  obtain ⟨s, hs⟩ : ∃ s, sgn a = s := ⟨_, rfl⟩
  rw [hM] at hcs ⊢
  rw [hn, hok] at hcs CC
  rw [hs] at ht hcs
  replace CC := Lib.hid CC
  clear hM hn hok hs ha hb
  rcases hcs with ⟨rfl, h⟩ | ⟨rfl, h⟩
  · have h' : M = NAN := by first | exact h.1 | exact h.2
    subst h'
    clear h ht
    go_enter Try.func16, Try.ntmps16
    go_wp2_with (go_at_call 10; (with_reducible refine (CC.out _).mono ?_); rintro e w' ⟨rfl, rfl⟩)
    go_ret
    exact ⟨rfl, rfl⟩
  · rcases h with ⟨rfl, h1, h2⟩ | ⟨rfl, h1, h2⟩ | ⟨rfl, h1, h2⟩
    · subst h1
      clear h2 ht
      go_enter Try.func16, Try.ntmps16
      go_wp2_with (go_at_call 10; (with_reducible refine (CC.out _).mono ?_); rintro e w' ⟨rfl, rfl⟩)
      go_ret
      exact ⟨rfl, rfl⟩
    · subst h1
      clear h2 ht
      go_enter Try.func16, Try.ntmps16
      go_wp2_with (go_at_call 10; (with_reducible refine (CC.out _).mono ?_); rintro e w' ⟨rfl, rfl⟩)
      go_ret
      exact ⟨rfl, rfl⟩
    · clear h2
      cases s
      all_goals
        simp only [if_true, Bool.false_eq_true, if_false] at h1 ht
        subst h1
        go_enter Try.func16, Try.ntmps16
        go_wp2_with (go_at_call 10; (with_reducible refine (CC.out _).mono ?_); rintro e w' ⟨rfl, rfl⟩)
        go_ret
        exact ⟨rfl, rfl⟩
set_option maxHeartbeats 4000000 in
theorem wmax_any (a b : Int) (w : World) (ha : Wd a) (hb : Wd b) : Calls Try.prog 18 #[.int .u64 a, .int .u64 b] w fun e w' => e = .returned (.int .u64 (maxI a b)) ∧ w = w' := by
  have CC := fun v => wcmp_any a b v ha hb
  have ht := top_bit' ha
  have hcs := min_cases a b
  obtain ⟨M, hM⟩ : ∃ M, maxI a b = M := ⟨_, rfl⟩
  obtain ⟨n, hn⟩ : ∃ n, cmpV a b = n := ⟨_, rfl⟩
  obtain ⟨ok, hok⟩ : ∃ ok, cmpOk a b = ok := ⟨_, rfl⟩
  obtain ⟨s, hs⟩ : ∃ s, sgn a = s := ⟨_, rfl⟩
  rw [hM] at hcs ⊢
  rw [hn, hok] at hcs CC
  rw [hs] at ht hcs
  replace CC := Lib.hid CC
  clear hM hn hok hs ha hb
  rcases hcs with ⟨rfl, h⟩ | ⟨rfl, h⟩
  · have h' : M = NAN := by first | exact h.1 | exact h.2
    subst h'
    clear h ht
    go_enter Try.func18, Try.ntmps18
    go_wp2_with (go_at_call 10; (with_reducible refine (CC.out _).mono ?_); rintro e w' ⟨rfl, rfl⟩)
    go_ret
    exact ⟨rfl, rfl⟩
  · rcases h with ⟨rfl, h1, h2⟩ | ⟨rfl, h1, h2⟩ | ⟨rfl, h1, h2⟩
    · subst h2
      clear h1 ht
      go_enter Try.func18, Try.ntmps18
      go_wp2_with (go_at_call 10; (with_reducible refine (CC.out _).mono ?_); rintro e w' ⟨rfl, rfl⟩)
      go_ret
      exact ⟨rfl, rfl⟩
    · subst h2
      clear h1 ht
      go_enter Try.func18, Try.ntmps18
      go_wp2_with (go_at_call 10; (with_reducible refine (CC.out _).mono ?_); rintro e w' ⟨rfl, rfl⟩)
      go_ret
      exact ⟨rfl, rfl⟩
    · clear h1
      cases s
      all_goals
        simp only [if_true, Bool.false_eq_true, if_false] at h2 ht
        subst h2
        go_enter Try.func18, Try.ntmps18
        go_wp2_with (go_at_call 10; (with_reducible refine (CC.out _).mono ?_); rintro e w' ⟨rfl, rfl⟩)
        go_ret
        exact ⟨rfl, rfl⟩
end Go.Proofs.Ytjlmchbpdkojeaa
