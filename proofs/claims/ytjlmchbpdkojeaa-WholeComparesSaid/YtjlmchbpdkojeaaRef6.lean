/-
  The reference of chapter 6: none, rank, Cmp, Sign.
-/
import Derived.Test.YtjlmchbpdkojeaaWhole
import Derived.Test.YtjlmchbpdkojeaaRef3
namespace Go.Proofs.Ytjlmchbpdkojeaa
open Go.RowKit Go.Shelf

def noneI (x : Int) : Bool := decide (kd x = 4)
set_option maxHeartbeats 1000000 in
theorem rnone_any (x : Int) (w : World) (hx : Wd x) : Calls Try.prog 31 #[.int .u64 x] w fun e w' => e = .returned (.bool (noneI x)) ∧ w = w' := by
  have CK := fun v => rkind_any x v hx
  unfold noneI
  obtain ⟨k, hk⟩ : ∃ k, kd x = k := ⟨_, rfl⟩
  rw [hk] at CK ⊢
  replace CK := Lib.hid CK
  clear hk hx
  go_enter Try.func31, Try.ntmps31
  go_wp2_with (go_at_call 26; (with_reducible refine (CK.out _).mono ?_); rintro e w' ⟨rfl, rfl⟩)
  go_ret
  exact ⟨retB (by rfl), rfl⟩
set_option maxHeartbeats 1000000 in
theorem rank6_any (x : Int) (w : World) (hx : Wd x) : Calls Try.prog 32 #[.int .u64 x] w fun e w' => e = .returned (.int .i64 (rankI x)) ∧ w = w' := by
  obtain ⟨h0, h1⟩ := hx
  by_cases g : 9223372036854775808 ≤ x
  · have hr := Lib.hid (show rankI x = -(x - 9223372036854775808) by unfold rankI; rw [if_pos g])
    go_enter Try.func32, Try.ntmps32
    go_wp2
    go_ret
    exact ⟨retI (by rw [hr.out]), rfl⟩
  · have hr := Lib.hid (show rankI x = x by unfold rankI; rw [if_neg g])
    go_enter Try.func32, Try.ntmps32
    go_wp2
    go_ret
    exact ⟨retI (by rw [hr.out]), rfl⟩
set_option maxHeartbeats 2000000 in
theorem rcmp6_any (a b : Int) (w : World) (ha : Wd a) (hb : Wd b) : Calls Try.prog 11 #[.int .u64 a, .int .u64 b] w fun e w' => e = .returned (.tuple #[.int .i64 (cmpV a b), .bool (cmpOk a b)]) ∧ w = w' := by
  have KA := fun v => rnone_any a v ha
  have KB := fun v => rnone_any b v hb
  have RA := fun v => rank6_any a v ha
  have RB := fun v => rank6_any b v hb
  have hc : (cmpV a b = if noneI a = true ∨ noneI b = true then 0 else cmpI (rankI a) (rankI b)) ∧ cmpOk a b = (!(noneI a) && !(noneI b)) := by
    unfold cmpV cmpOk cmpW noneI
    by_cases g1 : kd a = 4 <;> by_cases g2 : kd b = 4 <;> simp [g1, g2]
  rw [hc.1, hc.2]
  obtain ⟨na, hna⟩ : ∃ n, noneI a = n := ⟨_, rfl⟩
  obtain ⟨nb, hnb⟩ : ∃ n, noneI b = n := ⟨_, rfl⟩
  obtain ⟨ra, hra⟩ : ∃ ra, rankI a = ra := ⟨_, rfl⟩
  obtain ⟨rb, hrb⟩ : ∃ rb, rankI b = rb := ⟨_, rfl⟩
  rw [hna] at KA ⊢
  rw [hnb] at KB ⊢
  rw [hra] at RA ⊢
  rw [hrb] at RB ⊢
  replace KA := Lib.hid KA
  replace KB := Lib.hid KB
  replace RA := Lib.hid RA
  replace RB := Lib.hid RB
  clear hna hnb hra hrb ha hb hc
  cases na
  · cases nb
    · rw [if_neg (by simp)]
      rcases Int.lt_trichotomy ra rb with g | g | g
      · rw [cmp_lt2 g]
        go_enter Try.func11, Try.ntmps11
        go_wp2_with (first | (go_at_call 31; (first | (with_reducible refine (KA.out _).mono ?_) | (with_reducible refine (KB.out _).mono ?_)); rintro e w' ⟨rfl, rfl⟩) | (go_at_call 32; (first | (with_reducible refine (RA.out _).mono ?_) | (with_reducible refine (RB.out _).mono ?_)); rintro e w' ⟨rfl, rfl⟩))
        go_ret2
        exact ⟨rfl, rfl⟩
      · subst g
        rw [cmp_eq2 rfl]
        have g1 : ¬ ra < ra := by omega
        go_enter Try.func11, Try.ntmps11
        go_wp2_with (first | (go_at_call 31; (first | (with_reducible refine (KA.out _).mono ?_) | (with_reducible refine (KB.out _).mono ?_)); rintro e w' ⟨rfl, rfl⟩) | (go_at_call 32; (first | (with_reducible refine (RA.out _).mono ?_) | (with_reducible refine (RB.out _).mono ?_)); rintro e w' ⟨rfl, rfl⟩))
        go_ret2
        exact ⟨rfl, rfl⟩
      · rw [cmp_gt2 g]
        have g1 : ¬ ra < rb := by omega
        go_enter Try.func11, Try.ntmps11
        go_wp2_with (first | (go_at_call 31; (first | (with_reducible refine (KA.out _).mono ?_) | (with_reducible refine (KB.out _).mono ?_)); rintro e w' ⟨rfl, rfl⟩) | (go_at_call 32; (first | (with_reducible refine (RA.out _).mono ?_) | (with_reducible refine (RB.out _).mono ?_)); rintro e w' ⟨rfl, rfl⟩))
        go_ret2
        exact ⟨rfl, rfl⟩
    · rw [if_pos (.inr rfl)]
      go_enter Try.func11, Try.ntmps11
      go_wp2_with (first | (go_at_call 31; (first | (with_reducible refine (KA.out _).mono ?_) | (with_reducible refine (KB.out _).mono ?_)); rintro e w' ⟨rfl, rfl⟩))
      go_ret2
      exact ⟨rfl, rfl⟩
  · rw [if_pos (.inl rfl)]
    go_enter Try.func11, Try.ntmps11
    go_wp2_with (first | (go_at_call 31; (first | (with_reducible refine (KA.out _).mono ?_) | (with_reducible refine (KB.out _).mono ?_)); rintro e w' ⟨rfl, rfl⟩))
    go_ret2
    exact ⟨rfl, rfl⟩
set_option maxHeartbeats 1000000 in
theorem rsign6_any (x : Int) (w : World) (hx : Wd x) : Calls Try.prog 13 #[.int .u64 x] w fun e w' => e = .returned (.int .i64 (signI x)) ∧ w = w' := by
  have CC := Lib.hid (fun v => rcmp6_any x 0 v hx ⟨by decide, by decide⟩)
  unfold signI
  clear hx
  go_enter Try.func13, Try.ntmps13
  go_wp2_with (go_at_call 11; (with_reducible refine (CC.out _).mono ?_); rintro e w' ⟨rfl, rfl⟩)
  go_ret
  exact ⟨rfl, rfl⟩
set_option maxHeartbeats 4000000 in
theorem rmin6_any (a b : Int) (w : World) (ha : Wd a) (hb : Wd b) : Calls Try.prog 17 #[.int .u64 a, .int .u64 b] w fun e w' => e = .returned (.int .u64 (minI a b)) ∧ w = w' := by
  have CC := fun v => rcmp6_any a b v ha hb
  have IS := fun v => ris_any a v
  have hcs := min_cases a b
  obtain ⟨M, hM⟩ : ∃ M, minI a b = M := ⟨_, rfl⟩
  obtain ⟨n, hn⟩ : ∃ n, cmpV a b = n := ⟨_, rfl⟩
  obtain ⟨ok, hok⟩ : ∃ ok, cmpOk a b = ok := ⟨_, rfl⟩
  obtain ⟨s, hs⟩ : ∃ s, sgn a = s := ⟨_, rfl⟩
  rw [hM] at hcs ⊢
  rw [hn, hok] at hcs CC
  rw [hs] at IS hcs
  replace CC := Lib.hid CC
  replace IS := Lib.hid IS
  clear hM hn hok hs ha hb
  rcases hcs with ⟨rfl, h⟩ | ⟨rfl, h⟩
  · have h' : M = NAN := by first | exact h.1 | exact h.2
    subst h'
    clear h
    go_enter Try.func17, Try.ntmps17
    go_wp2_with (first | (go_at_call 11; (with_reducible refine (CC.out _).mono ?_); rintro e w' ⟨rfl, rfl⟩) | (go_at_call 36; (with_reducible refine (IS.out _).mono ?_); rintro e w' ⟨rfl, rfl⟩))
    go_ret
    exact ⟨rfl, rfl⟩
  · rcases h with ⟨rfl, h1, h2⟩ | ⟨rfl, h1, h2⟩ | ⟨rfl, h1, h2⟩
    · subst h1
      clear h2
      go_enter Try.func17, Try.ntmps17
      go_wp2_with (first | (go_at_call 11; (with_reducible refine (CC.out _).mono ?_); rintro e w' ⟨rfl, rfl⟩) | (go_at_call 36; (with_reducible refine (IS.out _).mono ?_); rintro e w' ⟨rfl, rfl⟩))
      go_ret
      exact ⟨rfl, rfl⟩
    · subst h1
      clear h2
      go_enter Try.func17, Try.ntmps17
      go_wp2_with (first | (go_at_call 11; (with_reducible refine (CC.out _).mono ?_); rintro e w' ⟨rfl, rfl⟩) | (go_at_call 36; (with_reducible refine (IS.out _).mono ?_); rintro e w' ⟨rfl, rfl⟩))
      go_ret
      exact ⟨rfl, rfl⟩
    · clear h2
      cases s
      all_goals
        simp only [if_true, Bool.false_eq_true, if_false] at h1
        subst h1
        go_enter Try.func17, Try.ntmps17
        go_wp2_with (first | (go_at_call 11; (with_reducible refine (CC.out _).mono ?_); rintro e w' ⟨rfl, rfl⟩) | (go_at_call 36; (with_reducible refine (IS.out _).mono ?_); rintro e w' ⟨rfl, rfl⟩))
        go_ret
        exact ⟨rfl, rfl⟩
set_option maxHeartbeats 4000000 in
theorem rmax6_any (a b : Int) (w : World) (ha : Wd a) (hb : Wd b) : Calls Try.prog 19 #[.int .u64 a, .int .u64 b] w fun e w' => e = .returned (.int .u64 (maxI a b)) ∧ w = w' := by
  have CC := fun v => rcmp6_any a b v ha hb
  have IS := fun v => ris_any a v
  have hcs := min_cases a b
  obtain ⟨M, hM⟩ : ∃ M, maxI a b = M := ⟨_, rfl⟩
  obtain ⟨n, hn⟩ : ∃ n, cmpV a b = n := ⟨_, rfl⟩
  obtain ⟨ok, hok⟩ : ∃ ok, cmpOk a b = ok := ⟨_, rfl⟩
  obtain ⟨s, hs⟩ : ∃ s, sgn a = s := ⟨_, rfl⟩
  rw [hM] at hcs ⊢
  rw [hn, hok] at hcs CC
  rw [hs] at IS hcs
  replace CC := Lib.hid CC
  replace IS := Lib.hid IS
  clear hM hn hok hs ha hb
  rcases hcs with ⟨rfl, h⟩ | ⟨rfl, h⟩
  · have h' : M = NAN := by first | exact h.1 | exact h.2
    subst h'
    clear h
    go_enter Try.func19, Try.ntmps19
    go_wp2_with (first | (go_at_call 11; (with_reducible refine (CC.out _).mono ?_); rintro e w' ⟨rfl, rfl⟩) | (go_at_call 36; (with_reducible refine (IS.out _).mono ?_); rintro e w' ⟨rfl, rfl⟩))
    go_ret
    exact ⟨rfl, rfl⟩
  · rcases h with ⟨rfl, h1, h2⟩ | ⟨rfl, h1, h2⟩ | ⟨rfl, h1, h2⟩
    · subst h2
      clear h1
      go_enter Try.func19, Try.ntmps19
      go_wp2_with (first | (go_at_call 11; (with_reducible refine (CC.out _).mono ?_); rintro e w' ⟨rfl, rfl⟩) | (go_at_call 36; (with_reducible refine (IS.out _).mono ?_); rintro e w' ⟨rfl, rfl⟩))
      go_ret
      exact ⟨rfl, rfl⟩
    · subst h2
      clear h1
      go_enter Try.func19, Try.ntmps19
      go_wp2_with (first | (go_at_call 11; (with_reducible refine (CC.out _).mono ?_); rintro e w' ⟨rfl, rfl⟩) | (go_at_call 36; (with_reducible refine (IS.out _).mono ?_); rintro e w' ⟨rfl, rfl⟩))
      go_ret
      exact ⟨rfl, rfl⟩
    · clear h1
      cases s
      all_goals
        simp only [if_true, Bool.false_eq_true, if_false] at h2
        subst h2
        go_enter Try.func19, Try.ntmps19
        go_wp2_with (first | (go_at_call 11; (with_reducible refine (CC.out _).mono ?_); rintro e w' ⟨rfl, rfl⟩) | (go_at_call 36; (with_reducible refine (IS.out _).mono ?_); rintro e w' ⟨rfl, rfl⟩))
        go_ret
        exact ⟨rfl, rfl⟩
end Go.Proofs.Ytjlmchbpdkojeaa
