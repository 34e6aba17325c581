/-
  The walks of package whole: of, the split's ways, choose, round.
-/
import Derived.Test.YtjlmchbpdkojeaaWhole
namespace Go.Proofs.Ytjlmchbpdkojeaa
open Go.RowKit Go.Shelf

theorem qodd (q : Nat) (hq : q < 18446744073709551616) : (bits .and .u64 (q : Int) 1 == 1) = decide (q % 2 = 1) := by
  rw [and_1 (q : Int) (by omega) (by omega)]
  rw [Bool.eq_iff_iff]
  simp
  omega
set_option maxHeartbeats 1000000 in
theorem even_any (s h r : Bool) (q : Nat) (w : World) (hq : q < 9007199254740992) : Calls Try.prog 59 #[.agg #[.bool s, .bool h, .bool r, .int .u64 q]] w fun e w' => e = .returned (.bool (h && (r || decide (q % 2 = 1)))) ∧ Below w.heap.size w w' := by
  have ho := qodd q (by omega)
  obtain ⟨o, hoo⟩ : ∃ o, decide (q % 2 = 1) = o := ⟨_, rfl⟩
  rw [hoo] at ho
  try rw [hoo]
  clear hoo
  cases s <;> cases h <;> cases r <;> cases o
  all_goals
    go_enter Try.func59, Try.ntmps59
    go_wp2
    go_ret
    exact ⟨rfl, Bel.al (Bel.re _) _⟩
set_option maxHeartbeats 1000000 in
theorem away_any (s h r : Bool) (q : Nat) (w : World) (hq : q < 9007199254740992) : Calls Try.prog 60 #[.agg #[.bool s, .bool h, .bool r, .int .u64 q]] w fun e w' => e = .returned (.bool (h)) ∧ Below w.heap.size w w' := by
  have ho := qodd q (by omega)
  obtain ⟨o, hoo⟩ : ∃ o, decide (q % 2 = 1) = o := ⟨_, rfl⟩
  rw [hoo] at ho
  try rw [hoo]
  clear hoo
  cases s <;> cases h <;> cases r <;> cases o
  all_goals
    go_enter Try.func60, Try.ntmps60
    go_wp2
    go_ret
    exact ⟨rfl, Bel.al (Bel.re _) _⟩
set_option maxHeartbeats 1000000 in
theorem sup_any (s h r : Bool) (q : Nat) (w : World) (hq : q < 9007199254740992) : Calls Try.prog 34 #[.agg #[.bool s, .bool h, .bool r, .int .u64 q]] w fun e w' => e = .returned (.bool (h || r)) ∧ Below w.heap.size w w' := by
  have ho := qodd q (by omega)
  obtain ⟨o, hoo⟩ : ∃ o, decide (q % 2 = 1) = o := ⟨_, rfl⟩
  rw [hoo] at ho
  try rw [hoo]
  clear hoo
  cases s <;> cases h <;> cases r <;> cases o
  all_goals
    go_enter Try.func34, Try.ntmps34
    go_wp2
    go_ret
    exact ⟨rfl, Bel.al (Bel.re _) _⟩
set_option maxHeartbeats 1000000 in
theorem slow_any (s h r : Bool) (q : Nat) (w : World) (_hq : q < 9007199254740992) : Calls Try.prog 61 #[.agg #[.bool s, .bool h, .bool r, .int .u64 q]] w fun e w' => e = .returned (.bool (s && (h || r))) ∧ Below w.heap.size w w' := by
  have CU := Lib.hid (fun v => sup_any s h r q v _hq)
  obtain ⟨u, hu⟩ : ∃ u, (h || r) = u := ⟨_, rfl⟩
  have CU2 := CU.out
  rw [hu] at CU2 ⊢
  have CU3 := Lib.hid CU2
  clear CU CU2 hu
  cases s
  · go_enter Try.func61, Try.ntmps61
    go_wp2_with (go_at_call 34; (with_reducible refine (CU3.out _).mono ?_); rintro e w1 ⟨rfl, hb⟩)
    go_ret
    exact ⟨rfl, Bel.al (Bel.re _) _⟩
  · go_enter Try.func61, Try.ntmps61
    go_wp2_with (go_at_call 34; (with_reducible refine (CU3.out _).mono ?_); rintro e w1 ⟨rfl, hb⟩)
    go_ret
    exact ⟨rfl, Bel.st (Bel.al (Bel.re _) _) hb⟩
set_option maxHeartbeats 1000000 in
theorem shigh_any (s h r : Bool) (q : Nat) (w : World) (_hq : q < 9007199254740992) : Calls Try.prog 62 #[.agg #[.bool s, .bool h, .bool r, .int .u64 q]] w fun e w' => e = .returned (.bool (!s && (h || r))) ∧ Below w.heap.size w w' := by
  have CU := Lib.hid (fun v => sup_any s h r q v _hq)
  obtain ⟨u, hu⟩ : ∃ u, (h || r) = u := ⟨_, rfl⟩
  have CU2 := CU.out
  rw [hu] at CU2 ⊢
  have CU3 := Lib.hid CU2
  clear CU CU2 hu
  cases s
  · go_enter Try.func62, Try.ntmps62
    go_wp2_with (go_at_call 34; (with_reducible refine (CU3.out _).mono ?_); rintro e w1 ⟨rfl, hb⟩)
    go_ret
    exact ⟨rfl, Bel.st (Bel.al (Bel.re _) _) hb⟩
  · go_enter Try.func62, Try.ntmps62
    go_wp2_with (go_at_call 34; (with_reducible refine (CU3.out _).mono ?_); rintro e w1 ⟨rfl, hb⟩)
    go_ret
    exact ⟨rfl, Bel.al (Bel.re _) _⟩

/-- A block of four cells. -/
structure Sp4 (w : World) (n : Nat) (a b c d : Value) : Prop where
  lt : n < w.heap.size
  c0 : w.cell? ⟨n, 0, none⟩ = some a
  c1 : w.cell? ⟨n, 1, none⟩ = some b
  c2 : w.cell? ⟨n, 2, none⟩ = some c
  c3 : w.cell? ⟨n, 3, none⟩ = some d
  f3 : w.frozen? ⟨n, 3, none⟩ = false
theorem Sp4.below {w w' : World} {n : Nat} {a b c d : Value} (h : Sp4 w n a b c d) (hb : Below w.heap.size w w') : Sp4 w' n a b c d :=
  ⟨Nat.lt_of_lt_of_le h.lt hb.size, (hb.cell (p := ⟨n, 0, none⟩) h.lt).trans h.c0, (hb.cell (p := ⟨n, 1, none⟩) h.lt).trans h.c1, (hb.cell (p := ⟨n, 2, none⟩) h.lt).trans h.c2, (hb.cell (p := ⟨n, 3, none⟩) h.lt).trans h.c3, (hb.frozen (p := ⟨n, 3, none⟩) h.lt).trans h.f3⟩
theorem Sp4.new (w : World) (a b c d : Value) (t : TypeId) : Sp4 (w.alloc (.cells #[a, b, c, d] t)) w.heap.size a b c d := ⟨by simp, by simp [go_sem], by simp [go_sem], by simp [go_sem], by simp [go_sem], by simp [go_sem]⟩
theorem Sp4.drew {w : World} {n : Nat} {a b c d : Value} (h : Sp4 w n a b c d) : Sp4 w.drew n a b c d := ⟨h.lt, h.c0, h.c1, h.c2, h.c3, h.f3⟩
def b01' (b : Bool) : Nat := if b = true then 1 else 0
set_option maxHeartbeats 1000000 in
theorem choose_even (s h r b : Bool) (q : Nat) (w : World) (hq : q < 9007199254740992) (hb : (h && (r || decide (q % 2 = 1))) = b) : Calls Try.prog 58 #[.agg #[.bool s, .bool h, .bool r, .int .u64 q], .func (Fn.func 59) #[.agg #[.bool s, .bool h, .bool r, .int .u64 q]] #[]] w fun e w' => e = .returned (.int .u64 (q + b01' b : Nat)) ∧ Below w.heap.size w w' := by
  have CF := fun v => (even_any s h r q v hq).mono (fun (e : Ending) (w' : World) ⟨he, hw⟩ => (⟨he.trans (retB hb), hw⟩ : e = Ending.returned (.bool b) ∧ Below v.heap.size v w'))
  replace CF := Lib.hid CF
  clear hb
  cases b
  all_goals
    go_enter Try.func58, Try.ntmps58
    go_wp2_with fail
    (with_reducible refine (CF.out _).mono ?_)
    rintro e w1 ⟨rfl, hb1⟩
    have T := (Sp4.new w (.bool s) (.bool h) (.bool r) (.int .u64 (q : Int)) _).below hb1
    have hB := Bel.st (Bel.al (Bel.re w) _) hb1
    obtain ⟨z, c0, c1, c2, c3, f3⟩ := T
    clear hb1
    go_wp2_with fail
    go_ret
    exact ⟨rfl, hB⟩
set_option maxHeartbeats 1000000 in
theorem round_even (s h r : Bool) (q : Nat) (w : World) (hq : q < 9007199254740992) : Calls Try.prog 38 #[.agg #[.bool s, .bool h, .bool r, .int .u64 q], .int .i64 0] w fun e w' => e = .returned (.int .u64 (roundW ⟨s, h, r, q⟩ 0 : Nat)) ∧ Below w.heap.size w w' := by
  have CF := Lib.hid (fun v => choose_even s h r _ q v hq rfl)
  have hZ := Lib.hid (show roundW ⟨s, h, r, q⟩ 0 = q + b01' (h && (r || decide (q % 2 = 1))) by unfold roundW moreW b01'; simp)
  go_enter Try.func38, Try.ntmps38
  go_wp2_with fail
  (with_reducible refine (CF.out _).mono ?_)
  rintro e w1 ⟨rfl, hb1⟩
  go_wp2_with fail
  go_ret
  exact ⟨retI (by rw [hZ.out]; simp), Bel.st (Bel.al (Bel.re w) _) hb1⟩
set_option maxHeartbeats 1000000 in
theorem choose_away (s h r b : Bool) (q : Nat) (w : World) (hq : q < 9007199254740992) (hb : (h) = b) : Calls Try.prog 58 #[.agg #[.bool s, .bool h, .bool r, .int .u64 q], .func (Fn.func 60) #[.agg #[.bool s, .bool h, .bool r, .int .u64 q]] #[]] w fun e w' => e = .returned (.int .u64 (q + b01' b : Nat)) ∧ Below w.heap.size w w' := by
  have CF := fun v => (away_any s h r q v hq).mono (fun (e : Ending) (w' : World) ⟨he, hw⟩ => (⟨he.trans (retB hb), hw⟩ : e = Ending.returned (.bool b) ∧ Below v.heap.size v w'))
  replace CF := Lib.hid CF
  clear hb
  cases b
  all_goals
    go_enter Try.func58, Try.ntmps58
    go_wp2_with fail
    (with_reducible refine (CF.out _).mono ?_)
    rintro e w1 ⟨rfl, hb1⟩
    have T := (Sp4.new w (.bool s) (.bool h) (.bool r) (.int .u64 (q : Int)) _).below hb1
    have hB := Bel.st (Bel.al (Bel.re w) _) hb1
    obtain ⟨z, c0, c1, c2, c3, f3⟩ := T
    clear hb1
    go_wp2_with fail
    go_ret
    exact ⟨rfl, hB⟩
set_option maxHeartbeats 1000000 in
theorem round_away (s h r : Bool) (q : Nat) (w : World) (hq : q < 9007199254740992) : Calls Try.prog 38 #[.agg #[.bool s, .bool h, .bool r, .int .u64 q], .int .i64 1] w fun e w' => e = .returned (.int .u64 (roundW ⟨s, h, r, q⟩ 1 : Nat)) ∧ Below w.heap.size w w' := by
  have CF := Lib.hid (fun v => choose_away s h r _ q v hq rfl)
  have hZ := Lib.hid (show roundW ⟨s, h, r, q⟩ 1 = q + b01' (h) by unfold roundW moreW b01'; simp)
  go_enter Try.func38, Try.ntmps38
  go_wp2_with fail
  (with_reducible refine (CF.out _).mono ?_)
  rintro e w1 ⟨rfl, hb1⟩
  go_wp2_with fail
  go_ret
  exact ⟨retI (by rw [hZ.out]; simp), Bel.st (Bel.al (Bel.re w) _) hb1⟩
set_option maxHeartbeats 1000000 in
theorem choose_up (s h r b : Bool) (q : Nat) (w : World) (hq : q < 9007199254740992) (hb : (h || r) = b) : Calls Try.prog 58 #[.agg #[.bool s, .bool h, .bool r, .int .u64 q], .func (Fn.func 34) #[.agg #[.bool s, .bool h, .bool r, .int .u64 q]] #[]] w fun e w' => e = .returned (.int .u64 (q + b01' b : Nat)) ∧ Below w.heap.size w w' := by
  have CF := fun v => (sup_any s h r q v hq).mono (fun (e : Ending) (w' : World) ⟨he, hw⟩ => (⟨he.trans (retB hb), hw⟩ : e = Ending.returned (.bool b) ∧ Below v.heap.size v w'))
  replace CF := Lib.hid CF
  clear hb
  cases b
  all_goals
    go_enter Try.func58, Try.ntmps58
    go_wp2_with fail
    (with_reducible refine (CF.out _).mono ?_)
    rintro e w1 ⟨rfl, hb1⟩
    have T := (Sp4.new w (.bool s) (.bool h) (.bool r) (.int .u64 (q : Int)) _).below hb1
    have hB := Bel.st (Bel.al (Bel.re w) _) hb1
    obtain ⟨z, c0, c1, c2, c3, f3⟩ := T
    clear hb1
    go_wp2_with fail
    go_ret
    exact ⟨rfl, hB⟩
set_option maxHeartbeats 1000000 in
theorem round_up (s h r : Bool) (q : Nat) (w : World) (hq : q < 9007199254740992) : Calls Try.prog 38 #[.agg #[.bool s, .bool h, .bool r, .int .u64 q], .int .i64 3] w fun e w' => e = .returned (.int .u64 (roundW ⟨s, h, r, q⟩ 3 : Nat)) ∧ Below w.heap.size w w' := by
  have CF := Lib.hid (fun v => choose_up s h r _ q v hq rfl)
  have hZ := Lib.hid (show roundW ⟨s, h, r, q⟩ 3 = q + b01' (h || r) by unfold roundW moreW b01'; simp)
  go_enter Try.func38, Try.ntmps38
  go_wp2_with fail
  (with_reducible refine (CF.out _).mono ?_)
  rintro e w1 ⟨rfl, hb1⟩
  go_wp2_with fail
  go_ret
  exact ⟨retI (by rw [hZ.out]; simp), Bel.st (Bel.al (Bel.re w) _) hb1⟩
set_option maxHeartbeats 1000000 in
theorem choose_low (s h r b : Bool) (q : Nat) (w : World) (hq : q < 9007199254740992) (hb : (s && (h || r)) = b) : Calls Try.prog 58 #[.agg #[.bool s, .bool h, .bool r, .int .u64 q], .func (Fn.func 61) #[.agg #[.bool s, .bool h, .bool r, .int .u64 q]] #[]] w fun e w' => e = .returned (.int .u64 (q + b01' b : Nat)) ∧ Below w.heap.size w w' := by
  have CF := fun v => (slow_any s h r q v hq).mono (fun (e : Ending) (w' : World) ⟨he, hw⟩ => (⟨he.trans (retB hb), hw⟩ : e = Ending.returned (.bool b) ∧ Below v.heap.size v w'))
  replace CF := Lib.hid CF
  clear hb
  cases b
  all_goals
    go_enter Try.func58, Try.ntmps58
    go_wp2_with fail
    (with_reducible refine (CF.out _).mono ?_)
    rintro e w1 ⟨rfl, hb1⟩
    have T := (Sp4.new w (.bool s) (.bool h) (.bool r) (.int .u64 (q : Int)) _).below hb1
    have hB := Bel.st (Bel.al (Bel.re w) _) hb1
    obtain ⟨z, c0, c1, c2, c3, f3⟩ := T
    clear hb1
    go_wp2_with fail
    go_ret
    exact ⟨rfl, hB⟩
set_option maxHeartbeats 1000000 in
theorem round_low (s h r : Bool) (q : Nat) (w : World) (hq : q < 9007199254740992) : Calls Try.prog 38 #[.agg #[.bool s, .bool h, .bool r, .int .u64 q], .int .i64 4] w fun e w' => e = .returned (.int .u64 (roundW ⟨s, h, r, q⟩ 4 : Nat)) ∧ Below w.heap.size w w' := by
  have CF := Lib.hid (fun v => choose_low s h r _ q v hq rfl)
  have hZ := Lib.hid (show roundW ⟨s, h, r, q⟩ 4 = q + b01' (s && (h || r)) by unfold roundW moreW b01'; simp)
  go_enter Try.func38, Try.ntmps38
  go_wp2_with fail
  (with_reducible refine (CF.out _).mono ?_)
  rintro e w1 ⟨rfl, hb1⟩
  go_wp2_with fail
  go_ret
  exact ⟨retI (by rw [hZ.out]; simp), Bel.st (Bel.al (Bel.re w) _) hb1⟩
set_option maxHeartbeats 1000000 in
theorem choose_high (s h r b : Bool) (q : Nat) (w : World) (hq : q < 9007199254740992) (hb : (!s && (h || r)) = b) : Calls Try.prog 58 #[.agg #[.bool s, .bool h, .bool r, .int .u64 q], .func (Fn.func 62) #[.agg #[.bool s, .bool h, .bool r, .int .u64 q]] #[]] w fun e w' => e = .returned (.int .u64 (q + b01' b : Nat)) ∧ Below w.heap.size w w' := by
  have CF := fun v => (shigh_any s h r q v hq).mono (fun (e : Ending) (w' : World) ⟨he, hw⟩ => (⟨he.trans (retB hb), hw⟩ : e = Ending.returned (.bool b) ∧ Below v.heap.size v w'))
  replace CF := Lib.hid CF
  clear hb
  cases b
  all_goals
    go_enter Try.func58, Try.ntmps58
    go_wp2_with fail
    (with_reducible refine (CF.out _).mono ?_)
    rintro e w1 ⟨rfl, hb1⟩
    have T := (Sp4.new w (.bool s) (.bool h) (.bool r) (.int .u64 (q : Int)) _).below hb1
    have hB := Bel.st (Bel.al (Bel.re w) _) hb1
    obtain ⟨z, c0, c1, c2, c3, f3⟩ := T
    clear hb1
    go_wp2_with fail
    go_ret
    exact ⟨rfl, hB⟩
set_option maxHeartbeats 1000000 in
theorem round6_high (s h r : Bool) (q : Nat) (w : World) (hq : q < 9007199254740992) : Calls Try.prog 38 #[.agg #[.bool s, .bool h, .bool r, .int .u64 q], .int .i64 5] w fun e w' => e = .returned (.int .u64 (roundW ⟨s, h, r, q⟩ 5 : Nat)) ∧ Below w.heap.size w w' := by
  have CF := Lib.hid (fun v => choose_high s h r _ q v hq rfl)
  have hZ := Lib.hid (show roundW ⟨s, h, r, q⟩ 5 = q + b01' (!s && (h || r)) by unfold roundW moreW b01'; simp)
  go_enter Try.func38, Try.ntmps38
  go_wp2_with fail
  (with_reducible refine (CF.out _).mono ?_)
  rintro e w1 ⟨rfl, hb1⟩
  go_wp2_with fail
  go_ret
  exact ⟨retI (by rw [hZ.out]; simp), Bel.st (Bel.al (Bel.re w) _) hb1⟩
set_option maxHeartbeats 1000000 in
theorem round_down (s h r : Bool) (q : Nat) (w : World) (_hq : q < 9007199254740992) : Calls Try.prog 38 #[.agg #[.bool s, .bool h, .bool r, .int .u64 q], .int .i64 2] w fun e w' => e = .returned (.int .u64 (roundW ⟨s, h, r, q⟩ 2 : Nat)) ∧ Below w.heap.size w w' := by
  have hZ := Lib.hid (show roundW ⟨s, h, r, q⟩ 2 = q by unfold roundW moreW; simp)
  go_enter Try.func38, Try.ntmps38
  go_wp2_with fail
  go_ret
  exact ⟨retI (by rw [hZ.out]), Bel.al (Bel.re w) _⟩
theorem round6_any (p : Sp) (way : Int) (w : World) (hq : p.q < 9007199254740992) (h0 : 0 ≤ way) (h5 : way ≤ 5) : Calls Try.prog 38 #[p.val, .int .i64 way] w fun e w' => e = .returned (.int .u64 (roundW p way : Nat)) ∧ Below w.heap.size w w' := by
  obtain ⟨s, h, r, q⟩ := p
  unfold Sp.val
  dsimp only at hq ⊢
  obtain rfl | rfl | rfl | rfl | rfl | rfl : way = 0 ∨ way = 1 ∨ way = 2 ∨ way = 3 ∨ way = 4 ∨ way = 5 := by omega
  · exact round_even s h r q w hq
  · exact round_away s h r q w hq
  · exact round_down s h r q w hq
  · exact round_up s h r q w hq
  · exact round_low s h r q w hq
  · exact round6_high s h r q w hq
end Go.Proofs.Ytjlmchbpdkojeaa
