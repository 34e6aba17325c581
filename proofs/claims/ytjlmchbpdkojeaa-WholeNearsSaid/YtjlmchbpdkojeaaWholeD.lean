/-
  The walks of package whole: Is, Whole, From, To.
-/
import Derived.Test.YtjlmchbpdkojeaaWholeC
namespace Go.Proofs.Ytjlmchbpdkojeaa
open Go.RowKit Go.Shelf

set_option maxHeartbeats 2000000 in
theorem wis_any (x : Int) (w : World) (hx : Wd x) : Calls Try.prog 14 #[.int .u64 x] w fun e w' => e = .returned (.bool (isW x)) ∧ Below w.heap.size w w' := by
  have CO := fun v => of6_any x v hx
  have CK := fun v => kind_any x v hx
  have hq := sp_bd x
  unfold isW
  obtain ⟨p, hp⟩ : ∃ p, spW x = p := ⟨_, rfl⟩
  obtain ⟨k, hk⟩ : ∃ k, kd x = k := ⟨_, rfl⟩
  obtain ⟨ok, hok⟩ : ∃ ok, decide (expo x < 0) = ok := ⟨_, rfl⟩
  rw [hp] at CO hq ⊢
  rw [hk] at CK ⊢
  rw [hok] at CO
  obtain ⟨s, h, r, q⟩ := p
  unfold Sp.val at CO
  dsimp only at CO hq ⊢
  have CU := fun v => sup_any s h r q v (by omega)
  obtain ⟨u, hu⟩ : ∃ u, (h || r) = u := ⟨_, rfl⟩
  rw [hu] at CU ⊢
  replace CO := Lib.hid CO
  replace CK := Lib.hid CK
  replace CU := Lib.hid CU
  clear hp hk hok hu hx
  by_cases h3 : k < 3
  · go_enter Try.func14, Try.ntmps14
    go_wp2_with fail
    (with_reducible refine (CO.out _).mono ?_)
    rintro e w1 ⟨rfl, hb1⟩
    go_wp2_with fail
    (with_reducible refine (CK.out _).mono ?_)
    rintro e w' ⟨rfl, rfl⟩
    go_wp2_with fail
    (with_reducible refine (CU.out _).mono ?_)
    rintro e w2 ⟨rfl, hb2⟩
    go_wp2_with fail
    go_ret
    exact ⟨retB (by simp [h3]), Bel.st (Bel.al hb1 _) hb2⟩
  · go_enter Try.func14, Try.ntmps14
    go_wp2_with fail
    (with_reducible refine (CO.out _).mono ?_)
    rintro e w1 ⟨rfl, hb1⟩
    go_wp2_with fail
    (with_reducible refine (CK.out _).mono ?_)
    rintro e w' ⟨rfl, rfl⟩
    go_wp2_with fail
    go_ret
    exact ⟨retB (by rw [decide_eq_false (by omega)]; rfl), Bel.al hb1 _⟩

set_option maxRecDepth 100000 in
set_option maxHeartbeats 4000000 in
theorem whole_any (x way : Int) (w : World) (hx : Wd x) : Calls Try.prog 20 #[.int .u64 x, .int .i64 way] w fun e w' => e = .returned (.tuple #[.int .u64 (wholeI x way), .int .i64 (wholeE way)]) ∧ Below w.heap.size w w' := by
  have CO := fun v => of6_any x v hx
  have CK := fun v => kind_any x v hx
  have hq := sp_bd x
  obtain ⟨p, hp⟩ : ∃ p, spW x = p := ⟨_, rfl⟩
  obtain ⟨k, hk⟩ : ∃ k, kd x = k := ⟨_, rfl⟩
  obtain ⟨ex, hex⟩ : ∃ ex, expo x = ex := ⟨_, rfl⟩
  obtain ⟨F, hF⟩ : ∃ F, wholeI x way = F := ⟨_, rfl⟩
  obtain ⟨E, hE⟩ : ∃ E, wholeE way = E := ⟨_, rfl⟩
  have hsg : p.s = sgn x := by rw [← hp]; unfold spW; split <;> rfl
  rw [hF, hE]
  unfold wholeI at hF
  unfold wholeE at hE
  rw [hp, hk, hex, ← hsg] at hF
  rw [hp] at CO hq
  rw [hk] at CK
  rw [hex] at CO
  obtain ⟨s, h, r, q⟩ := p
  unfold Sp.val at CO
  dsimp only at CO hq hF
  replace CO := Lib.hid CO
  replace CK := Lib.hid CK
  clear hp hk hex hsg hx
  by_cases hw1 : way < 0
  · rw [if_pos (.inl hw1)] at hF hE
    subst hF hE
    go_enter Try.func20, Try.ntmps20
    go_wp2
    go_ret2
    exact ⟨rfl, Bel.re _⟩
  · by_cases hw2 : 5 < way
    · rw [if_pos (.inr hw2)] at hF hE
      subst hF hE
      go_enter Try.func20, Try.ntmps20
      go_wp2
      go_ret2
      exact ⟨rfl, Bel.re _⟩
    · rw [if_neg (by omega)] at hF hE
      subst hE
      by_cases h4 : k = 4
      · rw [if_pos h4] at hF
        subst h4 hF
        go_enter Try.func20, Try.ntmps20
        go_wp2_with (go_at_call 29; (with_reducible refine (CK.out _).mono ?_); rintro e w' ⟨rfl, rfl⟩)
        go_ret2
        exact ⟨rfl, Bel.re _⟩
      · rw [if_neg h4] at hF
        have h4' : (k == 4) = false := by simpa using h4
        by_cases h3 : k = 3
        · rw [if_pos h3] at hF
          subst h3 hF
          go_enter Try.func20, Try.ntmps20
          go_wp2_with (go_at_call 29; (with_reducible refine (CK.out _).mono ?_); rintro e w' ⟨rfl, rfl⟩)
          go_ret2
          exact ⟨rfl, Bel.re _⟩
        · rw [if_neg h3] at hF
          have h3' : (k == 3) = false := by simpa using h3
          clear h4 h3
          by_cases he : 0 ≤ ex
          · rw [if_pos he] at hF
            subst hF
            have he' : decide (ex < 0) = false := by simp; omega
            have CO2 := CO.out
            rw [he'] at CO2
            replace CO2 := Lib.hid CO2
            clear CO he he'
            go_enter Try.func20, Try.ntmps20
            go_wp2_with (first | (go_at_call 29; (with_reducible refine (CK.out _).mono ?_); rintro e w' ⟨rfl, rfl⟩) | (go_at_call 33; (with_reducible refine (CO2.out _).mono ?_); rintro e w1 ⟨rfl, hb1⟩))
            go_ret2
            exact ⟨rfl, Bel.al hb1 _⟩
          · rw [if_neg he] at hF
            have he' : decide (ex < 0) = true := by simp; omega
            have CO2 := CO.out
            rw [he'] at CO2
            replace CO2 := Lib.hid CO2
            have CR := fun v => round6_any ⟨s, h, r, q⟩ way v (by show q < _; omega) (by omega) (by omega)
            unfold Sp.val at CR
            dsimp only at CR
            have hR : roundW ⟨s, h, r, q⟩ way ≤ q + 1 := by unfold roundW; dsimp only; split <;> omega
            obtain ⟨R, hRR⟩ : ∃ R, roundW ⟨s, h, r, q⟩ way = R := ⟨_, rfl⟩
            rw [hRR] at CR hF hR
            have CJ := fun v => join_any s 0 (R : Int) 0 false v ⟨by decide, by decide⟩ ⟨by omega, by omega⟩ (by decide) (by decide)
            have e1 : (num 0 (R : Int)).toNat = R := by unfold num; omega
            rw [e1, hF] at CJ
            replace CR := Lib.hid CR
            replace CJ := Lib.hid CJ
            clear CO he he' hF hRR e1 hR
            go_enter Try.func20, Try.ntmps20
            go_wp2_with (first | (go_at_call 29; (with_reducible refine (CK.out _).mono ?_); rintro e w' ⟨rfl, rfl⟩) | (go_at_call 33; (with_reducible refine (CO2.out _).mono ?_); rintro e w1 ⟨rfl, hb1⟩))
            have T_p := Sp4.new w1 (.bool s) (.bool h) (.bool r) (.int .u64 (q : Int)) 43
            have hB := Bel.al hb1 (.cells #[.bool s, .bool h, .bool r, .int .u64 (q : Int)] 43)
            generalize World.alloc w1 _ = W at T_p hB ⊢
            obtain ⟨n, hn⟩ : ∃ n, w1.heap.size = n := ⟨_, rfl⟩
            rw [hn] at T_p
            simp only [hn]
            obtain ⟨z, c0, c1, c2, c3, f3⟩ := id T_p
            go_region_held3 (fun w' => w'.cell? ⟨n, 0, none⟩ = some (.bool s) ∧ w'.cell? ⟨n, 1, none⟩ = some (.bool h) ∧ w'.cell? ⟨n, 2, none⟩ = some (.bool r) ∧ w'.cell? ⟨n, 3, none⟩ = some (.int .u64 (q : Int)) ∧ n < w'.heap.size) ((repeat' apply And.intro) <;> (first | assumption | exact T_p.c0 | exact T_p.c1 | exact T_p.c2 | exact T_p.c3 | exact T_p.lt | (go_keep; done) | omega)) (first | (go_at_call 38; (with_reducible refine (CR.out _).mono ?_); rintro e w2 ⟨rfl, hb2⟩; replace T_p := Sp4.below (by first | exact T_p | exact Sp4.drew T_p) hb2; replace hB := Bel.st (by first | exact hB | exact Bel.dr hB) hb2) | (go_at_call 37; (with_reducible refine (CJ.out _).mono ?_); rintro e w3 ⟨rfl, hb3⟩; replace T_p := Sp4.below (by first | exact T_p | exact Sp4.drew T_p) hb3; replace hB := Bel.st (by first | exact hB | exact Bel.dr hB) hb3))
            all_goals go_wp2
            all_goals go_ret2
            all_goals exact ⟨rfl, hB⟩

def fromI (v : Int) : Int := fbits (decide (v < 0)) v.natAbs 0 false
set_option maxHeartbeats 1000000 in
theorem size6_any (v : Int) (w : World) (v0 : -9223372036854775808 ≤ v) (v1 : v < 9223372036854775808) : Calls Try.prog 41 #[.int .i64 v] w fun e w' => e = .returned (.int .u64 (v.natAbs : Nat)) ∧ w = w' := by
  by_cases h : v < 0
  · have h1 : IntKind.u64.wrap v = v + 18446744073709551616 := by rw [IntKind.wrap_u64]; omega
    have h2 : IntKind.u64.wrap (-(v + 18446744073709551616)) = -v := by rw [IntKind.wrap_u64]; omega
    have hv := Lib.hid (show ((v.natAbs : Nat) : Int) = -v by omega)
    go_enter Try.func41, Try.ntmps41
    go_wp2
    go_ret
    exact ⟨retI (by rw [hv.out]), rfl⟩
  · have h1 : IntKind.u64.wrap v = v := by rw [IntKind.wrap_u64]; omega
    have hv := Lib.hid (show ((v.natAbs : Nat) : Int) = v by omega)
    go_enter Try.func41, Try.ntmps41
    go_wp2
    go_ret
    exact ⟨retI (by rw [hv.out]), rfl⟩
set_option maxHeartbeats 1000000 in
theorem from6_any (v : Int) (w : World) (v0 : -9223372036854775808 ≤ v) (v1 : v < 9223372036854775808) : Calls Try.prog 22 #[.int .i64 v] w fun e w' => e = .returned (.int .u64 (fromI v)) ∧ Below w.heap.size w w' := by
  have CS := fun u => size6_any v u v0 v1
  obtain ⟨n, hn⟩ : ∃ n, v.natAbs = n := ⟨_, rfl⟩
  obtain ⟨s, hs⟩ : ∃ s, decide (v < 0) = s := ⟨_, rfl⟩
  have hb : n ≤ 9223372036854775808 := by omega
  unfold fromI
  rw [hn, hs]
  rw [hn] at CS
  have CJ := fun u => join_any s 0 (n : Int) 0 false u ⟨by decide, by decide⟩ ⟨by omega, by omega⟩ (by decide) (by decide)
  have e1 : (num 0 (n : Int)).toNat = n := by unfold num; omega
  rw [e1] at CJ
  replace CS := Lib.hid CS
  replace CJ := Lib.hid CJ
  clear hn e1 hb
  go_enter Try.func22, Try.ntmps22
  go_wp2_with (first | (go_at_call 41; (with_reducible refine (CS.out _).mono ?_); rintro e w' ⟨rfl, rfl⟩) | (go_at_call 37; (with_reducible refine (CJ.out _).mono ?_); rintro e w2 ⟨rfl, hb2⟩))
  go_ret
  exact ⟨rfl, hb2⟩
end Go.Proofs.Ytjlmchbpdkojeaa
