/-
  M5H: the texts Ref5G, Law5Div, Law5Sqrt, Law5Fma, Law5Mod, Law5Power in one (a claim has at most 60 files).
-/
import Derived.Test.YtmjaoeafompclaaM5F
import Derived.Test.YtmjaoeafompclaaM5G

namespace Go.Proofs.Ytmjaoeafompclaa
open Go.RowKit Go.Shelf

set_option maxRecDepth 100000 in
set_option maxHeartbeats 16000000 in
theorem rfma5_inf (a b c : Int) (w : World) (ha : Wd a) (hb : Wd b) (hc : Wd c) (ka : kd a = 3) (ia : Kin a false true false) : Calls Try.prog 18 #[.int .u64 a, .int .u64 b, .int .u64 c] w fun e w' => e = .returned (.int .u64 (fmaI a b c)) ∧ Below w.heap.size w w' := by
  have hng : (!(sgn a == sgn b)) = (sgn a != sgn b) := rfl
  have ba := kd_bd a
  have bb := kd_bd b
  have bc := kd_bd c
  have HB := Bel.re w
  rcases kin_cases b with ⟨kb, ib⟩ | ⟨kb, ib⟩ | ⟨kb, ib⟩ | ⟨kb, ib⟩
  · have ic : Kin c (kd c == 4) (kd c == 3) (kd c == 0) := ⟨rfl, rfl, rfl⟩
    have hI : fmaI a b c = 9221120237041090560 := by unfold fmaI; rw [if_pos (by omega)]; rfl
    rw [hI]
    clear hI
    generalize (sgn a != sgn b) = ng at *
    have NA := Lib.hid (none5r_k ha ia)
    have EA := Lib.hid (endless5r_k ha ia)
    have ZA := Lib.hid (zero5r_k ha ia)
    have NB := Lib.hid (none5r_k hb ib)
    have EB := Lib.hid (endless5r_k hb ib)
    have ZB := Lib.hid (zero5r_k hb ib)
    have NC := Lib.hid (none5r_k hc ic)
    have EC := Lib.hid (endless5r_k hc ic)
    have ZC := Lib.hid (zero5r_k hc ic)
    clear ia ib ic ka ha hb hc ba bb bc kb
    go_enter Try.func18, Try.ntmps18
    go_wp2_with (first | (go_at_call 36; (first | (with_reducible refine (NA.out _).mono ?_) | (with_reducible refine (NB.out _).mono ?_) | (with_reducible refine (NC.out _).mono ?_)); rintro e w' ⟨rfl, rfl⟩) | (go_at_call 37; (first | (with_reducible refine (EA.out _).mono ?_) | (with_reducible refine (EB.out _).mono ?_) | (with_reducible refine (EC.out _).mono ?_)); rintro e w' ⟨rfl, rfl⟩) | (go_at_call 38; (first | (with_reducible refine (ZA.out _).mono ?_) | (with_reducible refine (ZB.out _).mono ?_) | (with_reducible refine (ZC.out _).mono ?_)); rintro e w' ⟨rfl, rfl⟩) | (go_at_call 35; (first | (with_reducible refine (ris_any a _).mono ?_) | (with_reducible refine (ris_any b _).mono ?_) | (with_reducible refine (ris_any c _).mono ?_)); rintro e w' ⟨rfl, rfl⟩) | (go_at_call 39; (first | (with_reducible refine (with5r_inf _ _).mono ?_) | (with_reducible refine (with5r_zero _ _).mono ?_)); rintro e w' ⟨rfl, rfl⟩))
    all_goals (go_ret; exact ⟨rfl, HB⟩)
  · rcases kin_cases c with ⟨kc, ic⟩ | ⟨kc, ic⟩ | ⟨kc, ic⟩ | ⟨kc, ic⟩
    · skip
      have hI : fmaI a b c = 9221120237041090560 := by unfold fmaI; rw [if_pos (by omega)]; rfl
      rw [hI]
      clear hI
      generalize (sgn a != sgn b) = ng at *
      have NA := Lib.hid (none5r_k ha ia)
      have EA := Lib.hid (endless5r_k ha ia)
      have ZA := Lib.hid (zero5r_k ha ia)
      have NB := Lib.hid (none5r_k hb ib)
      have EB := Lib.hid (endless5r_k hb ib)
      have ZB := Lib.hid (zero5r_k hb ib)
      have NC := Lib.hid (none5r_k hc ic)
      have EC := Lib.hid (endless5r_k hc ic)
      have ZC := Lib.hid (zero5r_k hc ic)
      clear ia ib ic ka ha hb hc ba bb bc kb kc
      go_enter Try.func18, Try.ntmps18
      go_wp2_with (first | (go_at_call 36; (first | (with_reducible refine (NA.out _).mono ?_) | (with_reducible refine (NB.out _).mono ?_) | (with_reducible refine (NC.out _).mono ?_)); rintro e w' ⟨rfl, rfl⟩) | (go_at_call 37; (first | (with_reducible refine (EA.out _).mono ?_) | (with_reducible refine (EB.out _).mono ?_) | (with_reducible refine (EC.out _).mono ?_)); rintro e w' ⟨rfl, rfl⟩) | (go_at_call 38; (first | (with_reducible refine (ZA.out _).mono ?_) | (with_reducible refine (ZB.out _).mono ?_) | (with_reducible refine (ZC.out _).mono ?_)); rintro e w' ⟨rfl, rfl⟩) | (go_at_call 35; (first | (with_reducible refine (ris_any a _).mono ?_) | (with_reducible refine (ris_any b _).mono ?_) | (with_reducible refine (ris_any c _).mono ?_)); rintro e w' ⟨rfl, rfl⟩) | (go_at_call 39; (first | (with_reducible refine (with5r_inf _ _).mono ?_) | (with_reducible refine (with5r_zero _ _).mono ?_)); rintro e w' ⟨rfl, rfl⟩))
      all_goals (go_ret; exact ⟨rfl, HB⟩)
    · skip
      have hI : fmaI a b c = if sgn c ≠ (sgn a != sgn b) then 9221120237041090560 else sb (sgn a != sgn b) + INFI := by
        unfold fmaI
        by_cases h : sgn c ≠ (sgn a != sgn b)
        · rw [if_pos h, if_pos (.inr (.inr (.inr (.inr ⟨by omega, kc, h⟩))))]; rfl
        · rw [if_neg h, if_neg (by rintro (g | g | g | g | ⟨_, _, g⟩) <;> first | omega | exact h g), if_pos (by omega)]
      rw [hI]
      clear hI
      have NA := Lib.hid (none5r_k ha ia)
      have EA := Lib.hid (endless5r_k ha ia)
      have ZA := Lib.hid (zero5r_k ha ia)
      have NB := Lib.hid (none5r_k hb ib)
      have EB := Lib.hid (endless5r_k hb ib)
      have ZB := Lib.hid (zero5r_k hb ib)
      have NC := Lib.hid (none5r_k hc ic)
      have EC := Lib.hid (endless5r_k hc ic)
      have ZC := Lib.hid (zero5r_k hc ic)
      have IC := fun v => ris_any c v
      generalize (sgn a != sgn b) = ng at *
      generalize sgn c = sc at *
      clear ia ib ic ka ha hb hc ba bb bc kb kc
      cases ng <;> cases sc
      all_goals
        go_enter Try.func18, Try.ntmps18
        go_wp2_with (first | (go_at_call 36; (first | (with_reducible refine (NA.out _).mono ?_) | (with_reducible refine (NB.out _).mono ?_) | (with_reducible refine (NC.out _).mono ?_)); rintro e w' ⟨rfl, rfl⟩) | (go_at_call 37; (first | (with_reducible refine (EA.out _).mono ?_) | (with_reducible refine (EB.out _).mono ?_) | (with_reducible refine (EC.out _).mono ?_)); rintro e w' ⟨rfl, rfl⟩) | (go_at_call 38; (first | (with_reducible refine (ZA.out _).mono ?_) | (with_reducible refine (ZB.out _).mono ?_) | (with_reducible refine (ZC.out _).mono ?_)); rintro e w' ⟨rfl, rfl⟩) | (go_at_call 35; (first | (with_reducible refine (IC _).mono ?_) | (with_reducible refine (ris_any a _).mono ?_) | (with_reducible refine (ris_any b _).mono ?_) | (with_reducible refine (ris_any c _).mono ?_)); rintro e w' ⟨rfl, rfl⟩) | (go_at_call 39; (first | (with_reducible refine (with5r_inf _ _).mono ?_) | (with_reducible refine (with5r_zero _ _).mono ?_)); rintro e w' ⟨rfl, rfl⟩))
        all_goals (go_ret; exact ⟨rfl, HB⟩)
    · skip
      have hI : fmaI a b c = sb (sgn a != sgn b) + INFI := by unfold fmaI; rw [if_neg (by omega), if_pos (by omega)]
      rw [hI]
      clear hI
      generalize (sgn a != sgn b) = ng at *
      have NA := Lib.hid (none5r_k ha ia)
      have EA := Lib.hid (endless5r_k ha ia)
      have ZA := Lib.hid (zero5r_k ha ia)
      have NB := Lib.hid (none5r_k hb ib)
      have EB := Lib.hid (endless5r_k hb ib)
      have ZB := Lib.hid (zero5r_k hb ib)
      have NC := Lib.hid (none5r_k hc ic)
      have EC := Lib.hid (endless5r_k hc ic)
      have ZC := Lib.hid (zero5r_k hc ic)
      clear ia ib ic ka ha hb hc ba bb bc kb kc
      go_enter Try.func18, Try.ntmps18
      go_wp2_with (first | (go_at_call 36; (first | (with_reducible refine (NA.out _).mono ?_) | (with_reducible refine (NB.out _).mono ?_) | (with_reducible refine (NC.out _).mono ?_)); rintro e w' ⟨rfl, rfl⟩) | (go_at_call 37; (first | (with_reducible refine (EA.out _).mono ?_) | (with_reducible refine (EB.out _).mono ?_) | (with_reducible refine (EC.out _).mono ?_)); rintro e w' ⟨rfl, rfl⟩) | (go_at_call 38; (first | (with_reducible refine (ZA.out _).mono ?_) | (with_reducible refine (ZB.out _).mono ?_) | (with_reducible refine (ZC.out _).mono ?_)); rintro e w' ⟨rfl, rfl⟩) | (go_at_call 35; (first | (with_reducible refine (ris_any a _).mono ?_) | (with_reducible refine (ris_any b _).mono ?_) | (with_reducible refine (ris_any c _).mono ?_)); rintro e w' ⟨rfl, rfl⟩) | (go_at_call 39; (first | (with_reducible refine (with5r_inf _ _).mono ?_) | (with_reducible refine (with5r_zero _ _).mono ?_)); rintro e w' ⟨rfl, rfl⟩))
      all_goals (go_ret; exact ⟨rfl, HB⟩)
    · skip
      have hI : fmaI a b c = sb (sgn a != sgn b) + INFI := by unfold fmaI; rw [if_neg (by omega), if_pos (by omega)]
      rw [hI]
      clear hI
      generalize (sgn a != sgn b) = ng at *
      have NA := Lib.hid (none5r_k ha ia)
      have EA := Lib.hid (endless5r_k ha ia)
      have ZA := Lib.hid (zero5r_k ha ia)
      have NB := Lib.hid (none5r_k hb ib)
      have EB := Lib.hid (endless5r_k hb ib)
      have ZB := Lib.hid (zero5r_k hb ib)
      have NC := Lib.hid (none5r_k hc ic)
      have EC := Lib.hid (endless5r_k hc ic)
      have ZC := Lib.hid (zero5r_k hc ic)
      clear ia ib ic ka ha hb hc ba bb bc kb kc
      go_enter Try.func18, Try.ntmps18
      go_wp2_with (first | (go_at_call 36; (first | (with_reducible refine (NA.out _).mono ?_) | (with_reducible refine (NB.out _).mono ?_) | (with_reducible refine (NC.out _).mono ?_)); rintro e w' ⟨rfl, rfl⟩) | (go_at_call 37; (first | (with_reducible refine (EA.out _).mono ?_) | (with_reducible refine (EB.out _).mono ?_) | (with_reducible refine (EC.out _).mono ?_)); rintro e w' ⟨rfl, rfl⟩) | (go_at_call 38; (first | (with_reducible refine (ZA.out _).mono ?_) | (with_reducible refine (ZB.out _).mono ?_) | (with_reducible refine (ZC.out _).mono ?_)); rintro e w' ⟨rfl, rfl⟩) | (go_at_call 35; (first | (with_reducible refine (ris_any a _).mono ?_) | (with_reducible refine (ris_any b _).mono ?_) | (with_reducible refine (ris_any c _).mono ?_)); rintro e w' ⟨rfl, rfl⟩) | (go_at_call 39; (first | (with_reducible refine (with5r_inf _ _).mono ?_) | (with_reducible refine (with5r_zero _ _).mono ?_)); rintro e w' ⟨rfl, rfl⟩))
      all_goals (go_ret; exact ⟨rfl, HB⟩)
  · rcases kin_cases c with ⟨kc, ic⟩ | ⟨kc, ic⟩ | ⟨kc, ic⟩ | ⟨kc, ic⟩
    · skip
      have hI : fmaI a b c = 9221120237041090560 := by unfold fmaI; rw [if_pos (by omega)]; rfl
      rw [hI]
      clear hI
      generalize (sgn a != sgn b) = ng at *
      have NA := Lib.hid (none5r_k ha ia)
      have EA := Lib.hid (endless5r_k ha ia)
      have ZA := Lib.hid (zero5r_k ha ia)
      have NB := Lib.hid (none5r_k hb ib)
      have EB := Lib.hid (endless5r_k hb ib)
      have ZB := Lib.hid (zero5r_k hb ib)
      have NC := Lib.hid (none5r_k hc ic)
      have EC := Lib.hid (endless5r_k hc ic)
      have ZC := Lib.hid (zero5r_k hc ic)
      clear ia ib ic ka ha hb hc ba bb bc kb kc
      go_enter Try.func18, Try.ntmps18
      go_wp2_with (first | (go_at_call 36; (first | (with_reducible refine (NA.out _).mono ?_) | (with_reducible refine (NB.out _).mono ?_) | (with_reducible refine (NC.out _).mono ?_)); rintro e w' ⟨rfl, rfl⟩) | (go_at_call 37; (first | (with_reducible refine (EA.out _).mono ?_) | (with_reducible refine (EB.out _).mono ?_) | (with_reducible refine (EC.out _).mono ?_)); rintro e w' ⟨rfl, rfl⟩) | (go_at_call 38; (first | (with_reducible refine (ZA.out _).mono ?_) | (with_reducible refine (ZB.out _).mono ?_) | (with_reducible refine (ZC.out _).mono ?_)); rintro e w' ⟨rfl, rfl⟩) | (go_at_call 35; (first | (with_reducible refine (ris_any a _).mono ?_) | (with_reducible refine (ris_any b _).mono ?_) | (with_reducible refine (ris_any c _).mono ?_)); rintro e w' ⟨rfl, rfl⟩) | (go_at_call 39; (first | (with_reducible refine (with5r_inf _ _).mono ?_) | (with_reducible refine (with5r_zero _ _).mono ?_)); rintro e w' ⟨rfl, rfl⟩))
      all_goals (go_ret; exact ⟨rfl, HB⟩)
    · skip
      have hI : fmaI a b c = 9221120237041090560 := by unfold fmaI; rw [if_pos (by omega)]; rfl
      rw [hI]
      clear hI
      generalize (sgn a != sgn b) = ng at *
      have NA := Lib.hid (none5r_k ha ia)
      have EA := Lib.hid (endless5r_k ha ia)
      have ZA := Lib.hid (zero5r_k ha ia)
      have NB := Lib.hid (none5r_k hb ib)
      have EB := Lib.hid (endless5r_k hb ib)
      have ZB := Lib.hid (zero5r_k hb ib)
      have NC := Lib.hid (none5r_k hc ic)
      have EC := Lib.hid (endless5r_k hc ic)
      have ZC := Lib.hid (zero5r_k hc ic)
      clear ia ib ic ka ha hb hc ba bb bc kb kc
      go_enter Try.func18, Try.ntmps18
      go_wp2_with (first | (go_at_call 36; (first | (with_reducible refine (NA.out _).mono ?_) | (with_reducible refine (NB.out _).mono ?_) | (with_reducible refine (NC.out _).mono ?_)); rintro e w' ⟨rfl, rfl⟩) | (go_at_call 37; (first | (with_reducible refine (EA.out _).mono ?_) | (with_reducible refine (EB.out _).mono ?_) | (with_reducible refine (EC.out _).mono ?_)); rintro e w' ⟨rfl, rfl⟩) | (go_at_call 38; (first | (with_reducible refine (ZA.out _).mono ?_) | (with_reducible refine (ZB.out _).mono ?_) | (with_reducible refine (ZC.out _).mono ?_)); rintro e w' ⟨rfl, rfl⟩) | (go_at_call 35; (first | (with_reducible refine (ris_any a _).mono ?_) | (with_reducible refine (ris_any b _).mono ?_) | (with_reducible refine (ris_any c _).mono ?_)); rintro e w' ⟨rfl, rfl⟩) | (go_at_call 39; (first | (with_reducible refine (with5r_inf _ _).mono ?_) | (with_reducible refine (with5r_zero _ _).mono ?_)); rintro e w' ⟨rfl, rfl⟩))
      all_goals (go_ret; exact ⟨rfl, HB⟩)
    · skip
      have hI : fmaI a b c = 9221120237041090560 := by unfold fmaI; rw [if_pos (by omega)]; rfl
      rw [hI]
      clear hI
      generalize (sgn a != sgn b) = ng at *
      have NA := Lib.hid (none5r_k ha ia)
      have EA := Lib.hid (endless5r_k ha ia)
      have ZA := Lib.hid (zero5r_k ha ia)
      have NB := Lib.hid (none5r_k hb ib)
      have EB := Lib.hid (endless5r_k hb ib)
      have ZB := Lib.hid (zero5r_k hb ib)
      have NC := Lib.hid (none5r_k hc ic)
      have EC := Lib.hid (endless5r_k hc ic)
      have ZC := Lib.hid (zero5r_k hc ic)
      clear ia ib ic ka ha hb hc ba bb bc kb kc
      go_enter Try.func18, Try.ntmps18
      go_wp2_with (first | (go_at_call 36; (first | (with_reducible refine (NA.out _).mono ?_) | (with_reducible refine (NB.out _).mono ?_) | (with_reducible refine (NC.out _).mono ?_)); rintro e w' ⟨rfl, rfl⟩) | (go_at_call 37; (first | (with_reducible refine (EA.out _).mono ?_) | (with_reducible refine (EB.out _).mono ?_) | (with_reducible refine (EC.out _).mono ?_)); rintro e w' ⟨rfl, rfl⟩) | (go_at_call 38; (first | (with_reducible refine (ZA.out _).mono ?_) | (with_reducible refine (ZB.out _).mono ?_) | (with_reducible refine (ZC.out _).mono ?_)); rintro e w' ⟨rfl, rfl⟩) | (go_at_call 35; (first | (with_reducible refine (ris_any a _).mono ?_) | (with_reducible refine (ris_any b _).mono ?_) | (with_reducible refine (ris_any c _).mono ?_)); rintro e w' ⟨rfl, rfl⟩) | (go_at_call 39; (first | (with_reducible refine (with5r_inf _ _).mono ?_) | (with_reducible refine (with5r_zero _ _).mono ?_)); rintro e w' ⟨rfl, rfl⟩))
      all_goals (go_ret; exact ⟨rfl, HB⟩)
    · skip
      have hI : fmaI a b c = 9221120237041090560 := by unfold fmaI; rw [if_pos (by omega)]; rfl
      rw [hI]
      clear hI
      generalize (sgn a != sgn b) = ng at *
      have NA := Lib.hid (none5r_k ha ia)
      have EA := Lib.hid (endless5r_k ha ia)
      have ZA := Lib.hid (zero5r_k ha ia)
      have NB := Lib.hid (none5r_k hb ib)
      have EB := Lib.hid (endless5r_k hb ib)
      have ZB := Lib.hid (zero5r_k hb ib)
      have NC := Lib.hid (none5r_k hc ic)
      have EC := Lib.hid (endless5r_k hc ic)
      have ZC := Lib.hid (zero5r_k hc ic)
      clear ia ib ic ka ha hb hc ba bb bc kb kc
      go_enter Try.func18, Try.ntmps18
      go_wp2_with (first | (go_at_call 36; (first | (with_reducible refine (NA.out _).mono ?_) | (with_reducible refine (NB.out _).mono ?_) | (with_reducible refine (NC.out _).mono ?_)); rintro e w' ⟨rfl, rfl⟩) | (go_at_call 37; (first | (with_reducible refine (EA.out _).mono ?_) | (with_reducible refine (EB.out _).mono ?_) | (with_reducible refine (EC.out _).mono ?_)); rintro e w' ⟨rfl, rfl⟩) | (go_at_call 38; (first | (with_reducible refine (ZA.out _).mono ?_) | (with_reducible refine (ZB.out _).mono ?_) | (with_reducible refine (ZC.out _).mono ?_)); rintro e w' ⟨rfl, rfl⟩) | (go_at_call 35; (first | (with_reducible refine (ris_any a _).mono ?_) | (with_reducible refine (ris_any b _).mono ?_) | (with_reducible refine (ris_any c _).mono ?_)); rintro e w' ⟨rfl, rfl⟩) | (go_at_call 39; (first | (with_reducible refine (with5r_inf _ _).mono ?_) | (with_reducible refine (with5r_zero _ _).mono ?_)); rintro e w' ⟨rfl, rfl⟩))
      all_goals (go_ret; exact ⟨rfl, HB⟩)
  · rcases kin_cases c with ⟨kc, ic⟩ | ⟨kc, ic⟩ | ⟨kc, ic⟩ | ⟨kc, ic⟩
    · skip
      have hI : fmaI a b c = 9221120237041090560 := by unfold fmaI; rw [if_pos (by omega)]; rfl
      rw [hI]
      clear hI
      generalize (sgn a != sgn b) = ng at *
      have NA := Lib.hid (none5r_k ha ia)
      have EA := Lib.hid (endless5r_k ha ia)
      have ZA := Lib.hid (zero5r_k ha ia)
      have NB := Lib.hid (none5r_k hb ib)
      have EB := Lib.hid (endless5r_k hb ib)
      have ZB := Lib.hid (zero5r_k hb ib)
      have NC := Lib.hid (none5r_k hc ic)
      have EC := Lib.hid (endless5r_k hc ic)
      have ZC := Lib.hid (zero5r_k hc ic)
      clear ia ib ic ka ha hb hc ba bb bc kb kc
      go_enter Try.func18, Try.ntmps18
      go_wp2_with (first | (go_at_call 36; (first | (with_reducible refine (NA.out _).mono ?_) | (with_reducible refine (NB.out _).mono ?_) | (with_reducible refine (NC.out _).mono ?_)); rintro e w' ⟨rfl, rfl⟩) | (go_at_call 37; (first | (with_reducible refine (EA.out _).mono ?_) | (with_reducible refine (EB.out _).mono ?_) | (with_reducible refine (EC.out _).mono ?_)); rintro e w' ⟨rfl, rfl⟩) | (go_at_call 38; (first | (with_reducible refine (ZA.out _).mono ?_) | (with_reducible refine (ZB.out _).mono ?_) | (with_reducible refine (ZC.out _).mono ?_)); rintro e w' ⟨rfl, rfl⟩) | (go_at_call 35; (first | (with_reducible refine (ris_any a _).mono ?_) | (with_reducible refine (ris_any b _).mono ?_) | (with_reducible refine (ris_any c _).mono ?_)); rintro e w' ⟨rfl, rfl⟩) | (go_at_call 39; (first | (with_reducible refine (with5r_inf _ _).mono ?_) | (with_reducible refine (with5r_zero _ _).mono ?_)); rintro e w' ⟨rfl, rfl⟩))
      all_goals (go_ret; exact ⟨rfl, HB⟩)
    · skip
      have hI : fmaI a b c = if sgn c ≠ (sgn a != sgn b) then 9221120237041090560 else sb (sgn a != sgn b) + INFI := by
        unfold fmaI
        by_cases h : sgn c ≠ (sgn a != sgn b)
        · rw [if_pos h, if_pos (.inr (.inr (.inr (.inr ⟨by omega, kc, h⟩))))]; rfl
        · rw [if_neg h, if_neg (by rintro (g | g | g | g | ⟨_, _, g⟩) <;> first | omega | exact h g), if_pos (by omega)]
      rw [hI]
      clear hI
      have NA := Lib.hid (none5r_k ha ia)
      have EA := Lib.hid (endless5r_k ha ia)
      have ZA := Lib.hid (zero5r_k ha ia)
      have NB := Lib.hid (none5r_k hb ib)
      have EB := Lib.hid (endless5r_k hb ib)
      have ZB := Lib.hid (zero5r_k hb ib)
      have NC := Lib.hid (none5r_k hc ic)
      have EC := Lib.hid (endless5r_k hc ic)
      have ZC := Lib.hid (zero5r_k hc ic)
      have IC := fun v => ris_any c v
      generalize (sgn a != sgn b) = ng at *
      generalize sgn c = sc at *
      clear ia ib ic ka ha hb hc ba bb bc kb kc
      cases ng <;> cases sc
      all_goals
        go_enter Try.func18, Try.ntmps18
        go_wp2_with (first | (go_at_call 36; (first | (with_reducible refine (NA.out _).mono ?_) | (with_reducible refine (NB.out _).mono ?_) | (with_reducible refine (NC.out _).mono ?_)); rintro e w' ⟨rfl, rfl⟩) | (go_at_call 37; (first | (with_reducible refine (EA.out _).mono ?_) | (with_reducible refine (EB.out _).mono ?_) | (with_reducible refine (EC.out _).mono ?_)); rintro e w' ⟨rfl, rfl⟩) | (go_at_call 38; (first | (with_reducible refine (ZA.out _).mono ?_) | (with_reducible refine (ZB.out _).mono ?_) | (with_reducible refine (ZC.out _).mono ?_)); rintro e w' ⟨rfl, rfl⟩) | (go_at_call 35; (first | (with_reducible refine (IC _).mono ?_) | (with_reducible refine (ris_any a _).mono ?_) | (with_reducible refine (ris_any b _).mono ?_) | (with_reducible refine (ris_any c _).mono ?_)); rintro e w' ⟨rfl, rfl⟩) | (go_at_call 39; (first | (with_reducible refine (with5r_inf _ _).mono ?_) | (with_reducible refine (with5r_zero _ _).mono ?_)); rintro e w' ⟨rfl, rfl⟩))
        all_goals (go_ret; exact ⟨rfl, HB⟩)
    · skip
      have hI : fmaI a b c = sb (sgn a != sgn b) + INFI := by unfold fmaI; rw [if_neg (by omega), if_pos (by omega)]
      rw [hI]
      clear hI
      generalize (sgn a != sgn b) = ng at *
      have NA := Lib.hid (none5r_k ha ia)
      have EA := Lib.hid (endless5r_k ha ia)
      have ZA := Lib.hid (zero5r_k ha ia)
      have NB := Lib.hid (none5r_k hb ib)
      have EB := Lib.hid (endless5r_k hb ib)
      have ZB := Lib.hid (zero5r_k hb ib)
      have NC := Lib.hid (none5r_k hc ic)
      have EC := Lib.hid (endless5r_k hc ic)
      have ZC := Lib.hid (zero5r_k hc ic)
      clear ia ib ic ka ha hb hc ba bb bc kb kc
      go_enter Try.func18, Try.ntmps18
      go_wp2_with (first | (go_at_call 36; (first | (with_reducible refine (NA.out _).mono ?_) | (with_reducible refine (NB.out _).mono ?_) | (with_reducible refine (NC.out _).mono ?_)); rintro e w' ⟨rfl, rfl⟩) | (go_at_call 37; (first | (with_reducible refine (EA.out _).mono ?_) | (with_reducible refine (EB.out _).mono ?_) | (with_reducible refine (EC.out _).mono ?_)); rintro e w' ⟨rfl, rfl⟩) | (go_at_call 38; (first | (with_reducible refine (ZA.out _).mono ?_) | (with_reducible refine (ZB.out _).mono ?_) | (with_reducible refine (ZC.out _).mono ?_)); rintro e w' ⟨rfl, rfl⟩) | (go_at_call 35; (first | (with_reducible refine (ris_any a _).mono ?_) | (with_reducible refine (ris_any b _).mono ?_) | (with_reducible refine (ris_any c _).mono ?_)); rintro e w' ⟨rfl, rfl⟩) | (go_at_call 39; (first | (with_reducible refine (with5r_inf _ _).mono ?_) | (with_reducible refine (with5r_zero _ _).mono ?_)); rintro e w' ⟨rfl, rfl⟩))
      all_goals (go_ret; exact ⟨rfl, HB⟩)
    · skip
      have hI : fmaI a b c = sb (sgn a != sgn b) + INFI := by unfold fmaI; rw [if_neg (by omega), if_pos (by omega)]
      rw [hI]
      clear hI
      generalize (sgn a != sgn b) = ng at *
      have NA := Lib.hid (none5r_k ha ia)
      have EA := Lib.hid (endless5r_k ha ia)
      have ZA := Lib.hid (zero5r_k ha ia)
      have NB := Lib.hid (none5r_k hb ib)
      have EB := Lib.hid (endless5r_k hb ib)
      have ZB := Lib.hid (zero5r_k hb ib)
      have NC := Lib.hid (none5r_k hc ic)
      have EC := Lib.hid (endless5r_k hc ic)
      have ZC := Lib.hid (zero5r_k hc ic)
      clear ia ib ic ka ha hb hc ba bb bc kb kc
      go_enter Try.func18, Try.ntmps18
      go_wp2_with (first | (go_at_call 36; (first | (with_reducible refine (NA.out _).mono ?_) | (with_reducible refine (NB.out _).mono ?_) | (with_reducible refine (NC.out _).mono ?_)); rintro e w' ⟨rfl, rfl⟩) | (go_at_call 37; (first | (with_reducible refine (EA.out _).mono ?_) | (with_reducible refine (EB.out _).mono ?_) | (with_reducible refine (EC.out _).mono ?_)); rintro e w' ⟨rfl, rfl⟩) | (go_at_call 38; (first | (with_reducible refine (ZA.out _).mono ?_) | (with_reducible refine (ZB.out _).mono ?_) | (with_reducible refine (ZC.out _).mono ?_)); rintro e w' ⟨rfl, rfl⟩) | (go_at_call 35; (first | (with_reducible refine (ris_any a _).mono ?_) | (with_reducible refine (ris_any b _).mono ?_) | (with_reducible refine (ris_any c _).mono ?_)); rintro e w' ⟨rfl, rfl⟩) | (go_at_call 39; (first | (with_reducible refine (with5r_inf _ _).mono ?_) | (with_reducible refine (with5r_zero _ _).mono ?_)); rintro e w' ⟨rfl, rfl⟩))
      all_goals (go_ret; exact ⟨rfl, HB⟩)
set_option maxRecDepth 100000 in
set_option maxHeartbeats 16000000 in
theorem rfma5_zero (a b c : Int) (w : World) (ha : Wd a) (hb : Wd b) (hc : Wd c) (ka : kd a = 0) (ia : Kin a false false true) : Calls Try.prog 18 #[.int .u64 a, .int .u64 b, .int .u64 c] w fun e w' => e = .returned (.int .u64 (fmaI a b c)) ∧ Below w.heap.size w w' := by
  have hng : (!(sgn a == sgn b)) = (sgn a != sgn b) := rfl
  have ba := kd_bd a
  have bb := kd_bd b
  have bc := kd_bd c
  have HB := Bel.re w
  rcases kin_cases b with ⟨kb, ib⟩ | ⟨kb, ib⟩ | ⟨kb, ib⟩ | ⟨kb, ib⟩
  · have ic : Kin c (kd c == 4) (kd c == 3) (kd c == 0) := ⟨rfl, rfl, rfl⟩
    have hI : fmaI a b c = 9221120237041090560 := by unfold fmaI; rw [if_pos (by omega)]; rfl
    rw [hI]
    clear hI
    generalize (sgn a != sgn b) = ng at *
    have NA := Lib.hid (none5r_k ha ia)
    have EA := Lib.hid (endless5r_k ha ia)
    have ZA := Lib.hid (zero5r_k ha ia)
    have NB := Lib.hid (none5r_k hb ib)
    have EB := Lib.hid (endless5r_k hb ib)
    have ZB := Lib.hid (zero5r_k hb ib)
    have NC := Lib.hid (none5r_k hc ic)
    have EC := Lib.hid (endless5r_k hc ic)
    have ZC := Lib.hid (zero5r_k hc ic)
    clear ia ib ic ka ha hb hc ba bb bc kb
    go_enter Try.func18, Try.ntmps18
    go_wp2_with (first | (go_at_call 36; (first | (with_reducible refine (NA.out _).mono ?_) | (with_reducible refine (NB.out _).mono ?_) | (with_reducible refine (NC.out _).mono ?_)); rintro e w' ⟨rfl, rfl⟩) | (go_at_call 37; (first | (with_reducible refine (EA.out _).mono ?_) | (with_reducible refine (EB.out _).mono ?_) | (with_reducible refine (EC.out _).mono ?_)); rintro e w' ⟨rfl, rfl⟩) | (go_at_call 38; (first | (with_reducible refine (ZA.out _).mono ?_) | (with_reducible refine (ZB.out _).mono ?_) | (with_reducible refine (ZC.out _).mono ?_)); rintro e w' ⟨rfl, rfl⟩) | (go_at_call 35; (first | (with_reducible refine (ris_any a _).mono ?_) | (with_reducible refine (ris_any b _).mono ?_) | (with_reducible refine (ris_any c _).mono ?_)); rintro e w' ⟨rfl, rfl⟩) | (go_at_call 39; (first | (with_reducible refine (with5r_inf _ _).mono ?_) | (with_reducible refine (with5r_zero _ _).mono ?_)); rintro e w' ⟨rfl, rfl⟩))
    all_goals (go_ret; exact ⟨rfl, HB⟩)
  · rcases kin_cases c with ⟨kc, ic⟩ | ⟨kc, ic⟩ | ⟨kc, ic⟩ | ⟨kc, ic⟩
    · skip
      have hI : fmaI a b c = 9221120237041090560 := by unfold fmaI; rw [if_pos (by omega)]; rfl
      rw [hI]
      clear hI
      generalize (sgn a != sgn b) = ng at *
      have NA := Lib.hid (none5r_k ha ia)
      have EA := Lib.hid (endless5r_k ha ia)
      have ZA := Lib.hid (zero5r_k ha ia)
      have NB := Lib.hid (none5r_k hb ib)
      have EB := Lib.hid (endless5r_k hb ib)
      have ZB := Lib.hid (zero5r_k hb ib)
      have NC := Lib.hid (none5r_k hc ic)
      have EC := Lib.hid (endless5r_k hc ic)
      have ZC := Lib.hid (zero5r_k hc ic)
      clear ia ib ic ka ha hb hc ba bb bc kb kc
      go_enter Try.func18, Try.ntmps18
      go_wp2_with (first | (go_at_call 36; (first | (with_reducible refine (NA.out _).mono ?_) | (with_reducible refine (NB.out _).mono ?_) | (with_reducible refine (NC.out _).mono ?_)); rintro e w' ⟨rfl, rfl⟩) | (go_at_call 37; (first | (with_reducible refine (EA.out _).mono ?_) | (with_reducible refine (EB.out _).mono ?_) | (with_reducible refine (EC.out _).mono ?_)); rintro e w' ⟨rfl, rfl⟩) | (go_at_call 38; (first | (with_reducible refine (ZA.out _).mono ?_) | (with_reducible refine (ZB.out _).mono ?_) | (with_reducible refine (ZC.out _).mono ?_)); rintro e w' ⟨rfl, rfl⟩) | (go_at_call 35; (first | (with_reducible refine (ris_any a _).mono ?_) | (with_reducible refine (ris_any b _).mono ?_) | (with_reducible refine (ris_any c _).mono ?_)); rintro e w' ⟨rfl, rfl⟩) | (go_at_call 39; (first | (with_reducible refine (with5r_inf _ _).mono ?_) | (with_reducible refine (with5r_zero _ _).mono ?_)); rintro e w' ⟨rfl, rfl⟩))
      all_goals (go_ret; exact ⟨rfl, HB⟩)
    · skip
      have hI : fmaI a b c = 9221120237041090560 := by unfold fmaI; rw [if_pos (by omega)]; rfl
      rw [hI]
      clear hI
      generalize (sgn a != sgn b) = ng at *
      have NA := Lib.hid (none5r_k ha ia)
      have EA := Lib.hid (endless5r_k ha ia)
      have ZA := Lib.hid (zero5r_k ha ia)
      have NB := Lib.hid (none5r_k hb ib)
      have EB := Lib.hid (endless5r_k hb ib)
      have ZB := Lib.hid (zero5r_k hb ib)
      have NC := Lib.hid (none5r_k hc ic)
      have EC := Lib.hid (endless5r_k hc ic)
      have ZC := Lib.hid (zero5r_k hc ic)
      clear ia ib ic ka ha hb hc ba bb bc kb kc
      go_enter Try.func18, Try.ntmps18
      go_wp2_with (first | (go_at_call 36; (first | (with_reducible refine (NA.out _).mono ?_) | (with_reducible refine (NB.out _).mono ?_) | (with_reducible refine (NC.out _).mono ?_)); rintro e w' ⟨rfl, rfl⟩) | (go_at_call 37; (first | (with_reducible refine (EA.out _).mono ?_) | (with_reducible refine (EB.out _).mono ?_) | (with_reducible refine (EC.out _).mono ?_)); rintro e w' ⟨rfl, rfl⟩) | (go_at_call 38; (first | (with_reducible refine (ZA.out _).mono ?_) | (with_reducible refine (ZB.out _).mono ?_) | (with_reducible refine (ZC.out _).mono ?_)); rintro e w' ⟨rfl, rfl⟩) | (go_at_call 35; (first | (with_reducible refine (ris_any a _).mono ?_) | (with_reducible refine (ris_any b _).mono ?_) | (with_reducible refine (ris_any c _).mono ?_)); rintro e w' ⟨rfl, rfl⟩) | (go_at_call 39; (first | (with_reducible refine (with5r_inf _ _).mono ?_) | (with_reducible refine (with5r_zero _ _).mono ?_)); rintro e w' ⟨rfl, rfl⟩))
      all_goals (go_ret; exact ⟨rfl, HB⟩)
    · skip
      have hI : fmaI a b c = 9221120237041090560 := by unfold fmaI; rw [if_pos (by omega)]; rfl
      rw [hI]
      clear hI
      generalize (sgn a != sgn b) = ng at *
      have NA := Lib.hid (none5r_k ha ia)
      have EA := Lib.hid (endless5r_k ha ia)
      have ZA := Lib.hid (zero5r_k ha ia)
      have NB := Lib.hid (none5r_k hb ib)
      have EB := Lib.hid (endless5r_k hb ib)
      have ZB := Lib.hid (zero5r_k hb ib)
      have NC := Lib.hid (none5r_k hc ic)
      have EC := Lib.hid (endless5r_k hc ic)
      have ZC := Lib.hid (zero5r_k hc ic)
      clear ia ib ic ka ha hb hc ba bb bc kb kc
      go_enter Try.func18, Try.ntmps18
      go_wp2_with (first | (go_at_call 36; (first | (with_reducible refine (NA.out _).mono ?_) | (with_reducible refine (NB.out _).mono ?_) | (with_reducible refine (NC.out _).mono ?_)); rintro e w' ⟨rfl, rfl⟩) | (go_at_call 37; (first | (with_reducible refine (EA.out _).mono ?_) | (with_reducible refine (EB.out _).mono ?_) | (with_reducible refine (EC.out _).mono ?_)); rintro e w' ⟨rfl, rfl⟩) | (go_at_call 38; (first | (with_reducible refine (ZA.out _).mono ?_) | (with_reducible refine (ZB.out _).mono ?_) | (with_reducible refine (ZC.out _).mono ?_)); rintro e w' ⟨rfl, rfl⟩) | (go_at_call 35; (first | (with_reducible refine (ris_any a _).mono ?_) | (with_reducible refine (ris_any b _).mono ?_) | (with_reducible refine (ris_any c _).mono ?_)); rintro e w' ⟨rfl, rfl⟩) | (go_at_call 39; (first | (with_reducible refine (with5r_inf _ _).mono ?_) | (with_reducible refine (with5r_zero _ _).mono ?_)); rintro e w' ⟨rfl, rfl⟩))
      all_goals (go_ret; exact ⟨rfl, HB⟩)
    · skip
      have hI : fmaI a b c = 9221120237041090560 := by unfold fmaI; rw [if_pos (by omega)]; rfl
      rw [hI]
      clear hI
      generalize (sgn a != sgn b) = ng at *
      have NA := Lib.hid (none5r_k ha ia)
      have EA := Lib.hid (endless5r_k ha ia)
      have ZA := Lib.hid (zero5r_k ha ia)
      have NB := Lib.hid (none5r_k hb ib)
      have EB := Lib.hid (endless5r_k hb ib)
      have ZB := Lib.hid (zero5r_k hb ib)
      have NC := Lib.hid (none5r_k hc ic)
      have EC := Lib.hid (endless5r_k hc ic)
      have ZC := Lib.hid (zero5r_k hc ic)
      clear ia ib ic ka ha hb hc ba bb bc kb kc
      go_enter Try.func18, Try.ntmps18
      go_wp2_with (first | (go_at_call 36; (first | (with_reducible refine (NA.out _).mono ?_) | (with_reducible refine (NB.out _).mono ?_) | (with_reducible refine (NC.out _).mono ?_)); rintro e w' ⟨rfl, rfl⟩) | (go_at_call 37; (first | (with_reducible refine (EA.out _).mono ?_) | (with_reducible refine (EB.out _).mono ?_) | (with_reducible refine (EC.out _).mono ?_)); rintro e w' ⟨rfl, rfl⟩) | (go_at_call 38; (first | (with_reducible refine (ZA.out _).mono ?_) | (with_reducible refine (ZB.out _).mono ?_) | (with_reducible refine (ZC.out _).mono ?_)); rintro e w' ⟨rfl, rfl⟩) | (go_at_call 35; (first | (with_reducible refine (ris_any a _).mono ?_) | (with_reducible refine (ris_any b _).mono ?_) | (with_reducible refine (ris_any c _).mono ?_)); rintro e w' ⟨rfl, rfl⟩) | (go_at_call 39; (first | (with_reducible refine (with5r_inf _ _).mono ?_) | (with_reducible refine (with5r_zero _ _).mono ?_)); rintro e w' ⟨rfl, rfl⟩))
      all_goals (go_ret; exact ⟨rfl, HB⟩)
  · rcases kin_cases c with ⟨kc, ic⟩ | ⟨kc, ic⟩ | ⟨kc, ic⟩ | ⟨kc, ic⟩
    · skip
      have hI : fmaI a b c = 9221120237041090560 := by unfold fmaI; rw [if_pos (by omega)]; rfl
      rw [hI]
      clear hI
      generalize (sgn a != sgn b) = ng at *
      have NA := Lib.hid (none5r_k ha ia)
      have EA := Lib.hid (endless5r_k ha ia)
      have ZA := Lib.hid (zero5r_k ha ia)
      have NB := Lib.hid (none5r_k hb ib)
      have EB := Lib.hid (endless5r_k hb ib)
      have ZB := Lib.hid (zero5r_k hb ib)
      have NC := Lib.hid (none5r_k hc ic)
      have EC := Lib.hid (endless5r_k hc ic)
      have ZC := Lib.hid (zero5r_k hc ic)
      clear ia ib ic ka ha hb hc ba bb bc kb kc
      go_enter Try.func18, Try.ntmps18
      go_wp2_with (first | (go_at_call 36; (first | (with_reducible refine (NA.out _).mono ?_) | (with_reducible refine (NB.out _).mono ?_) | (with_reducible refine (NC.out _).mono ?_)); rintro e w' ⟨rfl, rfl⟩) | (go_at_call 37; (first | (with_reducible refine (EA.out _).mono ?_) | (with_reducible refine (EB.out _).mono ?_) | (with_reducible refine (EC.out _).mono ?_)); rintro e w' ⟨rfl, rfl⟩) | (go_at_call 38; (first | (with_reducible refine (ZA.out _).mono ?_) | (with_reducible refine (ZB.out _).mono ?_) | (with_reducible refine (ZC.out _).mono ?_)); rintro e w' ⟨rfl, rfl⟩) | (go_at_call 35; (first | (with_reducible refine (ris_any a _).mono ?_) | (with_reducible refine (ris_any b _).mono ?_) | (with_reducible refine (ris_any c _).mono ?_)); rintro e w' ⟨rfl, rfl⟩) | (go_at_call 39; (first | (with_reducible refine (with5r_inf _ _).mono ?_) | (with_reducible refine (with5r_zero _ _).mono ?_)); rintro e w' ⟨rfl, rfl⟩))
      all_goals (go_ret; exact ⟨rfl, HB⟩)
    · skip
      have hI : fmaI a b c = c := by unfold fmaI; rw [if_neg (by omega), if_neg (by omega), if_pos (by omega)]
      rw [hI]
      clear hI
      generalize (sgn a != sgn b) = ng at *
      have NA := Lib.hid (none5r_k ha ia)
      have EA := Lib.hid (endless5r_k ha ia)
      have ZA := Lib.hid (zero5r_k ha ia)
      have NB := Lib.hid (none5r_k hb ib)
      have EB := Lib.hid (endless5r_k hb ib)
      have ZB := Lib.hid (zero5r_k hb ib)
      have NC := Lib.hid (none5r_k hc ic)
      have EC := Lib.hid (endless5r_k hc ic)
      have ZC := Lib.hid (zero5r_k hc ic)
      clear ia ib ic ka ha hb hc ba bb bc kb kc
      go_enter Try.func18, Try.ntmps18
      go_wp2_with (first | (go_at_call 36; (first | (with_reducible refine (NA.out _).mono ?_) | (with_reducible refine (NB.out _).mono ?_) | (with_reducible refine (NC.out _).mono ?_)); rintro e w' ⟨rfl, rfl⟩) | (go_at_call 37; (first | (with_reducible refine (EA.out _).mono ?_) | (with_reducible refine (EB.out _).mono ?_) | (with_reducible refine (EC.out _).mono ?_)); rintro e w' ⟨rfl, rfl⟩) | (go_at_call 38; (first | (with_reducible refine (ZA.out _).mono ?_) | (with_reducible refine (ZB.out _).mono ?_) | (with_reducible refine (ZC.out _).mono ?_)); rintro e w' ⟨rfl, rfl⟩) | (go_at_call 35; (first | (with_reducible refine (ris_any a _).mono ?_) | (with_reducible refine (ris_any b _).mono ?_) | (with_reducible refine (ris_any c _).mono ?_)); rintro e w' ⟨rfl, rfl⟩) | (go_at_call 39; (first | (with_reducible refine (with5r_inf _ _).mono ?_) | (with_reducible refine (with5r_zero _ _).mono ?_)); rintro e w' ⟨rfl, rfl⟩))
      all_goals (go_ret; exact ⟨rfl, HB⟩)
    · skip
      have hI : fmaI a b c = fmaF a b c := by unfold fmaI; rw [if_neg (by omega), if_neg (by omega), if_neg (by omega)]
      rw [hI]
      exact rfma5_fin a b c w ha hb hc ia ib ic
    · skip
      have hI : fmaI a b c = fmaF a b c := by unfold fmaI; rw [if_neg (by omega), if_neg (by omega), if_neg (by omega)]
      rw [hI]
      exact rfma5_fin a b c w ha hb hc ia ib ic
  · rcases kin_cases c with ⟨kc, ic⟩ | ⟨kc, ic⟩ | ⟨kc, ic⟩ | ⟨kc, ic⟩
    · skip
      have hI : fmaI a b c = 9221120237041090560 := by unfold fmaI; rw [if_pos (by omega)]; rfl
      rw [hI]
      clear hI
      generalize (sgn a != sgn b) = ng at *
      have NA := Lib.hid (none5r_k ha ia)
      have EA := Lib.hid (endless5r_k ha ia)
      have ZA := Lib.hid (zero5r_k ha ia)
      have NB := Lib.hid (none5r_k hb ib)
      have EB := Lib.hid (endless5r_k hb ib)
      have ZB := Lib.hid (zero5r_k hb ib)
      have NC := Lib.hid (none5r_k hc ic)
      have EC := Lib.hid (endless5r_k hc ic)
      have ZC := Lib.hid (zero5r_k hc ic)
      clear ia ib ic ka ha hb hc ba bb bc kb kc
      go_enter Try.func18, Try.ntmps18
      go_wp2_with (first | (go_at_call 36; (first | (with_reducible refine (NA.out _).mono ?_) | (with_reducible refine (NB.out _).mono ?_) | (with_reducible refine (NC.out _).mono ?_)); rintro e w' ⟨rfl, rfl⟩) | (go_at_call 37; (first | (with_reducible refine (EA.out _).mono ?_) | (with_reducible refine (EB.out _).mono ?_) | (with_reducible refine (EC.out _).mono ?_)); rintro e w' ⟨rfl, rfl⟩) | (go_at_call 38; (first | (with_reducible refine (ZA.out _).mono ?_) | (with_reducible refine (ZB.out _).mono ?_) | (with_reducible refine (ZC.out _).mono ?_)); rintro e w' ⟨rfl, rfl⟩) | (go_at_call 35; (first | (with_reducible refine (ris_any a _).mono ?_) | (with_reducible refine (ris_any b _).mono ?_) | (with_reducible refine (ris_any c _).mono ?_)); rintro e w' ⟨rfl, rfl⟩) | (go_at_call 39; (first | (with_reducible refine (with5r_inf _ _).mono ?_) | (with_reducible refine (with5r_zero _ _).mono ?_)); rintro e w' ⟨rfl, rfl⟩))
      all_goals (go_ret; exact ⟨rfl, HB⟩)
    · skip
      have hI : fmaI a b c = c := by unfold fmaI; rw [if_neg (by omega), if_neg (by omega), if_pos (by omega)]
      rw [hI]
      clear hI
      generalize (sgn a != sgn b) = ng at *
      have NA := Lib.hid (none5r_k ha ia)
      have EA := Lib.hid (endless5r_k ha ia)
      have ZA := Lib.hid (zero5r_k ha ia)
      have NB := Lib.hid (none5r_k hb ib)
      have EB := Lib.hid (endless5r_k hb ib)
      have ZB := Lib.hid (zero5r_k hb ib)
      have NC := Lib.hid (none5r_k hc ic)
      have EC := Lib.hid (endless5r_k hc ic)
      have ZC := Lib.hid (zero5r_k hc ic)
      clear ia ib ic ka ha hb hc ba bb bc kb kc
      go_enter Try.func18, Try.ntmps18
      go_wp2_with (first | (go_at_call 36; (first | (with_reducible refine (NA.out _).mono ?_) | (with_reducible refine (NB.out _).mono ?_) | (with_reducible refine (NC.out _).mono ?_)); rintro e w' ⟨rfl, rfl⟩) | (go_at_call 37; (first | (with_reducible refine (EA.out _).mono ?_) | (with_reducible refine (EB.out _).mono ?_) | (with_reducible refine (EC.out _).mono ?_)); rintro e w' ⟨rfl, rfl⟩) | (go_at_call 38; (first | (with_reducible refine (ZA.out _).mono ?_) | (with_reducible refine (ZB.out _).mono ?_) | (with_reducible refine (ZC.out _).mono ?_)); rintro e w' ⟨rfl, rfl⟩) | (go_at_call 35; (first | (with_reducible refine (ris_any a _).mono ?_) | (with_reducible refine (ris_any b _).mono ?_) | (with_reducible refine (ris_any c _).mono ?_)); rintro e w' ⟨rfl, rfl⟩) | (go_at_call 39; (first | (with_reducible refine (with5r_inf _ _).mono ?_) | (with_reducible refine (with5r_zero _ _).mono ?_)); rintro e w' ⟨rfl, rfl⟩))
      all_goals (go_ret; exact ⟨rfl, HB⟩)
    · skip
      have hI : fmaI a b c = fmaF a b c := by unfold fmaI; rw [if_neg (by omega), if_neg (by omega), if_neg (by omega)]
      rw [hI]
      exact rfma5_fin a b c w ha hb hc ia ib ic
    · skip
      have hI : fmaI a b c = fmaF a b c := by unfold fmaI; rw [if_neg (by omega), if_neg (by omega), if_neg (by omega)]
      rw [hI]
      exact rfma5_fin a b c w ha hb hc ia ib ic
set_option maxRecDepth 100000 in
set_option maxHeartbeats 16000000 in
theorem rfma5_other (a b c : Int) (w : World) (ha : Wd a) (hb : Wd b) (hc : Wd c) (ka : kd a = 1 ∨ kd a = 2) (ia : Kin a false false false) : Calls Try.prog 18 #[.int .u64 a, .int .u64 b, .int .u64 c] w fun e w' => e = .returned (.int .u64 (fmaI a b c)) ∧ Below w.heap.size w w' := by
  have hng : (!(sgn a == sgn b)) = (sgn a != sgn b) := rfl
  have ba := kd_bd a
  have bb := kd_bd b
  have bc := kd_bd c
  have HB := Bel.re w
  rcases kin_cases b with ⟨kb, ib⟩ | ⟨kb, ib⟩ | ⟨kb, ib⟩ | ⟨kb, ib⟩
  · have ic : Kin c (kd c == 4) (kd c == 3) (kd c == 0) := ⟨rfl, rfl, rfl⟩
    have hI : fmaI a b c = 9221120237041090560 := by unfold fmaI; rw [if_pos (by omega)]; rfl
    rw [hI]
    clear hI
    generalize (sgn a != sgn b) = ng at *
    have NA := Lib.hid (none5r_k ha ia)
    have EA := Lib.hid (endless5r_k ha ia)
    have ZA := Lib.hid (zero5r_k ha ia)
    have NB := Lib.hid (none5r_k hb ib)
    have EB := Lib.hid (endless5r_k hb ib)
    have ZB := Lib.hid (zero5r_k hb ib)
    have NC := Lib.hid (none5r_k hc ic)
    have EC := Lib.hid (endless5r_k hc ic)
    have ZC := Lib.hid (zero5r_k hc ic)
    clear ia ib ic ka ha hb hc ba bb bc kb
    go_enter Try.func18, Try.ntmps18
    go_wp2_with (first | (go_at_call 36; (first | (with_reducible refine (NA.out _).mono ?_) | (with_reducible refine (NB.out _).mono ?_) | (with_reducible refine (NC.out _).mono ?_)); rintro e w' ⟨rfl, rfl⟩) | (go_at_call 37; (first | (with_reducible refine (EA.out _).mono ?_) | (with_reducible refine (EB.out _).mono ?_) | (with_reducible refine (EC.out _).mono ?_)); rintro e w' ⟨rfl, rfl⟩) | (go_at_call 38; (first | (with_reducible refine (ZA.out _).mono ?_) | (with_reducible refine (ZB.out _).mono ?_) | (with_reducible refine (ZC.out _).mono ?_)); rintro e w' ⟨rfl, rfl⟩) | (go_at_call 35; (first | (with_reducible refine (ris_any a _).mono ?_) | (with_reducible refine (ris_any b _).mono ?_) | (with_reducible refine (ris_any c _).mono ?_)); rintro e w' ⟨rfl, rfl⟩) | (go_at_call 39; (first | (with_reducible refine (with5r_inf _ _).mono ?_) | (with_reducible refine (with5r_zero _ _).mono ?_)); rintro e w' ⟨rfl, rfl⟩))
    all_goals (go_ret; exact ⟨rfl, HB⟩)
  · rcases kin_cases c with ⟨kc, ic⟩ | ⟨kc, ic⟩ | ⟨kc, ic⟩ | ⟨kc, ic⟩
    · skip
      have hI : fmaI a b c = 9221120237041090560 := by unfold fmaI; rw [if_pos (by omega)]; rfl
      rw [hI]
      clear hI
      generalize (sgn a != sgn b) = ng at *
      have NA := Lib.hid (none5r_k ha ia)
      have EA := Lib.hid (endless5r_k ha ia)
      have ZA := Lib.hid (zero5r_k ha ia)
      have NB := Lib.hid (none5r_k hb ib)
      have EB := Lib.hid (endless5r_k hb ib)
      have ZB := Lib.hid (zero5r_k hb ib)
      have NC := Lib.hid (none5r_k hc ic)
      have EC := Lib.hid (endless5r_k hc ic)
      have ZC := Lib.hid (zero5r_k hc ic)
      clear ia ib ic ka ha hb hc ba bb bc kb kc
      go_enter Try.func18, Try.ntmps18
      go_wp2_with (first | (go_at_call 36; (first | (with_reducible refine (NA.out _).mono ?_) | (with_reducible refine (NB.out _).mono ?_) | (with_reducible refine (NC.out _).mono ?_)); rintro e w' ⟨rfl, rfl⟩) | (go_at_call 37; (first | (with_reducible refine (EA.out _).mono ?_) | (with_reducible refine (EB.out _).mono ?_) | (with_reducible refine (EC.out _).mono ?_)); rintro e w' ⟨rfl, rfl⟩) | (go_at_call 38; (first | (with_reducible refine (ZA.out _).mono ?_) | (with_reducible refine (ZB.out _).mono ?_) | (with_reducible refine (ZC.out _).mono ?_)); rintro e w' ⟨rfl, rfl⟩) | (go_at_call 35; (first | (with_reducible refine (ris_any a _).mono ?_) | (with_reducible refine (ris_any b _).mono ?_) | (with_reducible refine (ris_any c _).mono ?_)); rintro e w' ⟨rfl, rfl⟩) | (go_at_call 39; (first | (with_reducible refine (with5r_inf _ _).mono ?_) | (with_reducible refine (with5r_zero _ _).mono ?_)); rintro e w' ⟨rfl, rfl⟩))
      all_goals (go_ret; exact ⟨rfl, HB⟩)
    · skip
      have hI : fmaI a b c = if sgn c ≠ (sgn a != sgn b) then 9221120237041090560 else sb (sgn a != sgn b) + INFI := by
        unfold fmaI
        by_cases h : sgn c ≠ (sgn a != sgn b)
        · rw [if_pos h, if_pos (.inr (.inr (.inr (.inr ⟨by omega, kc, h⟩))))]; rfl
        · rw [if_neg h, if_neg (by rintro (g | g | g | g | ⟨_, _, g⟩) <;> first | omega | exact h g), if_pos (by omega)]
      rw [hI]
      clear hI
      have NA := Lib.hid (none5r_k ha ia)
      have EA := Lib.hid (endless5r_k ha ia)
      have ZA := Lib.hid (zero5r_k ha ia)
      have NB := Lib.hid (none5r_k hb ib)
      have EB := Lib.hid (endless5r_k hb ib)
      have ZB := Lib.hid (zero5r_k hb ib)
      have NC := Lib.hid (none5r_k hc ic)
      have EC := Lib.hid (endless5r_k hc ic)
      have ZC := Lib.hid (zero5r_k hc ic)
      have IC := fun v => ris_any c v
      generalize (sgn a != sgn b) = ng at *
      generalize sgn c = sc at *
      clear ia ib ic ka ha hb hc ba bb bc kb kc
      cases ng <;> cases sc
      all_goals
        go_enter Try.func18, Try.ntmps18
        go_wp2_with (first | (go_at_call 36; (first | (with_reducible refine (NA.out _).mono ?_) | (with_reducible refine (NB.out _).mono ?_) | (with_reducible refine (NC.out _).mono ?_)); rintro e w' ⟨rfl, rfl⟩) | (go_at_call 37; (first | (with_reducible refine (EA.out _).mono ?_) | (with_reducible refine (EB.out _).mono ?_) | (with_reducible refine (EC.out _).mono ?_)); rintro e w' ⟨rfl, rfl⟩) | (go_at_call 38; (first | (with_reducible refine (ZA.out _).mono ?_) | (with_reducible refine (ZB.out _).mono ?_) | (with_reducible refine (ZC.out _).mono ?_)); rintro e w' ⟨rfl, rfl⟩) | (go_at_call 35; (first | (with_reducible refine (IC _).mono ?_) | (with_reducible refine (ris_any a _).mono ?_) | (with_reducible refine (ris_any b _).mono ?_) | (with_reducible refine (ris_any c _).mono ?_)); rintro e w' ⟨rfl, rfl⟩) | (go_at_call 39; (first | (with_reducible refine (with5r_inf _ _).mono ?_) | (with_reducible refine (with5r_zero _ _).mono ?_)); rintro e w' ⟨rfl, rfl⟩))
        all_goals (go_ret; exact ⟨rfl, HB⟩)
    · skip
      have hI : fmaI a b c = sb (sgn a != sgn b) + INFI := by unfold fmaI; rw [if_neg (by omega), if_pos (by omega)]
      rw [hI]
      clear hI
      generalize (sgn a != sgn b) = ng at *
      have NA := Lib.hid (none5r_k ha ia)
      have EA := Lib.hid (endless5r_k ha ia)
      have ZA := Lib.hid (zero5r_k ha ia)
      have NB := Lib.hid (none5r_k hb ib)
      have EB := Lib.hid (endless5r_k hb ib)
      have ZB := Lib.hid (zero5r_k hb ib)
      have NC := Lib.hid (none5r_k hc ic)
      have EC := Lib.hid (endless5r_k hc ic)
      have ZC := Lib.hid (zero5r_k hc ic)
      clear ia ib ic ka ha hb hc ba bb bc kb kc
      go_enter Try.func18, Try.ntmps18
      go_wp2_with (first | (go_at_call 36; (first | (with_reducible refine (NA.out _).mono ?_) | (with_reducible refine (NB.out _).mono ?_) | (with_reducible refine (NC.out _).mono ?_)); rintro e w' ⟨rfl, rfl⟩) | (go_at_call 37; (first | (with_reducible refine (EA.out _).mono ?_) | (with_reducible refine (EB.out _).mono ?_) | (with_reducible refine (EC.out _).mono ?_)); rintro e w' ⟨rfl, rfl⟩) | (go_at_call 38; (first | (with_reducible refine (ZA.out _).mono ?_) | (with_reducible refine (ZB.out _).mono ?_) | (with_reducible refine (ZC.out _).mono ?_)); rintro e w' ⟨rfl, rfl⟩) | (go_at_call 35; (first | (with_reducible refine (ris_any a _).mono ?_) | (with_reducible refine (ris_any b _).mono ?_) | (with_reducible refine (ris_any c _).mono ?_)); rintro e w' ⟨rfl, rfl⟩) | (go_at_call 39; (first | (with_reducible refine (with5r_inf _ _).mono ?_) | (with_reducible refine (with5r_zero _ _).mono ?_)); rintro e w' ⟨rfl, rfl⟩))
      all_goals (go_ret; exact ⟨rfl, HB⟩)
    · skip
      have hI : fmaI a b c = sb (sgn a != sgn b) + INFI := by unfold fmaI; rw [if_neg (by omega), if_pos (by omega)]
      rw [hI]
      clear hI
      generalize (sgn a != sgn b) = ng at *
      have NA := Lib.hid (none5r_k ha ia)
      have EA := Lib.hid (endless5r_k ha ia)
      have ZA := Lib.hid (zero5r_k ha ia)
      have NB := Lib.hid (none5r_k hb ib)
      have EB := Lib.hid (endless5r_k hb ib)
      have ZB := Lib.hid (zero5r_k hb ib)
      have NC := Lib.hid (none5r_k hc ic)
      have EC := Lib.hid (endless5r_k hc ic)
      have ZC := Lib.hid (zero5r_k hc ic)
      clear ia ib ic ka ha hb hc ba bb bc kb kc
      go_enter Try.func18, Try.ntmps18
      go_wp2_with (first | (go_at_call 36; (first | (with_reducible refine (NA.out _).mono ?_) | (with_reducible refine (NB.out _).mono ?_) | (with_reducible refine (NC.out _).mono ?_)); rintro e w' ⟨rfl, rfl⟩) | (go_at_call 37; (first | (with_reducible refine (EA.out _).mono ?_) | (with_reducible refine (EB.out _).mono ?_) | (with_reducible refine (EC.out _).mono ?_)); rintro e w' ⟨rfl, rfl⟩) | (go_at_call 38; (first | (with_reducible refine (ZA.out _).mono ?_) | (with_reducible refine (ZB.out _).mono ?_) | (with_reducible refine (ZC.out _).mono ?_)); rintro e w' ⟨rfl, rfl⟩) | (go_at_call 35; (first | (with_reducible refine (ris_any a _).mono ?_) | (with_reducible refine (ris_any b _).mono ?_) | (with_reducible refine (ris_any c _).mono ?_)); rintro e w' ⟨rfl, rfl⟩) | (go_at_call 39; (first | (with_reducible refine (with5r_inf _ _).mono ?_) | (with_reducible refine (with5r_zero _ _).mono ?_)); rintro e w' ⟨rfl, rfl⟩))
      all_goals (go_ret; exact ⟨rfl, HB⟩)
  · rcases kin_cases c with ⟨kc, ic⟩ | ⟨kc, ic⟩ | ⟨kc, ic⟩ | ⟨kc, ic⟩
    · skip
      have hI : fmaI a b c = 9221120237041090560 := by unfold fmaI; rw [if_pos (by omega)]; rfl
      rw [hI]
      clear hI
      generalize (sgn a != sgn b) = ng at *
      have NA := Lib.hid (none5r_k ha ia)
      have EA := Lib.hid (endless5r_k ha ia)
      have ZA := Lib.hid (zero5r_k ha ia)
      have NB := Lib.hid (none5r_k hb ib)
      have EB := Lib.hid (endless5r_k hb ib)
      have ZB := Lib.hid (zero5r_k hb ib)
      have NC := Lib.hid (none5r_k hc ic)
      have EC := Lib.hid (endless5r_k hc ic)
      have ZC := Lib.hid (zero5r_k hc ic)
      clear ia ib ic ka ha hb hc ba bb bc kb kc
      go_enter Try.func18, Try.ntmps18
      go_wp2_with (first | (go_at_call 36; (first | (with_reducible refine (NA.out _).mono ?_) | (with_reducible refine (NB.out _).mono ?_) | (with_reducible refine (NC.out _).mono ?_)); rintro e w' ⟨rfl, rfl⟩) | (go_at_call 37; (first | (with_reducible refine (EA.out _).mono ?_) | (with_reducible refine (EB.out _).mono ?_) | (with_reducible refine (EC.out _).mono ?_)); rintro e w' ⟨rfl, rfl⟩) | (go_at_call 38; (first | (with_reducible refine (ZA.out _).mono ?_) | (with_reducible refine (ZB.out _).mono ?_) | (with_reducible refine (ZC.out _).mono ?_)); rintro e w' ⟨rfl, rfl⟩) | (go_at_call 35; (first | (with_reducible refine (ris_any a _).mono ?_) | (with_reducible refine (ris_any b _).mono ?_) | (with_reducible refine (ris_any c _).mono ?_)); rintro e w' ⟨rfl, rfl⟩) | (go_at_call 39; (first | (with_reducible refine (with5r_inf _ _).mono ?_) | (with_reducible refine (with5r_zero _ _).mono ?_)); rintro e w' ⟨rfl, rfl⟩))
      all_goals (go_ret; exact ⟨rfl, HB⟩)
    · skip
      have hI : fmaI a b c = c := by unfold fmaI; rw [if_neg (by omega), if_neg (by omega), if_pos (by omega)]
      rw [hI]
      clear hI
      generalize (sgn a != sgn b) = ng at *
      have NA := Lib.hid (none5r_k ha ia)
      have EA := Lib.hid (endless5r_k ha ia)
      have ZA := Lib.hid (zero5r_k ha ia)
      have NB := Lib.hid (none5r_k hb ib)
      have EB := Lib.hid (endless5r_k hb ib)
      have ZB := Lib.hid (zero5r_k hb ib)
      have NC := Lib.hid (none5r_k hc ic)
      have EC := Lib.hid (endless5r_k hc ic)
      have ZC := Lib.hid (zero5r_k hc ic)
      clear ia ib ic ka ha hb hc ba bb bc kb kc
      go_enter Try.func18, Try.ntmps18
      go_wp2_with (first | (go_at_call 36; (first | (with_reducible refine (NA.out _).mono ?_) | (with_reducible refine (NB.out _).mono ?_) | (with_reducible refine (NC.out _).mono ?_)); rintro e w' ⟨rfl, rfl⟩) | (go_at_call 37; (first | (with_reducible refine (EA.out _).mono ?_) | (with_reducible refine (EB.out _).mono ?_) | (with_reducible refine (EC.out _).mono ?_)); rintro e w' ⟨rfl, rfl⟩) | (go_at_call 38; (first | (with_reducible refine (ZA.out _).mono ?_) | (with_reducible refine (ZB.out _).mono ?_) | (with_reducible refine (ZC.out _).mono ?_)); rintro e w' ⟨rfl, rfl⟩) | (go_at_call 35; (first | (with_reducible refine (ris_any a _).mono ?_) | (with_reducible refine (ris_any b _).mono ?_) | (with_reducible refine (ris_any c _).mono ?_)); rintro e w' ⟨rfl, rfl⟩) | (go_at_call 39; (first | (with_reducible refine (with5r_inf _ _).mono ?_) | (with_reducible refine (with5r_zero _ _).mono ?_)); rintro e w' ⟨rfl, rfl⟩))
      all_goals (go_ret; exact ⟨rfl, HB⟩)
    · skip
      have hI : fmaI a b c = fmaF a b c := by unfold fmaI; rw [if_neg (by omega), if_neg (by omega), if_neg (by omega)]
      rw [hI]
      exact rfma5_fin a b c w ha hb hc ia ib ic
    · skip
      have hI : fmaI a b c = fmaF a b c := by unfold fmaI; rw [if_neg (by omega), if_neg (by omega), if_neg (by omega)]
      rw [hI]
      exact rfma5_fin a b c w ha hb hc ia ib ic
  · rcases kin_cases c with ⟨kc, ic⟩ | ⟨kc, ic⟩ | ⟨kc, ic⟩ | ⟨kc, ic⟩
    · skip
      have hI : fmaI a b c = 9221120237041090560 := by unfold fmaI; rw [if_pos (by omega)]; rfl
      rw [hI]
      clear hI
      generalize (sgn a != sgn b) = ng at *
      have NA := Lib.hid (none5r_k ha ia)
      have EA := Lib.hid (endless5r_k ha ia)
      have ZA := Lib.hid (zero5r_k ha ia)
      have NB := Lib.hid (none5r_k hb ib)
      have EB := Lib.hid (endless5r_k hb ib)
      have ZB := Lib.hid (zero5r_k hb ib)
      have NC := Lib.hid (none5r_k hc ic)
      have EC := Lib.hid (endless5r_k hc ic)
      have ZC := Lib.hid (zero5r_k hc ic)
      clear ia ib ic ka ha hb hc ba bb bc kb kc
      go_enter Try.func18, Try.ntmps18
      go_wp2_with (first | (go_at_call 36; (first | (with_reducible refine (NA.out _).mono ?_) | (with_reducible refine (NB.out _).mono ?_) | (with_reducible refine (NC.out _).mono ?_)); rintro e w' ⟨rfl, rfl⟩) | (go_at_call 37; (first | (with_reducible refine (EA.out _).mono ?_) | (with_reducible refine (EB.out _).mono ?_) | (with_reducible refine (EC.out _).mono ?_)); rintro e w' ⟨rfl, rfl⟩) | (go_at_call 38; (first | (with_reducible refine (ZA.out _).mono ?_) | (with_reducible refine (ZB.out _).mono ?_) | (with_reducible refine (ZC.out _).mono ?_)); rintro e w' ⟨rfl, rfl⟩) | (go_at_call 35; (first | (with_reducible refine (ris_any a _).mono ?_) | (with_reducible refine (ris_any b _).mono ?_) | (with_reducible refine (ris_any c _).mono ?_)); rintro e w' ⟨rfl, rfl⟩) | (go_at_call 39; (first | (with_reducible refine (with5r_inf _ _).mono ?_) | (with_reducible refine (with5r_zero _ _).mono ?_)); rintro e w' ⟨rfl, rfl⟩))
      all_goals (go_ret; exact ⟨rfl, HB⟩)
    · skip
      have hI : fmaI a b c = c := by unfold fmaI; rw [if_neg (by omega), if_neg (by omega), if_pos (by omega)]
      rw [hI]
      clear hI
      generalize (sgn a != sgn b) = ng at *
      have NA := Lib.hid (none5r_k ha ia)
      have EA := Lib.hid (endless5r_k ha ia)
      have ZA := Lib.hid (zero5r_k ha ia)
      have NB := Lib.hid (none5r_k hb ib)
      have EB := Lib.hid (endless5r_k hb ib)
      have ZB := Lib.hid (zero5r_k hb ib)
      have NC := Lib.hid (none5r_k hc ic)
      have EC := Lib.hid (endless5r_k hc ic)
      have ZC := Lib.hid (zero5r_k hc ic)
      clear ia ib ic ka ha hb hc ba bb bc kb kc
      go_enter Try.func18, Try.ntmps18
      go_wp2_with (first | (go_at_call 36; (first | (with_reducible refine (NA.out _).mono ?_) | (with_reducible refine (NB.out _).mono ?_) | (with_reducible refine (NC.out _).mono ?_)); rintro e w' ⟨rfl, rfl⟩) | (go_at_call 37; (first | (with_reducible refine (EA.out _).mono ?_) | (with_reducible refine (EB.out _).mono ?_) | (with_reducible refine (EC.out _).mono ?_)); rintro e w' ⟨rfl, rfl⟩) | (go_at_call 38; (first | (with_reducible refine (ZA.out _).mono ?_) | (with_reducible refine (ZB.out _).mono ?_) | (with_reducible refine (ZC.out _).mono ?_)); rintro e w' ⟨rfl, rfl⟩) | (go_at_call 35; (first | (with_reducible refine (ris_any a _).mono ?_) | (with_reducible refine (ris_any b _).mono ?_) | (with_reducible refine (ris_any c _).mono ?_)); rintro e w' ⟨rfl, rfl⟩) | (go_at_call 39; (first | (with_reducible refine (with5r_inf _ _).mono ?_) | (with_reducible refine (with5r_zero _ _).mono ?_)); rintro e w' ⟨rfl, rfl⟩))
      all_goals (go_ret; exact ⟨rfl, HB⟩)
    · skip
      have hI : fmaI a b c = fmaF a b c := by unfold fmaI; rw [if_neg (by omega), if_neg (by omega), if_neg (by omega)]
      rw [hI]
      exact rfma5_fin a b c w ha hb hc ia ib ic
    · skip
      have hI : fmaI a b c = fmaF a b c := by unfold fmaI; rw [if_neg (by omega), if_neg (by omega), if_neg (by omega)]
      rw [hI]
      exact rfma5_fin a b c w ha hb hc ia ib ic
set_option maxRecDepth 100000 in
set_option maxHeartbeats 4000000 in
theorem rfma5_any (a b c : Int) (w : World) (ha : Wd a) (hb : Wd b) (hc : Wd c) : Calls Try.prog 18 #[.int .u64 a, .int .u64 b, .int .u64 c] w fun e w' => e = .returned (.int .u64 (fmaI a b c)) ∧ Below w.heap.size w w' := by
  rcases kin_cases a with ⟨ka, ia⟩ | ⟨ka, ia⟩ | ⟨ka, ia⟩ | ⟨ka, ia⟩
  · have hng : (!(sgn a == sgn b)) = (sgn a != sgn b) := rfl
    have ba := kd_bd a
    have bb := kd_bd b
    have bc := kd_bd c
    have HB := Bel.re w
    have ib : Kin b (kd b == 4) (kd b == 3) (kd b == 0) := ⟨rfl, rfl, rfl⟩
    have ic : Kin c (kd c == 4) (kd c == 3) (kd c == 0) := ⟨rfl, rfl, rfl⟩
    have hI : fmaI a b c = 9221120237041090560 := by unfold fmaI; rw [if_pos (by omega)]; rfl
    rw [hI]
    clear hI
    generalize (sgn a != sgn b) = ng at *
    have NA := Lib.hid (none5r_k ha ia)
    have EA := Lib.hid (endless5r_k ha ia)
    have ZA := Lib.hid (zero5r_k ha ia)
    have NB := Lib.hid (none5r_k hb ib)
    have EB := Lib.hid (endless5r_k hb ib)
    have ZB := Lib.hid (zero5r_k hb ib)
    have NC := Lib.hid (none5r_k hc ic)
    have EC := Lib.hid (endless5r_k hc ic)
    have ZC := Lib.hid (zero5r_k hc ic)
    clear ia ib ic ka ha hb hc ba bb bc
    go_enter Try.func18, Try.ntmps18
    go_wp2_with (first | (go_at_call 36; (first | (with_reducible refine (NA.out _).mono ?_) | (with_reducible refine (NB.out _).mono ?_) | (with_reducible refine (NC.out _).mono ?_)); rintro e w' ⟨rfl, rfl⟩) | (go_at_call 37; (first | (with_reducible refine (EA.out _).mono ?_) | (with_reducible refine (EB.out _).mono ?_) | (with_reducible refine (EC.out _).mono ?_)); rintro e w' ⟨rfl, rfl⟩) | (go_at_call 38; (first | (with_reducible refine (ZA.out _).mono ?_) | (with_reducible refine (ZB.out _).mono ?_) | (with_reducible refine (ZC.out _).mono ?_)); rintro e w' ⟨rfl, rfl⟩) | (go_at_call 35; (first | (with_reducible refine (ris_any a _).mono ?_) | (with_reducible refine (ris_any b _).mono ?_) | (with_reducible refine (ris_any c _).mono ?_)); rintro e w' ⟨rfl, rfl⟩) | (go_at_call 39; (first | (with_reducible refine (with5r_inf _ _).mono ?_) | (with_reducible refine (with5r_zero _ _).mono ?_)); rintro e w' ⟨rfl, rfl⟩))
    all_goals (go_ret; exact ⟨rfl, HB⟩)
  · exact rfma5_inf a b c w ha hb hc ka ia
  · exact rfma5_zero a b c w ha hb hc ka ia
  · exact rfma5_other a b c w ha hb hc ka ia
end Go.Proofs.Ytmjaoeafompclaa

namespace Go.Proofs.Ytmjaoeafompclaa
open Go.RowKit Go.Shelf

set_option maxRecDepth 100000 in
set_option maxHeartbeats 2000000 in
theorem rootDivs_walk (a b : Int) (w : World) (ha : Wd a) (hb : Wd b) : Calls Try.prog 3 #[.int .u64 a, .int .u64 b] w fun e w' => e = .returned (.bool true) ∧ Below w.heap.size w w' := by
  have CP := fun v => div5_any a b v ha hb
  have CR := fun v => rdiv5_any a b v ha hb
  generalize divI a b = Z at *
  replace CP := Lib.hid CP
  replace CR := Lib.hid CR
  clear ha hb
  go_enter Try.func3, Try.ntmps3
  go_wp2_with fail
  (with_reducible refine (shown5_any _).mono ?_)
  rintro e w1 ⟨rfl, hb1⟩
  go_wp2_with fail
  (with_reducible refine (CP.out _).mono ?_)
  rintro e w2 ⟨rfl, hb2⟩
  go_wp2_with fail
  (with_reducible refine (CR.out _).mono ?_)
  rintro e w3 ⟨rfl, hb3⟩
  have hB := Bel.st (Bel.st hb1 hb2) hb3
  clear hb1 hb2 hb3
  go_wp2
  go_ret
  exact ⟨rfl, hB⟩
end Go.Proofs.Ytmjaoeafompclaa

namespace Go.Proofs.Ytmjaoeafompclaa
open Go.RowKit Go.Shelf

set_option maxRecDepth 100000 in
set_option maxHeartbeats 2000000 in
theorem rootRoots_walk (a : Int) (w : World) (ha : Wd a) : Calls Try.prog 4 #[.int .u64 a] w fun e w' => e = .returned (.bool true) ∧ Below w.heap.size w w' := by
  have CP := fun v => sqrt5_any a v ha
  have CR := fun v => rsqrt5_any a v ha
  generalize sqrtI a = Z at *
  replace CP := Lib.hid CP
  replace CR := Lib.hid CR
  clear ha
  go_enter Try.func4, Try.ntmps4
  go_wp2_with fail
  (with_reducible refine (shown5_any _).mono ?_)
  rintro e w1 ⟨rfl, hb1⟩
  go_wp2_with fail
  (with_reducible refine (CP.out _).mono ?_)
  rintro e w2 ⟨rfl, hb2⟩
  go_wp2_with fail
  (with_reducible refine (CR.out _).mono ?_)
  rintro e w3 ⟨rfl, hb3⟩
  have hB := Bel.st (Bel.st hb1 hb2) hb3
  clear hb1 hb2 hb3
  go_wp2
  go_ret
  exact ⟨rfl, hB⟩
end Go.Proofs.Ytmjaoeafompclaa

namespace Go.Proofs.Ytmjaoeafompclaa
open Go.RowKit Go.Shelf

set_option maxRecDepth 100000 in
set_option maxHeartbeats 2000000 in
theorem rootFuses_walk (a b c : Int) (w : World) (ha : Wd a) (hb : Wd b) (hc : Wd c) : Calls Try.prog 5 #[.int .u64 a, .int .u64 b, .int .u64 c] w fun e w' => e = .returned (.bool true) ∧ Below w.heap.size w w' := by
  have CP := fun v => fma5_any a b c v ha hb hc
  have CR := fun v => rfma5_any a b c v ha hb hc
  generalize fmaI a b c = Z at *
  replace CP := Lib.hid CP
  replace CR := Lib.hid CR
  clear ha hb hc
  go_enter Try.func5, Try.ntmps5
  go_wp2_with fail
  (with_reducible refine (shown5_any _).mono ?_)
  rintro e w1 ⟨rfl, hb1⟩
  go_wp2_with fail
  (with_reducible refine (CP.out _).mono ?_)
  rintro e w2 ⟨rfl, hb2⟩
  go_wp2_with fail
  (with_reducible refine (CR.out _).mono ?_)
  rintro e w3 ⟨rfl, hb3⟩
  have hB := Bel.st (Bel.st hb1 hb2) hb3
  clear hb1 hb2 hb3
  go_wp2
  go_ret
  exact ⟨rfl, hB⟩
end Go.Proofs.Ytmjaoeafompclaa

namespace Go.Proofs.Ytmjaoeafompclaa
open Go.RowKit Go.Shelf

set_option maxRecDepth 100000 in
set_option maxHeartbeats 2000000 in
theorem rootMods_walk (a b : Int) (w : World) (ha : Wd a) (hb : Wd b) : Calls Try.prog 6 #[.int .u64 a, .int .u64 b] w fun e w' => e = .returned (.bool true) ∧ Below w.heap.size w w' := by
  have CP := fun v => mod5_any a b v ha hb
  have CR := fun v => rmod5_any a b v ha hb
  generalize modI a b = Z at *
  replace CP := Lib.hid CP
  replace CR := Lib.hid CR
  clear ha hb
  go_enter Try.func6, Try.ntmps6
  go_wp2_with fail
  (with_reducible refine (shown5_any _).mono ?_)
  rintro e w1 ⟨rfl, hb1⟩
  go_wp2_with fail
  (with_reducible refine (CP.out _).mono ?_)
  rintro e w2 ⟨rfl, hb2⟩
  go_wp2_with fail
  (with_reducible refine (CR.out _).mono ?_)
  rintro e w3 ⟨rfl, hb3⟩
  have hB := Bel.st (Bel.st hb1 hb2) hb3
  clear hb1 hb2 hb3
  go_wp2
  go_ret
  exact ⟨rfl, hB⟩
end Go.Proofs.Ytmjaoeafompclaa

namespace Go.Proofs.Ytmjaoeafompclaa
open Go.RowKit Go.Shelf

set_option maxRecDepth 100000 in
set_option maxHeartbeats 2000000 in
theorem rootPowers_walk (a n : Int) (w : World) (ha : Wd a) (n0 : -9223372036854775808 ≤ n) (n1 : n < 9223372036854775808) : Calls Try.prog 7 #[.int .u64 a, .int .i64 n] w fun e w' => e = .returned (.bool true) ∧ Below w.heap.size w w' := by
  have CP := fun v => power5_any a n v ha n0 n1
  have CR := fun v => rpower5_any a n v ha n0 n1
  generalize powI a n = Z at *
  replace CP := Lib.hid CP
  replace CR := Lib.hid CR
  clear ha n0 n1
  go_enter Try.func7, Try.ntmps7
  go_wp2_with fail
  (with_reducible refine (shown5_any _).mono ?_)
  rintro e w1 ⟨rfl, hb1⟩
  go_wp2_with fail
  (with_reducible refine (CP.out _).mono ?_)
  rintro e w2 ⟨rfl, hb2⟩
  go_wp2_with fail
  (with_reducible refine (CR.out _).mono ?_)
  rintro e w3 ⟨rfl, hb3⟩
  have hB := Bel.st (Bel.st hb1 hb2) hb3
  clear hb1 hb2 hb3
  go_wp2
  go_ret
  exact ⟨rfl, hB⟩
end Go.Proofs.Ytmjaoeafompclaa
