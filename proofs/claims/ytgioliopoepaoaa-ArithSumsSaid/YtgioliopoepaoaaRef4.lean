/-
  The reference of chapter 4: Of, Nat, Exact, Plus.
-/
import Derived.Test.YtgioliopoepaoaaKit
import Derived.Test.YtgioliopoepaoaaRef3S
import Derived.Test.YtgioliopoepaoaaRef3
import Derived.Test.YtgioliopoepaoaaRef2
import Derived.Test.YtgioliopoepaoaaArithP
namespace Go.Proofs.Ytgioliopoepaoaa
open Go.RowKit Go.Shelf

theorem stored2 {W : World} {n i j k G : Nat} {u x y : Value} (h : W.cell? ⟨n, i, none⟩ = some u) (hne : G ≠ n) : ((W.setCell ⟨G, j, none⟩ x).setCell ⟨G, k, none⟩ y).cell? ⟨n, i, none⟩ = some u := by
  rw [World.cell?_setCell_other _ _ _ _ (fun e => hne (congrArg Addr.block e)), World.cell?_setCell_other _ _ _ _ (fun e => hne (congrArg Addr.block e))]
  exact h
theorem val2 (a b : Nat) : Pl.val [a, b] = a + 4294967296 * b := by simp only [Pl.val, Pl.B32]; omega
set_option maxHeartbeats 1000000 in
theorem of_any (v : Nat) (w : World) (hv : v < 18446744073709551616) : Calls Try.prog 57 #[.int .u64 v] w (RetNat v w) := by
  have HF := Lib.hid (show Pl.Fit [v % 4294967296, v / 4294967296] by
    intro x hx
    simp only [List.mem_cons, List.not_mem_nil, or_false] at hx
    unfold Pl.B32
    omega)
  have HV := Lib.hid (show Pl.val [v % 4294967296, v / 4294967296] = v by rw [val2]; omega)
  go_enter Try.func57, Try.ntmps57
  go_wp2_with (go_at_call 56; refine (trim_v (slice_block w _ 2 _ _ HF.out rfl (by simp [lv]) (by omega)) (by omega)).mono ?_; rw [HV.out]; rintro e w2 ⟨v2, rfl, hv2, hb2⟩)
  go_ret
  exact ⟨v2, rfl, hv2, below_trans1 (hb2.mono (by simp)) ((Below.refl _ _).alloc (Nat.le_refl _) _)⟩
theorem rnat_any (v : Nat) (w : World) (hv : v < 18446744073709551616) : Calls Try.prog 38 #[.int .u64 v] w (RetNat v w) := by
  have HV := Lib.hid hv
  clear hv
  go_enter Try.func38, Try.ntmps38
  go_wp2_with (go_at_call 57; refine (of_any v _ HV.out).mono ?_; rintro e w2 ⟨v2, rfl, hv2, hb2⟩)
  go_ret
  exact ⟨v2, rfl, hv2, hb2⟩
theorem b32_2 : Pl.B32 ^ 2 = 18446744073709551616 := by decide

/-- What answers a natural with a sign. -/
def RetS (s : Bool) (N : Nat) (w : World) (e : Ending) (w' : World) : Prop := ∃ v, e = .returned (.agg #[.bool s, v]) ∧ NatV w' v N ∧ Below w.heap.size w w'

set_option maxRecDepth 100000 in
set_option maxHeartbeats 2000000 in
theorem exact_any (x : Int) (w : World) (hx : Wd x) : Calls Try.prog 29 #[.int .u64 x] w (RetS (sgn x) (fn x) w) := by
  obtain ⟨m0, m1⟩ := mant_bd (x := x)
  obtain ⟨e0, e1⟩ := expo_bd (x := x)
  have CS := fun v => rsplit_any x v hx
  obtain ⟨m, hm⟩ : ∃ m : Nat, mant x = m := ⟨(mant x).toNat, by omega⟩
  obtain ⟨u, hu⟩ : ∃ u : Nat, expo x + 1074 = u := ⟨(expo x + 1074).toNat, by omega⟩
  obtain ⟨ee, he⟩ : ∃ ee, expo x = ee := ⟨_, rfl⟩
  obtain ⟨s, hs⟩ : ∃ s, sgn x = s := ⟨_, rfl⟩
  have hf : fn x = m * 2 ^ u := by unfold fn; rw [hm, hu, Int.toNat_natCast, Int.toNat_natCast]
  rw [hf, hs]
  rw [hm] at CS m1
  rw [he] at CS hu e0 e1
  rw [hs] at CS
  obtain ⟨X, hX⟩ : ∃ X, m * 2 ^ u = X := ⟨_, rfl⟩
  rw [hX]
  have CN := fun v => rnat_any m v (by omega)
  have CU := fun (v : World) (y : Value) (h : SliceV v y m 2) => up_vF u h (by omega) (by omega)
  rw [hX] at CU
  have FM := Lib.hid (show m < Pl.B32 ^ 2 by rw [b32_2]; omega)
  have hw : IntKind.i64.wrap (u : Int) = (u : Int) := by rw [IntKind.wrap_i64]; omega
  replace CS := Lib.hid CS
  replace CN := Lib.hid CN
  replace CU := Lib.hid CU
  clear hm he hs hf hX m0 hx
  go_enter Try.func29, Try.ntmps29
  go_wp2_with fail
  (with_reducible refine (CS.out _).mono ?_)
  rintro e w' ⟨rfl, rfl⟩
  go_wp2_with fail
  (with_reducible refine (CN.out _).mono ?_)
  rintro e w1 ⟨v1, rfl, hv1, hb1⟩
  have T_r := (HdV.new w _ _ _).below hb1
  have hB := Bel.st (Bel.al (Bel.re w) _) hb1
  have HV := Lib.hid (hv1.slice FM.out)
  clear hb1 hv1
  go_wp2_with fail
  (with_reducible refine (CU.out _ _ HV.out).mono ?_)
  rintro e w2 ⟨v2, rfl, hv2, hb2, hf2⟩
  obtain ⟨A2, n2, c2, rfl, hA⟩ := id hv2
  clear hA
  have hlt := T_r.lt
  replace T_r := T_r.below hb2
  replace hB := Bel.st hB hb2
  clear hb2
  obtain ⟨zr, cr0, cr1, fr0, fr1⟩ := T_r
  go_wp2_with fail
  refine bodyPost_ret (v := .agg #[.bool s, .slice A2 n2 c2]) (by simp [results, Try.results29, go_sem, cr0, cr1]) rfl ⟨_, rfl, (hv2.stored hf2 hlt).stored hf2 hlt, (hB.setCell (Nat.le_refl _) _).setCell (Nat.le_refl _) _⟩
set_option maxRecDepth 100000 in
set_option maxHeartbeats 4000000 in
theorem plusS_same (s : Bool) {x y : Value} {N M d : Nat} {w : World} (hx : SliceV w x N d) (hy : SliceV w y M d) (hd : d ≤ 90000) :
    Calls Try.prog 28 #[.agg #[.bool s, x], .agg #[.bool s, y]] w (RetS s (N + M) w) := by
  obtain ⟨A1, n1, c1, l1, rfl, hx'⟩ := id hx
  obtain ⟨A2, n2, c2, l2, rfl, hy'⟩ := id hy
  clear hx' hy'
  obtain ⟨R, hR⟩ : ∃ R, (N + M) = R := ⟨_, rfl⟩
  rw [hR]
  have CP := fun (v : World) (h1 : SliceV v (.slice A1 n1 c1) N d) (h2 : SliceV v (.slice A2 n2 c2) M d) => plus_fresh h1 h2 (by omega)
  rw [hR] at CP
  replace CP := Lib.hid CP
  have T_x := Lib.hid hx
  have T_y := Lib.hid hy
  clear hR hx hy
  go_enter Try.func28, Try.ntmps28
  go_wp2_with fail
  have T_a := (((HdV.new w (.bool s) (.slice A1 n1 c1) 37).alloc (.cells #[.bool s, .slice A2 n2 c2] 37)).alloc (.cells #[.bool false, .slice none 0 0] 37))
  have T_b := ((HdV.new' (w := w.alloc (.cells #[.bool s, .slice A1 n1 c1] 37)) (n := w.heap.size + 1) (u := .bool s) (v := .slice A2 n2 c2) (t := 37) rfl (by simp)).alloc (.cells #[.bool false, .slice none 0 0] 37))
  have T_r := (HdV.new' (w := (w.alloc (.cells #[.bool s, .slice A1 n1 c1] 37)).alloc (.cells #[.bool s, .slice A2 n2 c2] 37)) (n := w.heap.size + 1 + 1) (u := .bool false) (v := .slice none 0 0) (t := 37) rfl (by simp))
  have T_X := (((T_x.out.alloc (.cells #[.bool s, .slice A1 n1 c1] 37)).alloc (.cells #[.bool s, .slice A2 n2 c2] 37)).alloc (.cells #[.bool false, .slice none 0 0] 37))
  have T_Y := (((T_y.out.alloc (.cells #[.bool s, .slice A1 n1 c1] 37)).alloc (.cells #[.bool s, .slice A2 n2 c2] 37)).alloc (.cells #[.bool false, .slice none 0 0] 37))
  have hB := (Bel.al (Bel.al (Bel.al (Bel.re w) (.cells #[.bool s, .slice A1 n1 c1] 37)) (.cells #[.bool s, .slice A2 n2 c2] 37)) (.cells #[.bool false, .slice none 0 0] 37))
  generalize World.alloc (World.alloc (World.alloc w _) _) _ = w1 at T_a T_b T_r T_X T_Y hB ⊢
  obtain ⟨za, ca0, ca1, fa0, fa1⟩ := id T_a
  obtain ⟨zb, cb0, cb1, fb0, fb1⟩ := id T_b
  obtain ⟨zr, cr0, cr1, fr0, fr1⟩ := id T_r
  clear fa0 fa1 fb0 fb1
  go_region_held3 (fun w' => w'.cell? ⟨w.heap.size, 0, none⟩ = some (.bool s) ∧ w'.cell? ⟨w.heap.size, 1, none⟩ = some (.slice A1 n1 c1) ∧ w'.cell? ⟨w.heap.size + 1, 0, none⟩ = some (.bool s) ∧ w'.cell? ⟨w.heap.size + 1, 1, none⟩ = some (.slice A2 n2 c2) ∧ w.heap.size + 1 + 1 < w'.heap.size) ((repeat' apply And.intro) <;> (first | assumption | exact T_a.c0 | exact T_a.c1 | exact T_b.c0 | exact T_b.c1 | exact T_r.lt | exact stored2 (by assumption) (by omega) | (go_keep; done) | omega | (simp; omega))) (first | (go_at_call 44; (with_reducible refine (CP.out _ T_X.drew T_Y.drew).mono ?_); rintro e w2 ⟨v2, rfl, hv2, hb2, hf2⟩; obtain ⟨A3, n3, c3, rfl, hA⟩ := id hv2; clear hA; replace T_a := T_a.drew.below hb2; replace T_b := T_b.drew.below hb2; replace T_r := T_r.drew.below hb2; replace hB := Bel.st (Bel.dr hB) hb2; obtain ⟨z1, ca0', ca1', fa0', fa1'⟩ := id T_a; obtain ⟨z2, cb0', cb1', fb0', fb1'⟩ := id T_b; obtain ⟨z3, cr0', cr1', fr0', fr1'⟩ := id T_r))
  all_goals go_wp2
  refine bodyPost_ret (v := .agg #[.bool s, .slice A3 n3 c3]) (by simp [results, Try.results28, go_sem, cr0', cr1']) rfl ⟨_, rfl, (hv2.stored hf2 zr).stored hf2 zr, (hB.setCell (by simp; omega) _).setCell (by simp; omega) _⟩
set_option maxRecDepth 100000 in
set_option maxHeartbeats 4000000 in
theorem plusS_ge (s t : Bool) {x y : Value} {N M d : Nat} {w : World} (hx : SliceV w x N d) (hy : SliceV w y M d) (hd : d ≤ 90000) (hst : (s == t) = false) (hle : M ≤ N) :
    Calls Try.prog 28 #[.agg #[.bool s, x], .agg #[.bool t, y]] w (RetS s (N - M) w) := by
  obtain ⟨A1, n1, c1, l1, rfl, hx'⟩ := id hx
  obtain ⟨A2, n2, c2, l2, rfl, hy'⟩ := id hy
  clear hx' hy'
  obtain ⟨R, hR⟩ : ∃ R, (N - M) = R := ⟨_, rfl⟩
  rw [hR]
  have CP := fun (v : World) (h1 : SliceV v (.slice A1 n1 c1) N d) (h2 : SliceV v (.slice A2 n2 c2) M d) => less_fresh h1 h2 (by omega) hle
  rw [hR] at CP
  replace CP := Lib.hid CP
  obtain ⟨C, hC⟩ : ∃ C, cmpI (N : Int) (M : Int) = C := ⟨_, rfl⟩
  have hC0 : decide (0 ≤ C) = true := by rw [← hC]; simpa using cmp_ge' hle
  have CC := fun (v : World) (h1 : SliceV v (.slice A1 n1 c1) N d) (h2 : SliceV v (.slice A2 n2 c2) M d) => rcmp_v h1 h2 (by omega)
  rw [hC] at CC
  replace CC := Lib.hid CC
  clear hC hle
  have T_x := Lib.hid hx
  have T_y := Lib.hid hy
  clear hR hx hy
  go_enter Try.func28, Try.ntmps28
  go_wp2_with fail
  (with_reducible refine (CC.out _ (((T_x.out.alloc _).alloc _).alloc _) (((T_y.out.alloc _).alloc _).alloc _)).mono ?_)
  rintro e w1 ⟨rfl, hb1⟩
  have T_a := (((HdV.new w (.bool s) (.slice A1 n1 c1) _).alloc _).alloc _).below hb1
  have T_b := ((HdV.new' (w := w.alloc _) (n := w.heap.size + 1) (u := .bool t) (v := .slice A2 n2 c2) rfl (by simp)).alloc _).below hb1
  have T_r := (HdV.new' (w := (w.alloc _).alloc _) (n := w.heap.size + 1 + 1) (u := .bool false) (v := .slice none 0 0) rfl (by simp)).below hb1
  have T_X := (((T_x.out.alloc _).alloc _).alloc _).below hb1
  have T_Y := (((T_y.out.alloc _).alloc _).alloc _).below hb1
  have hB := Bel.st (Bel.al (Bel.al (Bel.al (Bel.re w) _) _) _) hb1
  clear hb1
  obtain ⟨za, ca0, ca1, fa0, fa1⟩ := id T_a
  obtain ⟨zb, cb0, cb1, fb0, fb1⟩ := id T_b
  obtain ⟨zr, cr0, cr1, fr0, fr1⟩ := id T_r
  clear fa0 fa1 fb0 fb1
  go_wp2_with fail
  go_region_held3 (fun w' => w'.cell? ⟨w.heap.size, 0, none⟩ = some (.bool s) ∧ w'.cell? ⟨w.heap.size, 1, none⟩ = some (.slice A1 n1 c1) ∧ w'.cell? ⟨w.heap.size + 1, 0, none⟩ = some (.bool t) ∧ w'.cell? ⟨w.heap.size + 1, 1, none⟩ = some (.slice A2 n2 c2) ∧ w.heap.size + 1 + 1 < w'.heap.size) ((repeat' apply And.intro) <;> (first | assumption | exact T_a.c0 | exact T_a.c1 | exact T_b.c0 | exact T_b.c1 | exact T_r.lt | exact stored2 (by assumption) (by omega) | (go_keep; done) | omega | (simp; omega))) (first | (go_at_call 46; (with_reducible refine (CP.out _ T_X.drew T_Y.drew).mono ?_); rintro e w2 ⟨v2, rfl, hv2, hb2, hf2⟩; obtain ⟨A3, n3, c3, rfl, hA⟩ := id hv2; clear hA; replace T_a := T_a.drew.below hb2; replace T_b := T_b.drew.below hb2; replace T_r := T_r.drew.below hb2; replace hB := Bel.st (Bel.dr hB) hb2; obtain ⟨z1, ca0', ca1', fa0', fa1'⟩ := id T_a; obtain ⟨z2, cb0', cb1', fb0', fb1'⟩ := id T_b; obtain ⟨z3, cr0', cr1', fr0', fr1'⟩ := id T_r))
  all_goals go_wp2
  refine bodyPost_ret (v := .agg #[.bool s, .slice A3 n3 c3]) (by simp [results, Try.results28, go_sem, cr0', cr1']) rfl ⟨_, rfl, (hv2.stored hf2 zr).stored hf2 zr, (hB.setCell (by simp; omega) _).setCell (by simp; omega) _⟩
set_option maxRecDepth 100000 in
set_option maxHeartbeats 4000000 in
theorem plusS_lt (s t : Bool) {x y : Value} {N M d : Nat} {w : World} (hx : SliceV w x N d) (hy : SliceV w y M d) (hd : d ≤ 90000) (hst : (s == t) = false) (hle : N < M) :
    Calls Try.prog 28 #[.agg #[.bool s, x], .agg #[.bool t, y]] w (RetS t (M - N) w) := by
  obtain ⟨A1, n1, c1, l1, rfl, hx'⟩ := id hx
  obtain ⟨A2, n2, c2, l2, rfl, hy'⟩ := id hy
  clear hx' hy'
  obtain ⟨R, hR⟩ : ∃ R, (M - N) = R := ⟨_, rfl⟩
  rw [hR]
  have CP := fun (v : World) (h1 : SliceV v (.slice A1 n1 c1) N d) (h2 : SliceV v (.slice A2 n2 c2) M d) => less_fresh h2 h1 (by omega) (Nat.le_of_lt hle)
  rw [hR] at CP
  replace CP := Lib.hid CP
  obtain ⟨C, hC⟩ : ∃ C, cmpI (N : Int) (M : Int) = C := ⟨_, rfl⟩
  have hC0 : decide (0 ≤ C) = false := by rw [← hC, cmp_lt' hle]; decide
  have CC := fun (v : World) (h1 : SliceV v (.slice A1 n1 c1) N d) (h2 : SliceV v (.slice A2 n2 c2) M d) => rcmp_v h1 h2 (by omega)
  rw [hC] at CC
  replace CC := Lib.hid CC
  clear hC hle
  have T_x := Lib.hid hx
  have T_y := Lib.hid hy
  clear hR hx hy
  go_enter Try.func28, Try.ntmps28
  go_wp2_with fail
  (with_reducible refine (CC.out _ (((T_x.out.alloc _).alloc _).alloc _) (((T_y.out.alloc _).alloc _).alloc _)).mono ?_)
  rintro e w1 ⟨rfl, hb1⟩
  have T_a := (((HdV.new w (.bool s) (.slice A1 n1 c1) _).alloc _).alloc _).below hb1
  have T_b := ((HdV.new' (w := w.alloc _) (n := w.heap.size + 1) (u := .bool t) (v := .slice A2 n2 c2) rfl (by simp)).alloc _).below hb1
  have T_r := (HdV.new' (w := (w.alloc _).alloc _) (n := w.heap.size + 1 + 1) (u := .bool false) (v := .slice none 0 0) rfl (by simp)).below hb1
  have T_X := (((T_x.out.alloc _).alloc _).alloc _).below hb1
  have T_Y := (((T_y.out.alloc _).alloc _).alloc _).below hb1
  have hB := Bel.st (Bel.al (Bel.al (Bel.al (Bel.re w) _) _) _) hb1
  clear hb1
  obtain ⟨za, ca0, ca1, fa0, fa1⟩ := id T_a
  obtain ⟨zb, cb0, cb1, fb0, fb1⟩ := id T_b
  obtain ⟨zr, cr0, cr1, fr0, fr1⟩ := id T_r
  clear fa0 fa1 fb0 fb1
  go_wp2_with fail
  go_region_held3 (fun w' => w'.cell? ⟨w.heap.size, 0, none⟩ = some (.bool s) ∧ w'.cell? ⟨w.heap.size, 1, none⟩ = some (.slice A1 n1 c1) ∧ w'.cell? ⟨w.heap.size + 1, 0, none⟩ = some (.bool t) ∧ w'.cell? ⟨w.heap.size + 1, 1, none⟩ = some (.slice A2 n2 c2) ∧ w.heap.size + 1 + 1 < w'.heap.size) ((repeat' apply And.intro) <;> (first | assumption | exact T_a.c0 | exact T_a.c1 | exact T_b.c0 | exact T_b.c1 | exact T_r.lt | exact stored2 (by assumption) (by omega) | (go_keep; done) | omega | (simp; omega))) (first | (go_at_call 46; (with_reducible refine (CP.out _ T_X.drew T_Y.drew).mono ?_); rintro e w2 ⟨v2, rfl, hv2, hb2, hf2⟩; obtain ⟨A3, n3, c3, rfl, hA⟩ := id hv2; clear hA; replace T_a := T_a.drew.below hb2; replace T_b := T_b.drew.below hb2; replace T_r := T_r.drew.below hb2; replace hB := Bel.st (Bel.dr hB) hb2; obtain ⟨z1, ca0', ca1', fa0', fa1'⟩ := id T_a; obtain ⟨z2, cb0', cb1', fb0', fb1'⟩ := id T_b; obtain ⟨z3, cr0', cr1', fr0', fr1'⟩ := id T_r))
  all_goals go_wp2
  refine bodyPost_ret (v := .agg #[.bool t, .slice A3 n3 c3]) (by simp [results, Try.results28, go_sem, cr0', cr1']) rfl ⟨_, rfl, (hv2.stored hf2 zr).stored hf2 zr, (hB.setCell (by simp; omega) _).setCell (by simp; omega) _⟩
theorem plusS_any (s t : Bool) {x y : Value} {N M d : Nat} {w : World} (hx : SliceV w x N d) (hy : SliceV w y M d) (hd : d ≤ 90000) :
    Calls Try.prog 28 #[.agg #[.bool s, x], .agg #[.bool t, y]] w (RetS (sumS s t N M) (sumN s t N M) w) := by
  by_cases h : s = t
  · subst h
    unfold sumS sumN
    rw [if_pos rfl, if_pos rfl]
    exact plusS_same s hx hy hd
  · have hb : (s == t) = false := by simpa using h
    unfold sumS sumN
    rw [if_neg h, if_neg h]
    by_cases hle : M ≤ N
    · rw [if_pos hle, if_pos hle]
      exact plusS_ge s t hx hy hd hb hle
    · rw [if_neg hle, if_neg hle]
      exact plusS_lt s t hx hy hd hb (by omega)
end Go.Proofs.Ytgioliopoepaoaa
