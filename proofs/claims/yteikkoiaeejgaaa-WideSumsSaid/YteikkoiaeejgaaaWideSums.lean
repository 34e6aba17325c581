/-
  Proved: WideSums: for any two ints of 128 bits the comparison, the sum, the difference, the product of two words and the length are those of the reference by naturals: the law returns true. No condition.
-/
import Derived.Test.YteikkoiaeejgaaaRow
import Derived.Test.YteikkoiaeejgaaaLaw2G
namespace Go.Proofs.Yteikkoiaeejgaaa.wideSums
open Go.ChangeShapes Go.WideShapes Go.ChangeAt Go.RowKit Go.Joins

set_option maxRecDepth 100000 in
theorem lifted (os : Os) (started : os.Started) (H : Type) (enc : TypeId × Value → H) :
    ReturnsInHanded {} Try.checked os 3 .any (Rows.wideSumsSpec.pre6 enc Try.prog Try.f3 Rows.wideSumsRow.domain false) (Rows.wideSumsSpec.post enc Try.prog Try.f3 false true false false) := by
  refine returnsInHanded_of_change (C := Try.checked) own_knob started (by kernel_rfl) Try.func3
    (ChangeSpec.witness6 (enc := enc) (C := Try.checked) false ⟨#[], #[.agg #[.int .u64 0, .int .u64 0], .agg #[.int .u64 0, .int .u64 0]], []⟩ 8 (by kernel_rfl) (by kernel_rfl) (by kernel_rfl) (by kernel_rfl)) ?_
  intro W base args ds gs before hval0 hW hcnd _
  have hval : ∀ (j : Nat) t v, Try.f3.params[j]? = some t → args[j]? = some v → Value.okWide Try.prog W .any base t v := hval0
  have hW' := hW
  obtain ⟨p, q, hA0, hV, rfl, hfz, hnd⟩ := hW
  have hA : DataW.TrodAll enc Try.prog W 0 (fun _ => true) true Try.f3.params.toList args.toList ds p := hA0
  rw [Try.params3] at hA hval
  obtain ⟨v0, vs0, d0, ds0, p0, q0, hargs, rfl, rfl, h0, r0⟩ := trodAll_cons hA
  obtain ⟨v1, vs1, d1, ds1, p1, q1, rfl, rfl, rfl, h1, r1⟩ := trodAll_cons r0
  obtain ⟨rfl, rfl, rfl⟩ := trodAll_nil r1
  obtain rfl : args = #[v0, v1] := by cases args; simp_all
  obtain ⟨rfl, rfl⟩ := trodVars_none hV
  obtain ⟨c0h, c0l, y0h, y0l, m0, rfl, rfl, rfl, hy0h, hy0l⟩ := open_agg2 Try.underlying24 (by kernel_rfl) cells_u128 (hval 0 24 v0 rfl rfl) h0
  obtain ⟨a0h, e0h, rfl, w0h⟩ := DataW.trod_int Try.underlying22 hy0h
  obtain ⟨a0l, e0l, rfl, w0l⟩ := DataW.trod_int Try.underlying22 hy0l
  simp at e0h e0l
  subst e0h e0l
  obtain ⟨c1h, c1l, y1h, y1l, m1, rfl, rfl, rfl, hy1h, hy1l⟩ := open_agg2 Try.underlying24 (by kernel_rfl) cells_u128 (hval 1 24 v1 rfl rfl) h1
  obtain ⟨a1h, e1h, rfl, w1h⟩ := DataW.trod_int Try.underlying22 hy1h
  obtain ⟨a1l, e1l, rfl, w1l⟩ := DataW.trod_int Try.underlying22 hy1l
  simp at e1h e1l
  subst e1h e1l
  clear hA0 hval0
  simp only [List.append_nil] at hW'
  refine (sums_all a0h a0l a1h a1l W (wd_wf w0h) (wd_wf w0l) (wd_wf w1h) (wd_wf w1l)).mono fun e W' ⟨he, hg⟩ => ?_
  subst he
  exact ⟨_, rfl, post_of_below (pa := []) (pv := []) hW' (fun _ _ _ => (trodAll_cons_mk (shut_bool Try.underlying4 _) trodAll_mk0)) (fun sp _ => (trodAll_cons_mk (u128_reads w0h w0l _ sp) (trodAll_cons_mk (u128_reads w1h w1l _ sp) trodAll_mk0))) (fun _ _ => rfl) rfl
    hg (ok_one (by kernel_rfl) rfl (okWide_bool_mk Try.underlying4 _))⟩

set_option maxRecDepth 100000 in
set_option maxHeartbeats 8000000 in
theorem facts : joinedFacts Try.pinned.checked.prog 3 Try.f3 Rows.wideSumsSpec Rows.wideSumsRow = true := by
  unfold joinedFacts
  simp only [Bool.and_eq_true]
  repeat' apply And.intro
  all_goals (as_aux_lemma => kernel_rfl)
theorem fname : Try.pinned.checked.prog.funcNamed Rows.wideSumsRow.func = some 3 := by kernel_rfl
theorem finst : Try.f3.isInstance Try.pinned.checked.prog Rows.wideSumsRow.origin Rows.wideSumsRow.targs := of_decide_eq_true (by kernel_rfl)
theorem fwrap : Try.f3.isWrapper Try.pinned.checked.prog Rows.wideSumsRow.wrapper Rows.wideSumsRow.mainSum := by
  unfold Func.isWrapper
  rw [if_neg (of_decide_eq_false (by kernel_rfl))]
  exact ⟨rfl, rfl⟩

theorem proved : Rows.WideSumsSaid :=
  OpenClaim.holds_of_wide 3 Try.f3 rfl rfl rfl rfl rfl rfl rfl ⟨rfl, rfl, rfl, rfl, rfl⟩ rfl rfl rfl rfl rfl fname Try.func3 facts finst fwrap
    (fun os started H enc _ => lifted os started H enc)

#print axioms proved
end Go.Proofs.Yteikkoiaeejgaaa.wideSums
