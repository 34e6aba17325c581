/-
  Proved: WideRoots: for any int of 128 bits the root's square is not above it, the next one's is, and the root is told exact just then: the law returns true. No condition.
-/
import Derived.Test.YteikkoiaeejgaaaRow
import Derived.Test.YteikkoiaeejgaaaLaw2B
namespace Go.Proofs.Yteikkoiaeejgaaa.wideRoots
open Go.ChangeShapes Go.WideShapes Go.ChangeAt Go.RowKit Go.Joins

set_option maxRecDepth 100000 in
theorem lifted (os : Os) (started : os.Started) (H : Type) (enc : TypeId × Value → H) :
    ReturnsInHanded {} Try.checked os 7 .any (Rows.wideRootsSpec.pre6 enc Try.prog Try.f7 Rows.wideRootsRow.domain false) (Rows.wideRootsSpec.post enc Try.prog Try.f7 false true false false) := by
  refine returnsInHanded_of_change (C := Try.checked) own_knob started (by kernel_rfl) Try.func7
    (ChangeSpec.witness6 (enc := enc) (C := Try.checked) false ⟨#[], #[.agg #[.int .u64 0, .int .u64 0]], []⟩ 8 (by kernel_rfl) (by kernel_rfl) (by kernel_rfl) (by kernel_rfl)) ?_
  intro W base args ds gs before hval0 hW hcnd _
  have hval : ∀ (j : Nat) t v, Try.f7.params[j]? = some t → args[j]? = some v → Value.okWide Try.prog W .any base t v := hval0
  have hW' := hW
  obtain ⟨p, q, hA0, hV, rfl, hfz, hnd⟩ := hW
  have hA : DataW.TrodAll enc Try.prog W 0 (fun _ => true) true Try.f7.params.toList args.toList ds p := hA0
  rw [Try.params7] at hA hval
  obtain ⟨v0, vs0, d0, ds0, p0, q0, hargs, rfl, rfl, h0, r0⟩ := trodAll_cons hA
  obtain ⟨rfl, rfl, rfl⟩ := trodAll_nil r0
  obtain rfl : args = #[v0] := by cases args; simp_all
  obtain ⟨rfl, rfl⟩ := trodVars_none hV
  obtain ⟨c0h, c0l, y0h, y0l, m0, rfl, rfl, rfl, hy0h, hy0l⟩ := open_agg2 Try.underlying24 (by kernel_rfl) cells_u128 (hval 0 24 v0 rfl rfl) h0
  obtain ⟨a0h, e0h, rfl, w0h⟩ := DataW.trod_int Try.underlying22 hy0h
  obtain ⟨a0l, e0l, rfl, w0l⟩ := DataW.trod_int Try.underlying22 hy0l
  simp at e0h e0l
  subst e0h e0l
  clear hA0 hval0
  simp only [List.append_nil] at hW'
  refine (roots_walk a0h a0l W (wd_wf w0h) (wd_wf w0l)).mono fun e W' ⟨he, hg⟩ => ?_
  subst he
  exact ⟨_, rfl, post_of_below (pa := []) (pv := []) hW' (fun _ _ _ => (trodAll_cons_mk (shut_bool Try.underlying4 _) trodAll_mk0)) (fun sp _ => (trodAll_cons_mk (u128_reads w0h w0l _ sp) trodAll_mk0)) (fun _ _ => rfl) rfl
    hg (ok_one (by kernel_rfl) rfl (okWide_bool_mk Try.underlying4 _))⟩

set_option maxRecDepth 100000 in
set_option maxHeartbeats 8000000 in
theorem facts : joinedFacts Try.pinned.checked.prog 7 Try.f7 Rows.wideRootsSpec Rows.wideRootsRow = true := by
  unfold joinedFacts
  simp only [Bool.and_eq_true]
  repeat' apply And.intro
  all_goals (as_aux_lemma => kernel_rfl)
theorem fname : Try.pinned.checked.prog.funcNamed Rows.wideRootsRow.func = some 7 := by kernel_rfl
theorem finst : Try.f7.isInstance Try.pinned.checked.prog Rows.wideRootsRow.origin Rows.wideRootsRow.targs := of_decide_eq_true (by kernel_rfl)
theorem fwrap : Try.f7.isWrapper Try.pinned.checked.prog Rows.wideRootsRow.wrapper Rows.wideRootsRow.mainSum := by
  unfold Func.isWrapper
  rw [if_neg (of_decide_eq_false (by kernel_rfl))]
  exact ⟨rfl, rfl⟩

theorem proved : Rows.WideRootsSaid :=
  OpenClaim.holds_of_wide 7 Try.f7 rfl rfl rfl rfl rfl rfl rfl ⟨rfl, rfl, rfl, rfl, rfl⟩ rfl rfl rfl rfl rfl fname Try.func7 facts finst fwrap
    (fun os started H enc _ => lifted os started H enc)

#print axioms proved
end Go.Proofs.Yteikkoiaeejgaaa.wideRoots
