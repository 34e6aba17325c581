/-
  Proved: WideBack: what was added is taken away again, the quotient times the divisor and what is left is the number, what is shifted up and down is as it was: for any ints of 128 bits and any int the law returns true. No condition.
-/
import Derived.Test.YteikkoiaeejgaaaRow
import Derived.Test.YteikkoiaeejgaaaLaw2E
namespace Go.Proofs.Yteikkoiaeejgaaa.wideBack
open Go.ChangeShapes Go.WideShapes Go.ChangeAt Go.RowKit Go.Joins

set_option maxRecDepth 100000 in
theorem lifted (os : Os) (started : os.Started) (H : Type) (enc : TypeId × Value → H) :
    ReturnsInHanded {} Try.checked os 6 .any (Rows.wideBackSpec.pre6 enc Try.prog Try.f6 Rows.wideBackRow.domain false) (Rows.wideBackSpec.post enc Try.prog Try.f6 false true false false) := by
  refine returnsInHanded_of_change (C := Try.checked) own_knob started (by kernel_rfl) Try.func6
    (ChangeSpec.witness6 (enc := enc) (C := Try.checked) false ⟨#[], #[.agg #[.int .u64 0, .int .u64 0], .agg #[.int .u64 0, .int .u64 0], .int .i64 0], []⟩ 8 (by kernel_rfl) (by kernel_rfl) (by kernel_rfl) (by kernel_rfl)) ?_
  intro W base args ds gs before hval0 hW hcnd _
  have hval : ∀ (j : Nat) t v, Try.f6.params[j]? = some t → args[j]? = some v → Value.okWide Try.prog W .any base t v := hval0
  have hW' := hW
  obtain ⟨p, q, hA0, hV, rfl, hfz, hnd⟩ := hW
  have hA : DataW.TrodAll enc Try.prog W 0 (fun _ => true) true Try.f6.params.toList args.toList ds p := hA0
  rw [Try.params6] at hA hval
  obtain ⟨v0, vs0, d0, ds0, p0, q0, hargs, rfl, rfl, h0, r0⟩ := trodAll_cons hA
  obtain ⟨v1, vs1, d1, ds1, p1, q1, rfl, rfl, rfl, h1, r1⟩ := trodAll_cons r0
  obtain ⟨v2, vs2, d2, ds2, p2, q2, rfl, rfl, rfl, h2, r2⟩ := trodAll_cons r1
  obtain ⟨rfl, rfl, rfl⟩ := trodAll_nil r2
  obtain rfl : args = #[v0, v1, v2] := by cases args; simp_all
  obtain ⟨rfl, rfl⟩ := trodVars_none hV
  obtain ⟨c0h, c0l, y0h, y0l, m0, rfl, rfl, rfl, hy0h, hy0l⟩ := open_agg2 Try.underlying24 (by kernel_rfl) cells_u128 (hval 0 24 v0 rfl rfl) h0
  obtain ⟨a0h, e0h, rfl, w0h⟩ := DataW.trod_int Try.underlying22 hy0h
  obtain ⟨a0l, e0l, rfl, w0l⟩ := DataW.trod_int Try.underlying22 hy0l
  simp at e0h e0l
  subst e0h e0l
  obtain ⟨c1h, c1l, y1h, y1l, m1, rfl, rfl, rfl, hy1h, hy1l⟩ := open_agg2 Try.underlying24 (by kernel_rfl) cells_u128 (hval 1 24 v1 rfl rfl) h1
  obtain ⟨a1h, e1h, rfl, w1h⟩ := DataW.trod_int Try.underlying22 hy1h
  obtain ⟨a1l, e1l, rfl, w1l⟩ := DataW.trod_int Try.underlying22 hy1l
  simp at e1h e1l
  subst e1h e1l
  obtain ⟨a2, rfl, rfl, rfl, w2⟩ := open_int Try.underlying3 (hval 2 3 v2 rfl rfl) h2
  clear hA0 hval0
  simp only [List.append_nil] at hW'
  refine (back2_int a0h a0l a1h a1l a2 W (wd_wf w0h) (wd_wf w0l) (wd_wf w1h) (wd_wf w1l) (i_wf w2)).mono fun e W' ⟨he, hg⟩ => ?_
  subst he
  exact ⟨_, rfl, post_of_below (pa := []) (pv := []) hW' (fun _ _ _ => (trodAll_cons_mk (shut_bool Try.underlying4 _) trodAll_mk0)) (fun sp _ => (trodAll_cons_mk (u128_reads w0h w0l _ sp) (trodAll_cons_mk (u128_reads w1h w1l _ sp) (trodAll_cons_mk (shut_int Try.underlying3 w2) trodAll_mk0)))) (fun _ _ => rfl) rfl
    hg (ok_one (by kernel_rfl) rfl (okWide_bool_mk Try.underlying4 _))⟩

set_option maxRecDepth 100000 in
set_option maxHeartbeats 8000000 in
theorem facts : joinedFacts Try.pinned.checked.prog 6 Try.f6 Rows.wideBackSpec Rows.wideBackRow = true := by
  unfold joinedFacts
  simp only [Bool.and_eq_true]
  repeat' apply And.intro
  all_goals (as_aux_lemma => kernel_rfl)
theorem fname : Try.pinned.checked.prog.funcNamed Rows.wideBackRow.func = some 6 := by kernel_rfl
theorem finst : Try.f6.isInstance Try.pinned.checked.prog Rows.wideBackRow.origin Rows.wideBackRow.targs := of_decide_eq_true (by kernel_rfl)
theorem fwrap : Try.f6.isWrapper Try.pinned.checked.prog Rows.wideBackRow.wrapper Rows.wideBackRow.mainSum := by
  unfold Func.isWrapper
  rw [if_neg (of_decide_eq_false (by kernel_rfl))]
  exact ⟨rfl, rfl⟩

theorem proved : Rows.WideBackSaid :=
  OpenClaim.holds_of_wide 6 Try.f6 rfl rfl rfl rfl rfl rfl rfl ⟨rfl, rfl, rfl, rfl, rfl⟩ rfl rfl rfl rfl rfl fname Try.func6 facts finst fwrap
    (fun os started H enc _ => lifted os started H enc)

#print axioms proved
end Go.Proofs.Yteikkoiaeejgaaa.wideBack
