/-
  Proved: FloatRounds: for any sign, any list of limbs, any power of two, with a little more or not, what Round tells is the document's answer: the law returns true. No condition.
-/
import Derived.Test.YtlndpbjolgjloaaRowS
import Derived.Test.YtlndpbjolgjloaaLaw3G
namespace Go.Proofs.Ytlndpbjolgjloaa.floatRounds
open Go.ChangeShapes Go.WideShapes Go.ChangeAt Go.RowKit Go.Joins

set_option maxRecDepth 100000 in
theorem lifted (os : Os) (started : os.Started) (H : Type) (enc : TypeId × Value → H) :
    ReturnsInHanded {} Try.checked os 7 .any (Rows.floatRoundsSpec.pre6 enc Try.prog Try.f7 Rows.floatRoundsRow.domain false) (Rows.floatRoundsSpec.post enc Try.prog Try.f7 false true false false) := by
  refine returnsInHanded_of_change (C := Try.checked) own_knob started (by kernel_rfl) Try.func7
    (ChangeSpec.witness6 (enc := enc) (C := Try.checked) false ⟨#[], #[.bool false, .slice none 0 0, .int .i64 0, .bool false], []⟩ 8 (by kernel_rfl) (by kernel_rfl) (by kernel_rfl) (by kernel_rfl)) ?_
  intro W base args ds gs before hval0 hW hcnd _
  have hval : ∀ (j : Nat) t v, Try.f7.params[j]? = some t → args[j]? = some v → Value.okWide Try.prog W .any base t v := hval0
  have hW' := hW
  obtain ⟨p, q, hA0, hV, rfl, hfz, hnd⟩ := hW
  have hA : DataW.TrodAll enc Try.prog W 0 (fun _ => true) true Try.f7.params.toList args.toList ds p := hA0
  rw [Try.params7] at hA hval
  obtain ⟨v0, vs0, d0, ds0, p0, q0, hargs, rfl, rfl, h0, r0⟩ := trodAll_cons hA
  obtain ⟨v1, vs1, d1, ds1, p1, q1, rfl, rfl, rfl, h1, r1⟩ := trodAll_cons r0
  obtain ⟨v2, vs2, d2, ds2, p2, q2, rfl, rfl, rfl, h2, r2⟩ := trodAll_cons r1
  obtain ⟨v3, vs3, d3, ds3, p3, q3, rfl, rfl, rfl, h3, r3⟩ := trodAll_cons r2
  obtain ⟨rfl, rfl, rfl⟩ := trodAll_nil r3
  obtain rfl : args = #[v0, v1, v2, v3] := by cases args; simp_all
  obtain ⟨rfl, rfl⟩ := trodVars_none hV
  obtain ⟨a0, rfl, rfl, rfl⟩ := open_bool Try.underlying4 (hval 0 4 v0 rfl rfl) h0
  have k1 := h1
  obtain ⟨a1A, a1n, a1c, rfl⟩ := okWide_slice Try.underlying28 (hval 1 28 v1 rfl rfl)
  obtain ⟨a1l, w1l, w1c, w1m⟩ := open_limbs Try.underlying28 h1
  obtain ⟨a2, rfl, rfl, rfl, w2⟩ := open_int Try.underlying3 (hval 2 3 v2 rfl rfl) h2
  obtain ⟨a3, rfl, rfl, rfl⟩ := open_bool Try.underlying4 (hval 3 4 v3 rfl rfl) h3
  clear hA0 hval0
  simp only [List.append_nil, List.nil_append] at hW'
  refine (rounds_walk a0 a1A a1n a1c a1l a2 a3 W w1l w1c w1m (i_wf w2).1 (i_wf w2).2).mono fun e W' ⟨he, hg⟩ => ?_
  subst he
  exact ⟨_, rfl, post_of_below (pa := p1) (pv := []) hW' (fun _ _ _ => (trodAll_cons_mk (shut_bool Try.underlying4 _) trodAll_mk0)) (fun sp hsp => by have t := (trodAll_cons_mk (shut_bool Try.underlying4 a0) (trodAll_cons_mk (stays (by kernel_rfl) (of_decide_eq_true (by kernel_rfl)) k1 hg (fun x hx => hW'.lt x (by simpa using hx)) (fun x hx => hsp x (by simpa using hx))) (trodAll_cons_mk (shut_int Try.underlying3 w2) (trodAll_cons_mk (shut_bool Try.underlying4 a3) trodAll_mk0)))); simp only [List.append_nil, List.nil_append] at t; exact t) (fun _ _ => rfl) (by simp)
    hg (ok_one (by kernel_rfl) rfl (okWide_bool_mk Try.underlying4 _))⟩

set_option maxRecDepth 100000 in
set_option maxHeartbeats 8000000 in
theorem facts : joinedFacts Try.pinned.checked.prog 7 Try.f7 Rows.floatRoundsSpec Rows.floatRoundsRow = true := by
  unfold joinedFacts
  simp only [Bool.and_eq_true]
  repeat' apply And.intro
  all_goals (as_aux_lemma => kernel_rfl)
theorem fname : Try.pinned.checked.prog.funcNamed Rows.floatRoundsRow.func = some 7 := by kernel_rfl
theorem finst : Try.f7.isInstance Try.pinned.checked.prog Rows.floatRoundsRow.origin Rows.floatRoundsRow.targs := of_decide_eq_true (by kernel_rfl)
theorem fwrap : Try.f7.isWrapper Try.pinned.checked.prog Rows.floatRoundsRow.wrapper Rows.floatRoundsRow.mainSum := by
  unfold Func.isWrapper
  rw [if_neg (of_decide_eq_false (by kernel_rfl))]
  exact ⟨rfl, rfl⟩

theorem proved : Rows.FloatRoundsSaid :=
  OpenClaim.holds_of_wide 7 Try.f7 rfl rfl rfl rfl rfl rfl rfl ⟨rfl, rfl, rfl, rfl, rfl⟩ rfl rfl rfl rfl rfl fname Try.func7 facts finst fwrap
    (fun os started H enc _ => lifted os started H enc)

#print axioms proved
end Go.Proofs.Ytlndpbjolgjloaa.floatRounds
