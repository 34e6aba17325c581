/-
  Proved: ArithSums: any list of numbers is added up from the front, as the reference does: the law returns true. No condition.
-/
import Derived.Test.YtgioliopoepaoaaRowW
import Derived.Test.YtgioliopoepaoaaLaw4B
namespace Go.Proofs.Ytgioliopoepaoaa.arithSums
open Go.ChangeShapes Go.WideShapes Go.ChangeAt Go.RowKit Go.Joins

set_option maxRecDepth 100000 in
theorem lifted (os : Os) (started : os.Started) (H : Type) (enc : TypeId × Value → H) :
    ReturnsInHanded {} Try.checked os 5 .any (Rows.arithSumsSpec.pre6 enc Try.prog Try.f5 Rows.arithSumsRow.domain false) (Rows.arithSumsSpec.post enc Try.prog Try.f5 false true false false) := by
  refine returnsInHanded_of_change (C := Try.checked) own_knob started (by kernel_rfl) Try.func5
    (ChangeSpec.witness6 (enc := enc) (C := Try.checked) false ⟨#[], #[.slice none 0 0], []⟩ 8 (by kernel_rfl) (by kernel_rfl) (by kernel_rfl) (by kernel_rfl)) ?_
  intro W base args ds gs before hval0 hW hcnd _
  have hval : ∀ (j : Nat) t v, Try.f5.params[j]? = some t → args[j]? = some v → Value.okWide Try.prog W .any base t v := hval0
  have hW' := hW
  obtain ⟨p, q, hA0, hV, rfl, hfz, hnd⟩ := hW
  have hA : DataW.TrodAll enc Try.prog W 0 (fun _ => true) true Try.f5.params.toList args.toList ds p := hA0
  rw [Try.params5] at hA hval
  obtain ⟨v0, vs0, d0, ds0, p0, q0, hargs, rfl, rfl, h0, r0⟩ := trodAll_cons hA
  obtain ⟨rfl, rfl, rfl⟩ := trodAll_nil r0
  obtain rfl : args = #[v0] := by cases args; simp_all
  obtain ⟨rfl, rfl⟩ := trodVars_none hV
  have k0 := h0
  obtain ⟨a0A, a0n, a0c, rfl⟩ := okWide_slice Try.underlying26 (hval 0 26 v0 rfl rfl)
  obtain ⟨a0l, w0l, w0c, w0m⟩ := open_words Try.underlying26 h0
  clear hA0 hval0
  simp only [List.append_nil, List.nil_append] at hW'
  refine (lsums_walk a0A a0n a0c a0l W w0l w0c w0m).mono fun e W' ⟨he, hg⟩ => ?_
  subst he
  exact ⟨_, rfl, post_of_below (pa := p0) (pv := []) hW' (fun _ _ _ => (trodAll_cons_mk (shut_bool Try.underlying4 _) trodAll_mk0)) (fun sp hsp => by have t := (trodAll_cons_mk (stays (by kernel_rfl) (of_decide_eq_true (by kernel_rfl)) k0 hg (fun x hx => hW'.lt x (by simpa using hx)) (fun x hx => hsp x (by simpa using hx))) trodAll_mk0); simp only [List.append_nil, List.nil_append] at t; exact t) (fun _ _ => rfl) (by simp)
    hg (ok_one (by kernel_rfl) rfl (okWide_bool_mk Try.underlying4 _))⟩

set_option maxRecDepth 100000 in
set_option maxHeartbeats 8000000 in
theorem facts : joinedFacts Try.pinned.checked.prog 5 Try.f5 Rows.arithSumsSpec Rows.arithSumsRow = true := by
  unfold joinedFacts
  simp only [Bool.and_eq_true]
  repeat' apply And.intro
  all_goals (as_aux_lemma => kernel_rfl)
theorem fname : Try.pinned.checked.prog.funcNamed Rows.arithSumsRow.func = some 5 := by kernel_rfl
theorem finst : Try.f5.isInstance Try.pinned.checked.prog Rows.arithSumsRow.origin Rows.arithSumsRow.targs := of_decide_eq_true (by kernel_rfl)
theorem fwrap : Try.f5.isWrapper Try.pinned.checked.prog Rows.arithSumsRow.wrapper Rows.arithSumsRow.mainSum := by
  unfold Func.isWrapper
  rw [if_neg (of_decide_eq_false (by kernel_rfl))]
  exact ⟨rfl, rfl⟩

theorem proved : Rows.ArithSumsSaid :=
  OpenClaim.holds_of_wide 5 Try.f5 rfl rfl rfl rfl rfl rfl rfl ⟨rfl, rfl, rfl, rfl, rfl⟩ rfl rfl rfl rfl rfl fname Try.func5 facts finst fwrap
    (fun os started H enc _ => lifted os started H enc)

#print axioms proved
end Go.Proofs.Ytgioliopoepaoaa.arithSums
