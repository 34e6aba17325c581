/-
  Proved: ArithSums: any list of numbers is added up from the front, as the reference does: the law returns true. No condition.
-/
import Derived.Test.YtgioliopoepaoaaRowW
import Derived.Test.YtgioliopoepaoaaLaw4B
namespace Go.Proofs.Ytgioliopoepaoaa.arithSums
open Go.ChangeShapes Go.WideShapes Go.ChangeAt Go.RowKit Go.Joins

set_option maxRecDepth 100000 in
set_option maxHeartbeats 8000000 in
theorem facts : joinedFacts Try.pinned.checked.prog 5 Try.f5 Rows.arithSumsSpec Rows.arithSumsRow = true := by
  unfold joinedFacts
  simp only [Bool.and_eq_true]
  repeat' apply And.intro
  all_goals (as_aux_lemma => kernel_rfl)
theorem fname : Try.pinned.checked.prog.funcNamed Rows.arithSumsRow.func = some 5 := by kernel_rfl
theorem finst : Try.f5.isInstance Try.pinned.checked.prog Rows.arithSumsRow.origin Rows.arithSumsRow.targs := of_decide_eq_true (by kernel_rfl)
theorem fwrap : Try.f5.isWrapper Try.pinned.checked.prog Rows.arithSumsRow.wrapper Rows.arithSumsRow.mainSum := by
  unfold Func.isWrapper
  rw [if_neg (of_decide_eq_false (by kernel_rfl))]
  exact ⟨rfl, rfl⟩

end Go.Proofs.Ytgioliopoepaoaa.arithSums
