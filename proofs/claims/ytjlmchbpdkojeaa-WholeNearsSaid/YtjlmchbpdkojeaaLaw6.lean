/-
  The statements of chapter 6: the examples at their head; WholeOrders.
-/
import Derived.Test.YtjlmchbpdkojeaaWholeE
namespace Go.Proofs.Ytjlmchbpdkojeaa
open Go.RowKit Go.Shelf

set_option maxRecDepth 100000 in
set_option maxHeartbeats 8000000 in
theorem shown6_any (w : World) : Calls Try.prog 9 #[] w fun e w' => e = .returned (.bool true) ∧ Below w.heap.size w w' := by
  have j0 : cmpV 9223372036854775808 0 = 0 := by decide +kernel
  have j1 : cmpOk 9223372036854775808 0 = true := by decide +kernel
  have j2 : cmpV 13830554455654793216 4607182418800017408 = -1 := by decide +kernel
  have j3 : cmpOk 13830554455654793216 4607182418800017408 = true := by decide +kernel
  have j4 : cmpV 9221120237041090560 4607182418800017408 = 0 := by decide +kernel
  have j5 : cmpOk 9221120237041090560 4607182418800017408 = false := by decide +kernel
  have j6 : signI 9223372036854775808 = 0 := by decide +kernel
  have j7 : isW 4616752568008179712 = false := by decide +kernel
  have j8 : isW 4877398396442247168 = true := by decide +kernel
  have j9 : wholeI 4612811918334230528 0 = 4611686018427387904 := by decide +kernel
  have j10 : wholeI 4612811918334230528 1 = 4613937818241073152 := by decide +kernel
  have j11 : wholeI 13836183955189006336 4 = 13837309855095848960 := by decide +kernel
  have j12 : wholeI 13836183955189006336 5 = 13835058055282163712 := by decide +kernel
  have j13 : wholeI 13822447976325526323 5 = 9223372036854775808 := by decide +kernel
  have j14 : wholeI 4599075939470750515 3 = 4607182418800017408 := by decide +kernel
  have j15 : wholeI 4612811918334230528 6 = 0 := by decide +kernel
  have j16 : wholeE 0 = 0 := by decide +kernel
  have j17 : wholeE 1 = 0 := by decide +kernel
  have j18 : wholeE 4 = 0 := by decide +kernel
  have j19 : wholeE 5 = 0 := by decide +kernel
  have j20 : wholeE 3 = 0 := by decide +kernel
  have j21 : wholeE 6 = 1 := by decide +kernel
  have j22 : toI 4612811918334230528 0 = 2 := by decide +kernel
  have j23 : toE 4612811918334230528 0 = 0 := by decide +kernel
  have j24 : toI 4890909195324358656 2 = 0 := by decide +kernel
  have j25 : toE 4890909195324358656 2 = 6 := by decide +kernel
  have j26 : toI 9218868437227405312 2 = 0 := by decide +kernel
  have j27 : toE 9218868437227405312 2 = 11 := by decide +kernel
  have j28 : fromI 9007199254740993 = 4845873199050653696 := by decide +kernel
  have j29 : fromI (-9223372036854775808) = 14114281232179134464 := by decide +kernel
  have j30 : minI 9223372036854775808 0 = 9223372036854775808 := by decide +kernel
  have j31 : maxI 9223372036854775808 0 = 0 := by decide +kernel
  have j32 : minI 9221120237041090560 4607182418800017408 = 9221120237041090560 := by decide +kernel
  have j33 : maxI 18442240474082181120 4613937818241073152 = 4613937818241073152 := by decide +kernel
  have hB : Below w.heap.size w w := Below.refl _ _
  go_enter Try.func9, Try.ntmps9
  go_wp2_with (first
    | (go_at_call 10; (with_reducible refine (wcmp_any _ _ _ (Wd.mk (by decide) (by decide)) (Wd.mk (by decide) (by decide))).mono ?_); rintro e w' ⟨rfl, rfl⟩)
    | (go_at_call 12; (with_reducible refine (sign_any _ _ (Wd.mk (by decide) (by decide))).mono ?_); rintro e w' ⟨rfl, rfl⟩)
    | (go_at_call 16; (with_reducible refine (wmin_any _ _ _ (Wd.mk (by decide) (by decide)) (Wd.mk (by decide) (by decide))).mono ?_); rintro e w' ⟨rfl, rfl⟩)
    | (go_at_call 18; (with_reducible refine (wmax_any _ _ _ (Wd.mk (by decide) (by decide)) (Wd.mk (by decide) (by decide))).mono ?_); rintro e w' ⟨rfl, rfl⟩)
    | (go_at_call 14; (with_reducible refine (wis_any _ _ (Wd.mk (by decide) (by decide))).mono ?_); rintro e w1 ⟨rfl, hb⟩; replace hB := Bel.st hB hb; clear hb)
    | (go_at_call 20; (with_reducible refine (whole_any _ _ _ (Wd.mk (by decide) (by decide))).mono ?_); rintro e w1 ⟨rfl, hb⟩; replace hB := Bel.st hB hb; clear hb)
    | (go_at_call 24; (with_reducible refine (to6_any _ _ _ (Wd.mk (by decide) (by decide))).mono ?_); rintro e w1 ⟨rfl, hb⟩; replace hB := Bel.st hB hb; clear hb)
    | (go_at_call 22; (with_reducible refine (from6_any _ _ (by decide) (by decide)).mono ?_); rintro e w1 ⟨rfl, hb⟩; replace hB := Bel.st hB hb; clear hb))
  go_ret
  exact ⟨rfl, hB⟩
end Go.Proofs.Ytjlmchbpdkojeaa
