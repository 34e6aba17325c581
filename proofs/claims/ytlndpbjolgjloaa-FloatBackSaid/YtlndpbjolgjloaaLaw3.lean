/-
  The statements of chapter 3: the examples at their head.
-/
import Derived.Test.YtlndpbjolgjloaaFloatD
namespace Go.Proofs.Ytlndpbjolgjloaa
open Go.RowKit Go.Shelf

theorem below_step {a b c : World} (h : Below a.heap.size a b) (k : Below b.heap.size b c) : Below a.heap.size a c := h.trans (k.mono h.size)

set_option maxRecDepth 100000 in
set_option maxHeartbeats 4000000 in
theorem shown3_any (w : World) : Calls Try.prog 9 #[] w fun e w' => e = .returned (.bool true) ∧ Below w.heap.size w w' := by
  have k0 : kd 0 = 0 := by decide
  have k1 : kd 1 = 1 := by decide
  have k2 : kd 4607182418800017408 = 2 := by decide
  have k3 : kd 18442240474082181120 = 3 := by decide
  have k4 : kd 9218868437227405313 = 4 := by decide
  have s1 : sgn 13832806255468478464 = true := by decide
  have s2 : mant 13832806255468478464 = 6755399441055744 := by decide
  have s3 : expo 13832806255468478464 = -52 := by decide
  have s4 : sgn 5 = false := by decide
  have s5 : mant 5 = 5 := by decide
  have s6 : expo 5 = -1074 := by decide
  have j1 : fbits false (num 0 1).toNat 0 false = 4607182418800017408 := by decide +kernel
  have j2 : fbits true (num 0 3).toNat (-1) false = 13832806255468478464 := by decide +kernel
  have j3 : fbits false (num 0 1).toNat (-1075) false = 0 := by decide +kernel
  have j4 : fbits false (num 0 1).toNat (-1075) true = 1 := by decide +kernel
  have j5 : fbits false (num 0 9007199254740993).toNat 0 false = 4845873199050653696 := by decide +kernel
  have j6 : fbits false (num 0 9007199254740995).toNat 0 false = 4845873199050653698 := by decide +kernel
  have j7 : fbits false (num 0 9007199254740993).toNat 0 true = 4845873199050653697 := by decide +kernel
  have j8 : fbits false (num 0 1).toNat 1024 false = 9218868437227405312 := by decide +kernel
  have n1 : nextI 0 = 1 := by decide
  have n2 : nextI 9223372036854775808 = 1 := by decide
  have n3 : nextI 9218868437227405311 = 9218868437227405312 := by decide
  have n4 : nextI 18442240474082181120 = 18442240474082181119 := by decide
  have n5 : nextI 9223372036854775809 = 9223372036854775808 := by decide
  have p1 : prevI 0 = 9223372036854775809 := by decide
  have p2 : negI 9218868437227405313 = 9221120237041090560 := by decide
  have hB : Below w.heap.size w w := Below.refl _ _
  go_enter Try.func9, Try.ntmps9
  go_wp2_with (first
    | (go_at_call 13; refine (kind_any _ _ (Wd.mk (by decide) (by decide))).mono ?_; rintro e w' ⟨rfl, rfl⟩)
    | (go_at_call 16; refine (split_any _ _ (Wd.mk (by decide) (by decide))).mono ?_; rintro e w' ⟨rfl, rfl⟩)
    | (go_at_call 10; refine (join_any _ _ _ _ _ _ (Wd.mk (by decide) (by decide)) (Wd.mk (by decide) (by decide)) (by decide) (by decide)).mono ?_; rintro e w1 ⟨rfl, hb⟩; replace hB := below_step hB hb; clear hb)
    | (go_at_call 14; refine (next_any _ _ (Wd.mk (by decide) (by decide))).mono ?_; rintro e w' ⟨rfl, rfl⟩)
    | (go_at_call 15; refine (prev_any _ _ (Wd.mk (by decide) (by decide))).mono ?_; rintro e w' ⟨rfl, rfl⟩)
    | (go_at_call 22; refine (neg_any _ _ (Wd.mk (by decide) (by decide))).mono ?_; rintro e w' ⟨rfl, rfl⟩))
  go_ret
  exact ⟨rfl, hB⟩
end Go.Proofs.Ytlndpbjolgjloaa
