/-
  The statements of chapter 2: the examples at their head.
-/
import Derived.Test.YteikkoiaeejgaaaWideG
namespace Go.Proofs.Yteikkoiaeejgaaa
open Go.RowKit Go.Shelf

/-- A block of two words, of three. -/
structure Hd (w : World) (n : Nat) (x y : Int) : Prop where
  lt : n < w.heap.size
  c0 : w.cell? ⟨n, 0, none⟩ = some (.int .u64 x)
  c1 : w.cell? ⟨n, 1, none⟩ = some (.int .u64 y)
structure Hd3 (w : World) (n : Nat) (x y z : Int) : Prop where
  lt : n < w.heap.size
  c0 : w.cell? ⟨n, 0, none⟩ = some (.int .u64 x)
  c1 : w.cell? ⟨n, 1, none⟩ = some (.int .u64 y)
  c2 : w.cell? ⟨n, 2, none⟩ = some (.int .u64 z)
theorem Hd.below {w w' : World} {n : Nat} {x y : Int} (h : Hd w n x y) (hb : Below w.heap.size w w') : Hd w' n x y :=
  ⟨Nat.lt_of_lt_of_le h.lt hb.size, (hb.cell (p := ⟨n, 0, none⟩) h.lt).trans h.c0, (hb.cell (p := ⟨n, 1, none⟩) h.lt).trans h.c1⟩
theorem Hd3.below {w w' : World} {n : Nat} {x y z : Int} (h : Hd3 w n x y z) (hb : Below w.heap.size w w') : Hd3 w' n x y z :=
  ⟨Nat.lt_of_lt_of_le h.lt hb.size, (hb.cell (p := ⟨n, 0, none⟩) h.lt).trans h.c0, (hb.cell (p := ⟨n, 1, none⟩) h.lt).trans h.c1, (hb.cell (p := ⟨n, 2, none⟩) h.lt).trans h.c2⟩
theorem Hd.alloc {w : World} {n : Nat} {x y : Int} (h : Hd w n x y) (o : Obj) : Hd (w.alloc o) n x y := h.below ((Below.refl _ _).alloc (Nat.le_refl _) o)
theorem Hd3.alloc {w : World} {n : Nat} {x y z : Int} (h : Hd3 w n x y z) (o : Obj) : Hd3 (w.alloc o) n x y z := h.below ((Below.refl _ _).alloc (Nat.le_refl _) o)
theorem Hd.new (w : World) (x y : Int) (t : TypeId) : Hd (w.alloc (.cells #[.int .u64 x, .int .u64 y] t)) w.heap.size x y := ⟨by simp, by simp [go_sem], by simp [go_sem]⟩
theorem Hd3.new (w : World) (x y z : Int) (t : TypeId) : Hd3 (w.alloc (.cells #[.int .u64 x, .int .u64 y, .int .u64 z] t)) w.heap.size x y z := ⟨by simp, by simp [go_sem], by simp [go_sem], by simp [go_sem]⟩
theorem behind {B : Nat} {a w w' : World} (h : Below B a w) (hb : Below w.heap.size w w') (hB : B ≤ w.heap.size) : Below B a w' := h.trans (hb.mono hB)
theorem rt_10 : Pl.rt (num 0 10).toNat = 3 := (Pl.rt_unique (r := 3) (by decide) (by decide)).symm
theorem rt_2_64 : Pl.rt (num 1 0).toNat = 4294967296 := by
  have := Pl.rt_sq 4294967296
  have e : (num 1 0).toNat = 4294967296 * 4294967296 := by decide
  rw [e]; exact this

theorem ex2_0 (w : World) : Calls Try.prog 10 #[.agg #[.int .u64 18446744073709551615, .int .u64 18446744073709551615], .agg #[.int .u64 0, .int .u64 1]] w fun e w' => e = .returned (.tuple #[.agg #[.int .u64 0, .int .u64 0], .bool true]) ∧ Below w.heap.size w w' :=
  (wadd_any 18446744073709551615 18446744073709551615 0 1 w ⟨by decide, by decide⟩ ⟨by decide, by decide⟩ ⟨by decide, by decide⟩ ⟨by decide, by decide⟩).mono fun _ _ ⟨he, hb⟩ => ⟨he.trans (by kernel_rfl), hb⟩
theorem ex2_1 (w : World) : Calls Try.prog 12 #[.agg #[.int .u64 0, .int .u64 0], .agg #[.int .u64 0, .int .u64 1]] w fun e w' => e = .returned (.tuple #[.agg #[.int .u64 18446744073709551615, .int .u64 18446744073709551615], .bool true]) ∧ Below w.heap.size w w' :=
  (wsub_any 0 0 0 1 w ⟨by decide, by decide⟩ ⟨by decide, by decide⟩ ⟨by decide, by decide⟩ ⟨by decide, by decide⟩).mono fun _ _ ⟨he, hb⟩ => ⟨he.trans (by kernel_rfl), hb⟩
theorem ex2_2 (w : World) : Calls Try.prog 15 #[.int .u64 4294967296, .int .u64 4294967296] w fun e w' => e = .returned (.agg #[.int .u64 1, .int .u64 0]) ∧ Below w.heap.size w w' :=
  (wmul_any 4294967296 4294967296 w ⟨by decide, by decide⟩ ⟨by decide, by decide⟩).mono fun _ _ ⟨he, hb⟩ => ⟨he.trans (by kernel_rfl), hb⟩
theorem ex2_3 (w : World) : Calls Try.prog 15 #[.int .u64 18446744073709551615, .int .u64 18446744073709551615] w fun e w' => e = .returned (.agg #[.int .u64 18446744073709551614, .int .u64 1]) ∧ Below w.heap.size w w' :=
  (wmul_any 18446744073709551615 18446744073709551615 w ⟨by decide, by decide⟩ ⟨by decide, by decide⟩).mono fun _ _ ⟨he, hb⟩ => ⟨he.trans (by kernel_rfl), hb⟩
theorem ex2_4 (w : World) : Calls Try.prog 22 #[.agg #[.int .u64 1, .int .u64 0], .int .i64 64] w fun e w' => e = .returned (.tuple #[.agg #[.int .u64 0, .int .u64 1], .bool false]) ∧ Below w.heap.size w w' :=
  (shr_any 1 0 64 w ⟨by decide, by decide⟩ ⟨by decide, by decide⟩ (by decide)).mono fun _ _ ⟨he, hb⟩ => ⟨he.trans (by kernel_rfl), hb⟩
theorem ex2_5 (w : World) : Calls Try.prog 22 #[.agg #[.int .u64 0, .int .u64 3], .int .i64 1] w fun e w' => e = .returned (.tuple #[.agg #[.int .u64 0, .int .u64 1], .bool true]) ∧ Below w.heap.size w w' :=
  (shr_any 0 3 1 w ⟨by decide, by decide⟩ ⟨by decide, by decide⟩ (by decide)).mono fun _ _ ⟨he, hb⟩ => ⟨he.trans (by kernel_rfl), hb⟩
theorem ex2_6 (w : World) : Calls Try.prog 24 #[.agg #[.int .u64 0, .int .u64 1], .int .i64 64] w fun e w' => e = .returned (.agg #[.int .u64 1, .int .u64 0]) ∧ Below w.heap.size w w' :=
  (shl_any 0 1 64 w ⟨by decide, by decide⟩ ⟨by decide, by decide⟩ (by decide)).mono fun _ _ ⟨he, hb⟩ => ⟨he.trans (by kernel_rfl), hb⟩
theorem ex2_7 (w : World) : Calls Try.prog 24 #[.agg #[.int .u64 0, .int .u64 1], .int .i64 128] w fun e w' => e = .returned (.agg #[.int .u64 0, .int .u64 0]) ∧ Below w.heap.size w w' :=
  (shl_any 0 1 128 w ⟨by decide, by decide⟩ ⟨by decide, by decide⟩ (by decide)).mono fun _ _ ⟨he, hb⟩ => ⟨he.trans (by kernel_rfl), hb⟩
theorem ex2_8 (w : World) : Calls Try.prog 20 #[.agg #[.int .u64 1, .int .u64 0]] w fun e w' => e = .returned (.int .i64 65) ∧ Below w.heap.size w w' :=
  (wlen_any 1 0 w ⟨by decide, by decide⟩ ⟨by decide, by decide⟩).mono fun _ _ ⟨he, hb⟩ => ⟨he.trans (by kernel_rfl), hb⟩
theorem ex2_9 (w : World) : Calls Try.prog 26 #[.agg #[.int .u64 1, .int .u64 0], .int .u64 2] w fun e w' => e = .returned (.tuple #[.agg #[.int .u64 0, .int .u64 9223372036854775808], .int .u64 0, .int .i64 0]) ∧ Below w.heap.size w w' :=
  (wdiv_any 1 0 2 w (by decide) (by decide) (by decide) (by decide)).mono fun _ _ ⟨he, hb⟩ => ⟨he.trans (by kernel_rfl), hb⟩
theorem ex2_10 (w : World) : Calls Try.prog 26 #[.agg #[.int .u64 0, .int .u64 7], .int .u64 2] w fun e w' => e = .returned (.tuple #[.agg #[.int .u64 0, .int .u64 3], .int .u64 1, .int .i64 0]) ∧ Below w.heap.size w w' :=
  (wdiv_any 0 7 2 w (by decide) (by decide) (by decide) (by decide)).mono fun _ _ ⟨he, hb⟩ => ⟨he.trans (by kernel_rfl), hb⟩
theorem ex2_11 (w : World) : Calls Try.prog 26 #[.agg #[.int .u64 0, .int .u64 1], .int .u64 0] w fun e w' => e = .returned (.tuple #[.agg #[.int .u64 0, .int .u64 0], .int .u64 0, .int .i64 10]) ∧ Below w.heap.size w w' :=
  wdiv_zero 0 1 w
theorem ex2_12 (w : World) : Calls Try.prog 29 #[.agg #[.int .u64 0, .int .u64 10]] w fun e w' => e = .returned (.tuple #[.int .u64 3, .bool false]) ∧ Below w.heap.size w w' :=
  (root_any 0 10 w ⟨by decide, by decide⟩ ⟨by decide, by decide⟩).mono fun _ _ ⟨he, hb⟩ => ⟨by rw [he, rt_10]; rfl, hb⟩
theorem ex2_13 (w : World) : Calls Try.prog 29 #[.agg #[.int .u64 1, .int .u64 0]] w fun e w' => e = .returned (.tuple #[.int .u64 4294967296, .bool true]) ∧ Below w.heap.size w w' :=
  (root_any 1 0 w ⟨by decide, by decide⟩ ⟨by decide, by decide⟩).mono fun _ _ ⟨he, hb⟩ => ⟨by rw [he, rt_2_64]; rfl, hb⟩
theorem ex2_14 (w : World) : Calls Try.prog 31 #[.agg #[.int .u64 18446744073709551615, .int .u64 18446744073709551615], .int .u64 2] w fun e w' => e = .returned (.agg #[.int .u64 1, .int .u64 18446744073709551615, .int .u64 18446744073709551614]) ∧ Below w.heap.size w w' :=
  (times_any 18446744073709551615 18446744073709551615 2 w ⟨by decide, by decide⟩ ⟨by decide, by decide⟩ ⟨by decide, by decide⟩).mono fun _ _ ⟨he, hb⟩ => ⟨he.trans (by kernel_rfl), hb⟩
theorem ex2_15 (w : World) : Calls Try.prog 32 #[.agg #[.int .u64 1, .int .u64 18446744073709551615, .int .u64 18446744073709551614], .int .i64 1] w fun e w' => e = .returned (.tuple #[.agg #[.int .u64 0, .int .u64 18446744073709551615, .int .u64 18446744073709551615], .bool false]) ∧ Below w.heap.size w w' :=
  (drop_any 1 18446744073709551615 18446744073709551614 1 w ⟨by decide, by decide⟩ ⟨by decide, by decide⟩ ⟨by decide, by decide⟩ (by decide)).mono fun _ _ ⟨he, hb⟩ => ⟨he.trans (by kernel_rfl), hb⟩
theorem ex2_16 (w : World) : Calls Try.prog 32 #[.agg #[.int .u64 1, .int .u64 0, .int .u64 0], .int .i64 200] w fun e w' => e = .returned (.tuple #[.agg #[.int .u64 0, .int .u64 0, .int .u64 0], .bool true]) ∧ Below w.heap.size w w' :=
  (drop_any 1 0 0 200 w ⟨by decide, by decide⟩ ⟨by decide, by decide⟩ ⟨by decide, by decide⟩ (by decide)).mono fun _ _ ⟨he, hb⟩ => ⟨he.trans (by kernel_rfl), hb⟩

set_option maxRecDepth 100000 in
set_option maxHeartbeats 8000000 in
theorem shown2_any (w : World) : Calls Try.prog 8 #[] w fun e w' => e = .returned (.bool true) ∧ Below w.heap.size w w' := by
  go_enter Try.func8, Try.ntmps8
  go_wp2_with fail
  (with_reducible refine (ex2_0 _).mono ?_)
  rintro e w0 ⟨rfl, hb0⟩
  have hB : Below w.heap.size w w0 := hb0
  clear hb0
  go_wp2_with fail
  (with_reducible refine (ex2_1 _).mono ?_)
  rintro e w1 ⟨rfl, hb1⟩
  replace hB : Below w.heap.size w w1 := (behind (hB.alloc hB.size _) hb1 (Nat.le_trans hB.size (by simp)))
  have B_a := (Hd.new w0 0 0 _).below hb1
  clear hb1
  go_wp2_with fail
  (with_reducible refine (ex2_2 _).mono ?_)
  rintro e w2 ⟨rfl, hb2⟩
  replace hB : Below w.heap.size w w2 := (behind (hB.alloc hB.size _) hb2 (Nat.le_trans hB.size (by simp)))
  replace B_a := (B_a.alloc _).below hb2
  have B_b := (Hd.new w1 18446744073709551615 18446744073709551615 _).below hb2
  clear hb2
  go_wp2_with fail
  (with_reducible refine (ex2_3 _).mono ?_)
  rintro e w3 ⟨rfl, hb3⟩
  replace hB : Below w.heap.size w w3 := (behind (hB.alloc hB.size _) hb3 (Nat.le_trans hB.size (by simp)))
  replace B_a := (B_a.alloc _).below hb3
  replace B_b := (B_b.alloc _).below hb3
  have B_c := (Hd.new w2 1 0 _).below hb3
  clear hb3
  go_wp2_with fail
  (with_reducible refine (ex2_4 _).mono ?_)
  rintro e w4 ⟨rfl, hb4⟩
  replace hB : Below w.heap.size w w4 := (behind (hB.alloc hB.size _) hb4 (Nat.le_trans hB.size (by simp)))
  replace B_a := (B_a.alloc _).below hb4
  replace B_b := (B_b.alloc _).below hb4
  replace B_c := (B_c.alloc _).below hb4
  have B_d := (Hd.new w3 18446744073709551614 1 _).below hb4
  clear hb4
  go_wp2_with fail
  (with_reducible refine (ex2_5 _).mono ?_)
  rintro e w5 ⟨rfl, hb5⟩
  replace hB : Below w.heap.size w w5 := (behind (hB.alloc hB.size _) hb5 (Nat.le_trans hB.size (by simp)))
  replace B_a := (B_a.alloc _).below hb5
  replace B_b := (B_b.alloc _).below hb5
  replace B_c := (B_c.alloc _).below hb5
  replace B_d := (B_d.alloc _).below hb5
  have B_e := (Hd.new w4 0 1 _).below hb5
  clear hb5
  obtain ⟨za, aa0, aa1⟩ := id B_a
  obtain ⟨zb, bb0, bb1⟩ := id B_b
  obtain ⟨zc, cc0, cc1⟩ := id B_c
  obtain ⟨zd, dd0, dd1⟩ := id B_d
  obtain ⟨ze, ee0, ee1⟩ := id B_e
  go_wp2_with fail
  (with_reducible refine (ex2_6 _).mono ?_)
  rintro e w6 ⟨rfl, hb6⟩
  replace hB : Below w.heap.size w w6 := (behind (hB.alloc hB.size _) hb6 (Nat.le_trans hB.size (by simp)))
  replace B_a := (B_a.alloc _).below hb6
  replace B_b := (B_b.alloc _).below hb6
  replace B_c := (B_c.alloc _).below hb6
  replace B_d := (B_d.alloc _).below hb6
  replace B_e := (B_e.alloc _).below hb6
  have B_f := (Hd.new w5 0 1 _).below hb6
  clear hb6
  go_wp2_with fail
  (with_reducible refine (ex2_7 _).mono ?_)
  rintro e w7 ⟨rfl, hb7⟩
  replace hB : Below w.heap.size w w7 := (behind hB hb7 hB.size)
  replace B_a := B_a.below hb7
  replace B_b := B_b.below hb7
  replace B_c := B_c.below hb7
  replace B_d := B_d.below hb7
  replace B_e := B_e.below hb7
  replace B_f := B_f.below hb7
  clear hb7
  obtain ⟨ze, ee0, ee1⟩ := id B_e
  obtain ⟨zf, ff0, ff1⟩ := id B_f
  go_wp2_with fail
  (with_reducible refine (ex2_8 _).mono ?_)
  rintro e w8 ⟨rfl, hb8⟩
  replace hB : Below w.heap.size w w8 := (behind hB hb8 hB.size)
  replace B_a := B_a.below hb8
  replace B_b := B_b.below hb8
  replace B_c := B_c.below hb8
  replace B_d := B_d.below hb8
  replace B_e := B_e.below hb8
  replace B_f := B_f.below hb8
  clear hb8
  go_wp2_with fail
  (with_reducible refine (ex2_9 _).mono ?_)
  rintro e w9 ⟨rfl, hb9⟩
  replace hB : Below w.heap.size w w9 := (behind hB hb9 hB.size)
  replace B_a := B_a.below hb9
  replace B_b := B_b.below hb9
  replace B_c := B_c.below hb9
  replace B_d := B_d.below hb9
  replace B_e := B_e.below hb9
  replace B_f := B_f.below hb9
  clear hb9
  go_wp2_with fail
  (with_reducible refine (ex2_10 _).mono ?_)
  rintro e w10 ⟨rfl, hb10⟩
  replace hB : Below w.heap.size w w10 := (behind (hB.alloc hB.size _) hb10 (Nat.le_trans hB.size (by simp)))
  replace B_a := (B_a.alloc _).below hb10
  replace B_b := (B_b.alloc _).below hb10
  replace B_c := (B_c.alloc _).below hb10
  replace B_d := (B_d.alloc _).below hb10
  replace B_e := (B_e.alloc _).below hb10
  replace B_f := (B_f.alloc _).below hb10
  have B_g := (Hd.new w9 0 9223372036854775808 _).below hb10
  clear hb10
  go_wp2_with fail
  (with_reducible refine (ex2_11 _).mono ?_)
  rintro e w11 ⟨rfl, hb11⟩
  replace hB : Below w.heap.size w w11 := (behind (hB.alloc hB.size _) hb11 (Nat.le_trans hB.size (by simp)))
  replace B_a := (B_a.alloc _).below hb11
  replace B_b := (B_b.alloc _).below hb11
  replace B_c := (B_c.alloc _).below hb11
  replace B_d := (B_d.alloc _).below hb11
  replace B_e := (B_e.alloc _).below hb11
  replace B_f := (B_f.alloc _).below hb11
  replace B_g := (B_g.alloc _).below hb11
  have B_j := (Hd.new w10 0 3 _).below hb11
  clear hb11
  go_wp2_with fail
  (with_reducible refine (ex2_12 _).mono ?_)
  rintro e w12 ⟨rfl, hb12⟩
  replace hB : Below w.heap.size w w12 := (behind (hB.alloc hB.size _) hb12 (Nat.le_trans hB.size (by simp)))
  replace B_a := (B_a.alloc _).below hb12
  replace B_b := (B_b.alloc _).below hb12
  replace B_c := (B_c.alloc _).below hb12
  replace B_d := (B_d.alloc _).below hb12
  replace B_e := (B_e.alloc _).below hb12
  replace B_f := (B_f.alloc _).below hb12
  replace B_g := (B_g.alloc _).below hb12
  replace B_j := (B_j.alloc _).below hb12
  have B_u := (Hd.new w11 0 0 _).below hb12
  clear hb12
  go_wp2_with fail
  (with_reducible refine (ex2_13 _).mono ?_)
  rintro e w13 ⟨rfl, hb13⟩
  replace hB : Below w.heap.size w w13 := (behind hB hb13 hB.size)
  replace B_a := B_a.below hb13
  replace B_b := B_b.below hb13
  replace B_c := B_c.below hb13
  replace B_d := B_d.below hb13
  replace B_e := B_e.below hb13
  replace B_f := B_f.below hb13
  replace B_g := B_g.below hb13
  replace B_j := B_j.below hb13
  replace B_u := B_u.below hb13
  clear hb13
  go_wp2_with fail
  (with_reducible refine (ex2_14 _).mono ?_)
  rintro e w14 ⟨rfl, hb14⟩
  replace hB : Below w.heap.size w w14 := (behind hB hb14 hB.size)
  replace B_a := B_a.below hb14
  replace B_b := B_b.below hb14
  replace B_c := B_c.below hb14
  replace B_d := B_d.below hb14
  replace B_e := B_e.below hb14
  replace B_f := B_f.below hb14
  replace B_g := B_g.below hb14
  replace B_j := B_j.below hb14
  replace B_u := B_u.below hb14
  clear hb14
  go_wp2_with fail
  (with_reducible refine (ex2_15 _).mono ?_)
  rintro e w15 ⟨rfl, hb15⟩
  replace hB : Below w.heap.size w w15 := (behind (hB.alloc hB.size _) hb15 (Nat.le_trans hB.size (by simp)))
  replace B_a := (B_a.alloc _).below hb15
  replace B_b := (B_b.alloc _).below hb15
  replace B_c := (B_c.alloc _).below hb15
  replace B_d := (B_d.alloc _).below hb15
  replace B_e := (B_e.alloc _).below hb15
  replace B_f := (B_f.alloc _).below hb15
  replace B_g := (B_g.alloc _).below hb15
  replace B_j := (B_j.alloc _).below hb15
  replace B_u := (B_u.alloc _).below hb15
  have B_p := (Hd3.new w14 1 18446744073709551615 18446744073709551614 _).below hb15
  clear hb15
  go_wp2_with fail
  (with_reducible refine (ex2_16 _).mono ?_)
  rintro e w16 ⟨rfl, hb16⟩
  replace hB : Below w.heap.size w w16 := (behind (hB.alloc hB.size _) hb16 (Nat.le_trans hB.size (by simp)))
  replace B_a := (B_a.alloc _).below hb16
  replace B_b := (B_b.alloc _).below hb16
  replace B_c := (B_c.alloc _).below hb16
  replace B_d := (B_d.alloc _).below hb16
  replace B_e := (B_e.alloc _).below hb16
  replace B_f := (B_f.alloc _).below hb16
  replace B_g := (B_g.alloc _).below hb16
  replace B_j := (B_j.alloc _).below hb16
  replace B_u := (B_u.alloc _).below hb16
  replace B_p := (B_p.alloc _).below hb16
  have B_q := (Hd3.new w15 0 18446744073709551615 18446744073709551615 _).below hb16
  clear hb16
  obtain ⟨zg, gg0, gg1⟩ := id B_g
  obtain ⟨zj, jj0, jj1⟩ := id B_j
  obtain ⟨zp, pp0, pp1, pp2⟩ := id B_p
  obtain ⟨zq, qq0, qq1, qq2⟩ := id B_q
  go_wp2_with fail
  go_ret
  exact ⟨rfl, hB.alloc hB.size _⟩
end Go.Proofs.Yteikkoiaeejgaaa
