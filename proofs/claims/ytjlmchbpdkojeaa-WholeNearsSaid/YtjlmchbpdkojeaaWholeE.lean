/-
  The walk of whole.To.
-/
import Derived.Test.YtjlmchbpdkojeaaWholeD
namespace Go.Proofs.Ytjlmchbpdkojeaa
open Go.RowKit Go.Shelf

def natW (x way : Int) : Nat := if 0 ≤ expo x then (mant x).toNat * 2 ^ (expo x).toNat else roundW (spW x) way
def toV (s : Bool) (N : Nat) : Int := if s = true ∧ N ≤ 9223372036854775808 then -(N : Int) else if s = false ∧ N < 9223372036854775808 then N else 0
def toX (s : Bool) (N : Nat) : Int := if s = true ∧ N ≤ 9223372036854775808 then 0 else if s = false ∧ N < 9223372036854775808 then 0 else 6
def toI (x way : Int) : Int := if way < 0 ∨ 5 < way then 0 else if 3 ≤ kd x then 0 else toV (sgn x) (natW x way)
def toE (x way : Int) : Int := if way < 0 ∨ 5 < way then 1 else if 3 ≤ kd x then 11 else toX (sgn x) (natW x way)
theorem ret_ii {a b c d : Int} (h1 : a = c) (h2 : b = d) : Ending.returned (.tuple #[.int .i64 a, .int .i64 b]) = .returned (.tuple #[.int .i64 c, .int .i64 d]) := by rw [h1, h2]
theorem Sp4.setq {w : World} {n : Nat} {a b c d : Value} (h : Sp4 w n a b c d) (u : Value) : Sp4 (w.setCell ⟨n, 3, none⟩ u) n a b c u := by
  refine ⟨by simpa using h.lt, ?_, ?_, ?_, World.cell?_setCell_same _ _ _ h.c3, by simpa using h.f3⟩
  · exact (World.cell?_setCell_other _ _ _ _ (fun e => by have := congrArg Addr.off e; simp at this)).trans h.c0
  · exact (World.cell?_setCell_other _ _ _ _ (fun e => by have := congrArg Addr.off e; simp at this)).trans h.c1
  · exact (World.cell?_setCell_other _ _ _ _ (fun e => by have := congrArg Addr.off e; simp at this)).trans h.c2
theorem Sp4.alloc {w : World} {n : Nat} {a b c d : Value} (h : Sp4 w n a b c d) (o : Obj) : Sp4 (w.alloc o) n a b c d := h.below ((Below.refl _ _).alloc (Nat.le_refl _) o)

set_option maxRecDepth 100000 in
set_option maxHeartbeats 2000000 in
theorem to_bad (x way : Int) (w : World) (hx : Wd x) (h : way < 0 ∨ 5 < way ∨ 3 ≤ kd x) : Calls Try.prog 24 #[.int .u64 x, .int .i64 way] w fun e w' => e = .returned (.tuple #[.int .i64 (toI x way), .int .i64 (toE x way)]) ∧ Below w.heap.size w w' := by
  have CK := fun v => kind_any x v hx
  unfold toI toE
  obtain ⟨k, hk⟩ : ∃ k, kd x = k := ⟨_, rfl⟩
  rw [hk] at CK h ⊢
  replace CK := Lib.hid CK
  clear hk hx
  by_cases h1 : way < 0
  · rw [if_pos (.inl h1), if_pos (.inl h1)]
    clear h
    go_enter Try.func24, Try.ntmps24
    go_wp2
    go_ret2
    exact ⟨rfl, Bel.re _⟩
  · by_cases h2 : 5 < way
    · rw [if_pos (.inr h2), if_pos (.inr h2)]
      clear h
      go_enter Try.func24, Try.ntmps24
      go_wp2
      go_ret2
      exact ⟨rfl, Bel.re _⟩
    · have h3 : 3 ≤ k := by omega
      have hnw : ¬ (way < 0 ∨ 5 < way) := by omega
      rw [if_neg hnw, if_neg hnw, if_pos h3, if_pos h3]
      clear hnw
      clear h
      go_enter Try.func24, Try.ntmps24
      go_wp2_with (go_at_call 29; (with_reducible refine (CK.out _).mono ?_); rintro e w' ⟨rfl, rfl⟩)
      go_ret2
      exact ⟨rfl, Bel.re _⟩
theorem kd_low' {x : Int} (h : kd x ≤ 2) (h2 : -1074 < expo x) : 4503599627370496 ≤ mant x := by
  unfold expo at h2
  unfold mant
  by_cases h1 : kd x ≤ 1
  · rw [if_pos h1] at h2; omega
  · rw [if_neg h1, if_pos (by omega)]; omega
set_option maxRecDepth 100000 in
set_option maxHeartbeats 4000000 in
theorem to_small0 (x way : Int) {k Z : Int} {N q : Nat} {h r : Bool} (w : World) (h0 : 0 ≤ way) (h5 : way ≤ 5) (h3 : k < 3) (hN64 : N < 18446744073709551616) (CO : ∀ v, Calls Try.prog 33 #[.int .u64 x] v fun e w' => e = .returned (.tuple #[.agg #[.bool true, .bool h, .bool r, .int .u64 q], .bool true]) ∧ Below v.heap.size v w') (CR : ∀ v, Calls Try.prog 38 #[.agg #[.bool true, .bool h, .bool r, .int .u64 q], .int .i64 way] v fun e w' => e = .returned (.int .u64 Z) ∧ Below v.heap.size v w') (hZ : Z = (N : Int)) (hN : N ≤ 9223372036854775808)
    (CK : ∀ v, Calls Try.prog 29 #[.int .u64 x] v fun e w' => e = .returned (.int .i64 k) ∧ v = w') :
    Calls Try.prog 24 #[.int .u64 x, .int .i64 way] w fun e w' => e = .returned (.tuple #[.int .i64 (toV true N), .int .i64 (toX true N)]) ∧ Below w.heap.size w w' := by
  have hv := Lib.hid (show toV true N = -(N : Int) by unfold toV; simp; try omega)
  have he := Lib.hid (show toX true N = 0 by unfold toX; simp; try omega)
  obtain ⟨M, hM⟩ : ∃ M : Int, (-Z) % 18446744073709551616 = M := ⟨_, rfl⟩
  have hneg : IntKind.u64.wrap (-Z) = M := by rw [IntKind.wrap_u64]; omega
  have hconv : IntKind.i64.wrap M = -Z := by rw [IntKind.wrap_i64]; omega
  have hM0 : 0 ≤ M ∧ M < 18446744073709551616 := by omega
  obtain ⟨hM1, hM2⟩ := hM0
  clear hM
  have hN1 : Z < 18446744073709551616 := by omega
  have hN0 : 0 ≤ Z := by omega
  replace CO := Lib.hid CO
  replace CK := Lib.hid CK
  replace CR := Lib.hid CR
  have hNi : Z ≤ 9223372036854775808 := by omega
  have HZ := Lib.hid hZ
  have w1' : decide (way < 0) = false := by simp; omega
  have w2' : decide (5 < way) = false := by simp; omega
  have w3' : decide (3 ≤ k) = false := by simp; omega
  clear hN hN64 hZ h0 h5 h3
  go_enter Try.func24, Try.ntmps24
  go_wp2_with fail
  (with_reducible refine (CK.out _).mono ?_)
  rintro e w' ⟨rfl, rfl⟩
  go_wp2_with fail
  (with_reducible refine (CO.out _).mono ?_)
  rintro e w1 ⟨rfl, hb1⟩
  have T := Sp4.new w1 (.bool true) (.bool h) (.bool r) (.int .u64 (q : Int)) 43
  go_wp2_with fail
  (with_reducible refine (CR.out _).mono ?_)
  rintro e w2 ⟨rfl, hb2⟩
  have hB := Bel.st (Bel.al hb1 _) hb2
  have hbs : w.heap.size ≤ w1.heap.size := hb1.size
  replace T := T.below hb2
  obtain ⟨z, c0, c1, c2, c3, f3⟩ := id T
  have T2 := T.setq (.int .u64 Z)
  obtain ⟨z', c0', c1', c2', c3', f3'⟩ := id T2
  clear hb1 hb2 T T2
  go_wp2_with fail
  go_ret2
  exact ⟨ret_ii (by rw [hv.out, HZ.out]) (by rw [he.out]), hB.setCell hbs _⟩
set_option maxRecDepth 100000 in
set_option maxHeartbeats 4000000 in
theorem to_small1 (x way : Int) {k Z : Int} {N q : Nat} {h r : Bool} (w : World) (h0 : 0 ≤ way) (h5 : way ≤ 5) (h3 : k < 3) (hN64 : N < 18446744073709551616) (CO : ∀ v, Calls Try.prog 33 #[.int .u64 x] v fun e w' => e = .returned (.tuple #[.agg #[.bool true, .bool h, .bool r, .int .u64 q], .bool true]) ∧ Below v.heap.size v w') (CR : ∀ v, Calls Try.prog 38 #[.agg #[.bool true, .bool h, .bool r, .int .u64 q], .int .i64 way] v fun e w' => e = .returned (.int .u64 Z) ∧ Below v.heap.size v w') (hZ : Z = (N : Int)) (hN : 9223372036854775808 < N)
    (CK : ∀ v, Calls Try.prog 29 #[.int .u64 x] v fun e w' => e = .returned (.int .i64 k) ∧ v = w') :
    Calls Try.prog 24 #[.int .u64 x, .int .i64 way] w fun e w' => e = .returned (.tuple #[.int .i64 (toV true N), .int .i64 (toX true N)]) ∧ Below w.heap.size w w' := by
  have hv := Lib.hid (show toV true N = 0 by unfold toV; simp; try omega)
  have he := Lib.hid (show toX true N = 6 by unfold toX; simp; try omega)
  have hN1 : Z < 18446744073709551616 := by omega
  have hN0 : 0 ≤ Z := by omega
  replace CO := Lib.hid CO
  replace CK := Lib.hid CK
  replace CR := Lib.hid CR
  have hNi : (9223372036854775808 : Int) < Z := by omega
  have HZ := Lib.hid hZ
  have w1' : decide (way < 0) = false := by simp; omega
  have w2' : decide (5 < way) = false := by simp; omega
  have w3' : decide (3 ≤ k) = false := by simp; omega
  clear hN hN64 hZ h0 h5 h3
  go_enter Try.func24, Try.ntmps24
  go_wp2_with fail
  (with_reducible refine (CK.out _).mono ?_)
  rintro e w' ⟨rfl, rfl⟩
  go_wp2_with fail
  (with_reducible refine (CO.out _).mono ?_)
  rintro e w1 ⟨rfl, hb1⟩
  have T := Sp4.new w1 (.bool true) (.bool h) (.bool r) (.int .u64 (q : Int)) 43
  go_wp2_with fail
  (with_reducible refine (CR.out _).mono ?_)
  rintro e w2 ⟨rfl, hb2⟩
  have hB := Bel.st (Bel.al hb1 _) hb2
  have hbs : w.heap.size ≤ w1.heap.size := hb1.size
  replace T := T.below hb2
  obtain ⟨z, c0, c1, c2, c3, f3⟩ := id T
  have T2 := T.setq (.int .u64 Z)
  obtain ⟨z', c0', c1', c2', c3', f3'⟩ := id T2
  clear hb1 hb2 T T2
  go_wp2_with fail
  go_ret2
  exact ⟨ret_ii (by rw [hv.out]) (by rw [he.out]), hB.setCell hbs _⟩
set_option maxRecDepth 100000 in
set_option maxHeartbeats 4000000 in
theorem to_small2 (x way : Int) {k Z : Int} {N q : Nat} {h r : Bool} (w : World) (h0 : 0 ≤ way) (h5 : way ≤ 5) (h3 : k < 3) (hN64 : N < 18446744073709551616) (CO : ∀ v, Calls Try.prog 33 #[.int .u64 x] v fun e w' => e = .returned (.tuple #[.agg #[.bool false, .bool h, .bool r, .int .u64 q], .bool true]) ∧ Below v.heap.size v w') (CR : ∀ v, Calls Try.prog 38 #[.agg #[.bool false, .bool h, .bool r, .int .u64 q], .int .i64 way] v fun e w' => e = .returned (.int .u64 Z) ∧ Below v.heap.size v w') (hZ : Z = (N : Int)) (hN : N < 9223372036854775808)
    (CK : ∀ v, Calls Try.prog 29 #[.int .u64 x] v fun e w' => e = .returned (.int .i64 k) ∧ v = w') :
    Calls Try.prog 24 #[.int .u64 x, .int .i64 way] w fun e w' => e = .returned (.tuple #[.int .i64 (toV false N), .int .i64 (toX false N)]) ∧ Below w.heap.size w w' := by
  have hv := Lib.hid (show toV false N = (N : Int) by unfold toV; simp; try omega)
  have he := Lib.hid (show toX false N = 0 by unfold toX; simp; try omega)
  have hN1 : Z < 18446744073709551616 := by omega
  have hN0 : 0 ≤ Z := by omega
  replace CO := Lib.hid CO
  replace CK := Lib.hid CK
  replace CR := Lib.hid CR
  have hNi : Z < 9223372036854775808 := by omega
  have HZ := Lib.hid hZ
  have w1' : decide (way < 0) = false := by simp; omega
  have w2' : decide (5 < way) = false := by simp; omega
  have w3' : decide (3 ≤ k) = false := by simp; omega
  clear hN hN64 hZ h0 h5 h3
  go_enter Try.func24, Try.ntmps24
  go_wp2_with fail
  (with_reducible refine (CK.out _).mono ?_)
  rintro e w' ⟨rfl, rfl⟩
  go_wp2_with fail
  (with_reducible refine (CO.out _).mono ?_)
  rintro e w1 ⟨rfl, hb1⟩
  have T := Sp4.new w1 (.bool false) (.bool h) (.bool r) (.int .u64 (q : Int)) 43
  go_wp2_with fail
  (with_reducible refine (CR.out _).mono ?_)
  rintro e w2 ⟨rfl, hb2⟩
  have hB := Bel.st (Bel.al hb1 _) hb2
  have hbs : w.heap.size ≤ w1.heap.size := hb1.size
  replace T := T.below hb2
  obtain ⟨z, c0, c1, c2, c3, f3⟩ := id T
  have T2 := T.setq (.int .u64 Z)
  obtain ⟨z', c0', c1', c2', c3', f3'⟩ := id T2
  clear hb1 hb2 T T2
  go_wp2_with fail
  go_ret2
  exact ⟨ret_ii (by rw [hv.out, HZ.out]) (by rw [he.out]), hB.setCell hbs _⟩
set_option maxRecDepth 100000 in
set_option maxHeartbeats 4000000 in
theorem to_small3 (x way : Int) {k Z : Int} {N q : Nat} {h r : Bool} (w : World) (h0 : 0 ≤ way) (h5 : way ≤ 5) (h3 : k < 3) (hN64 : N < 18446744073709551616) (CO : ∀ v, Calls Try.prog 33 #[.int .u64 x] v fun e w' => e = .returned (.tuple #[.agg #[.bool false, .bool h, .bool r, .int .u64 q], .bool true]) ∧ Below v.heap.size v w') (CR : ∀ v, Calls Try.prog 38 #[.agg #[.bool false, .bool h, .bool r, .int .u64 q], .int .i64 way] v fun e w' => e = .returned (.int .u64 Z) ∧ Below v.heap.size v w') (hZ : Z = (N : Int)) (hN : 9223372036854775808 ≤ N)
    (CK : ∀ v, Calls Try.prog 29 #[.int .u64 x] v fun e w' => e = .returned (.int .i64 k) ∧ v = w') :
    Calls Try.prog 24 #[.int .u64 x, .int .i64 way] w fun e w' => e = .returned (.tuple #[.int .i64 (toV false N), .int .i64 (toX false N)]) ∧ Below w.heap.size w w' := by
  have hv := Lib.hid (show toV false N = 0 by unfold toV; simp; try omega)
  have he := Lib.hid (show toX false N = 6 by unfold toX; simp; try omega)
  have hN1 : Z < 18446744073709551616 := by omega
  have hN0 : 0 ≤ Z := by omega
  replace CO := Lib.hid CO
  replace CK := Lib.hid CK
  replace CR := Lib.hid CR
  have hNi : (9223372036854775808 : Int) ≤ Z := by omega
  have HZ := Lib.hid hZ
  have w1' : decide (way < 0) = false := by simp; omega
  have w2' : decide (5 < way) = false := by simp; omega
  have w3' : decide (3 ≤ k) = false := by simp; omega
  clear hN hN64 hZ h0 h5 h3
  go_enter Try.func24, Try.ntmps24
  go_wp2_with fail
  (with_reducible refine (CK.out _).mono ?_)
  rintro e w' ⟨rfl, rfl⟩
  go_wp2_with fail
  (with_reducible refine (CO.out _).mono ?_)
  rintro e w1 ⟨rfl, hb1⟩
  have T := Sp4.new w1 (.bool false) (.bool h) (.bool r) (.int .u64 (q : Int)) 43
  go_wp2_with fail
  (with_reducible refine (CR.out _).mono ?_)
  rintro e w2 ⟨rfl, hb2⟩
  have hB := Bel.st (Bel.al hb1 _) hb2
  have hbs : w.heap.size ≤ w1.heap.size := hb1.size
  replace T := T.below hb2
  obtain ⟨z, c0, c1, c2, c3, f3⟩ := id T
  have T2 := T.setq (.int .u64 Z)
  obtain ⟨z', c0', c1', c2', c3', f3'⟩ := id T2
  clear hb1 hb2 T T2
  go_wp2_with fail
  go_ret2
  exact ⟨ret_ii (by rw [hv.out]) (by rw [he.out]), hB.setCell hbs _⟩
set_option maxRecDepth 100000 in
set_option maxHeartbeats 4000000 in
theorem to_big0 (x way : Int) {k Z m ex : Int} {N q : Nat} {h r : Bool} (w : World) (h0 : 0 ≤ way) (h5 : way ≤ 5) (h3 : k < 3) (hN64 : N < 18446744073709551616) (CO : ∀ v, Calls Try.prog 33 #[.int .u64 x] v fun e w' => e = .returned (.tuple #[.agg #[.bool true, .bool h, .bool r, .int .u64 q], .bool false]) ∧ Below v.heap.size v w') (CR : ∀ v, Calls Try.prog 43 #[.int .u64 x] v fun e w' => e = .returned (.tuple #[.bool true, .int .u64 m, .int .i64 ex]) ∧ v = w') (hex : 0 ≤ ex ∧ ex ≤ 11) (hsh : ∀ j : Nat, ex = j → IntKind.u64.wrap (m * 2 ^ j) = Z) (hZ : Z = (N : Int)) (hN : N ≤ 9223372036854775808)
    (CK : ∀ v, Calls Try.prog 29 #[.int .u64 x] v fun e w' => e = .returned (.int .i64 k) ∧ v = w') :
    Calls Try.prog 24 #[.int .u64 x, .int .i64 way] w fun e w' => e = .returned (.tuple #[.int .i64 (toV true N), .int .i64 (toX true N)]) ∧ Below w.heap.size w w' := by
  have hv := Lib.hid (show toV true N = -(N : Int) by unfold toV; simp; try omega)
  have he := Lib.hid (show toX true N = 0 by unfold toX; simp; try omega)
  obtain ⟨M, hM⟩ : ∃ M : Int, (-Z) % 18446744073709551616 = M := ⟨_, rfl⟩
  have hneg : IntKind.u64.wrap (-Z) = M := by rw [IntKind.wrap_u64]; omega
  have hconv : IntKind.i64.wrap M = -Z := by rw [IntKind.wrap_i64]; omega
  have hM0 : 0 ≤ M ∧ M < 18446744073709551616 := by omega
  obtain ⟨hM1, hM2⟩ := hM0
  clear hM
  have hN1 : Z < 18446744073709551616 := by omega
  have hN0 : 0 ≤ Z := by omega
  replace CO := Lib.hid CO
  replace CK := Lib.hid CK
  obtain ⟨j, hj⟩ : ∃ j : Nat, ex = j := ⟨ex.toNat, by omega⟩
  have hshj := hsh j hj
  have j11 : (j : Int) ≤ 11 := by omega
  subst hj
  have j12 : decide ((11 : Int) < (j : Int)) = false := by simp; omega
  replace CR := Lib.hid CR
  have hNi : Z ≤ 9223372036854775808 := by omega
  have HZ := Lib.hid hZ
  have w1' : decide (way < 0) = false := by simp; omega
  have w2' : decide (5 < way) = false := by simp; omega
  have w3' : decide (3 ≤ k) = false := by simp; omega
  clear hN hN64 hZ h0 h5 h3 hsh hex
  go_enter Try.func24, Try.ntmps24
  go_wp2_with fail
  (with_reducible refine (CK.out _).mono ?_)
  rintro e w' ⟨rfl, rfl⟩
  go_wp2_with fail
  (with_reducible refine (CO.out _).mono ?_)
  rintro e w1 ⟨rfl, hb1⟩
  have T := Sp4.new w1 (.bool true) (.bool h) (.bool r) (.int .u64 (q : Int)) 43
  go_wp2_with fail
  (with_reducible refine (CR.out _).mono ?_)
  rintro e w2 ⟨rfl, rfl⟩
  have hB := Bel.al hb1 (.cells #[.bool true, .bool h, .bool r, .int .u64 (q : Int)] 43)
  have hbs : w.heap.size ≤ w1.heap.size := hb1.size
  generalize World.alloc w1 _ = W at T hB ⊢
  obtain ⟨z, c0, c1, c2, c3, f3⟩ := id T
  have T2 := T.setq (.int .u64 Z)
  obtain ⟨z', c0', c1', c2', c3', f3'⟩ := id T2
  clear hb1 T T2
  go_wp2_with fail
  go_ret2
  exact ⟨ret_ii (by rw [hv.out, HZ.out]) (by rw [he.out]), hB.setCell hbs _⟩
set_option maxRecDepth 100000 in
set_option maxHeartbeats 4000000 in
theorem to_big1 (x way : Int) {k Z m ex : Int} {N q : Nat} {h r : Bool} (w : World) (h0 : 0 ≤ way) (h5 : way ≤ 5) (h3 : k < 3) (hN64 : N < 18446744073709551616) (CO : ∀ v, Calls Try.prog 33 #[.int .u64 x] v fun e w' => e = .returned (.tuple #[.agg #[.bool true, .bool h, .bool r, .int .u64 q], .bool false]) ∧ Below v.heap.size v w') (CR : ∀ v, Calls Try.prog 43 #[.int .u64 x] v fun e w' => e = .returned (.tuple #[.bool true, .int .u64 m, .int .i64 ex]) ∧ v = w') (hex : 0 ≤ ex ∧ ex ≤ 11) (hsh : ∀ j : Nat, ex = j → IntKind.u64.wrap (m * 2 ^ j) = Z) (hZ : Z = (N : Int)) (hN : 9223372036854775808 < N)
    (CK : ∀ v, Calls Try.prog 29 #[.int .u64 x] v fun e w' => e = .returned (.int .i64 k) ∧ v = w') :
    Calls Try.prog 24 #[.int .u64 x, .int .i64 way] w fun e w' => e = .returned (.tuple #[.int .i64 (toV true N), .int .i64 (toX true N)]) ∧ Below w.heap.size w w' := by
  have hv := Lib.hid (show toV true N = 0 by unfold toV; simp; try omega)
  have he := Lib.hid (show toX true N = 6 by unfold toX; simp; try omega)
  have hN1 : Z < 18446744073709551616 := by omega
  have hN0 : 0 ≤ Z := by omega
  replace CO := Lib.hid CO
  replace CK := Lib.hid CK
  obtain ⟨j, hj⟩ : ∃ j : Nat, ex = j := ⟨ex.toNat, by omega⟩
  have hshj := hsh j hj
  have j11 : (j : Int) ≤ 11 := by omega
  subst hj
  have j12 : decide ((11 : Int) < (j : Int)) = false := by simp; omega
  replace CR := Lib.hid CR
  have hNi : (9223372036854775808 : Int) < Z := by omega
  have HZ := Lib.hid hZ
  have w1' : decide (way < 0) = false := by simp; omega
  have w2' : decide (5 < way) = false := by simp; omega
  have w3' : decide (3 ≤ k) = false := by simp; omega
  clear hN hN64 hZ h0 h5 h3 hsh hex
  go_enter Try.func24, Try.ntmps24
  go_wp2_with fail
  (with_reducible refine (CK.out _).mono ?_)
  rintro e w' ⟨rfl, rfl⟩
  go_wp2_with fail
  (with_reducible refine (CO.out _).mono ?_)
  rintro e w1 ⟨rfl, hb1⟩
  have T := Sp4.new w1 (.bool true) (.bool h) (.bool r) (.int .u64 (q : Int)) 43
  go_wp2_with fail
  (with_reducible refine (CR.out _).mono ?_)
  rintro e w2 ⟨rfl, rfl⟩
  have hB := Bel.al hb1 (.cells #[.bool true, .bool h, .bool r, .int .u64 (q : Int)] 43)
  have hbs : w.heap.size ≤ w1.heap.size := hb1.size
  generalize World.alloc w1 _ = W at T hB ⊢
  obtain ⟨z, c0, c1, c2, c3, f3⟩ := id T
  have T2 := T.setq (.int .u64 Z)
  obtain ⟨z', c0', c1', c2', c3', f3'⟩ := id T2
  clear hb1 T T2
  go_wp2_with fail
  go_ret2
  exact ⟨ret_ii (by rw [hv.out]) (by rw [he.out]), hB.setCell hbs _⟩
set_option maxRecDepth 100000 in
set_option maxHeartbeats 4000000 in
theorem to_big2 (x way : Int) {k Z m ex : Int} {N q : Nat} {h r : Bool} (w : World) (h0 : 0 ≤ way) (h5 : way ≤ 5) (h3 : k < 3) (hN64 : N < 18446744073709551616) (CO : ∀ v, Calls Try.prog 33 #[.int .u64 x] v fun e w' => e = .returned (.tuple #[.agg #[.bool false, .bool h, .bool r, .int .u64 q], .bool false]) ∧ Below v.heap.size v w') (CR : ∀ v, Calls Try.prog 43 #[.int .u64 x] v fun e w' => e = .returned (.tuple #[.bool false, .int .u64 m, .int .i64 ex]) ∧ v = w') (hex : 0 ≤ ex ∧ ex ≤ 11) (hsh : ∀ j : Nat, ex = j → IntKind.u64.wrap (m * 2 ^ j) = Z) (hZ : Z = (N : Int)) (hN : N < 9223372036854775808)
    (CK : ∀ v, Calls Try.prog 29 #[.int .u64 x] v fun e w' => e = .returned (.int .i64 k) ∧ v = w') :
    Calls Try.prog 24 #[.int .u64 x, .int .i64 way] w fun e w' => e = .returned (.tuple #[.int .i64 (toV false N), .int .i64 (toX false N)]) ∧ Below w.heap.size w w' := by
  have hv := Lib.hid (show toV false N = (N : Int) by unfold toV; simp; try omega)
  have he := Lib.hid (show toX false N = 0 by unfold toX; simp; try omega)
  have hN1 : Z < 18446744073709551616 := by omega
  have hN0 : 0 ≤ Z := by omega
  replace CO := Lib.hid CO
  replace CK := Lib.hid CK
  obtain ⟨j, hj⟩ : ∃ j : Nat, ex = j := ⟨ex.toNat, by omega⟩
  have hshj := hsh j hj
  have j11 : (j : Int) ≤ 11 := by omega
  subst hj
  have j12 : decide ((11 : Int) < (j : Int)) = false := by simp; omega
  replace CR := Lib.hid CR
  have hNi : Z < 9223372036854775808 := by omega
  have HZ := Lib.hid hZ
  have w1' : decide (way < 0) = false := by simp; omega
  have w2' : decide (5 < way) = false := by simp; omega
  have w3' : decide (3 ≤ k) = false := by simp; omega
  clear hN hN64 hZ h0 h5 h3 hsh hex
  go_enter Try.func24, Try.ntmps24
  go_wp2_with fail
  (with_reducible refine (CK.out _).mono ?_)
  rintro e w' ⟨rfl, rfl⟩
  go_wp2_with fail
  (with_reducible refine (CO.out _).mono ?_)
  rintro e w1 ⟨rfl, hb1⟩
  have T := Sp4.new w1 (.bool false) (.bool h) (.bool r) (.int .u64 (q : Int)) 43
  go_wp2_with fail
  (with_reducible refine (CR.out _).mono ?_)
  rintro e w2 ⟨rfl, rfl⟩
  have hB := Bel.al hb1 (.cells #[.bool false, .bool h, .bool r, .int .u64 (q : Int)] 43)
  have hbs : w.heap.size ≤ w1.heap.size := hb1.size
  generalize World.alloc w1 _ = W at T hB ⊢
  obtain ⟨z, c0, c1, c2, c3, f3⟩ := id T
  have T2 := T.setq (.int .u64 Z)
  obtain ⟨z', c0', c1', c2', c3', f3'⟩ := id T2
  clear hb1 T T2
  go_wp2_with fail
  go_ret2
  exact ⟨ret_ii (by rw [hv.out, HZ.out]) (by rw [he.out]), hB.setCell hbs _⟩
set_option maxRecDepth 100000 in
set_option maxHeartbeats 4000000 in
theorem to_big3 (x way : Int) {k Z m ex : Int} {N q : Nat} {h r : Bool} (w : World) (h0 : 0 ≤ way) (h5 : way ≤ 5) (h3 : k < 3) (hN64 : N < 18446744073709551616) (CO : ∀ v, Calls Try.prog 33 #[.int .u64 x] v fun e w' => e = .returned (.tuple #[.agg #[.bool false, .bool h, .bool r, .int .u64 q], .bool false]) ∧ Below v.heap.size v w') (CR : ∀ v, Calls Try.prog 43 #[.int .u64 x] v fun e w' => e = .returned (.tuple #[.bool false, .int .u64 m, .int .i64 ex]) ∧ v = w') (hex : 0 ≤ ex ∧ ex ≤ 11) (hsh : ∀ j : Nat, ex = j → IntKind.u64.wrap (m * 2 ^ j) = Z) (hZ : Z = (N : Int)) (hN : 9223372036854775808 ≤ N)
    (CK : ∀ v, Calls Try.prog 29 #[.int .u64 x] v fun e w' => e = .returned (.int .i64 k) ∧ v = w') :
    Calls Try.prog 24 #[.int .u64 x, .int .i64 way] w fun e w' => e = .returned (.tuple #[.int .i64 (toV false N), .int .i64 (toX false N)]) ∧ Below w.heap.size w w' := by
  have hv := Lib.hid (show toV false N = 0 by unfold toV; simp; try omega)
  have he := Lib.hid (show toX false N = 6 by unfold toX; simp; try omega)
  have hN1 : Z < 18446744073709551616 := by omega
  have hN0 : 0 ≤ Z := by omega
  replace CO := Lib.hid CO
  replace CK := Lib.hid CK
  obtain ⟨j, hj⟩ : ∃ j : Nat, ex = j := ⟨ex.toNat, by omega⟩
  have hshj := hsh j hj
  have j11 : (j : Int) ≤ 11 := by omega
  subst hj
  have j12 : decide ((11 : Int) < (j : Int)) = false := by simp; omega
  replace CR := Lib.hid CR
  have hNi : (9223372036854775808 : Int) ≤ Z := by omega
  have HZ := Lib.hid hZ
  have w1' : decide (way < 0) = false := by simp; omega
  have w2' : decide (5 < way) = false := by simp; omega
  have w3' : decide (3 ≤ k) = false := by simp; omega
  clear hN hN64 hZ h0 h5 h3 hsh hex
  go_enter Try.func24, Try.ntmps24
  go_wp2_with fail
  (with_reducible refine (CK.out _).mono ?_)
  rintro e w' ⟨rfl, rfl⟩
  go_wp2_with fail
  (with_reducible refine (CO.out _).mono ?_)
  rintro e w1 ⟨rfl, hb1⟩
  have T := Sp4.new w1 (.bool false) (.bool h) (.bool r) (.int .u64 (q : Int)) 43
  go_wp2_with fail
  (with_reducible refine (CR.out _).mono ?_)
  rintro e w2 ⟨rfl, rfl⟩
  have hB := Bel.al hb1 (.cells #[.bool false, .bool h, .bool r, .int .u64 (q : Int)] 43)
  have hbs : w.heap.size ≤ w1.heap.size := hb1.size
  generalize World.alloc w1 _ = W at T hB ⊢
  obtain ⟨z, c0, c1, c2, c3, f3⟩ := id T
  have T2 := T.setq (.int .u64 Z)
  obtain ⟨z', c0', c1', c2', c3', f3'⟩ := id T2
  clear hb1 T T2
  go_wp2_with fail
  go_ret2
  exact ⟨ret_ii (by rw [hv.out]) (by rw [he.out]), hB.setCell hbs _⟩
set_option maxRecDepth 100000 in
set_option maxHeartbeats 4000000 in
theorem to_over (x way : Int) {k ex m : Int} {q : Nat} {s h r : Bool} (w : World) (h0 : 0 ≤ way) (h5 : way ≤ 5) (h3 : k < 3) (hex : 11 < ex)
    (CO : ∀ v, Calls Try.prog 33 #[.int .u64 x] v fun e w' => e = .returned (.tuple #[.agg #[.bool s, .bool h, .bool r, .int .u64 q], .bool false]) ∧ Below v.heap.size v w')
    (CR : ∀ v, Calls Try.prog 43 #[.int .u64 x] v fun e w' => e = .returned (.tuple #[.bool s, .int .u64 m, .int .i64 ex]) ∧ v = w')
    (CK : ∀ v, Calls Try.prog 29 #[.int .u64 x] v fun e w' => e = .returned (.int .i64 k) ∧ v = w') :
    Calls Try.prog 24 #[.int .u64 x, .int .i64 way] w fun e w' => e = .returned (.tuple #[.int .i64 0, .int .i64 6]) ∧ Below w.heap.size w w' := by
  replace CO := Lib.hid CO
  replace CK := Lib.hid CK
  replace CR := Lib.hid CR
  have w1' : decide (way < 0) = false := by simp; omega
  have w2' : decide (5 < way) = false := by simp; omega
  have w3' : decide (3 ≤ k) = false := by simp; omega
  have w4' : decide (11 < ex) = true := by simp; omega
  clear h0 h5 h3 hex
  go_enter Try.func24, Try.ntmps24
  go_wp2_with fail
  (with_reducible refine (CK.out _).mono ?_)
  rintro e w' ⟨rfl, rfl⟩
  go_wp2_with fail
  (with_reducible refine (CO.out _).mono ?_)
  rintro e w1 ⟨rfl, hb1⟩
  go_wp2_with fail
  (with_reducible refine (CR.out _).mono ?_)
  rintro e w2 ⟨rfl, rfl⟩
  go_wp2_with fail
  go_ret2
  exact ⟨rfl, Bel.al hb1 _⟩
theorem to6_any (x way : Int) (w : World) (hx : Wd x) : Calls Try.prog 24 #[.int .u64 x, .int .i64 way] w fun e w' => e = .returned (.tuple #[.int .i64 (toI x way), .int .i64 (toE x way)]) ∧ Below w.heap.size w w' := by
  by_cases hbad : way < 0 ∨ 5 < way ∨ 3 ≤ kd x
  · exact to_bad x way w hx hbad
  · have h0 : 0 ≤ way := by omega
    have h5 : way ≤ 5 := by omega
    have h3 : kd x < 3 := by omega
    have hk0 := kd_bd x
    have bm := mant_bd (x := x)
    have be := expo_bd (x := x)
    have hI : toI x way = toV (sgn x) (natW x way) := by unfold toI; rw [if_neg (by omega), if_neg (by omega)]
    have hE : toE x way = toX (sgn x) (natW x way) := by unfold toE; rw [if_neg (by omega), if_neg (by omega)]
    rw [hI, hE]
    have CO := fun v => of6_any x v hx
    have CK := fun v => kind_any x v hx
    have CS := fun v => split_any x v hx
    have hsp := sp_bd x
    have hsg : (spW x).s = sgn x := by unfold spW; split <;> rfl
    by_cases he : 0 ≤ expo x
    · have ho : decide (expo x < 0) = false := by simp; omega
      rw [ho] at CO
      have hN : natW x way = (mant x).toNat * 2 ^ (expo x).toNat := by unfold natW; rw [if_pos he]
      have hbig : 4503599627370496 ≤ mant x := kd_low' (by omega) (by omega)
      by_cases h11 : 11 < expo x
      · have hNl : 18446744073709551616 ≤ natW x way := by
          rw [hN]
          have h1 : 2 ^ 12 ≤ 2 ^ (expo x).toNat := Nat.pow_le_pow_right (by omega) (by omega)
          have := Nat.mul_le_mul (show 2 ^ 52 ≤ (mant x).toNat by omega) h1
          omega
        have hv : toV (sgn x) (natW x way) = 0 ∧ toX (sgn x) (natW x way) = 6 := by
          unfold toV toX
          rw [if_neg (by omega), if_neg (by omega), if_neg (by omega), if_neg (by omega)]
          exact ⟨rfl, rfl⟩
        rw [hv.1, hv.2]
        generalize spW x = p at CO hsp hsg
        obtain ⟨s, h, r, q⟩ := p
        dsimp only at hsg
        subst hsg
        exact to_over x way w h0 h5 h3 h11 CO CS CK
      · have hsh : ∀ j : Nat, expo x = j → IntKind.u64.wrap (mant x * 2 ^ j) = ((natW x way : Nat) : Int) := by
          intro j hj
          have h1 : 2 ^ j ≤ 2 ^ 11 := Nat.pow_le_pow_right (by omega) (by omega)
          have h2 := Nat.mul_le_mul (show (mant x).toNat ≤ 9007199254740991 by omega) h1
          have e1 : mant x * 2 ^ j = (((mant x).toNat * 2 ^ j : Nat) : Int) := by
            have : ((mant x).toNat : Int) = mant x := by omega
            simp [this]
          rw [hN, show (expo x).toNat = j by omega, e1]
          exact wraps_u64 _ (by omega) (by omega)
        have hNb : natW x way < 18446744073709551616 := by
          rw [hN]
          have h1 : 2 ^ (expo x).toNat ≤ 2 ^ 11 := Nat.pow_le_pow_right (by omega) (by omega)
          have h2 := Nat.mul_le_mul (show (mant x).toNat ≤ 9007199254740991 by omega) h1
          omega
        generalize spW x = p at CO hsp hsg
        obtain ⟨s, h, r, q⟩ := p
        dsimp only at hsg
        subst hsg
        generalize natW x way = N at *
        cases hs : sgn x
        · have CO' := CO
          rw [hs] at CS
          unfold Sp.val at CO'
          dsimp only at CO'
          rw [hs] at CO'
          rcases Nat.lt_or_ge N 9223372036854775808 with g | g
          · exact to_big2 x way w h0 h5 h3 hNb CO' CS ⟨he, by omega⟩ hsh rfl g CK
          · exact to_big3 x way w h0 h5 h3 hNb CO' CS ⟨he, by omega⟩ hsh rfl g CK
        · have CO' := CO
          rw [hs] at CS
          unfold Sp.val at CO'
          dsimp only at CO'
          rw [hs] at CO'
          rcases Nat.lt_or_ge 9223372036854775808 N with g | g
          · exact to_big1 x way w h0 h5 h3 hNb CO' CS ⟨he, by omega⟩ hsh rfl g CK
          · exact to_big0 x way w h0 h5 h3 hNb CO' CS ⟨he, by omega⟩ hsh rfl g CK
    · have ho : decide (expo x < 0) = true := by simp; omega
      rw [ho] at CO
      have hN : natW x way = roundW (spW x) way := by unfold natW; rw [if_neg he]
      have CR := fun v => round6_any (spW x) way v (by omega) h0 h5
      have hNb : natW x way < 18446744073709551616 := by rw [hN]; unfold roundW; split <;> omega
      rw [← hN] at CR
      generalize spW x = p at CO CR hsp hsg
      obtain ⟨s, h, r, q⟩ := p
      dsimp only at hsg
      subst hsg
      generalize natW x way = N at *
      unfold Sp.val at CO CR
      dsimp only at CO CR
      cases hs : sgn x
      · rw [hs] at CO CR
        rcases Nat.lt_or_ge N 9223372036854775808 with g | g
        · exact to_small2 x way w h0 h5 h3 hNb CO CR rfl g CK
        · exact to_small3 x way w h0 h5 h3 hNb CO CR rfl g CK
      · rw [hs] at CO CR
        rcases Nat.lt_or_ge 9223372036854775808 N with g | g
        · exact to_small1 x way w h0 h5 h3 hNb CO CR rfl g CK
        · exact to_small0 x way w h0 h5 h3 hNb CO CR rfl g CK
end Go.Proofs.Ytjlmchbpdkojeaa
