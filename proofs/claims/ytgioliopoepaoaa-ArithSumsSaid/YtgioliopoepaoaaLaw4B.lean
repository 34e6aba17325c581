/-
  ArithAdds, ArithMuls, ArithSums: the walks.
-/
import Derived.Test.YtgioliopoepaoaaLaw4
import Derived.Test.YtgioliopoepaoaaRef4C
namespace Go.Proofs.Ytgioliopoepaoaa
open Go.RowKit Go.Shelf

set_option maxRecDepth 100000 in
set_option maxHeartbeats 2000000 in
theorem adds_walk (a b : Int) (w : World) (ha : Wd a) (hb : Wd b) : Calls Try.prog 3 #[.int .u64 a, .int .u64 b] w fun e w' => e = .returned (.bool true) ∧ Below w.heap.size w w' := by
  have CA := fun v => aadd_any a b v ha hb
  have CR := fun v => radd_any a b v ha hb
  have CS := fun v => asub_any a b v ha hb
  have CT := fun v => rsub_any a b v ha hb
  obtain ⟨F, hF⟩ : ∃ F, addI a b = F := ⟨_, rfl⟩
  obtain ⟨G, hG⟩ : ∃ G, subI a b = G := ⟨_, rfl⟩
  rw [hF] at CA CR
  rw [hG] at CS CT
  replace CA := Lib.hid CA
  replace CR := Lib.hid CR
  replace CS := Lib.hid CS
  replace CT := Lib.hid CT
  clear hF hG ha hb
  have hB : Below w.heap.size w w := Below.refl _ _
  go_enter Try.func3, Try.ntmps3
  go_wp2_with (first
    | (go_at_call 10; (with_reducible refine (shown4_any _).mono ?_); rintro e w1 ⟨rfl, hb⟩; replace hB := Bel.st hB hb; clear hb)
    | (go_at_call 11; (with_reducible refine (CA.out _).mono ?_); rintro e w1 ⟨rfl, hb⟩; replace hB := Bel.st hB hb; clear hb)
    | (go_at_call 12; (with_reducible refine (CR.out _).mono ?_); rintro e w1 ⟨rfl, hb⟩; replace hB := Bel.st hB hb; clear hb)
    | (go_at_call 13; (with_reducible refine (CS.out _).mono ?_); rintro e w1 ⟨rfl, hb⟩; replace hB := Bel.st hB hb; clear hb)
    | (go_at_call 14; (with_reducible refine (CT.out _).mono ?_); rintro e w1 ⟨rfl, hb⟩; replace hB := Bel.st hB hb; clear hb))
  go_ret
  exact ⟨retB (by simp), hB⟩
set_option maxRecDepth 100000 in
set_option maxHeartbeats 2000000 in
theorem muls_walk (a b : Int) (w : World) (ha : Wd a) (hb : Wd b) : Calls Try.prog 4 #[.int .u64 a, .int .u64 b] w fun e w' => e = .returned (.bool true) ∧ Below w.heap.size w w' := by
  have CA := fun v => amul_any a b v ha hb
  have CR := fun v => rmul_any a b v ha hb
  obtain ⟨F, hF⟩ : ∃ F, mulI a b = F := ⟨_, rfl⟩
  rw [hF] at CA CR
  replace CA := Lib.hid CA
  replace CR := Lib.hid CR
  clear hF ha hb
  have hB : Below w.heap.size w w := Below.refl _ _
  go_enter Try.func4, Try.ntmps4
  go_wp2_with (first
    | (go_at_call 10; (with_reducible refine (shown4_any _).mono ?_); rintro e w1 ⟨rfl, hb⟩; replace hB := Bel.st hB hb; clear hb)
    | (go_at_call 15; (with_reducible refine (CA.out _).mono ?_); rintro e w1 ⟨rfl, hb⟩; replace hB := Bel.st hB hb; clear hb)
    | (go_at_call 16; (with_reducible refine (CR.out _).mono ?_); rintro e w1 ⟨rfl, hb⟩; replace hB := Bel.st hB hb; clear hb))
  go_ret
  exact ⟨retB (by simp), hB⟩

set_option maxHeartbeats 1000000 in
theorem rsums_any (A : Option Addr) (n c : Nat) (l : List Int) (w : World) (hl : WLim w A n l) (hn : n ≤ 1048576) :
    Calls Try.prog 18 #[.slice A n c] w fun e w' => e = .returned (.int .u64 (lsum l)) ∧ Below w.heap.size w w' := by
  have hlen := Lib.hid hl.len
  have hfit := Lib.hid hl.fit
  have HL := Lib.hid hl
  clear hl
  go_enter Try.func18, Try.ntmps18
  go_wp2
  go_loopw [3, 4] (fun sv iv wr => ∃ (k : Nat) (s : Int), iv = .int .i64 k ∧ sv = .int .u64 s ∧ k ≤ n ∧ s = lsum (l.take k) ∧ Below w.heap.size w wr) (fun _ iv _ => n - (intOf iv).toNat)
  case atStart => exact ⟨0, 0, rfl, rfl, Nat.zero_le _, rfl, Below.refl _ _⟩
  case round =>
    obtain ⟨k, s, rfl, rfl, hk, hs, hB⟩ := hrel
    have HB := Lib.hid hB
    have ws := wd_ltake k hfit.out
    rw [← hs] at ws
    have HS := Lib.hid hs
    clear hB hs
    by_cases hlt : k < n
    · obtain ⟨ad, hA, hadb, hcell⟩ := (HL.out.below HB.out).at_ hlt
      subst hA
      have wx := HL.out.get hlt
      obtain ⟨x, hx⟩ : ∃ x, l.getD k 0 = x := ⟨_, rfl⟩
      have hst := lsum_take (show k < l.length by rw [hlen.out]; exact hlt) hx
      rw [← HS.out] at hst
      rw [hx] at hcell wx
      have HST := Lib.hid hst
      have CA := Lib.hid (fun v => radd_any s x v ws wx)
      clear hx hst wx ws
      go_wp2_with fail
      (with_reducible refine (CA.out _).mono ?_)
      rintro e w1 ⟨rfl, hb1⟩
      go_wp2
      go_roundw
      case rel => exact ⟨k + 1, _, by go_num, rfl, by omega, HST.out.symm, Bel.st HB.out hb1⟩
      case measure => simp [intOf]; omega
    · have he : s = lsum l := by rw [HS.out, List.take_of_length_le (by rw [hlen.out]; omega)]
      have HE := Lib.hid he
      clear he ws
      go_wp2
      go_ret
      exact ⟨retI HE.out, HB.out⟩

set_option maxRecDepth 100000 in
set_option maxHeartbeats 2000000 in
set_option linter.unusedVariables false in
theorem lsums_walk (A : Option Addr) (n c : Nat) (l : List Int) (w : World) (hl : WLim w A n l) (hc : n ≤ c) (hm : c ≤ maxLen) :
    Calls Try.prog 5 #[.slice A n c] w fun e w' => e = .returned (.bool true) ∧ Below w.heap.size w w' := by
  have hlen := Lib.hid hl.len
  have hfit := Lib.hid hl.fit
  have HL := Lib.hid hl
  clear hl
  unfold maxLen at hm
  by_cases h200 : (200 : Int) < (n : Int)
  · go_enter Try.func5, Try.ntmps5
    go_wp2_with (go_at_call 10; (with_reducible refine (shown4_any _).mono ?_); rintro e w1 ⟨rfl, hb⟩)
    go_ret
    exact ⟨rfl, hb⟩
  · have hn : n ≤ 200 := by omega
    go_enter Try.func5, Try.ntmps5
    go_wp2_with (go_at_call 10; (with_reducible refine (shown4_any _).mono ?_); rintro e w1 ⟨rfl, hb⟩)
    have HB0 := Lib.hid hb
    clear hb
    go_loopw [4, 5] (fun sv iv wr => ∃ (k : Nat) (s : Int), iv = .int .i64 k ∧ sv = .int .u64 s ∧ k ≤ n ∧ s = lsum (l.take k) ∧ Below w.heap.size w wr) (fun _ iv _ => n - (intOf iv).toNat)
    case atStart => exact ⟨0, 0, rfl, rfl, Nat.zero_le _, rfl, HB0.out⟩
    case round =>
      obtain ⟨k, s, rfl, rfl, hk, hs, hB⟩ := hrel
      have HB := Lib.hid hB
      have ws := wd_ltake k hfit.out
      rw [← hs] at ws
      have HS := Lib.hid hs
      clear hB hs
      by_cases hlt : k < n
      · obtain ⟨ad, hA, hadb, hcell⟩ := (HL.out.below HB.out).at_ hlt
        subst hA
        have wx := HL.out.get hlt
        obtain ⟨x, hx⟩ : ∃ x, l.getD k 0 = x := ⟨_, rfl⟩
        have hst := lsum_take (show k < l.length by rw [hlen.out]; exact hlt) hx
        rw [← HS.out] at hst
        rw [hx] at hcell wx
        have HST := Lib.hid hst
        have CA := Lib.hid (fun v => aadd_any s x v ws wx)
        clear hx hst wx ws
        go_wp2_with fail
        (with_reducible refine (CA.out _).mono ?_)
        rintro e w1 ⟨rfl, hb1⟩
        go_wp2
        go_roundw
        case rel => exact ⟨k + 1, _, by go_num, rfl, by omega, HST.out.symm, Bel.st HB.out hb1⟩
        case measure => simp [intOf]; omega
      · have he : lsum l = s := by rw [HS.out, List.take_of_length_le (by rw [hlen.out]; omega)]
        have CS := fun (v : World) (h : WLim v A n l) => asums_any A n c l v h (by omega)
        have CR := fun (v : World) (h : WLim v A n l) => rsums_any A n c l v h (by omega)
        rw [he] at CS CR
        replace CS := Lib.hid CS
        replace CR := Lib.hid CR
        have L1 := Lib.hid (HL.out.below HB.out)
        clear he ws
        go_wp2_with fail
        (with_reducible refine (CS.out _ L1.out).mono ?_)
        rintro e w2 ⟨rfl, hb2⟩
        have L2 := Lib.hid (L1.out.below hb2)
        have HB2 := Bel.st HB.out hb2
        clear hb2
        go_wp2_with fail
        (with_reducible refine (CR.out _ L2.out).mono ?_)
        rintro e w3 ⟨rfl, hb3⟩
        have L3 := Lib.hid (L2.out.below hb3)
        have HB3 := Bel.st HB2 hb3
        clear hb3
        go_wp2_with fail
        (with_reducible refine (CS.out _ L3.out).mono ?_)
        rintro e w4 ⟨rfl, hb4⟩
        go_wp2
        go_ret
        exact ⟨retB (by simp), Bel.st HB3 hb4⟩
end Go.Proofs.Ytgioliopoepaoaa
