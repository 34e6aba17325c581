/-
  The reference of chapter 4: Mul.
-/
import Derived.Test.YtgioliopoepaoaaRef4B
namespace Go.Proofs.Ytgioliopoepaoaa
open Go.RowKit Go.Shelf

set_option maxRecDepth 100000 in
set_option maxHeartbeats 8000000 in
theorem rmul_kinds (a b : Int) (w : World) (ha : Wd a) (hb : Wd b) (h : kd a = 4 ∨ kd b = 4 ∨ kd a = 3 ∨ kd b = 3) : Calls Try.prog 16 #[.int .u64 a, .int .u64 b] w fun e w' => e = .returned (.int .u64 (mulI a b)) ∧ Below w.heap.size w w' := by
  have KA := fun v => rkind_any a v ha
  have KB := fun v => rkind_any b v hb
  have SA := fun v => ris_any a v
  have SB := fun v => ris_any b v
  have h1 := kd_bd a
  have h2 := kd_bd b
  obtain ⟨ka, hka⟩ : ∃ ka, kd a = ka := ⟨_, rfl⟩
  obtain ⟨kb, hkb⟩ : ∃ kb, kd b = kb := ⟨_, rfl⟩
  obtain ⟨F, hF⟩ : ∃ F, mulI a b = F := ⟨_, rfl⟩
  obtain ⟨sa, hsa⟩ : ∃ sa, sgn a = sa := ⟨_, rfl⟩
  obtain ⟨st, hst⟩ : ∃ st, sgn b = st := ⟨_, rfl⟩
  rw [hF]
  unfold mulI at hF
  rw [hka, hkb, hsa, hst] at hF
  rw [hka] at KA h h1
  rw [hkb] at KB h h2
  rw [hsa] at SA
  rw [hst] at SB
  obtain ⟨ng, hng⟩ : ∃ ng, (!(sa == st)) = ng := ⟨_, rfl⟩
  rw [show (sa != st) = !(sa == st) from rfl, hng] at hF
  replace SA := Lib.hid SA
  replace SB := Lib.hid SB
  replace KA := Lib.hid KA
  replace KB := Lib.hid KB
  have sb0 := sb_bd ng
  obtain ⟨Z, hZ⟩ : ∃ Z, sb ng = Z := ⟨_, rfl⟩
  have CZ := fun v => rzero_any ng v
  rw [hZ] at hF sb0 CZ
  replace CZ := Lib.hid CZ
  obtain ⟨sb1, sb2⟩ := sb0
  clear hka hkb hsa hst hZ ha hb
  obtain rfl | rfl | rfl | rfl | rfl : ka = 0 ∨ ka = 1 ∨ ka = 2 ∨ ka = 3 ∨ ka = 4 := by omega
  all_goals
    obtain rfl | rfl | rfl | rfl | rfl : kb = 0 ∨ kb = 1 ∨ kb = 2 ∨ kb = 3 ∨ kb = 4 := by omega
  all_goals try (exfalso; omega)
  all_goals
    clear h h1 h2
    first
    | (rw [if_pos (by omega)] at hF)
    | (rw [if_neg (by omega), if_pos (by omega)] at hF)
    have HF := Lib.hid hF.symm
    clear hF
    go_enter Try.func16, Try.ntmps16
    go_wp2_with (first | (go_at_call_of 21 (Value.int IntKind.u64 a); (with_reducible refine (KA.out _).mono ?_); rintro e w' ⟨rfl, rfl⟩) | (go_at_call_of 21 (Value.int IntKind.u64 b); (with_reducible refine (KB.out _).mono ?_); rintro e w' ⟨rfl, rfl⟩) | (go_at_call_of 27 (Value.int IntKind.u64 a); (with_reducible refine (SA.out _).mono ?_); rintro e w' ⟨rfl, rfl⟩) | (go_at_call_of 27 (Value.int IntKind.u64 b); (with_reducible refine (SB.out _).mono ?_); rintro e w' ⟨rfl, rfl⟩) | (go_at_call 26; (with_reducible refine (CZ.out _).mono ?_); rintro e w' ⟨rfl, rfl⟩))
    go_ret
    exact ⟨retI (by rw [HF.out]; rfl), Bel.re _⟩

set_option maxRecDepth 100000 in
set_option maxHeartbeats 8000000 in
theorem rmul_fin (a b : Int) (w : World) (ha : Wd a) (hb : Wd b) (h1 : kd a ≤ 2) (h2 : kd b ≤ 2) : Calls Try.prog 16 #[.int .u64 a, .int .u64 b] w fun e w' => e = .returned (.int .u64 (mulI a b)) ∧ Below w.heap.size w w' := by
  have KA := fun v => rkind_any a v ha
  have KB := fun v => rkind_any b v hb
  have SA := fun v => ris_any a v
  have SB := fun v => ris_any b v
  have CA := fun v => rsplit_any a v ha
  have CB := fun v => rsplit_any b v hb
  have hI : mulI a b = fbits (sgn a != sgn b) (mant a * mant b).toNat (expo a + expo b) false := by unfold mulI; rw [if_neg (by omega), if_neg (by omega)]
  have bma := mant_bd (x := a)
  have bmb := mant_bd (x := b)
  have bea := expo_bd (x := a)
  have beb := expo_bd (x := b)
  have g1 := kd_bd a
  have g2 := kd_bd b
  obtain ⟨ka, hka⟩ : ∃ ka, kd a = ka := ⟨_, rfl⟩
  obtain ⟨kb, hkb⟩ : ∃ kb, kd b = kb := ⟨_, rfl⟩
  obtain ⟨m, hm⟩ : ∃ m : Nat, mant a = m := ⟨(mant a).toNat, by omega⟩
  obtain ⟨n, hn⟩ : ∃ n : Nat, mant b = n := ⟨(mant b).toNat, by omega⟩
  obtain ⟨ea, hea⟩ : ∃ ea, expo a = ea := ⟨_, rfl⟩
  obtain ⟨eb, heb⟩ : ∃ eb, expo b = eb := ⟨_, rfl⟩
  obtain ⟨sa, hsa⟩ : ∃ sa, sgn a = sa := ⟨_, rfl⟩
  obtain ⟨st, hst⟩ : ∃ st, sgn b = st := ⟨_, rfl⟩
  obtain ⟨F, hF⟩ : ∃ F, mulI a b = F := ⟨_, rfl⟩
  rw [hF] at hI ⊢
  rw [hm, hn, hea, heb, hsa, hst] at hI
  rw [hm, hea, hsa] at CA
  rw [hn, heb, hst] at CB
  rw [hsa] at SA
  rw [hst] at SB
  rw [hka] at KA h1 g1
  rw [hkb] at KB h2 g2
  rw [hm] at bma
  rw [hn] at bmb
  rw [hea] at bea
  rw [heb] at beb
  have hP : ((m : Int) * (n : Int)).toNat = m * n := by
    have : (m : Int) * (n : Int) = ((m * n : Nat) : Int) := by simp
    rw [this, Int.toNat_natCast]
  have hPb : m * n ≤ 9007199254740991 * 9007199254740991 := Nat.mul_le_mul (by omega) (by omega)
  rw [hP] at hI
  obtain ⟨ng, hng⟩ : ∃ ng, (!(sa == st)) = ng := ⟨_, rfl⟩
  rw [show (sa != st) = !(sa == st) from rfl, hng] at hI
  have CNA := fun v => rnat_any m v (by omega)
  have CNB := fun v => rnat_any n v (by omega)
  have CT := fun (v : World) (x y : Value) (hx : SliceV v x m 2) (hy : SliceV v y n 2) => times1_v hx hy (by omega)
  obtain ⟨P, hP'⟩ : ∃ P, m * n = P := ⟨_, rfl⟩
  rw [hP'] at CT hI hPb
  have CR := fun (v : World) (x : Value) (hx : SliceV v x P 5) => round_any ng false (ea + eb) v hx (by omega) (by omega)
  rw [← hI] at CR
  have e5 : Pl.B32 ^ 5 = 1461501637330902918203684832716283019655932542976 := by decide
  have FM := Lib.hid (show m < Pl.B32 ^ 2 by rw [b32_2]; omega)
  have FN := Lib.hid (show n < Pl.B32 ^ 2 by rw [b32_2]; omega)
  have FP := Lib.hid (show P < Pl.B32 ^ 5 by rw [e5]; omega)
  have hE : IntKind.i64.wrap (ea + eb) = ea + eb := by rw [IntKind.wrap_i64]; omega
  have a4 : (ka == 4) = false := by simp; omega
  have a3 : (ka == 3) = false := by simp; omega
  have b4 : (kb == 4) = false := by simp; omega
  have b3 : (kb == 3) = false := by simp; omega
  replace KA := Lib.hid KA
  replace KB := Lib.hid KB
  replace SA := Lib.hid SA
  replace SB := Lib.hid SB
  replace CA := Lib.hid CA
  replace CB := Lib.hid CB
  replace CNA := Lib.hid CNA
  replace CNB := Lib.hid CNB
  replace CT := Lib.hid CT
  replace CR := Lib.hid CR
  clear ha hb hka hkb hm hn hea heb hsa hst hF hI hP hPb hP' e5 h1 h2 g1 g2
  by_cases a0 : ka = 0
  all_goals
    first
    | subst a0
    | (have a0' : (ka == 0) = false := by simpa using a0
       clear a0)
    go_enter Try.func16, Try.ntmps16
    go_wp2_with (first | (go_at_call_of 21 (Value.int IntKind.u64 a); (with_reducible refine (KA.out _).mono ?_); rintro e w' ⟨rfl, rfl⟩) | (go_at_call_of 21 (Value.int IntKind.u64 b); (with_reducible refine (KB.out _).mono ?_); rintro e w' ⟨rfl, rfl⟩) | (go_at_call_of 27 (Value.int IntKind.u64 a); (with_reducible refine (SA.out _).mono ?_); rintro e w' ⟨rfl, rfl⟩) | (go_at_call_of 27 (Value.int IntKind.u64 b); (with_reducible refine (SB.out _).mono ?_); rintro e w' ⟨rfl, rfl⟩) | (go_at_call_of 36 (Value.int IntKind.u64 a); (with_reducible refine (CA.out _).mono ?_); rintro e w' ⟨rfl, rfl⟩) | (go_at_call_of 36 (Value.int IntKind.u64 b); (with_reducible refine (CB.out _).mono ?_); rintro e w' ⟨rfl, rfl⟩) | fail)
    (with_reducible refine (CNA.out _).mono ?_)
    rintro e w1 ⟨v1, rfl, hv1, hb1⟩
    have T_x := Lib.hid (hv1.slice FM.out)
    clear hv1
    go_wp2_with fail
    (with_reducible refine (CNB.out _).mono ?_)
    rintro e w2 ⟨v2, rfl, hv2, hb2⟩
    have T_y := Lib.hid (hv2.slice FN.out)
    have T_x2 := Lib.hid (T_x.out.below hb2)
    have hB := Bel.st hb1 hb2
    clear hv2 hb1 hb2 T_x
    go_wp2_with fail
    (with_reducible refine (CT.out _ _ _ T_x2.out T_y.out).mono ?_)
    rintro e w3 ⟨v3, rfl, hv3, hb3⟩
    have T_p := Lib.hid (hv3.slice FP.out)
    replace hB := Bel.st hB hb3
    clear hv3 hb3
    go_wp2_with fail
    (with_reducible refine (CR.out _ _ T_p.out).mono ?_)
    rintro e w4 ⟨rfl, hb4⟩
    go_wp2_with fail
    go_ret
    exact ⟨rfl, Bel.st hB hb4⟩
theorem rmul_any (a b : Int) (w : World) (ha : Wd a) (hb : Wd b) : Calls Try.prog 16 #[.int .u64 a, .int .u64 b] w fun e w' => e = .returned (.int .u64 (mulI a b)) ∧ Below w.heap.size w w' := by
  have h1 := kd_bd a
  have h2 := kd_bd b
  by_cases h : kd a = 4 ∨ kd b = 4 ∨ kd a = 3 ∨ kd b = 3
  · exact rmul_kinds a b w ha hb h
  · exact rmul_fin a b w ha hb (by omega) (by omega)
end Go.Proofs.Ytgioliopoepaoaa
