/-
  The walk of arith.sum: the sum of two finite numbers.
-/
import Derived.Test.YtjlmchbpdkojeaaArith
import Derived.Deep.DeepCutAuto
namespace Go.Proofs.Ytjlmchbpdkojeaa
open Go.RowKit Go.Shelf

theorem num0 (x : Int) : num 0 x = x := by unfold num; omega
theorem kd_low {x : Int} : kd x ≤ 2 → -1074 < expo x → 4503599627370496 ≤ mant x := by
  unfold expo mant
  intro h h2
  by_cases h1 : kd x ≤ 1
  · rw [if_pos h1] at h2; omega
  · rw [if_neg h1, if_pos (by omega)]; omega
/-- What the sum's walk knows, the greater exponent's number first. -/
structure SumSet (sx sy : Bool) (mx my U c q low j X : Nat) (ex ey e F : Int) : Prop where
  hU : min (ex - ey) 64 = (U : Int)
  he : ex - U = e
  hc : e - ey = (c : Int)
  hj : ey + 1074 = (j : Int)
  hex : -1074 ≤ ex ∧ ex ≤ 971
  hey : -1074 ≤ ey ∧ ey ≤ 971
  hmx : mx < 9007199254740992
  hmy : my < 9007199254740992
  hX : mx * 2 ^ U = X
  hq : my / 2 ^ c = q
  hlow : my % 2 ^ c = low
  Xb : X < 166153499473114484112975882535043072
  qb : q < 9007199254740992
  at_ : SumAt X my c q low
  pos : mx * 2 ^ (ex + 1074).toNat ≠ 0 ∨ my * 2 ^ (ey + 1074).toNat ≠ 0
  hF : rnd (sg sx (mx * 2 ^ (ex + 1074).toNat) + sg sy (my * 2 ^ (ey + 1074).toNat)) = F
theorem SumSet.mk' {sx sy : Bool} {mx my : Nat} {ex ey F : Int} (hle : ey ≤ ex) (hex : -1074 ≤ ex ∧ ex ≤ 971) (hey : -1074 ≤ ey ∧ ey ≤ 971) (hmx : mx < 9007199254740992) (hmy : my < 9007199254740992)
    (hlow : -1074 < ex → 4503599627370496 ≤ mx) (hpos : mx * 2 ^ (ex + 1074).toNat ≠ 0 ∨ my * 2 ^ (ey + 1074).toNat ≠ 0)
    (hF : rnd (sg sx (mx * 2 ^ (ex + 1074).toNat) + sg sy (my * 2 ^ (ey + 1074).toNat)) = F) : ∃ U c q low j X e, SumSet sx sy mx my U c q low j X ex ey e F := by
  obtain ⟨U, hU⟩ : ∃ U : Nat, min (ex - ey) 64 = (U : Int) := ⟨(min (ex - ey) 64).toNat, by omega⟩
  obtain ⟨c, hc⟩ : ∃ c : Nat, ex - U - ey = (c : Int) := ⟨(ex - U - ey).toNat, by omega⟩
  obtain ⟨j, hj⟩ : ∃ j : Nat, ey + 1074 = (j : Int) := ⟨(ey + 1074).toNat, by omega⟩
  have hUle : U ≤ 64 := by omega
  have hp : 2 ^ U ≤ 2 ^ 64 := Nat.pow_le_pow_right (by omega) hUle
  have hX : mx * 2 ^ U ≤ 9007199254740991 * 2 ^ 64 := Nat.mul_le_mul (by omega) hp
  have hq := Nat.div_le_self my (2 ^ c)
  refine ⟨U, c, _, _, j, _, _, ⟨hU, rfl, hc, hj, hex, hey, hmx, hmy, rfl, rfl, rfl, by omega, by omega, ⟨?_, Nat.mod_lt _ (Nat.two_pow_pos c), ?_⟩, hpos, hF⟩⟩
  · rw [Nat.mul_comm]; exact (Nat.div_add_mod my (2 ^ c)).symm
  · rcases Nat.eq_zero_or_pos c with h | h
    · exact .inl h
    · right
      have h64 : U = 64 := by omega
      have := hlow (by omega)
      subst h64
      refine ⟨?_, by omega⟩
      have := Nat.mul_le_mul_right (2 ^ 64) this
      omega
section
variable {sx sy : Bool} {mx my U c q low j X : Nat} {ex ey e F : Int}
theorem SumSet.ej (h : SumSet sx sy mx my U c q low j X ex ey e F) : e = (j : Int) + c - 1074 := by have := h.hc; have := h.hj; omega
theorem SumSet.nx (h : SumSet sx sy mx my U c q low j X ex ey e F) : mx * 2 ^ (ex + 1074).toNat = X * 2 ^ c * 2 ^ j := by
  have e1 : (ex + 1074).toNat = U + c + j := by have := h.hc; have := h.hj; have := h.he; have := h.hex; omega
  rw [e1, Nat.pow_add, Nat.pow_add, ← h.hX]; grind
theorem SumSet.ny (h : SumSet sx sy mx my U c q low j X ex ey e F) : my * 2 ^ (ey + 1074).toNat = my * 2 ^ j := by
  have e1 : (ey + 1074).toNat = j := by have := h.hj; omega
  rw [e1]
theorem SumSet.fe (h : SumSet sx sy mx my U c q low j X ex ey e F) : F = if sumN sx sy (X * 2 ^ c * 2 ^ j) (my * 2 ^ j) = 0 then 0 else fbits (sumS sx sy (X * 2 ^ c * 2 ^ j) (my * 2 ^ j)) (sumN sx sy (X * 2 ^ c * 2 ^ j) (my * 2 ^ j)) (-1074) false := by
  rw [← h.hF, rnd_sum, h.nx, h.ny]
theorem SumSet.same (h : SumSet sx sx mx my U c q low j X ex ey e F) : fbits sx (X + q) e (decide (low ≠ 0)) = F := by
  have hf := h.fe
  have hn := h.pos
  rw [h.nx, h.ny] at hn
  unfold sumN sumS at hf
  rw [if_pos rfl, if_pos rfl, if_neg (by omega)] at hf
  rw [hf, ← Nat.add_mul]
  exact (h.at_.same sx h.ej).symm
theorem SumSet.eq (h : SumSet sx sy mx my U c q low j X ex ey e F) (hs : sx ≠ sy) (h0 : low = 0) (he : X = q) : F = 0 := by
  have hf := h.fe
  obtain ⟨h1, h2, h3⟩ := h.at_
  have : X * 2 ^ c * 2 ^ j = my * 2 ^ j := by rw [h1, h0, Nat.add_zero, he]
  unfold sumN at hf
  rw [if_neg hs, this, if_pos (Nat.le_refl _), Nat.sub_self, if_pos rfl] at hf
  exact hf
theorem SumSet.gt (h : SumSet sx sy mx my U c q low j X ex ey e F) (hs : sx ≠ sy) (h0 : low = 0) (he : q < X) : fbits sx (X - q) e false = F := by
  have hf := h.fe
  obtain ⟨d1, d2, d3⟩ := h.at_.diff sx h.ej h0 (Nat.le_of_lt he)
  have hle := Nat.mul_le_mul_right (2 ^ j) d3
  have hne : (X * 2 ^ c - my) * 2 ^ j ≠ 0 := by
    have := Nat.two_pow_pos j
    intro g
    rcases Nat.mul_eq_zero.1 g with k | k
    · have := d2.1 k; omega
    · omega
  unfold sumN sumS at hf
  rw [if_neg hs, if_neg hs, if_pos hle, if_pos hle, ← Nat.sub_mul, if_neg hne] at hf
  rw [hf, d1]
theorem SumSet.lt (h : SumSet sx sy mx my U c q low j X ex ey e F) (hs : sx ≠ sy) (h0 : low = 0) (he : X < q) : fbits sy (q - X) e false = F := by
  have hf := h.fe
  obtain ⟨d1, d2⟩ := h.at_.under sy h.ej h0 he
  have hlt := (Nat.mul_lt_mul_right (Nat.two_pow_pos j)).2 d2
  have hne : (my - X * 2 ^ c) * 2 ^ j ≠ 0 := by
    have := Nat.two_pow_pos j
    intro g
    rcases Nat.mul_eq_zero.1 g with k | k <;> omega
  have hnle : ¬ my * 2 ^ j ≤ X * 2 ^ c * 2 ^ j := by omega
  unfold sumN sumS at hf
  rw [if_neg hs, if_neg hs, if_neg hnle, if_neg hnle, ← Nat.sub_mul, if_neg hne] at hf
  rw [hf, d1]
theorem SumSet.more (h : SumSet sx sy mx my U c q low j X ex ey e F) (hs : sx ≠ sy) (h0 : low ≠ 0) : fbits sx (X - (q + 1)) e true = F ∧ q + 1 ≤ X ∧ 83076749736557242056487941267521536 ≤ X := by
  have hf := h.fe
  obtain ⟨d1, d2, d3, d4⟩ := h.at_.more sx h.ej h0
  have hle := Nat.mul_le_mul_right (2 ^ j) (Nat.le_of_lt d2)
  have hne : (X * 2 ^ c - my) * 2 ^ j ≠ 0 := by
    have := Nat.two_pow_pos j
    intro g
    rcases Nat.mul_eq_zero.1 g with k | k <;> omega
  unfold sumN sumS at hf
  rw [if_neg hs, if_neg hs, if_pos hle, if_pos hle, ← Nat.sub_mul, if_neg hne] at hf
  refine ⟨by rw [hf, d1], d3, ?_⟩
  rcases h.at_.room with k | k
  · have := h.at_.low; rw [k, Nat.pow_zero] at this; omega
  · exact k.1
end
theorem shl_word (m U X : Nat) (v : World) (hm : m < 9007199254740992) (hX : m * 2 ^ U = X) (hb : X < 166153499473114484112975882535043072) (hU : U ≤ 1000) :
    Calls Try.prog 57 #[.agg #[.int .u64 0, .int .u64 m], .int .i64 U] v fun r w' => r = .returned (.agg #[.int .u64 (hiOf (X : Int)), .int .u64 (loOf (X : Int))]) ∧ Below v.heap.size v w' := by
  have h := shl_k 0 (m : Int) (U : Int) U v ⟨by decide, by decide⟩ ⟨by omega, by omega⟩ (by omega) (by omega)
  have e : shlN (num 0 (m : Int)) U = (X : Int) := by
    rw [num0]
    unfold shlN bit128
    have : (m : Int) * 2 ^ U = (X : Int) := by rw [← hX]; simp
    rw [this]; omega
  rw [e] at h
  exact h
theorem shr_word (m c q low : Nat) (v : World) (hm : m < 9007199254740992) (hq : m / 2 ^ c = q) (hl : m % 2 ^ c = low) (hc : c ≤ 100000) :
    Calls Try.prog 48 #[.agg #[.int .u64 0, .int .u64 m], .int .i64 c] v fun r w' => r = .returned (.tuple #[.agg #[.int .u64 (hiOf (q : Int)), .int .u64 (loOf (q : Int))], .bool (decide (low ≠ 0))]) ∧ Below v.heap.size v w' := by
  have h := shr_k 0 (m : Int) (c : Int) c v ⟨by decide, by decide⟩ ⟨by omega, by omega⟩ (by omega) (by omega)
  rw [num0, shrN_nat, lostN_nat, hq, hl] at h
  exact h
theorem wadd_nat (A B : Nat) (v : World) (h : A + B < 340282366920938463463374607431768211456) :
    Calls Try.prog 82 #[.agg #[.int .u64 (hiOf (A : Int)), .int .u64 (loOf (A : Int))], .agg #[.int .u64 (hiOf (B : Int)), .int .u64 (loOf (B : Int))]] v fun r w' => r = .returned (.tuple #[.agg #[.int .u64 (hiOf ((A + B : Nat) : Int)), .int .u64 (loOf ((A + B : Nat) : Int))], .bool false]) ∧ Below v.heap.size v w' := by
  have h1 := wadd_any (hiOf (A : Int)) (loOf (A : Int)) (hiOf (B : Int)) (loOf (B : Int)) v (Wd.hi (by omega) (by omega)) (Wd.lo _) (Wd.hi (by omega) (by omega)) (Wd.lo _)
  rw [num_parts, num_parts] at h1
  have e : ((A : Int) + (B : Int)) % bit128 = ((A + B : Nat) : Int) := by unfold bit128; omega
  have e2 : decide (bit128 ≤ (A : Int) + (B : Int)) = false := by unfold bit128; simp; omega
  rw [e, e2] at h1
  exact h1
theorem wsub_nat (A B : Nat) (v : World) (h : B ≤ A) (hA : A < 340282366920938463463374607431768211456) :
    Calls Try.prog 83 #[.agg #[.int .u64 (hiOf (A : Int)), .int .u64 (loOf (A : Int))], .agg #[.int .u64 (hiOf (B : Int)), .int .u64 (loOf (B : Int))]] v fun r w' => r = .returned (.tuple #[.agg #[.int .u64 (hiOf ((A - B : Nat) : Int)), .int .u64 (loOf ((A - B : Nat) : Int))], .bool false]) ∧ Below v.heap.size v w' := by
  have h1 := wsub_any (hiOf (A : Int)) (loOf (A : Int)) (hiOf (B : Int)) (loOf (B : Int)) v (Wd.hi (by omega) (by omega)) (Wd.lo _) (Wd.hi (by omega) (by omega)) (Wd.lo _)
  rw [num_parts, num_parts] at h1
  have e : ((A : Int) - (B : Int)) % bit128 = ((A - B : Nat) : Int) := by unfold bit128; omega
  have e2 : decide ((A : Int) < (B : Int)) = false := by simp; omega
  rw [e, e2] at h1
  exact h1
theorem wsub_under (A B : Nat) (v : World) (h : A < B) (hB : B < 340282366920938463463374607431768211456) :
    Calls Try.prog 83 #[.agg #[.int .u64 (hiOf (A : Int)), .int .u64 (loOf (A : Int))], .agg #[.int .u64 (hiOf (B : Int)), .int .u64 (loOf (B : Int))]] v fun r w' => r = .returned (.tuple #[.agg #[.int .u64 (hiOf (((A : Int) - (B : Int)) % bit128)), .int .u64 (loOf (((A : Int) - (B : Int)) % bit128))], .bool true]) ∧ Below v.heap.size v w' := by
  have h1 := wsub_any (hiOf (A : Int)) (loOf (A : Int)) (hiOf (B : Int)) (loOf (B : Int)) v (Wd.hi (by omega) (by omega)) (Wd.lo _) (Wd.hi (by omega) (by omega)) (Wd.lo _)
  rw [num_parts, num_parts] at h1
  have e2 : decide ((A : Int) < (B : Int)) = true := by simp; omega
  rw [e2] at h1
  exact h1
theorem join_nat (neg : Bool) (A : Nat) (e : Int) (more : Bool) (v : World) (hA : A < 340282366920938463463374607431768211456) (e0 : -9223372036854775808 ≤ e) (e1 : e < 9223372036854775808) :
    Calls Try.prog 37 #[.bool neg, .agg #[.int .u64 (hiOf (A : Int)), .int .u64 (loOf (A : Int))], .int .i64 e, .bool more] v fun r w' => r = .returned (.int .u64 (fbits neg A e more)) ∧ Below v.heap.size v w' := by
  have h1 := join_any neg (hiOf (A : Int)) (loOf (A : Int)) e more v (Wd.hi (by omega) (by omega)) (Wd.lo _) e0 e1
  rw [num_parts, Int.toNat_natCast] at h1
  exact h1

set_option maxRecDepth 100000 in
set_option maxHeartbeats 8000000 in
theorem sum_same (sx : Bool) (mx my : Nat) {U c q low j X : Nat} {ex ey e F a b : Int} (w : World) (ha : Wd a) (hb : Wd b)
    (hsw : (expo b ≤ expo a ∧ sgn a = sx ∧ mant a = mx ∧ expo a = ex ∧ sgn b = sx ∧ mant b = my ∧ expo b = ey) ∨ (expo a < expo b ∧ sgn b = sx ∧ mant b = mx ∧ expo b = ex ∧ sgn a = sx ∧ mant a = my ∧ expo a = ey))
    (H : SumSet sx sx mx my U c q low j X ex ey e F)  :
    Calls Try.prog 72 #[.int .u64 a, .int .u64 b] w fun r w' => r = .returned (.int .u64 F) ∧ Below w.heap.size w w' := by
  have bex := H.hex
  have bey := H.hey
  have bU : U ≤ 64 := by have := H.hU; omega
  have bc : c ≤ 100000 := by have := H.hc; have := H.he; omega
  have be : -100000 ≤ e ∧ e ≤ 100000 := by have := H.he; have := H.hU; omega
  have rU := H.hU
  have rE := H.he
  have rC := H.hc
  have bq := H.qb
  have bX := H.Xb
  have bmx := H.hmx
  have bmy := H.hmy
  have CSH := fun v => shl_word mx U X v bmx H.hX bX (by omega)
  have CSR := fun v => shr_word my c q low v bmy H.hq H.hlow bc
  have CAD := fun v => wadd_nat X q v (by omega)
  have CJ := fun v => join_nat sx (X + q) e (decide (low ≠ 0)) v (by omega) (by omega) (by omega)
  rw [H.same] at CJ
  obtain ⟨D, hD⟩ : ∃ D, X + q = D := ⟨_, rfl⟩
  rw [hD] at CAD CJ
  have CA := fun v => split_any a v ha
  have CB := fun v => split_any b v hb
  obtain ⟨MO, hMO⟩ : ∃ MO, decide (low ≠ 0) = MO := ⟨_, rfl⟩
  rw [hMO] at CSR CJ
  obtain ⟨XxH, hXxH⟩ : ∃ XxH, hiOf (X : Int) = XxH := ⟨_, rfl⟩
  obtain ⟨XxL, hXxL⟩ : ∃ XxL, loOf (X : Int) = XxL := ⟨_, rfl⟩
  obtain ⟨qxH, hqxH⟩ : ∃ qxH, hiOf (q : Int) = qxH := ⟨_, rfl⟩
  obtain ⟨qxL, hqxL⟩ : ∃ qxL, loOf (q : Int) = qxL := ⟨_, rfl⟩
  obtain ⟨DxH, hDxH⟩ : ∃ DxH, hiOf (D : Int) = DxH := ⟨_, rfl⟩
  obtain ⟨DxL, hDxL⟩ : ∃ DxL, loOf (D : Int) = DxL := ⟨_, rfl⟩
  simp only [hXxH, hXxL] at CSH CAD
  simp only [hqxH, hqxL] at CSR CAD
  simp only [hDxH, hDxL] at CAD CJ
  replace CSH := Lib.hid CSH
  replace CSR := Lib.hid CSR
  replace CAD := Lib.hid CAD
  replace CJ := Lib.hid CJ
  replace CA := Lib.hid CA
  replace CB := Lib.hid CB
  have HSW := Lib.hid hsw
  have HE := Lib.hid (show ey ≤ ex by have := H.hc; have := H.he; omega)
  have RU := Lib.hid rU
  have RE := Lib.hid rE
  have RC := Lib.hid rC
  clear hsw H rU rE rC ha hb hD hMO hXxH hXxL hqxH hqxL hDxH hDxL
  go_enter Try.func72, Try.ntmps72
  go_upto_if 34 with (first | (go_at_call_of 43 (Value.int IntKind.u64 a); (with_reducible refine (CA.out _).mono ?_); rintro e w' ⟨rfl, rfl⟩) | (go_at_call_of 43 (Value.int IntKind.u64 b); (with_reducible refine (CB.out _).mono ?_); rintro e w' ⟨rfl, rfl⟩))
  go_cut [5, 6, 7, 8, 9, 10] (fun s5 s6 s7 s8 s9 s10 wx => s5 = .bool sx ∧ s6 = .int .u64 mx ∧ s7 = .int .i64 ex ∧ s8 = .bool sx ∧ s9 = .int .u64 my ∧ s10 = .int .i64 ey ∧ wx = w)
  case first =>
    rcases HSW.out with ⟨g, h1, h2, h3, h4, h5, h6⟩ | ⟨g, h1, h2, h3, h4, h5, h6⟩
    · have g2 : ¬ expo a < expo b := by omega
      have T1 := Lib.hid h1; have T2 := Lib.hid h2; have T3 := Lib.hid h3; have T4 := Lib.hid h4; have T5 := Lib.hid h5; have T6 := Lib.hid h6
      clear h1 h2 h3 h4 h5 h6 g
      go_wp2
      go_meet
      exact ⟨by rw [T1.out], by rw [T2.out], by rw [T3.out], by rw [T4.out], by rw [T5.out], by rw [T6.out], rfl⟩
    · have T1 := Lib.hid h1; have T2 := Lib.hid h2; have T3 := Lib.hid h3; have T4 := Lib.hid h4; have T5 := Lib.hid h5; have T6 := Lib.hid h6
      clear h1 h2 h3 h4 h5 h6
      go_wp2
      go_meet
      exact ⟨by rw [T1.out], by rw [T2.out], by rw [T3.out], by rw [T4.out], by rw [T5.out], by rw [T6.out], rfl⟩
  case rest =>
    obtain ⟨rfl, rfl, rfl, rfl, rfl, rfl, rfl⟩ := hcut
    have rU := RU.out
    have rE := RE.out
    have rC := RC.out
    clear HSW
    go_wp2_with fail
    (with_reducible refine (CSH.out _).mono ?_)
    rintro e w0 ⟨rfl, hb⟩
    have hB := Bel.st (Bel.re wc) hb
    clear hb
    go_wp2_with fail
    (with_reducible refine (CSR.out _).mono ?_)
    rintro e w1 ⟨rfl, hb⟩
    replace hB := Bel.st (Bel.al hB _) hb
    have T_x := (HdV.new w0 (.int .u64 XxH) (.int .u64 XxL) _).below hb
    clear hb
    have hxy : w0.heap.size ≠ w1.heap.size := Nat.ne_of_lt T_x.lt
    have hby : wc.heap.size ≤ w1.heap.size := hB.size
    obtain ⟨zx, cx0, cx1, fx0, fx1⟩ := id T_x
    go_wp2_with fail
    (with_reducible refine (CAD.out _).mono ?_)
    rintro e w2 ⟨rfl, hb⟩
    replace hB := Bel.st (Bel.al hB _) hb
    replace T_x := (T_x.alloc _).below hb
    have T_y := (HdV.new w1 (.int .u64 qxH) (.int .u64 qxL) _).below hb
    clear hb zx cx0 cx1 fx0 fx1
    go_wp2_with fail
    (with_reducible refine (CJ.out _).mono ?_)
    rintro e w3 ⟨rfl, hb⟩
    replace hB := Bel.st (Bel.al hB _) hb
    replace T_x := (T_x.alloc _).below hb
    replace T_y := (T_y.alloc _).below hb
    clear hb
    go_wp2_with fail
    go_ret
    exact ⟨rfl, hB⟩
set_option maxRecDepth 100000 in
set_option maxHeartbeats 8000000 in
theorem sum_eq (sx sy : Bool) (mx my : Nat) {U c q low j X : Nat} {ex ey e F a b : Int} (w : World) (ha : Wd a) (hb : Wd b)
    (hsw : (expo b ≤ expo a ∧ sgn a = sx ∧ mant a = mx ∧ expo a = ex ∧ sgn b = sy ∧ mant b = my ∧ expo b = ey) ∨ (expo a < expo b ∧ sgn b = sx ∧ mant b = mx ∧ expo b = ex ∧ sgn a = sy ∧ mant a = my ∧ expo a = ey))
    (H : SumSet sx sy mx my U c q low j X ex ey e F) (hst : sx ≠ sy) (h0 : low = 0) (hXq : X = q) :
    Calls Try.prog 72 #[.int .u64 a, .int .u64 b] w fun r w' => r = .returned (.int .u64 F) ∧ Below w.heap.size w w' := by
  have bex := H.hex
  have bey := H.hey
  have bU : U ≤ 64 := by have := H.hU; omega
  have bc : c ≤ 100000 := by have := H.hc; have := H.he; omega
  have be : -100000 ≤ e ∧ e ≤ 100000 := by have := H.he; have := H.hU; omega
  have rU := H.hU
  have rE := H.he
  have rC := H.hc
  have bq := H.qb
  have bX := H.Xb
  have bmx := H.hmx
  have bmy := H.hmy
  have CSH := fun v => shl_word mx U X v bmx H.hX bX (by omega)
  have CSR := fun v => shr_word my c q low v bmy H.hq H.hlow bc
  have hF := H.eq hst h0 hXq
  subst hF
  have CSB := fun v => wsub_nat X q v (by omega) (by omega)
  rw [show X - q = 0 by omega, show hiOf ((0 : Nat) : Int) = 0 from rfl, show loOf ((0 : Nat) : Int) = 0 from rfl] at CSB
  have CA := fun v => split_any a v ha
  have CB := fun v => split_any b v hb
  rw [show decide (low ≠ 0) = false by simp [h0]] at CSR
  obtain ⟨XxH, hXxH⟩ : ∃ XxH, hiOf (X : Int) = XxH := ⟨_, rfl⟩
  obtain ⟨XxL, hXxL⟩ : ∃ XxL, loOf (X : Int) = XxL := ⟨_, rfl⟩
  obtain ⟨qxH, hqxH⟩ : ∃ qxH, hiOf (q : Int) = qxH := ⟨_, rfl⟩
  obtain ⟨qxL, hqxL⟩ : ∃ qxL, loOf (q : Int) = qxL := ⟨_, rfl⟩
  simp only [hXxH, hXxL] at CSH CSB
  simp only [hqxH, hqxL] at CSR CSB
  have hst' : (sx == sy) = false := by simpa using hst
  replace CSH := Lib.hid CSH
  replace CSR := Lib.hid CSR
  replace CSB := Lib.hid CSB
  replace CA := Lib.hid CA
  replace CB := Lib.hid CB
  have HSW := Lib.hid hsw
  have HE := Lib.hid (show ey ≤ ex by have := H.hc; have := H.he; omega)
  have RU := Lib.hid rU
  have RE := Lib.hid rE
  have RC := Lib.hid rC
  clear hsw H rU rE rC ha hb hXq h0 hXxH hXxL hqxH hqxL hst
  go_enter Try.func72, Try.ntmps72
  go_upto_if 34 with (first | (go_at_call_of 43 (Value.int IntKind.u64 a); (with_reducible refine (CA.out _).mono ?_); rintro e w' ⟨rfl, rfl⟩) | (go_at_call_of 43 (Value.int IntKind.u64 b); (with_reducible refine (CB.out _).mono ?_); rintro e w' ⟨rfl, rfl⟩))
  go_cut [5, 6, 7, 8, 9, 10] (fun s5 s6 s7 s8 s9 s10 wx => s5 = .bool sx ∧ s6 = .int .u64 mx ∧ s7 = .int .i64 ex ∧ s8 = .bool sy ∧ s9 = .int .u64 my ∧ s10 = .int .i64 ey ∧ wx = w)
  case first =>
    rcases HSW.out with ⟨g, h1, h2, h3, h4, h5, h6⟩ | ⟨g, h1, h2, h3, h4, h5, h6⟩
    · have g2 : ¬ expo a < expo b := by omega
      have T1 := Lib.hid h1; have T2 := Lib.hid h2; have T3 := Lib.hid h3; have T4 := Lib.hid h4; have T5 := Lib.hid h5; have T6 := Lib.hid h6
      clear h1 h2 h3 h4 h5 h6 g
      go_wp2
      go_meet
      exact ⟨by rw [T1.out], by rw [T2.out], by rw [T3.out], by rw [T4.out], by rw [T5.out], by rw [T6.out], rfl⟩
    · have T1 := Lib.hid h1; have T2 := Lib.hid h2; have T3 := Lib.hid h3; have T4 := Lib.hid h4; have T5 := Lib.hid h5; have T6 := Lib.hid h6
      clear h1 h2 h3 h4 h5 h6
      go_wp2
      go_meet
      exact ⟨by rw [T1.out], by rw [T2.out], by rw [T3.out], by rw [T4.out], by rw [T5.out], by rw [T6.out], rfl⟩
  case rest =>
    obtain ⟨rfl, rfl, rfl, rfl, rfl, rfl, rfl⟩ := hcut
    have rU := RU.out
    have rE := RE.out
    have rC := RC.out
    clear HSW
    go_wp2_with fail
    (with_reducible refine (CSH.out _).mono ?_)
    rintro e w0 ⟨rfl, hb⟩
    have hB := Bel.st (Bel.re wc) hb
    clear hb
    go_wp2_with fail
    (with_reducible refine (CSR.out _).mono ?_)
    rintro e w1 ⟨rfl, hb⟩
    replace hB := Bel.st (Bel.al hB _) hb
    have T_x := (HdV.new w0 (.int .u64 XxH) (.int .u64 XxL) _).below hb
    clear hb
    have hxy : w0.heap.size ≠ w1.heap.size := Nat.ne_of_lt T_x.lt
    have hby : wc.heap.size ≤ w1.heap.size := hB.size
    obtain ⟨zx, cx0, cx1, fx0, fx1⟩ := id T_x
    go_wp2_with fail
    (with_reducible refine (CSB.out _).mono ?_)
    rintro e w2 ⟨rfl, hb⟩
    replace hB := Bel.st (Bel.al hB _) hb
    replace T_x := (T_x.alloc _).below hb
    have T_y := (HdV.new w1 (.int .u64 qxH) (.int .u64 qxL) _).below hb
    clear hb zx cx0 cx1 fx0 fx1
    go_wp2_with fail
    go_ret
    exact ⟨rfl, hB.alloc hB.size _⟩
set_option maxRecDepth 100000 in
set_option maxHeartbeats 8000000 in
theorem sum_gt (sx sy : Bool) (mx my : Nat) {U c q low j X : Nat} {ex ey e F a b : Int} (w : World) (ha : Wd a) (hb : Wd b)
    (hsw : (expo b ≤ expo a ∧ sgn a = sx ∧ mant a = mx ∧ expo a = ex ∧ sgn b = sy ∧ mant b = my ∧ expo b = ey) ∨ (expo a < expo b ∧ sgn b = sx ∧ mant b = mx ∧ expo b = ex ∧ sgn a = sy ∧ mant a = my ∧ expo a = ey))
    (H : SumSet sx sy mx my U c q low j X ex ey e F) (hst : sx ≠ sy) (h0 : low = 0) (hXq : q < X) :
    Calls Try.prog 72 #[.int .u64 a, .int .u64 b] w fun r w' => r = .returned (.int .u64 F) ∧ Below w.heap.size w w' := by
  have bex := H.hex
  have bey := H.hey
  have bU : U ≤ 64 := by have := H.hU; omega
  have bc : c ≤ 100000 := by have := H.hc; have := H.he; omega
  have be : -100000 ≤ e ∧ e ≤ 100000 := by have := H.he; have := H.hU; omega
  have rU := H.hU
  have rE := H.he
  have rC := H.hc
  have bq := H.qb
  have bX := H.Xb
  have bmx := H.hmx
  have bmy := H.hmy
  have CSH := fun v => shl_word mx U X v bmx H.hX bX (by omega)
  have CSR := fun v => shr_word my c q low v bmy H.hq H.hlow bc
  have CSB := fun v => wsub_nat X q v (by omega) (by omega)
  have CJ := fun v => join_nat sx (X - q) e false v (by omega) (by omega) (by omega)
  rw [H.gt hst h0 hXq] at CJ
  obtain ⟨D, hD⟩ : ∃ D, X - q = D := ⟨_, rfl⟩
  rw [hD] at CSB CJ
  have hnz : hiOf (D : Int) = 0 → loOf (D : Int) ≠ 0 := by unfold hiOf loOf; omega
  have CA := fun v => split_any a v ha
  have CB := fun v => split_any b v hb
  rw [show decide (low ≠ 0) = false by simp [h0]] at CSR
  obtain ⟨XxH, hXxH⟩ : ∃ XxH, hiOf (X : Int) = XxH := ⟨_, rfl⟩
  obtain ⟨XxL, hXxL⟩ : ∃ XxL, loOf (X : Int) = XxL := ⟨_, rfl⟩
  obtain ⟨qxH, hqxH⟩ : ∃ qxH, hiOf (q : Int) = qxH := ⟨_, rfl⟩
  obtain ⟨qxL, hqxL⟩ : ∃ qxL, loOf (q : Int) = qxL := ⟨_, rfl⟩
  obtain ⟨DxH, hDxH⟩ : ∃ DxH, hiOf (D : Int) = DxH := ⟨_, rfl⟩
  obtain ⟨DxL, hDxL⟩ : ∃ DxL, loOf (D : Int) = DxL := ⟨_, rfl⟩
  simp only [hXxH, hXxL] at CSH CSB
  simp only [hqxH, hqxL] at CSR CSB
  simp only [hDxH, hDxL] at CSB CJ hnz
  have hst' : (sx == sy) = false := by simpa using hst
  replace CSH := Lib.hid CSH
  replace CSR := Lib.hid CSR
  replace CSB := Lib.hid CSB
  replace CJ := Lib.hid CJ
  replace CA := Lib.hid CA
  replace CB := Lib.hid CB
  have HSW := Lib.hid hsw
  have HE := Lib.hid (show ey ≤ ex by have := H.hc; have := H.he; omega)
  have RU := Lib.hid rU
  have RE := Lib.hid rE
  have RC := Lib.hid rC
  clear hsw H rU rE rC ha hb hD h0 hXxH hXxL hqxH hqxL hDxH hDxL hst
  go_enter Try.func72, Try.ntmps72
  go_upto_if 34 with (first | (go_at_call_of 43 (Value.int IntKind.u64 a); (with_reducible refine (CA.out _).mono ?_); rintro e w' ⟨rfl, rfl⟩) | (go_at_call_of 43 (Value.int IntKind.u64 b); (with_reducible refine (CB.out _).mono ?_); rintro e w' ⟨rfl, rfl⟩))
  go_cut [5, 6, 7, 8, 9, 10] (fun s5 s6 s7 s8 s9 s10 wx => s5 = .bool sx ∧ s6 = .int .u64 mx ∧ s7 = .int .i64 ex ∧ s8 = .bool sy ∧ s9 = .int .u64 my ∧ s10 = .int .i64 ey ∧ wx = w)
  case first =>
    rcases HSW.out with ⟨g, h1, h2, h3, h4, h5, h6⟩ | ⟨g, h1, h2, h3, h4, h5, h6⟩
    · have g2 : ¬ expo a < expo b := by omega
      have T1 := Lib.hid h1; have T2 := Lib.hid h2; have T3 := Lib.hid h3; have T4 := Lib.hid h4; have T5 := Lib.hid h5; have T6 := Lib.hid h6
      clear h1 h2 h3 h4 h5 h6 g
      go_wp2
      go_meet
      exact ⟨by rw [T1.out], by rw [T2.out], by rw [T3.out], by rw [T4.out], by rw [T5.out], by rw [T6.out], rfl⟩
    · have T1 := Lib.hid h1; have T2 := Lib.hid h2; have T3 := Lib.hid h3; have T4 := Lib.hid h4; have T5 := Lib.hid h5; have T6 := Lib.hid h6
      clear h1 h2 h3 h4 h5 h6
      go_wp2
      go_meet
      exact ⟨by rw [T1.out], by rw [T2.out], by rw [T3.out], by rw [T4.out], by rw [T5.out], by rw [T6.out], rfl⟩
  case rest =>
    obtain ⟨rfl, rfl, rfl, rfl, rfl, rfl, rfl⟩ := hcut
    have rU := RU.out
    have rE := RE.out
    have rC := RC.out
    clear HSW
    go_wp2_with fail
    (with_reducible refine (CSH.out _).mono ?_)
    rintro e w0 ⟨rfl, hb⟩
    have hB := Bel.st (Bel.re wc) hb
    clear hb
    go_wp2_with fail
    (with_reducible refine (CSR.out _).mono ?_)
    rintro e w1 ⟨rfl, hb⟩
    replace hB := Bel.st (Bel.al hB _) hb
    have T_x := (HdV.new w0 (.int .u64 XxH) (.int .u64 XxL) _).below hb
    clear hb
    have hxy : w0.heap.size ≠ w1.heap.size := Nat.ne_of_lt T_x.lt
    have hby : wc.heap.size ≤ w1.heap.size := hB.size
    obtain ⟨zx, cx0, cx1, fx0, fx1⟩ := id T_x
    go_wp2_with fail
    (with_reducible refine (CSB.out _).mono ?_)
    rintro e w2 ⟨rfl, hb⟩
    replace hB := Bel.st (Bel.al hB _) hb
    replace T_x := (T_x.alloc _).below hb
    have T_y := (HdV.new w1 (.int .u64 qxH) (.int .u64 qxL) _).below hb
    clear hb zx cx0 cx1 fx0 fx1
    by_cases hz : DxH = 0
    · have hz1 : (DxH == 0) = true := by simpa using hz
      have hz2 : (DxL == 0) = false := by simpa using hnz hz
      clear hz hnz
      go_wp2_with fail
      (with_reducible refine (CJ.out _).mono ?_)
      rintro e w3 ⟨rfl, hb⟩
      replace hB := Bel.st (Bel.al hB _) hb
      replace T_x := (T_x.alloc _).below hb
      replace T_y := (T_y.alloc _).below hb
      clear hb
      go_wp2_with fail
      go_ret
      exact ⟨rfl, hB⟩
    · have hz1 : (DxH == 0) = false := by simpa using hz
      clear hz hnz
      go_wp2_with fail
      (with_reducible refine (CJ.out _).mono ?_)
      rintro e w3 ⟨rfl, hb⟩
      replace hB := Bel.st (Bel.al hB _) hb
      replace T_x := (T_x.alloc _).below hb
      replace T_y := (T_y.alloc _).below hb
      clear hb
      go_wp2_with fail
      go_ret
      exact ⟨rfl, hB⟩
set_option maxRecDepth 100000 in
set_option maxHeartbeats 8000000 in
theorem sum_lt (sx sy : Bool) (mx my : Nat) {U c q low j X : Nat} {ex ey e F a b : Int} (w : World) (ha : Wd a) (hb : Wd b)
    (hsw : (expo b ≤ expo a ∧ sgn a = sx ∧ mant a = mx ∧ expo a = ex ∧ sgn b = sy ∧ mant b = my ∧ expo b = ey) ∨ (expo a < expo b ∧ sgn b = sx ∧ mant b = mx ∧ expo b = ex ∧ sgn a = sy ∧ mant a = my ∧ expo a = ey))
    (H : SumSet sx sy mx my U c q low j X ex ey e F) (hst : sx ≠ sy) (h0 : low = 0) (hXq : X < q) :
    Calls Try.prog 72 #[.int .u64 a, .int .u64 b] w fun r w' => r = .returned (.int .u64 F) ∧ Below w.heap.size w w' := by
  have bex := H.hex
  have bey := H.hey
  have bU : U ≤ 64 := by have := H.hU; omega
  have bc : c ≤ 100000 := by have := H.hc; have := H.he; omega
  have be : -100000 ≤ e ∧ e ≤ 100000 := by have := H.he; have := H.hU; omega
  have rU := H.hU
  have rE := H.he
  have rC := H.hc
  have bq := H.qb
  have bX := H.Xb
  have bmx := H.hmx
  have bmy := H.hmy
  have CSH := fun v => shl_word mx U X v bmx H.hX bX (by omega)
  have CSR := fun v => shr_word my c q low v bmy H.hq H.hlow bc
  have CSB := fun v => wsub_nat q X v (by omega) (by omega)
  have CSU := fun v => wsub_under X q v hXq (by omega)
  obtain ⟨UH, hUH⟩ : ∃ UH, hiOf (((X : Int) - (q : Int)) % bit128) = UH := ⟨_, rfl⟩
  obtain ⟨UL, hUL⟩ : ∃ UL, loOf (((X : Int) - (q : Int)) % bit128) = UL := ⟨_, rfl⟩
  rw [hUH, hUL] at CSU
  have CJ := fun v => join_nat sy (q - X) e false v (by omega) (by omega) (by omega)
  rw [H.lt hst h0 hXq] at CJ
  obtain ⟨D, hD⟩ : ∃ D, q - X = D := ⟨_, rfl⟩
  rw [hD] at CSB CJ
  have CA := fun v => split_any a v ha
  have CB := fun v => split_any b v hb
  rw [show decide (low ≠ 0) = false by simp [h0]] at CSR
  obtain ⟨XxH, hXxH⟩ : ∃ XxH, hiOf (X : Int) = XxH := ⟨_, rfl⟩
  obtain ⟨XxL, hXxL⟩ : ∃ XxL, loOf (X : Int) = XxL := ⟨_, rfl⟩
  obtain ⟨qxH, hqxH⟩ : ∃ qxH, hiOf (q : Int) = qxH := ⟨_, rfl⟩
  obtain ⟨qxL, hqxL⟩ : ∃ qxL, loOf (q : Int) = qxL := ⟨_, rfl⟩
  obtain ⟨DxH, hDxH⟩ : ∃ DxH, hiOf (D : Int) = DxH := ⟨_, rfl⟩
  obtain ⟨DxL, hDxL⟩ : ∃ DxL, loOf (D : Int) = DxL := ⟨_, rfl⟩
  simp only [hXxH, hXxL] at CSH CSB CSU
  simp only [hqxH, hqxL] at CSR CSB CSU
  simp only [hDxH, hDxL] at CSB CJ
  have hst' : (sx == sy) = false := by simpa using hst
  replace CSH := Lib.hid CSH
  replace CSR := Lib.hid CSR
  replace CSB := Lib.hid CSB
  replace CSU := Lib.hid CSU
  replace CJ := Lib.hid CJ
  replace CA := Lib.hid CA
  replace CB := Lib.hid CB
  have HSW := Lib.hid hsw
  have HE := Lib.hid (show ey ≤ ex by have := H.hc; have := H.he; omega)
  have RU := Lib.hid rU
  have RE := Lib.hid rE
  have RC := Lib.hid rC
  clear hsw H rU rE rC ha hb hD h0 hUH hUL hXxH hXxL hqxH hqxL hDxH hDxL hst
  go_enter Try.func72, Try.ntmps72
  go_upto_if 34 with (first | (go_at_call_of 43 (Value.int IntKind.u64 a); (with_reducible refine (CA.out _).mono ?_); rintro e w' ⟨rfl, rfl⟩) | (go_at_call_of 43 (Value.int IntKind.u64 b); (with_reducible refine (CB.out _).mono ?_); rintro e w' ⟨rfl, rfl⟩))
  go_cut [5, 6, 7, 8, 9, 10] (fun s5 s6 s7 s8 s9 s10 wx => s5 = .bool sx ∧ s6 = .int .u64 mx ∧ s7 = .int .i64 ex ∧ s8 = .bool sy ∧ s9 = .int .u64 my ∧ s10 = .int .i64 ey ∧ wx = w)
  case first =>
    rcases HSW.out with ⟨g, h1, h2, h3, h4, h5, h6⟩ | ⟨g, h1, h2, h3, h4, h5, h6⟩
    · have g2 : ¬ expo a < expo b := by omega
      have T1 := Lib.hid h1; have T2 := Lib.hid h2; have T3 := Lib.hid h3; have T4 := Lib.hid h4; have T5 := Lib.hid h5; have T6 := Lib.hid h6
      clear h1 h2 h3 h4 h5 h6 g
      go_wp2
      go_meet
      exact ⟨by rw [T1.out], by rw [T2.out], by rw [T3.out], by rw [T4.out], by rw [T5.out], by rw [T6.out], rfl⟩
    · have T1 := Lib.hid h1; have T2 := Lib.hid h2; have T3 := Lib.hid h3; have T4 := Lib.hid h4; have T5 := Lib.hid h5; have T6 := Lib.hid h6
      clear h1 h2 h3 h4 h5 h6
      go_wp2
      go_meet
      exact ⟨by rw [T1.out], by rw [T2.out], by rw [T3.out], by rw [T4.out], by rw [T5.out], by rw [T6.out], rfl⟩
  case rest =>
    obtain ⟨rfl, rfl, rfl, rfl, rfl, rfl, rfl⟩ := hcut
    have rU := RU.out
    have rE := RE.out
    have rC := RC.out
    clear HSW
    go_wp2_with fail
    (with_reducible refine (CSH.out _).mono ?_)
    rintro e w0 ⟨rfl, hb⟩
    have hB := Bel.st (Bel.re wc) hb
    clear hb
    go_wp2_with fail
    (with_reducible refine (CSR.out _).mono ?_)
    rintro e w1 ⟨rfl, hb⟩
    replace hB := Bel.st (Bel.al hB _) hb
    have T_x := (HdV.new w0 (.int .u64 XxH) (.int .u64 XxL) _).below hb
    clear hb
    have hxy : w0.heap.size ≠ w1.heap.size := Nat.ne_of_lt T_x.lt
    have hby : wc.heap.size ≤ w1.heap.size := hB.size
    obtain ⟨zx, cx0, cx1, fx0, fx1⟩ := id T_x
    go_wp2_with fail
    (with_reducible refine (CSU.out _).mono ?_)
    rintro e w2 ⟨rfl, hb⟩
    replace hB := Bel.st (Bel.al hB _) hb
    replace T_x := (T_x.alloc _).below hb
    have T_y := (HdV.new w1 (.int .u64 qxH) (.int .u64 qxL) _).below hb
    clear hb zx cx0 cx1 fx0 fx1
    have hxd : w0.heap.size ≠ w2.heap.size := Nat.ne_of_lt T_x.lt
    have hyd : w1.heap.size ≠ w2.heap.size := Nat.ne_of_lt T_y.lt
    have hbd : wc.heap.size ≤ w2.heap.size := hB.size
    obtain ⟨zx, cx0, cx1, fx0, fx1⟩ := id T_x
    obtain ⟨zy, cy0, cy1, fy0, fy1⟩ := id T_y
    go_wp2_with fail
    (with_reducible refine (CSB.out _).mono ?_)
    rintro e w3 ⟨rfl, hb⟩
    replace hB := Bel.st (Bel.al hB _) hb
    replace T_x := (T_x.alloc _).below hb
    replace T_y := (T_y.alloc _).below hb
    have T_d := (HdV.new w2 (.int .u64 UH) (.int .u64 UL) _).below hb
    clear hb zx cx0 cx1 fx0 fx1 zy cy0 cy1 fy0 fy1
    obtain ⟨zd, cd0, cd1, fd0, fd1⟩ := id T_d
    go_wp2_with fail
    (with_reducible refine (CJ.out _).mono ?_)
    rintro e w4 ⟨rfl, hb⟩
    replace hB := Bel.st (Bel.se2 (G := w2.heap.size) hB hbd _ _) hb
    replace T_x := (T_x.keep2 (G := w2.heap.size) (Ne.symm hxd) _ _).below hb
    replace T_y := (T_y.keep2 (G := w2.heap.size) (Ne.symm hyd) _ _).below hb
    replace T_d := (T_d.set _ _).below hb
    clear hb zd cd0 cd1 fd0 fd1
    go_wp2_with fail
    go_ret
    exact ⟨rfl, hB⟩
set_option maxRecDepth 100000 in
set_option maxHeartbeats 8000000 in
theorem sum_more (sx sy : Bool) (mx my : Nat) {U c q low j X : Nat} {ex ey e F a b : Int} (w : World) (ha : Wd a) (hb : Wd b)
    (hsw : (expo b ≤ expo a ∧ sgn a = sx ∧ mant a = mx ∧ expo a = ex ∧ sgn b = sy ∧ mant b = my ∧ expo b = ey) ∨ (expo a < expo b ∧ sgn b = sx ∧ mant b = mx ∧ expo b = ex ∧ sgn a = sy ∧ mant a = my ∧ expo a = ey))
    (H : SumSet sx sy mx my U c q low j X ex ey e F) (hst : sx ≠ sy) (h0 : low ≠ 0) :
    Calls Try.prog 72 #[.int .u64 a, .int .u64 b] w fun r w' => r = .returned (.int .u64 F) ∧ Below w.heap.size w w' := by
  have bex := H.hex
  have bey := H.hey
  have bU : U ≤ 64 := by have := H.hU; omega
  have bc : c ≤ 100000 := by have := H.hc; have := H.he; omega
  have be : -100000 ≤ e ∧ e ≤ 100000 := by have := H.he; have := H.hU; omega
  have rU := H.hU
  have rE := H.he
  have rC := H.hc
  have bq := H.qb
  have bX := H.Xb
  have bmx := H.hmx
  have bmy := H.hmy
  have CSH := fun v => shl_word mx U X v bmx H.hX bX (by omega)
  have CSR := fun v => shr_word my c q low v bmy H.hq H.hlow bc
  obtain ⟨hf, hq1, hX1⟩ := H.more hst h0
  have CAD := fun v => wadd_nat q 1 v (by omega)
  rw [show hiOf ((1 : Nat) : Int) = 0 from rfl, show loOf ((1 : Nat) : Int) = 1 from rfl] at CAD
  have CSB := fun v => wsub_nat X (q + 1) v hq1 (by omega)
  have CJ := fun v => join_nat sx (X - (q + 1)) e true v (by omega) (by omega) (by omega)
  rw [hf] at CJ
  obtain ⟨Q1, hQ1⟩ : ∃ Q1, q + 1 = Q1 := ⟨_, rfl⟩
  rw [hQ1] at CAD CSB CJ hq1
  obtain ⟨D, hD⟩ : ∃ D, X - Q1 = D := ⟨_, rfl⟩
  rw [hD] at CSB CJ
  have hnz : (hiOf (D : Int) == 0) = false := by
    have : hiOf (D : Int) ≠ 0 := by unfold hiOf; omega
    simpa using this
  obtain ⟨QH, hQH⟩ : ∃ QH, hiOf (Q1 : Int) = QH := ⟨_, rfl⟩
  obtain ⟨QL, hQL⟩ : ∃ QL, loOf (Q1 : Int) = QL := ⟨_, rfl⟩
  rw [hQH, hQL] at CAD CSB
  have CA := fun v => split_any a v ha
  have CB := fun v => split_any b v hb
  rw [show decide (low ≠ 0) = true by simpa using h0] at CSR
  obtain ⟨XxH, hXxH⟩ : ∃ XxH, hiOf (X : Int) = XxH := ⟨_, rfl⟩
  obtain ⟨XxL, hXxL⟩ : ∃ XxL, loOf (X : Int) = XxL := ⟨_, rfl⟩
  obtain ⟨qxH, hqxH⟩ : ∃ qxH, hiOf (q : Int) = qxH := ⟨_, rfl⟩
  obtain ⟨qxL, hqxL⟩ : ∃ qxL, loOf (q : Int) = qxL := ⟨_, rfl⟩
  obtain ⟨DxH, hDxH⟩ : ∃ DxH, hiOf (D : Int) = DxH := ⟨_, rfl⟩
  obtain ⟨DxL, hDxL⟩ : ∃ DxL, loOf (D : Int) = DxL := ⟨_, rfl⟩
  simp only [hXxH, hXxL] at CSH CSB
  simp only [hqxH, hqxL] at CSR CAD
  simp only [hDxH, hDxL] at CSB CJ
  rw [hDxH] at hnz
  have hst' : (sx == sy) = false := by simpa using hst
  replace CSH := Lib.hid CSH
  replace CSR := Lib.hid CSR
  replace CAD := Lib.hid CAD
  replace CSB := Lib.hid CSB
  replace CJ := Lib.hid CJ
  replace CA := Lib.hid CA
  replace CB := Lib.hid CB
  have HSW := Lib.hid hsw
  have HE := Lib.hid (show ey ≤ ex by have := H.hc; have := H.he; omega)
  have RU := Lib.hid rU
  have RE := Lib.hid rE
  have RC := Lib.hid rC
  clear hsw H rU rE rC ha hb hQ1 hD hQH hQL h0 hX1 hf hXxH hXxL hqxH hqxL hDxH hDxL hst
  go_enter Try.func72, Try.ntmps72
  go_upto_if 34 with (first | (go_at_call_of 43 (Value.int IntKind.u64 a); (with_reducible refine (CA.out _).mono ?_); rintro e w' ⟨rfl, rfl⟩) | (go_at_call_of 43 (Value.int IntKind.u64 b); (with_reducible refine (CB.out _).mono ?_); rintro e w' ⟨rfl, rfl⟩))
  go_cut [5, 6, 7, 8, 9, 10] (fun s5 s6 s7 s8 s9 s10 wx => s5 = .bool sx ∧ s6 = .int .u64 mx ∧ s7 = .int .i64 ex ∧ s8 = .bool sy ∧ s9 = .int .u64 my ∧ s10 = .int .i64 ey ∧ wx = w)
  case first =>
    rcases HSW.out with ⟨g, h1, h2, h3, h4, h5, h6⟩ | ⟨g, h1, h2, h3, h4, h5, h6⟩
    · have g2 : ¬ expo a < expo b := by omega
      have T1 := Lib.hid h1; have T2 := Lib.hid h2; have T3 := Lib.hid h3; have T4 := Lib.hid h4; have T5 := Lib.hid h5; have T6 := Lib.hid h6
      clear h1 h2 h3 h4 h5 h6 g
      go_wp2
      go_meet
      exact ⟨by rw [T1.out], by rw [T2.out], by rw [T3.out], by rw [T4.out], by rw [T5.out], by rw [T6.out], rfl⟩
    · have T1 := Lib.hid h1; have T2 := Lib.hid h2; have T3 := Lib.hid h3; have T4 := Lib.hid h4; have T5 := Lib.hid h5; have T6 := Lib.hid h6
      clear h1 h2 h3 h4 h5 h6
      go_wp2
      go_meet
      exact ⟨by rw [T1.out], by rw [T2.out], by rw [T3.out], by rw [T4.out], by rw [T5.out], by rw [T6.out], rfl⟩
  case rest =>
    obtain ⟨rfl, rfl, rfl, rfl, rfl, rfl, rfl⟩ := hcut
    have rU := RU.out
    have rE := RE.out
    have rC := RC.out
    clear HSW
    go_wp2_with fail
    (with_reducible refine (CSH.out _).mono ?_)
    rintro e w0 ⟨rfl, hb⟩
    have hB := Bel.st (Bel.re wc) hb
    clear hb
    go_wp2_with fail
    (with_reducible refine (CSR.out _).mono ?_)
    rintro e w1 ⟨rfl, hb⟩
    replace hB := Bel.st (Bel.al hB _) hb
    have T_x := (HdV.new w0 (.int .u64 XxH) (.int .u64 XxL) _).below hb
    clear hb
    have hxy : w0.heap.size ≠ w1.heap.size := Nat.ne_of_lt T_x.lt
    have hby : wc.heap.size ≤ w1.heap.size := hB.size
    obtain ⟨zx, cx0, cx1, fx0, fx1⟩ := id T_x
    go_wp2_with fail
    (with_reducible refine (CAD.out _).mono ?_)
    rintro e w2 ⟨rfl, hb⟩
    replace hB := Bel.st (Bel.al hB _) hb
    replace T_x := (T_x.alloc _).below hb
    have T_y := (HdV.new w1 (.int .u64 qxH) (.int .u64 qxL) _).below hb
    clear hb zx cx0 cx1 fx0 fx1
    obtain ⟨zx, cx0, cx1, fx0, fx1⟩ := id T_x
    obtain ⟨zy, cy0, cy1, fy0, fy1⟩ := id T_y
    have hby2 := hby
    go_wp2_with fail
    (with_reducible refine (CSB.out _).mono ?_)
    rintro e w3 ⟨rfl, hb⟩
    replace hB := Bel.st (Bel.se2 (G := w1.heap.size) hB hby _ _) hb
    replace T_x := (T_x.keep2 (G := w1.heap.size) (Ne.symm hxy) _ _).below hb
    replace T_y := (T_y.set _ _).below hb
    clear hb zx cx0 cx1 fx0 fx1 zy cy0 cy1 fy0 fy1
    go_wp2_with fail
    (with_reducible refine (CJ.out _).mono ?_)
    rintro e w4 ⟨rfl, hb⟩
    replace hB := Bel.st (Bel.al hB _) hb
    replace T_x := (T_x.alloc _).below hb
    replace T_y := (T_y.alloc _).below hb
    clear hb
    go_wp2_with fail
    go_ret
    exact ⟨rfl, hB⟩
end Go.Proofs.Ytjlmchbpdkojeaa
