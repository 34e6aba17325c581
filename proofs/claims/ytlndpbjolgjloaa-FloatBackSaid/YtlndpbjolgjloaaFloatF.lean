/-
  The walk of float.Round.
-/
import Derived.Test.YtlndpbjolgjloaaFloatE
import Derived.StillTailTactics
namespace Go.Proofs.Ytlndpbjolgjloaa
open Go.RowKit Go.Shelf

/-- The number of the highest j limbs, as the program holds it. -/
def topN (l : List Nat) (q j : Nat) : Nat := Pl.val (l.drop (q - j))
theorem topN_zero {l : List Nat} {q : Nat} (h : l.length = q) : topN l q 0 = 0 := by
  unfold topN; rw [Nat.sub_zero, ← h, List.drop_length]; rfl
theorem topN_all (l : List Nat) (q : Nat) : topN l q q = Pl.val l := by unfold topN; rw [Nat.sub_self]; rfl
theorem topN_step {l : List Nat} {q j p x : Nat} (h : l.length = q) (hp : p + 1 + j = q) (hx : l.getD p 0 = x) : topN l q (j + 1) = topN l q j * 4294967296 + x := by
  unfold topN
  have e1 : q - (j + 1) = p := by omega
  have e2 : q - j = p + 1 := by omega
  rw [e1, e2, Pl.drop_getD l p (by omega), hx]
  show x + 4294967296 * Pl.val (l.drop (p + 1)) = _
  omega
theorem topN_lt {l : List Nat} {q j : Nat} (h : l.length = q) (hf : Pl.Fit l) (hj : j ≤ q) (hq : j < 4) : topN l q j < 79228162514264337593543950336 := by
  unfold topN
  have := Pl.val_lt (hf.drop (q - j))
  rw [List.length_drop, h] at this
  have e : q - (q - j) = j := by omega
  rw [e] at this
  have h3 : Pl.B32 ^ j ≤ Pl.B32 ^ 3 := Nat.pow_le_pow_right Pl.B32_pos (by omega)
  have h4 : Pl.B32 ^ 3 = 79228162514264337593543950336 := by decide
  omega
/-- A step of Round's second loop: the number goes up by a limb. -/
theorem shl_32 {A : Int} (h0 : 0 ≤ A) (h1 : A < 79228162514264337593543950336) : shlN A 32 = A * 4294967296 := by
  have e : (2 : Int) ^ 32 = 4294967296 := by decide
  unfold shlN bit128
  rw [e]; omega
theorem or_limb {A x : Int} (x0 : 0 ≤ x) (x1 : x < 4294967296) : bits .or .u64 (loOf (A * 4294967296)) x = loOf (A * 4294967296 + x) ∧ hiOf (A * 4294967296) = hiOf (A * 4294967296 + x) := by
  have e : (2 : Int) ^ 32 = 4294967296 := by decide
  rw [or_join _ x 32 (by unfold loOf; omega) (by rw [e]; unfold loOf; omega) (by unfold loOf; omega) x0 (by rw [e]; exact x1) (by omega)]
  unfold loOf hiOf
  omega

/-- What stands behind Round's first half: at most four limbs that lead to the wanted bits. -/
structure Half (neg : Bool) (F : Int) (w w' : World) (A : Option Addr) (q c : Nat) (l : List Nat) (e : Int) (m : Bool) : Prop where
  q4 : q ≤ 4
  qc : q ≤ c
  cm : c ≤ maxLen
  lim : Lim w' A q l
  e0 : -9223372036854775808 ≤ e
  e1 : e < 9223372036854775808
  bits : fbits neg (Pl.val l) e m = F
  below : Below w.heap.size w w'

set_option maxRecDepth 100000 in
set_option maxHeartbeats 4000000 in
theorem fround_any (neg more : Bool) {v : Value} {N d : Nat} (e : Int) (w : World) (hs : SliceV w v N d) (hd : d ≤ 100000) (e0 : -9223372036854775808 ≤ e) (e1 : e < 9223372036854775808) :
    Calls Try.prog 28 #[.bool neg, v, .int .i64 e, .bool more] w fun r w' => r = .returned (.int .u64 (fbits neg N e more)) ∧ Below w.heap.size w w' := by
  obtain ⟨m, hm⟩ : ∃ m, (Pl.limbs N).length = m := ⟨_, rfl⟩
  have hmd : m ≤ d := by rw [← hm]; exact Pl.limbs_len_le hs.lt
  obtain ⟨F, hF⟩ : ∃ F, fbits neg N e more = F := ⟨_, rfl⟩
  rw [hF]
  obtain ⟨K, hK⟩ : ∃ K : Int, (m : Int) - 4 = K := ⟨_, rfl⟩
  have HM := Lib.hid hm
  have HF := Lib.hid hF
  have HS := Lib.hid hs
  clear hm hF hs
  go_enter Try.func28, Try.ntmps28
  go_upto_if 20 with (go_at_call 41; refine (ntrim_v HS.out (by omega)).mono ?_; rintro r w1 ⟨v1, rfl, ⟨A1, n1, c1, rfl, h1, h2, hl1⟩, hb1⟩; obtain rfl : n1 = m := hl1.len.symm.trans HM.out; have HL1 := Lib.hid hl1; clear hl1)
  go_cut [1, 2, 3, 11] (fun nv ev mv xv wx => ∃ A q c l e' m', nv = .slice A q c ∧ ev = .int .i64 e' ∧ mv = .bool m' ∧ Half neg F w wx A q c l e' m')
  case first =>
    by_cases h4 : 0 < K
    · obtain ⟨cut, rfl⟩ : ∃ cut : Nat, K = cut := ⟨K.toNat, by omega⟩
      have hc0 : 0 < cut := by omega
      have hc1 : cut < n1 := by omega
      have hc2 : cut < c1 := by omega
      have hnc := Lib.hid (show n1 = cut + 4 by omega)
      obtain ⟨CB1, CB2⟩ := cut_bits neg more e HM.out hnc.out
      have C1 := Lib.hid (CB1.trans HF.out)
      have C2 := Lib.hid (fun h => (CB2 h).trans HF.out)
      clear CB1 CB2
      obtain ⟨ad, hA, hadb, _⟩ := HL1.out.at_ (k := 0) (by omega)
      subst hA
      go_wp2
      · go_loop [3, 11, 25] (fun mv _ iv => ∃ j : Nat, iv = .int .i64 j ∧ j ≤ cut ∧ mv = .bool (more || decide (Pl.val ((Pl.limbs N).take j) ≠ 0))) (fun _ _ iv => cut - (intOf iv).toNat)
        case atStart => exact ⟨0, rfl, Nat.zero_le _, by simp [Pl.val]⟩
        case round =>
          obtain ⟨j, rfl, hj, rfl⟩ := hrel
          by_cases hlt : j < cut
          · obtain ⟨ad', hA', _, hcell⟩ := HL1.out.at_ (k := j) (by omega)
            injection hA' with hA'
            subst hA'
            have hx := (Pl.fit_limbs N).get j
            obtain ⟨x, hxe⟩ : ∃ x, (Pl.limbs N).getD j 0 = x := ⟨_, rfl⟩
            rw [hxe] at hcell hx
            unfold Pl.B32 at hx
            have HMS := Lib.hid (more_step more (Pl.limbs N) j x (by have := HM.out; omega) hxe)
            clear hxe
            obtain ⟨B, hB⟩ : ∃ B, (more || decide (Pl.val ((Pl.limbs N).take j) ≠ 0)) = B := ⟨_, rfl⟩
            rw [hB] at HMS
            rw [hB]
            clear hB
            cases B
            all_goals
              by_cases hx0 : (0 : Int) < x
              all_goals
                go_wp2
                go_round
                case rel => exact ⟨j + 1, by go_num, by omega, veB (by rw [HMS.out]; simp; try omega)⟩
                case measure => simp [intOf]; omega
          · obtain rfl : j = cut := by omega
            obtain ⟨B, hB⟩ : ∃ B, (more || decide (Pl.val ((Pl.limbs N).take j) ≠ 0)) = B := ⟨_, rfl⟩
            rw [hB] at C1 C2
            rw [hB]
            clear hB
            have hne : (c1 == j) = false := by simp; omega
            have hne' : ((c1 : Int) == (j : Int)) = false := by simp; omega
            have hcj : c1 ≠ j := by omega
            have hsub := Lib.hid (show n1 - j = 4 by omega)
            by_cases he : e < 4611686018427387904
            · go_wp2
              go_meet
              refine ⟨_, _, _, (Pl.limbs N).drop j, _, _, rfl, rfl, rfl, ?_⟩
              exact Half.mk (by omega) (by omega) (Nat.le_trans (Nat.sub_le _ _) h2) (HL1.out.drop (Nat.le_of_lt hc1)) (by omega) (by omega) C1.out hb1
            · go_wp2
              go_meet
              refine ⟨_, _, _, (Pl.limbs N).drop j, _, _, rfl, rfl, rfl, ?_⟩
              exact Half.mk (by omega) (by omega) (Nat.le_trans (Nat.sub_le _ _) h2) (HL1.out.drop (Nat.le_of_lt hc1)) e0 e1 (C2.out (by omega)) hb1
    · go_wp2
      go_meet
      exact ⟨A1, n1, c1, _, e, more, rfl, rfl, rfl, ⟨by omega, h1, h2, HL1.out, e0, e1, by rw [Pl.val_limbs]; exact HF.out, hb1⟩⟩
  case rest =>
    obtain ⟨A, q, c, l, e', m', rfl, rfl, rfl, hh⟩ := hcut
    have hq4 := hh.q4
    have hlen := Lib.hid hh.lim.len
    have hfit := hh.lim.fit
    have HL := Lib.hid hh.lim
    have HH := Lib.hid hh
    have hz0 : w.heap.size ≤ wc.heap.size := hh.below.size
    clear hh HL1 HM HS HF h1 h2 hb1 hK hmd
    have T0 := Lib.hid (topN_zero hlen.out)
    go_wp2
    go_loopw [13, 46] (fun _ iv wr => ∃ (j T : Nat), iv = .int .i64 j ∧ j ≤ q ∧ topN l q j = T ∧ wr.cell? ⟨wc.heap.size, 0, none⟩ = some (.int .u64 (hiOf (T : Int))) ∧ wr.cell? ⟨wc.heap.size, 1, none⟩ = some (.int .u64 (loOf (T : Int))) ∧ wr.frozen? ⟨wc.heap.size, 0, none⟩ = false ∧ wr.frozen? ⟨wc.heap.size, 1, none⟩ = false ∧ wc.heap.size < wr.heap.size ∧ Below wc.heap.size wc wr) (fun _ iv _ => q - (intOf iv).toNat)
    case atStart => exact ⟨0, 0, rfl, Nat.zero_le _, T0.out, by simp [go_sem, hiOf], by simp [go_sem, loOf], by simp [go_sem], by simp [go_sem], by simp, (Below.refl _ _).alloc (Nat.le_refl _) _⟩
    case round =>
      obtain ⟨j, T, rfl, hj, hT, d0, d1, f0, f1, z1, hB⟩ := hrel
      have HT := Lib.hid hT
      have HB := Lib.hid hB
      clear hT hB
      by_cases hlt : j < q
      · obtain ⟨p, hp⟩ : ∃ p, p + 1 + j = q := ⟨q - 1 - j, by omega⟩
        have hidx : (q : Int) - 1 - (j : Int) = (p : Int) := by omega
        have hpq : p < q := by omega
        have hp0 : (0 : Int) ≤ (p : Int) := by omega
        have hpq' : (p : Int) < (q : Int) := by omega
        obtain ⟨ad, hA, hadb, hcell⟩ := HL.out.at_ hpq
        have hx := hfit.get p
        obtain ⟨x, hxe⟩ : ∃ x, l.getD p 0 = x := ⟨_, rfl⟩
        rw [hxe] at hcell hx
        unfold Pl.B32 at hx
        have hab : (ad.add p).block < wc.heap.size := by rw [block_of_add]; exact hadb
        have hcell : wr.cell? (ad.add p) = some (.int .u32 (x : Int)) := (HB.out.cell hab).trans hcell
        have HS := Lib.hid ((topN_step hlen.out hp hxe).trans (by rw [HT.out]))
        have hT1 : T < 79228162514264337593543950336 := by rw [← HT.out]; exact topN_lt hlen.out hfit hj (by omega)
        clear hxe hp
        subst hA
        have wd1 : Wd (hiOf (T : Int)) := Wd.hi (by omega) (by omega)
        have wd2 : Wd (loOf (T : Int)) := Wd.lo _
        have S32 := Lib.hid (shl_32 (A := (T : Int)) (by omega) (by omega))
        obtain ⟨o1, o2⟩ := or_limb (A := (T : Int)) (x := (x : Int)) (by omega) (by omega)
        obtain ⟨T2, hT2⟩ : ∃ T2, T * 4294967296 + x = T2 := ⟨_, rfl⟩
        have hT3 : (T : Int) * 4294967296 + x = T2 := by omega
        rw [hT2] at HS
        rw [hT3] at o1 o2
        obtain ⟨LL, hLL⟩ : ∃ LL, loOf ((T : Int) * 4294967296) = LL := ⟨_, rfl⟩
        obtain ⟨L2, hL2⟩ : ∃ L2, loOf (T2 : Int) = L2 := ⟨_, rfl⟩
        obtain ⟨H2, hH2⟩ : ∃ H2, hiOf (T2 : Int) = H2 := ⟨_, rfl⟩
        have wll : Wd LL := by rw [← hLL]; exact Wd.lo _
        obtain ⟨wl0, wl1⟩ := wll
        have wl2 : 0 ≤ L2 ∧ L2 < 18446744073709551616 := by rw [← hL2]; exact Wd.lo _
        rw [hLL, hL2] at o1
        rw [hH2] at o2
        have O2 := Lib.hid o2
        have HLL := Lib.hid hLL
        have HL2 := Lib.hid hL2
        have HH2 := Lib.hid hH2
        clear o2 hT2 hT3 hT1 hLL hL2 hH2
        go_upto_region 17 with (go_at_call 32; refine (shl_k _ _ 32 32 _ wd1 wd2 (by decide) (by decide)).mono ?_; rw [num_parts, S32.out, O2.out, HLL.out]; rintro r w2 ⟨rfl, hb2⟩; have d2 : w2.cell? ⟨wc.heap.size, 0, none⟩ = some (.int .u64 (hiOf (T : Int))) := (hb2.cell (p := ⟨wc.heap.size, 0, none⟩) z1).trans d0; have d3 : w2.cell? ⟨wc.heap.size, 1, none⟩ = some (.int .u64 (loOf (T : Int))) := (hb2.cell (p := ⟨wc.heap.size, 1, none⟩) z1).trans d1; have f2 : w2.frozen? ⟨wc.heap.size, 0, none⟩ = false := (hb2.frozen (p := ⟨wc.heap.size, 0, none⟩) z1).trans f0; have f3 : w2.frozen? ⟨wc.heap.size, 1, none⟩ = false := (hb2.frozen (p := ⟨wc.heap.size, 1, none⟩) z1).trans f1; have z2 : wc.heap.size < w2.heap.size := Nat.lt_of_lt_of_le z1 hb2.size; have B2 := Lib.hid (below_trans' (hb2.mono (Nat.le_of_lt z1)) HB.out); have hc2 : ∀ u v : Value, ((w2.setCell ⟨wc.heap.size, 0, none⟩ u).setCell ⟨wc.heap.size, 1, none⟩ v).cell? (ad.add p) = some (.int .u32 (x : Int)) := fun u v => (World.cell?_setCell_other _ _ _ _ (fun e => by rw [← e] at hab; exact Nat.lt_irrefl _ hab)).trans ((World.cell?_setCell_other _ _ _ _ (fun e => by rw [← e] at hab; exact Nat.lt_irrefl _ hab)).trans ((hb2.cell (p := ad.add p) (Nat.lt_trans hab z1)).trans hcell)))
        generalize h3 : World.setCell (World.setCell w2 _ _) _ _ = w3
        have k0 : w3.cell? ⟨wc.heap.size, 0, none⟩ = some (.int .u64 H2) := by rw [← h3]; simp [go_sem, d2]
        have k1 : w3.cell? ⟨wc.heap.size, 1, none⟩ = some (.int .u64 LL) := by rw [← h3]; simp [go_sem, d3]
        have g0 : w3.frozen? ⟨wc.heap.size, 0, none⟩ = false := by rw [← h3]; simp [go_sem, f2]
        have g1 : w3.frozen? ⟨wc.heap.size, 1, none⟩ = false := by rw [← h3]; simp [go_sem, f3]
        have k2 : w3.cell? (ad.add p) = some (.int .u32 (x : Int)) := by rw [← h3]; exact hc2 _ _
        have z3 : wc.heap.size < w3.heap.size := by rw [← h3]; simpa using z2
        have B3 := Lib.hid (show Below wc.heap.size wc w3 by rw [← h3]; exact ((B2.out.setCell (Nat.le_refl _) _).setCell (Nat.le_refl _) _))
        clear h3 hc2 d2 d3 f2 f3 z2 B2 hb2 d0 d1 f0 f1 z1 HB hcell
        have s1 : IntKind.i64.wrap ((q : Int) - 1) = (q : Int) - 1 := by rw [IntKind.wrap_i64]; omega
        have s2 : IntKind.i64.wrap ((q : Int) - 1 - (j : Int)) = (p : Int) := by rw [IntKind.wrap_i64]; omega
        have s3 : IntKind.i64.wrap (p : Int) = (p : Int) := by rw [IntKind.wrap_i64]; omega
        clear S32 O2
        go_still_tail 13, (by kernel_rfl)
        go_wp2
        exact ⟨⟨j + 1, T2, by go_num, by omega, HS.out, by simp [go_sem, k0, HH2.out], by simp [go_sem, k1, HL2.out], by simp [go_sem, g0], by simp [go_sem, g1], by simpa using z3, (B3.out.setCell (Nat.le_refl _) _).drew⟩, by simp [intOf]; omega⟩
      · obtain rfl : j = q := by omega
        have hv := topN_all l j
        have wd1 : Wd (hiOf (T : Int)) := by
          have := Pl.val_lt hfit
          rw [hlen.out, ← hv, HT.out] at this
          have h4 : Pl.B32 ^ j ≤ Pl.B32 ^ 4 := Nat.pow_le_pow_right Pl.B32_pos hq4
          have h5 : Pl.B32 ^ 4 = 340282366920938463463374607431768211456 := by decide
          exact Wd.hi (by omega) (by omega)
        have wd2 : Wd (loOf (T : Int)) := Wd.lo _
        have hb := HH.out.bits
        rw [← hv, HT.out] at hb
        have hTn : (num (hiOf (T : Int)) (loOf (T : Int))).toNat = T := by rw [num_parts]; rfl
        have HB2 := Lib.hid hb
        have HTn := Lib.hid hTn
        have he0 := HH.out.e0
        have he1 := HH.out.e1
        clear hb hTn hv
        go_wp2_with (go_at_call 10; refine (join_any _ _ _ _ _ _ wd1 wd2 he0 he1).mono ?_; rw [HTn.out, HB2.out]; rintro r w4 ⟨rfl, hb4⟩)
        go_ret
        exact ⟨rfl, HH.out.below.trans ((HB.out.mono hz0).trans (hb4.mono (Nat.le_trans hz0 (Nat.le_of_lt z1))))⟩
end Go.Proofs.Ytlndpbjolgjloaa
