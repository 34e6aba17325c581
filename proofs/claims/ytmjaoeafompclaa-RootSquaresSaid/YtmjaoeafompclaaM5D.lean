/-
  M5D: the texts FloatE, FloatF, ArithP, ArithQ, ArithO, RootP, Arith, ArithS in one (a claim has at most 60 files).
-/
import Derived.Deep.DeepCutAuto
import Derived.StillTailTactics
import Derived.Test.YtmjaoeafompclaaM5A
import Derived.Test.YtmjaoeafompclaaM5C

namespace Go.Proofs.Ytmjaoeafompclaa
open Go.RowKit Go.Shelf

theorem retW {a b : Int} (h : a = b) : Ending.returned (.int .u64 a) = .returned (.int .u64 b) := by rw [h]
theorem veI {k : IntKind} {a b : Int} (h : a = b) : Value.int k a = Value.int k b := by rw [h]
theorem veB {a b : Bool} (h : a = b) : Value.bool a = Value.bool b := by rw [h]

/-- The bits below the c-th are as good as a little more. -/
theorem rne_cut {H low c k : Nat} (more : Bool) (hl : low < 2 ^ c) (hk : 1 ≤ k) : Pl.rne (H * 2 ^ c + low) (k + c) more = Pl.rne H k (more || decide (low ≠ 0)) := by
  obtain ⟨j, rfl⟩ : ∃ j, k = j + 1 := ⟨k - 1, by omega⟩
  have hd : ∀ i, (H * 2 ^ c + low) / 2 ^ (i + c) = H / 2 ^ i := fun i => by
    rw [Nat.add_comm i c, Nat.pow_add, ← Nat.div_div_eq_div_mul, Nat.mul_comm H, Nat.mul_add_div (Nat.two_pow_pos c), Nat.div_eq_of_lt hl, Nat.add_zero]
  have hm : (H * 2 ^ c + low) % 2 ^ (j + c) = (H % 2 ^ j) * 2 ^ c + low := by
    rw [Nat.add_comm j c, Nat.pow_add, Nat.mod_mul, Nat.mul_comm H, Nat.mul_add_mod, Nat.mod_eq_of_lt hl, Nat.mul_add_div (Nat.two_pow_pos c), Nat.div_eq_of_lt hl, Nat.add_zero, Nat.mul_comm (2 ^ c), Nat.add_comm]
  have e1 : j + 1 + c - 1 = j + c := by omega
  unfold Pl.rne
  rw [e1, Nat.add_sub_cancel, hd, hd, hm]
  have hp := Nat.two_pow_pos c
  have h1 : (H % 2 ^ j) * 2 ^ c + low ≠ 0 ↔ H % 2 ^ j ≠ 0 ∨ low ≠ 0 := by
    constructor
    · intro h
      by_cases g : H % 2 ^ j = 0
      · right; rw [g] at h; omega
      · exact .inl g
    · rintro (h | h)
      · have := Nat.mul_le_mul_right (2 ^ c) (show 1 ≤ H % 2 ^ j by omega); omega
      · omega
  have h2 : (more || decide (low ≠ 0)) = true ↔ (more = true ∨ low ≠ 0) := by simp
  by_cases g : (H / 2 ^ j % 2 = 1 ∧ ((H % 2 ^ j) * 2 ^ c + low ≠ 0 ∨ more = true ∨ H / 2 ^ (j + 1) % 2 = 1))
  · rw [if_pos g, if_pos ⟨g.1, by
      rcases g.2 with k | k | k
      · rcases h1.1 k with q | q
        · exact .inl q
        · exact .inr (.inl (h2.2 (.inr q)))
      · exact .inr (.inl (h2.2 (.inl k)))
      · exact .inr (.inr k)⟩]
  · rw [if_neg g, if_neg (fun q => g ⟨q.1, by
      rcases q.2 with k | k | k
      · exact .inl (h1.2 (.inl k))
      · rcases h2.1 k with r | r
        · exact .inr (.inl r)
        · exact .inl (h1.2 (.inr r))
      · exact .inr (.inr k)⟩)]
theorem mag_cut {H low c : Nat} {e : Int} (more : Bool) (hl : low < 2 ^ c) (hH : 2 ^ 54 ≤ H) : Pl.mag (H * 2 ^ c + low) e more = Pl.mag H (e + c) (more || decide (low ≠ 0)) := by
  have hH0 : H ≠ 0 := by have := Nat.two_pow_pos 54; omega
  have hb := Pl.lt_bl_of_le hH
  have hbl : Pl.bl (H * 2 ^ c + low) = Pl.bl H + c := by
    have h1 := Pl.two_bl_le hH0
    have h2 := Pl.lt_two_bl H
    have h3 := Pl.bl_pos hH0
    have p1 : 2 ^ (Pl.bl H - 1 + c) = 2 ^ (Pl.bl H - 1) * 2 ^ c := Nat.pow_add ..
    have e1 : Pl.bl H - 1 + c + 1 = Pl.bl H + c := by omega
    have p2 : 2 ^ (Pl.bl H + c) = 2 ^ Pl.bl H * 2 ^ c := Nat.pow_add ..
    have q1 := Nat.mul_le_mul_right (2 ^ c) h1
    have q2 := Nat.mul_le_mul_right (2 ^ c) (show H + 1 ≤ 2 ^ Pl.bl H from h2)
    rw [Nat.add_mul] at q2
    have := Pl.bl_eq (n := H * 2 ^ c + low) (k := Pl.bl H - 1 + c) (by rw [p1]; omega) (by rw [e1, p2]; omega)
    omega
  have hN0 : H * 2 ^ c + low ≠ 0 := by
    have := Nat.mul_le_mul_right (2 ^ c) (show 1 ≤ H by omega)
    have := Nat.two_pow_pos c
    omega
  have hu : Pl.un (H * 2 ^ c + low) e = Pl.un H (e + c) := by unfold Pl.un; rw [hbl]; omega
  have hu2 : Pl.un H (e + c) ≥ e + c + 2 := by unfold Pl.un; omega
  unfold Pl.mag
  rw [if_neg hN0, if_neg hH0, hu, if_neg (by omega), if_neg (by omega)]
  have e2 : (Pl.un H (e + c) - e).toNat = (Pl.un H (e + c) - (e + c)).toNat + c := by omega
  rw [e2, rne_cut more hl (by omega)]
theorem mag_cut_inf {H low c : Nat} {e e' : Int} (more more' : Bool) (hH : 2 ^ 54 ≤ H) (he : 2000 < e) (he' : 2000 < e') : Pl.mag (H * 2 ^ c + low) e more = Pl.mag H e' more' := by
  have h1 := Nat.mul_le_mul_right (2 ^ c) (show 1 ≤ H by have := Nat.two_pow_pos 54; omega)
  have h2 := Nat.two_pow_pos c
  rw [mag_high (by omega) he, mag_high (by have := Nat.two_pow_pos 54; omega) he']

theorem Lim.drop {w : World} {b : Addr} {n : Nat} {l : List Nat} (h : Lim w (some b) n l) {k : Nat} (hk : k ≤ n) : Lim w (some (b.add k)) (n - k) (l.drop k) := by
  refine ⟨by rw [List.length_drop, h.len], h.fit.drop k, by rw [List.length_map, List.length_drop, h.len]; omega, fun h0 => ?_⟩
  obtain ⟨ad, hA, hb, hc⟩ := h.reads.2 (by omega)
  injection hA with hA
  subst hA
  refine ⟨_, rfl, by rw [block_of_add]; exact hb, fun j u hu => ?_⟩
  rw [add_of_add]
  rw [List.map_drop, List.getElem?_drop] at hu
  exact hc _ u hu

theorem more_step (more : Bool) (l : List Nat) (j x : Nat) (hj : j < l.length) (hx : l.getD j 0 = x) : (more || decide (Pl.val (l.take (j + 1)) ≠ 0)) = ((more || decide (Pl.val (l.take j) ≠ 0)) || decide (0 < (x : Int))) := by
  rw [Pl.val_take_succ l j hj, hx]
  have hp : 0 < Pl.B32 ^ j := Nat.pow_pos Pl.B32_pos
  have a1 : decide (Pl.val (l.take j) + Pl.B32 ^ j * x ≠ 0) = (decide (Pl.val (l.take j) ≠ 0) || decide (0 < (x : Int))) := by
    generalize Pl.val (l.take j) = s
    by_cases h2 : x = 0
    · subst h2; simp
    · have := Nat.mul_pos hp (show 0 < x by omega)
      rw [decide_eq_true (show s + Pl.B32 ^ j * x ≠ 0 by omega), decide_eq_true (show (0 : Int) < x by omega), Bool.or_true]
  rw [a1, Bool.or_assoc]

/-- What the cut of Round's long naturals leads to. -/
theorem cut_bits (neg more : Bool) {N n cut : Nat} (e : Int) (hn : (Pl.limbs N).length = n) (hc : n = cut + 4) :
    fbits neg (Pl.val ((Pl.limbs N).drop cut)) (e + 32 * cut) (more || decide (Pl.val ((Pl.limbs N).take cut) ≠ 0)) = fbits neg N e more ∧
    (4611686018427387904 ≤ e → fbits neg (Pl.val ((Pl.limbs N).drop cut)) e (more || decide (Pl.val ((Pl.limbs N).take cut) ≠ 0)) = fbits neg N e more) := by
  have hf := Pl.fit_limbs N
  have e1 := Pl.val_take_drop (Pl.limbs N) cut (by omega)
  rw [Pl.val_limbs] at e1
  have hlow := Pl.val_lt (hf.take cut)
  rw [List.length_take, hn, Nat.min_eq_left (by omega), Pl.B32_pow] at hlow
  have hH : 2 ^ 54 ≤ Pl.val ((Pl.limbs N).drop cut) := by
    have hlen : ((Pl.limbs N).drop cut).length = 3 + 1 := by rw [List.length_drop]; omega
    have e2 := Pl.val_take_succ ((Pl.limbs N).drop cut) 3 (by omega)
    rw [← hlen, List.take_length] at e2
    have hlast := last_limb (N := N) (m := cut + 3) (by omega)
    have e3 : ((Pl.limbs N).drop cut).getD 3 0 = (Pl.limbs N).getD (cut + 3) 0 := by
      rw [List.getD_eq_getElem?_getD, List.getElem?_drop, ← List.getD_eq_getElem?_getD]
    rw [e2, e3]
    have : Pl.B32 ^ 3 = 79228162514264337593543950336 := by decide
    rw [this]
    omega
  rw [Pl.B32_pow, Nat.mul_comm, Nat.add_comm] at e1
  have key := mag_cut (e := e) more hlow hH
  rw [← e1] at key
  have e4 : ((32 * cut : Nat) : Int) = 32 * (cut : Int) := by omega
  rw [e4] at key
  refine ⟨by unfold fbits; rw [key], fun he => ?_⟩
  unfold fbits
  have k2 := mag_cut_inf (low := Pl.val ((Pl.limbs N).take cut)) (c := 32 * cut) more (more || decide (Pl.val ((Pl.limbs N).take cut) ≠ 0)) hH (show (2000 : Int) < e by omega) (show (2000 : Int) < e by omega)
  rw [← e1] at k2
  rw [k2]
end Go.Proofs.Ytmjaoeafompclaa

namespace Go.Proofs.Ytmjaoeafompclaa
open Go.RowKit Go.Shelf

/-- The number of the highest j limbs, as the program holds it. -/
def topN (l : List Nat) (q j : Nat) : Nat := Pl.val (l.drop (q - j))
theorem topN_zero {l : List Nat} {q : Nat} (h : l.length = q) : topN l q 0 = 0 := by
  unfold topN; rw [Nat.sub_zero, ← h, List.drop_length]; rfl
theorem topN_all (l : List Nat) (q : Nat) : topN l q q = Pl.val l := by unfold topN; rw [Nat.sub_self]; rfl
theorem topN_step {l : List Nat} {q j p x : Nat} (h : l.length = q) (hp : p + 1 + j = q) (hx : l.getD p 0 = x) : topN l q (j + 1) = topN l q j * 4294967296 + x := by
  unfold topN
  have e1 : q - (j + 1) = p := by omega
  have e2 : q - j = p + 1 := by omega
  rw [e1, e2, Pl.drop_getD l p (by omega), hx]
  show x + 4294967296 * Pl.val (l.drop (p + 1)) = _
  omega
theorem topN_lt {l : List Nat} {q j : Nat} (h : l.length = q) (hf : Pl.Fit l) (hj : j ≤ q) (hq : j < 4) : topN l q j < 79228162514264337593543950336 := by
  unfold topN
  have := Pl.val_lt (hf.drop (q - j))
  rw [List.length_drop, h] at this
  have e : q - (q - j) = j := by omega
  rw [e] at this
  have h3 : Pl.B32 ^ j ≤ Pl.B32 ^ 3 := Nat.pow_le_pow_right Pl.B32_pos (by omega)
  have h4 : Pl.B32 ^ 3 = 79228162514264337593543950336 := by decide
  omega
/-- A step of Round's second loop: the number goes up by a limb. -/
theorem shl_32 {A : Int} (h0 : 0 ≤ A) (h1 : A < 79228162514264337593543950336) : shlN A 32 = A * 4294967296 := by
  have e : (2 : Int) ^ 32 = 4294967296 := by decide
  unfold shlN bit128
  rw [e]; omega
theorem or_limb {A x : Int} (x0 : 0 ≤ x) (x1 : x < 4294967296) : bits .or .u64 (loOf (A * 4294967296)) x = loOf (A * 4294967296 + x) ∧ hiOf (A * 4294967296) = hiOf (A * 4294967296 + x) := by
  have e : (2 : Int) ^ 32 = 4294967296 := by decide
  rw [or_join _ x 32 (by unfold loOf; omega) (by rw [e]; unfold loOf; omega) (by unfold loOf; omega) x0 (by rw [e]; exact x1) (by omega)]
  unfold loOf hiOf
  omega

/-- What stands behind Round's first half: at most four limbs that lead to the wanted bits. -/
structure Half (neg : Bool) (F : Int) (w w' : World) (A : Option Addr) (q c : Nat) (l : List Nat) (e : Int) (m : Bool) : Prop where
  q4 : q ≤ 4
  qc : q ≤ c
  cm : c ≤ maxLen
  lim : Lim w' A q l
  e0 : -9223372036854775808 ≤ e
  e1 : e < 9223372036854775808
  bits : fbits neg (Pl.val l) e m = F
  below : Below w.heap.size w w'

set_option maxRecDepth 100000 in
set_option maxHeartbeats 4000000 in
theorem fround_any (neg more : Bool) {v : Value} {N d : Nat} (e : Int) (w : World) (hs : SliceV w v N d) (hd : d ≤ 100000) (e0 : -9223372036854775808 ≤ e) (e1 : e < 9223372036854775808) :
    Calls Try.prog 53 #[.bool neg, v, .int .i64 e, .bool more] w fun r w' => r = .returned (.int .u64 (fbits neg N e more)) ∧ Below w.heap.size w w' := by
  obtain ⟨m, hm⟩ : ∃ m, (Pl.limbs N).length = m := ⟨_, rfl⟩
  have hmd : m ≤ d := by rw [← hm]; exact Pl.limbs_len_le hs.lt
  obtain ⟨F, hF⟩ : ∃ F, fbits neg N e more = F := ⟨_, rfl⟩
  rw [hF]
  obtain ⟨K, hK⟩ : ∃ K : Int, (m : Int) - 4 = K := ⟨_, rfl⟩
  have HM := Lib.hid hm
  have HF := Lib.hid hF
  have HS := Lib.hid hs
  clear hm hF hs
  go_enter Try.func53, Try.ntmps53
  go_upto_if 20 with (go_at_call 85; refine (ntrim_v HS.out (by omega)).mono ?_; rintro r w1 ⟨v1, rfl, ⟨A1, n1, c1, rfl, h1, h2, hl1⟩, hb1⟩; obtain rfl : n1 = m := hl1.len.symm.trans HM.out; have HL1 := Lib.hid hl1; clear hl1)
  go_cut [1, 2, 3, 11] (fun nv ev mv xv wx => ∃ A q c l e' m', nv = .slice A q c ∧ ev = .int .i64 e' ∧ mv = .bool m' ∧ Half neg F w wx A q c l e' m')
  case first =>
    by_cases h4 : 0 < K
    · obtain ⟨cut, rfl⟩ : ∃ cut : Nat, K = cut := ⟨K.toNat, by omega⟩
      have hc0 : 0 < cut := by omega
      have hc1 : cut < n1 := by omega
      have hc2 : cut < c1 := by omega
      have hnc := Lib.hid (show n1 = cut + 4 by omega)
      obtain ⟨CB1, CB2⟩ := cut_bits neg more e HM.out hnc.out
      have C1 := Lib.hid (CB1.trans HF.out)
      have C2 := Lib.hid (fun h => (CB2 h).trans HF.out)
      clear CB1 CB2
      obtain ⟨ad, hA, hadb, _⟩ := HL1.out.at_ (k := 0) (by omega)
      subst hA
      go_wp2
      · go_loop [3, 11, 25] (fun mv _ iv => ∃ j : Nat, iv = .int .i64 j ∧ j ≤ cut ∧ mv = .bool (more || decide (Pl.val ((Pl.limbs N).take j) ≠ 0))) (fun _ _ iv => cut - (intOf iv).toNat)
        case atStart => exact ⟨0, rfl, Nat.zero_le _, by simp [Pl.val]⟩
        case round =>
          obtain ⟨j, rfl, hj, rfl⟩ := hrel
          by_cases hlt : j < cut
          · obtain ⟨ad', hA', _, hcell⟩ := HL1.out.at_ (k := j) (by omega)
            injection hA' with hA'
            subst hA'
            have hx := (Pl.fit_limbs N).get j
            obtain ⟨x, hxe⟩ : ∃ x, (Pl.limbs N).getD j 0 = x := ⟨_, rfl⟩
            rw [hxe] at hcell hx
            unfold Pl.B32 at hx
            have HMS := Lib.hid (more_step more (Pl.limbs N) j x (by have := HM.out; omega) hxe)
            clear hxe
            obtain ⟨B, hB⟩ : ∃ B, (more || decide (Pl.val ((Pl.limbs N).take j) ≠ 0)) = B := ⟨_, rfl⟩
            rw [hB] at HMS
            rw [hB]
            clear hB
            cases B
            all_goals
              by_cases hx0 : (0 : Int) < x
              all_goals
                go_wp2
                go_round
                case rel => exact ⟨j + 1, by go_num, by omega, veB (by rw [HMS.out]; simp; try omega)⟩
                case measure => simp [intOf]; omega
          · obtain rfl : j = cut := by omega
            obtain ⟨B, hB⟩ : ∃ B, (more || decide (Pl.val ((Pl.limbs N).take j) ≠ 0)) = B := ⟨_, rfl⟩
            rw [hB] at C1 C2
            rw [hB]
            clear hB
            have hne : (c1 == j) = false := by simp; omega
            have hne' : ((c1 : Int) == (j : Int)) = false := by simp; omega
            have hcj : c1 ≠ j := by omega
            have hsub := Lib.hid (show n1 - j = 4 by omega)
            by_cases he : e < 4611686018427387904
            · go_wp2
              go_meet
              refine ⟨_, _, _, (Pl.limbs N).drop j, _, _, rfl, rfl, rfl, ?_⟩
              exact Half.mk (by omega) (by omega) (Nat.le_trans (Nat.sub_le _ _) h2) (HL1.out.drop (Nat.le_of_lt hc1)) (by omega) (by omega) C1.out hb1
            · go_wp2
              go_meet
              refine ⟨_, _, _, (Pl.limbs N).drop j, _, _, rfl, rfl, rfl, ?_⟩
              exact Half.mk (by omega) (by omega) (Nat.le_trans (Nat.sub_le _ _) h2) (HL1.out.drop (Nat.le_of_lt hc1)) e0 e1 (C2.out (by omega)) hb1
    · go_wp2
      go_meet
      exact ⟨A1, n1, c1, _, e, more, rfl, rfl, rfl, ⟨by omega, h1, h2, HL1.out, e0, e1, by rw [Pl.val_limbs]; exact HF.out, hb1⟩⟩
  case rest =>
    obtain ⟨A, q, c, l, e', m', rfl, rfl, rfl, hh⟩ := hcut
    have hq4 := hh.q4
    have hlen := Lib.hid hh.lim.len
    have hfit := hh.lim.fit
    have HL := Lib.hid hh.lim
    have HH := Lib.hid hh
    have hz0 : w.heap.size ≤ wc.heap.size := hh.below.size
    clear hh HL1 HM HS HF h1 h2 hb1 hK hmd
    have T0 := Lib.hid (topN_zero hlen.out)
    go_wp2
    go_loopw [13, 46] (fun _ iv wr => ∃ (j T : Nat), iv = .int .i64 j ∧ j ≤ q ∧ topN l q j = T ∧ wr.cell? ⟨wc.heap.size, 0, none⟩ = some (.int .u64 (hiOf (T : Int))) ∧ wr.cell? ⟨wc.heap.size, 1, none⟩ = some (.int .u64 (loOf (T : Int))) ∧ wr.frozen? ⟨wc.heap.size, 0, none⟩ = false ∧ wr.frozen? ⟨wc.heap.size, 1, none⟩ = false ∧ wc.heap.size < wr.heap.size ∧ Below wc.heap.size wc wr) (fun _ iv _ => q - (intOf iv).toNat)
    case atStart => exact ⟨0, 0, rfl, Nat.zero_le _, T0.out, by simp [go_sem, hiOf], by simp [go_sem, loOf], by simp [go_sem], by simp [go_sem], by simp, (Below.refl _ _).alloc (Nat.le_refl _) _⟩
    case round =>
      obtain ⟨j, T, rfl, hj, hT, d0, d1, f0, f1, z1, hB⟩ := hrel
      have HT := Lib.hid hT
      have HB := Lib.hid hB
      clear hT hB
      by_cases hlt : j < q
      · obtain ⟨p, hp⟩ : ∃ p, p + 1 + j = q := ⟨q - 1 - j, by omega⟩
        have hidx : (q : Int) - 1 - (j : Int) = (p : Int) := by omega
        have hpq : p < q := by omega
        have hp0 : (0 : Int) ≤ (p : Int) := by omega
        have hpq' : (p : Int) < (q : Int) := by omega
        obtain ⟨ad, hA, hadb, hcell⟩ := HL.out.at_ hpq
        have hx := hfit.get p
        obtain ⟨x, hxe⟩ : ∃ x, l.getD p 0 = x := ⟨_, rfl⟩
        rw [hxe] at hcell hx
        unfold Pl.B32 at hx
        have hab : (ad.add p).block < wc.heap.size := by rw [block_of_add]; exact hadb
        have hcell : wr.cell? (ad.add p) = some (.int .u32 (x : Int)) := (HB.out.cell hab).trans hcell
        have HS := Lib.hid ((topN_step hlen.out hp hxe).trans (by rw [HT.out]))
        have hT1 : T < 79228162514264337593543950336 := by rw [← HT.out]; exact topN_lt hlen.out hfit hj (by omega)
        clear hxe hp
        subst hA
        have wd1 : Wd (hiOf (T : Int)) := Wd.hi (by omega) (by omega)
        have wd2 : Wd (loOf (T : Int)) := Wd.lo _
        have S32 := Lib.hid (shl_32 (A := (T : Int)) (by omega) (by omega))
        obtain ⟨o1, o2⟩ := or_limb (A := (T : Int)) (x := (x : Int)) (by omega) (by omega)
        obtain ⟨T2, hT2⟩ : ∃ T2, T * 4294967296 + x = T2 := ⟨_, rfl⟩
        have hT3 : (T : Int) * 4294967296 + x = T2 := by omega
        rw [hT2] at HS
        rw [hT3] at o1 o2
        obtain ⟨LL, hLL⟩ : ∃ LL, loOf ((T : Int) * 4294967296) = LL := ⟨_, rfl⟩
        obtain ⟨L2, hL2⟩ : ∃ L2, loOf (T2 : Int) = L2 := ⟨_, rfl⟩
        obtain ⟨H2, hH2⟩ : ∃ H2, hiOf (T2 : Int) = H2 := ⟨_, rfl⟩
        have wll : Wd LL := by rw [← hLL]; exact Wd.lo _
        obtain ⟨wl0, wl1⟩ := wll
        have wl2 : 0 ≤ L2 ∧ L2 < 18446744073709551616 := by rw [← hL2]; exact Wd.lo _
        rw [hLL, hL2] at o1
        rw [hH2] at o2
        have O2 := Lib.hid o2
        have HLL := Lib.hid hLL
        have HL2 := Lib.hid hL2
        have HH2 := Lib.hid hH2
        clear o2 hT2 hT3 hT1 hLL hL2 hH2
        go_upto_region 17 with (go_at_call 45; refine (shl_k _ _ 32 32 _ wd1 wd2 (by decide) (by decide)).mono ?_; rw [num_parts, S32.out, O2.out, HLL.out]; rintro r w2 ⟨rfl, hb2⟩; have d2 : w2.cell? ⟨wc.heap.size, 0, none⟩ = some (.int .u64 (hiOf (T : Int))) := (hb2.cell (p := ⟨wc.heap.size, 0, none⟩) z1).trans d0; have d3 : w2.cell? ⟨wc.heap.size, 1, none⟩ = some (.int .u64 (loOf (T : Int))) := (hb2.cell (p := ⟨wc.heap.size, 1, none⟩) z1).trans d1; have f2 : w2.frozen? ⟨wc.heap.size, 0, none⟩ = false := (hb2.frozen (p := ⟨wc.heap.size, 0, none⟩) z1).trans f0; have f3 : w2.frozen? ⟨wc.heap.size, 1, none⟩ = false := (hb2.frozen (p := ⟨wc.heap.size, 1, none⟩) z1).trans f1; have z2 : wc.heap.size < w2.heap.size := Nat.lt_of_lt_of_le z1 hb2.size; have B2 := Lib.hid (below_trans' (hb2.mono (Nat.le_of_lt z1)) HB.out); have hc2 : ∀ u v : Value, ((w2.setCell ⟨wc.heap.size, 0, none⟩ u).setCell ⟨wc.heap.size, 1, none⟩ v).cell? (ad.add p) = some (.int .u32 (x : Int)) := fun u v => (World.cell?_setCell_other _ _ _ _ (fun e => by rw [← e] at hab; exact Nat.lt_irrefl _ hab)).trans ((World.cell?_setCell_other _ _ _ _ (fun e => by rw [← e] at hab; exact Nat.lt_irrefl _ hab)).trans ((hb2.cell (p := ad.add p) (Nat.lt_trans hab z1)).trans hcell)))
        generalize h3 : World.setCell (World.setCell w2 _ _) _ _ = w3
        have k0 : w3.cell? ⟨wc.heap.size, 0, none⟩ = some (.int .u64 H2) := by rw [← h3]; simp [go_sem, d2]
        have k1 : w3.cell? ⟨wc.heap.size, 1, none⟩ = some (.int .u64 LL) := by rw [← h3]; simp [go_sem, d3]
        have g0 : w3.frozen? ⟨wc.heap.size, 0, none⟩ = false := by rw [← h3]; simp [go_sem, f2]
        have g1 : w3.frozen? ⟨wc.heap.size, 1, none⟩ = false := by rw [← h3]; simp [go_sem, f3]
        have k2 : w3.cell? (ad.add p) = some (.int .u32 (x : Int)) := by rw [← h3]; exact hc2 _ _
        have z3 : wc.heap.size < w3.heap.size := by rw [← h3]; simpa using z2
        have B3 := Lib.hid (show Below wc.heap.size wc w3 by rw [← h3]; exact ((B2.out.setCell (Nat.le_refl _) _).setCell (Nat.le_refl _) _))
        clear h3 hc2 d2 d3 f2 f3 z2 B2 hb2 d0 d1 f0 f1 z1 HB hcell
        have s1 : IntKind.i64.wrap ((q : Int) - 1) = (q : Int) - 1 := by rw [IntKind.wrap_i64]; omega
        have s2 : IntKind.i64.wrap ((q : Int) - 1 - (j : Int)) = (p : Int) := by rw [IntKind.wrap_i64]; omega
        have s3 : IntKind.i64.wrap (p : Int) = (p : Int) := by rw [IntKind.wrap_i64]; omega
        clear S32 O2
        go_still_tail 13, (by kernel_rfl)
        go_wp2
        exact ⟨⟨j + 1, T2, by go_num, by omega, HS.out, by simp [go_sem, k0, HH2.out], by simp [go_sem, k1, HL2.out], by simp [go_sem, g0], by simp [go_sem, g1], by simpa using z3, (B3.out.setCell (Nat.le_refl _) _).drew⟩, by simp [intOf]; omega⟩
      · obtain rfl : j = q := by omega
        have hv := topN_all l j
        have wd1 : Wd (hiOf (T : Int)) := by
          have := Pl.val_lt hfit
          rw [hlen.out, ← hv, HT.out] at this
          have h4 : Pl.B32 ^ j ≤ Pl.B32 ^ 4 := Nat.pow_le_pow_right Pl.B32_pos hq4
          have h5 : Pl.B32 ^ 4 = 340282366920938463463374607431768211456 := by decide
          exact Wd.hi (by omega) (by omega)
        have wd2 : Wd (loOf (T : Int)) := Wd.lo _
        have hb := HH.out.bits
        rw [← hv, HT.out] at hb
        have hTn : (num (hiOf (T : Int)) (loOf (T : Int))).toNat = T := by rw [num_parts]; rfl
        have HB2 := Lib.hid hb
        have HTn := Lib.hid hTn
        have he0 := HH.out.e0
        have he1 := HH.out.e1
        clear hb hTn hv
        go_wp2_with (go_at_call 34; refine (join_any _ _ _ _ _ _ wd1 wd2 he0 he1).mono ?_; rw [HTn.out, HB2.out]; rintro r w4 ⟨rfl, hb4⟩)
        go_ret
        exact ⟨rfl, HH.out.below.trans ((HB.out.mono hz0).trans (hb4.mono (Nat.le_trans hz0 (Nat.le_of_lt z1))))⟩
end Go.Proofs.Ytmjaoeafompclaa

namespace Go.Proofs.Ytmjaoeafompclaa
open Go.RowKit Go.Shelf

theorem mant_bd {x : Int} : 0 ≤ mant x ∧ mant x ≤ 9007199254740991 := by unfold mant; (repeat' split) <;> omega
theorem expo_bd {x : Int} : -1074 ≤ expo x ∧ expo x ≤ 971 := by unfold expo kd; (repeat' split) <;> omega

/-- A power of two more in the natural is as good as in the exponent. -/
theorem mag_scale (N j : Nat) (e : Int) : Pl.mag (N * 2 ^ j) e false = Pl.mag N (e + j) false := by
  refine (Pl.mag_exact (N * 2 ^ j) e).unique ((Pl.mag_exact N (e + j)).congr (fun M => ?_) (fun M => ?_))
  all_goals
    have h : Pl.sc (e + j) + Pl.sd e = Pl.sc e + j + Pl.sd (e + j) := by unfold Pl.sc Pl.sd; omega
    have e1 : N * 2 ^ Pl.sc (e + j) * 2 ^ Pl.sd e = N * 2 ^ j * 2 ^ Pl.sc e * 2 ^ Pl.sd (e + j) := by
      rw [Nat.mul_assoc N, ← Nat.pow_add, h, Nat.pow_add, Nat.pow_add]
      grind
    have e2 : M * 2 ^ Pl.sd (e + j) * 2 ^ Pl.sd e = M * 2 ^ Pl.sd e * 2 ^ Pl.sd (e + j) := by grind
    have p1 := Nat.two_pow_pos (Pl.sd e)
    have p2 := Nat.two_pow_pos (Pl.sd (e + j))
  · rw [← Nat.mul_lt_mul_right p1, e1, e2, Nat.mul_lt_mul_right p2]
  · rw [← Nat.mul_left_inj (Nat.ne_of_gt p1), e1, e2, Nat.mul_left_inj (Nat.ne_of_gt p2)]
theorem fbits_scale (neg : Bool) (N j : Nat) (e : Int) : fbits neg (N * 2 ^ j) e false = fbits neg N (e + j) false := by unfold fbits; rw [mag_scale]

/-- A finite number without its sign, in units of 2^-1074. -/
def fn (x : Int) : Nat := (mant x).toNat * 2 ^ (expo x + 1074).toNat
def sg (b : Bool) (n : Nat) : Int := if b then -(n : Int) else n
/-- What a sum of whole units rounds to. -/
def rnd (S : Int) : Int := fbits (decide (S < 0)) S.natAbs (-1074) false
theorem rnd_zero : rnd 0 = 0 := by unfold rnd fbits; rw [show (0 : Int).natAbs = 0 from rfl, mag_zero]; rfl
def addI (a b : Int) : Int :=
  if kd a = 4 ∨ kd b = 4 then NAN else if kd a = 3 then (if kd b = 3 ∧ a ≠ b then NAN else a) else if kd b = 3 then b
  else if kd a = 0 ∧ kd b = 0 then (if a = b then a else 0) else rnd (sg (sgn a) (fn a) + sg (sgn b) (fn b))
def subI (a b : Int) : Int := addI a (negI b)
def mulI (a b : Int) : Int :=
  if kd a = 4 ∨ kd b = 4 ∨ (kd a = 3 ∧ kd b = 0) ∨ (kd a = 0 ∧ kd b = 3) then NAN else if kd a = 3 ∨ kd b = 3 then sb (sgn a != sgn b) + INFI
  else fbits (sgn a != sgn b) (mant a * mant b).toNat (expo a + expo b) false

theorem fbits_bd (neg : Bool) (N : Nat) (e : Int) (more : Bool) : sb neg ≤ fbits neg N e more ∧ fbits neg N e more ≤ sb neg + INFI := by
  unfold fbits INFI
  have := Pl.mag_le_inf N e more
  rw [Pl.INF_eq] at this
  omega
theorem sb_bd (neg : Bool) : 0 ≤ sb neg ∧ sb neg ≤ 9223372036854775808 := by unfold sb; split <;> omega
theorem wd_fbits (neg : Bool) (N : Nat) (e : Int) (more : Bool) : Wd (fbits neg N e more) := by
  have h1 := fbits_bd neg N e more
  have h2 := sb_bd neg
  unfold INFI at h1
  exact ⟨by omega, by omega⟩
theorem wd_rnd (S : Int) : Wd (rnd S) := wd_fbits _ _ _ _
theorem wd_nan : Wd NAN := ⟨by decide, by decide⟩
theorem wd_add {a b : Int} (ha : Wd a) (hb : Wd b) : Wd (addI a b) := by
  unfold addI
  split
  · exact wd_nan
  · split
    · split
      · exact wd_nan
      · exact ha
    · split
      · exact hb
      · split
        · split
          · exact ha
          · exact ⟨by decide, by decide⟩
        · exact wd_rnd _
theorem wd_mul {a b : Int} : Wd (mulI a b) := by
  unfold mulI
  split
  · exact wd_nan
  · split
    · have := sb_bd (sgn a != sgn b)
      exact ⟨by unfold INFI; omega, by unfold INFI; omega⟩
    · exact wd_fbits _ _ _ _
theorem wd_sub {a b : Int} (ha : Wd a) (hb : Wd b) : Wd (subI a b) := wd_add ha (wd_neg hb)

/-- The sum of two naturals with signs. -/
def sumN (s t : Bool) (N M : Nat) : Nat := if s = t then N + M else if M ≤ N then N - M else M - N
def sumS (s t : Bool) (N M : Nat) : Bool := if s = t then s else if M ≤ N then s else t
theorem sum_sg (s t : Bool) (N M : Nat) : (sg s N + sg t M).natAbs = sumN s t N M := by
  unfold sg sumN
  cases s <;> cases t <;> simp <;> (repeat' split) <;> omega
theorem sum_sgn (s t : Bool) (N M : Nat) (h : sumN s t N M ≠ 0) : decide (sg s N + sg t M < 0) = sumS s t N M := by
  rw [Bool.eq_iff_iff, decide_eq_true_iff]
  unfold sg sumS
  unfold sumN at h
  by_cases hMN : M ≤ N <;> cases s <;> cases t <;> simp [hMN] at h ⊢ <;> omega
theorem rnd_sum (s t : Bool) (N M : Nat) : rnd (sg s N + sg t M) = if sumN s t N M = 0 then 0 else fbits (sumS s t N M) (sumN s t N M) (-1074) false := by
  split
  · rename_i h
    have := sum_sg s t N M
    rw [h] at this
    rw [Int.natAbs_eq_zero.1 this, rnd_zero]
  · rename_i h
    unfold rnd
    rw [sum_sg, sum_sgn _ _ _ _ h]

/-! ### The sum as the program forms it: the greater exponent's goes up, the other one down -/
section
variable {s t : Bool} {x m c q low j : Nat} {e : Int}
/-- e, c: the exponent of the sum; how far the lower one was shifted down. -/
structure SumAt (x m c q low : Nat) : Prop where
  parts : m = q * 2 ^ c + low
  low : low < 2 ^ c
  room : c = 0 ∨ (83076749736557242056487941267521536 ≤ x ∧ q < 9007199254740992)
theorem SumAt.same (h : SumAt x m c q low) (neg : Bool) (hj : e = (j : Int) + c - 1074) :
    fbits neg ((x * 2 ^ c + m) * 2 ^ j) (-1074) false = fbits neg (x + q) e (decide (low ≠ 0)) := by
  obtain ⟨h1, h2, h3⟩ := h
  rw [fbits_scale]
  have e1 : x * 2 ^ c + m = (x + q) * 2 ^ c + low := by rw [h1]; grind
  rcases h3 with h3 | ⟨h3, h4⟩
  · subst h3
    obtain rfl : low = 0 := by rw [Nat.pow_zero] at h2; omega
    rw [e1, Nat.pow_zero, Nat.mul_one, Nat.add_zero, hj]
    congr 1; all_goals omega
  · rw [e1]
    unfold fbits
    rw [mag_cut false h2 (by omega), Bool.false_or, hj]
    congr 3; all_goals omega
theorem SumAt.diff (h : SumAt x m c q low) (neg : Bool) (hj : e = (j : Int) + c - 1074) (h0 : low = 0) (hle : q ≤ x) :
    fbits neg ((x * 2 ^ c - m) * 2 ^ j) (-1074) false = fbits neg (x - q) e false ∧ (x * 2 ^ c - m = 0 ↔ x - q = 0) ∧ m ≤ x * 2 ^ c := by
  obtain ⟨h1, h2, h3⟩ := h
  have e1 : x * 2 ^ c - m = (x - q) * 2 ^ c := by rw [h1, h0, Nat.add_zero, Nat.sub_mul]
  rw [fbits_scale, e1, fbits_scale, hj]
  refine ⟨by congr 1; all_goals omega, ?_, ?_⟩
  · have := Nat.two_pow_pos c
    rw [Nat.mul_eq_zero]; omega
  · rw [h1, h0, Nat.add_zero]; exact Nat.mul_le_mul_right _ hle
theorem SumAt.under (h : SumAt x m c q low) (neg : Bool) (hj : e = (j : Int) + c - 1074) (h0 : low = 0) (hlt : x < q) :
    fbits neg ((m - x * 2 ^ c) * 2 ^ j) (-1074) false = fbits neg (q - x) e false ∧ x * 2 ^ c < m := by
  obtain ⟨h1, h2, h3⟩ := h
  have e1 : m - x * 2 ^ c = (q - x) * 2 ^ c := by rw [h1, h0, Nat.add_zero, Nat.sub_mul]
  rw [fbits_scale, e1, fbits_scale, hj]
  refine ⟨by congr 1; all_goals omega, ?_⟩
  rw [h1, h0, Nat.add_zero]
  exact (Nat.mul_lt_mul_right (Nat.two_pow_pos c)).2 hlt
theorem SumAt.more (h : SumAt x m c q low) (neg : Bool) (hj : e = (j : Int) + c - 1074) (h0 : low ≠ 0) :
    fbits neg ((x * 2 ^ c - m) * 2 ^ j) (-1074) false = fbits neg (x - (q + 1)) e true ∧ m < x * 2 ^ c ∧ q + 1 ≤ x ∧ x - (q + 1) ≠ 0 := by
  obtain ⟨h1, h2, h3⟩ := h
  rcases h3 with h3 | ⟨h3, h4⟩
  · subst h3
    rw [Nat.pow_zero] at h2; omega
  · obtain ⟨d, rfl⟩ : ∃ d, x = d + (q + 1) := ⟨x - (q + 1), by omega⟩
    have e1 : (d + (q + 1)) * 2 ^ c = d * 2 ^ c + (2 ^ c - low) + m := by
      rw [h1]
      obtain ⟨g, hg⟩ : ∃ g, 2 ^ c = g + low := ⟨2 ^ c - low, by omega⟩
      have : 2 ^ c - low = g := by omega
      rw [this, hg]; grind
    have e2 : (d + (q + 1)) * 2 ^ c - m = d * 2 ^ c + (2 ^ c - low) := by omega
    have e3 : d + (q + 1) - (q + 1) = d := by omega
    refine ⟨?_, by have := Nat.two_pow_pos c; omega, by omega, by omega⟩
    rw [fbits_scale, e2, e3]
    unfold fbits
    rw [mag_cut false (by omega) (by omega), Bool.false_or, hj]
    have e4 : decide (2 ^ c - low ≠ 0) = true := by simp; omega
    rw [e4]
    congr 3; all_goals omega
end
end Go.Proofs.Ytmjaoeafompclaa

namespace Go.Proofs.Ytmjaoeafompclaa
open Go.RowKit Go.Shelf

section
variable {x : Int}
theorem negI_eq (h : kd x ≠ 4) : negI x = (x + 9223372036854775808) % 18446744073709551616 := by unfold negI; rw [if_neg h]
theorem kd_neg (hx : Wd x) (h : kd x ≠ 4) : kd (negI x) = kd x := by
  rw [negI_eq h]
  obtain ⟨h0, h1⟩ := hx
  have e1 : (x + 9223372036854775808) % 18446744073709551616 / 4503599627370496 % 2048 = x / 4503599627370496 % 2048 := by omega
  have e2 : (x + 9223372036854775808) % 18446744073709551616 % 4503599627370496 = x % 4503599627370496 := by omega
  unfold kd
  rw [e1, e2]
theorem sgn_neg (hx : Wd x) (h : kd x ≠ 4) : sgn (negI x) = !sgn x := by
  rw [negI_eq h]
  obtain ⟨h0, h1⟩ := hx
  unfold sgn
  by_cases g : 9223372036854775808 ≤ x
  · have : ¬ 9223372036854775808 ≤ (x + 9223372036854775808) % 18446744073709551616 := by omega
    rw [decide_eq_true g, decide_eq_false this]; rfl
  · have : 9223372036854775808 ≤ (x + 9223372036854775808) % 18446744073709551616 := by omega
    rw [decide_eq_false g, decide_eq_true this]; rfl
theorem mant_neg (hx : Wd x) (h : kd x ≠ 4) : mant (negI x) = mant x := by
  have hk := kd_neg hx h
  obtain ⟨h0, h1⟩ := hx
  have e2 : (x + 9223372036854775808) % 18446744073709551616 % 4503599627370496 = x % 4503599627370496 := by omega
  unfold mant
  rw [hk, negI_eq h, e2]
theorem expo_neg (hx : Wd x) (h : kd x ≠ 4) : expo (negI x) = expo x := by
  have hk := kd_neg hx h
  obtain ⟨h0, h1⟩ := hx
  have e1 : (x + 9223372036854775808) % 18446744073709551616 / 4503599627370496 % 2048 = x / 4503599627370496 % 2048 := by omega
  unfold expo
  rw [hk, negI_eq h, e1]
theorem fn_neg (hx : Wd x) (h : kd x ≠ 4) : fn (negI x) = fn x := by unfold fn; rw [mant_neg hx h, expo_neg hx h]
theorem neg_neg' (hx : Wd x) (h : kd x ≠ 4) : negI (negI x) = x := by
  rw [negI_eq (by rw [kd_neg hx h]; exact h), negI_eq h]
  obtain ⟨h0, h1⟩ := hx
  omega
theorem neg_ne (hx : Wd x) (h : kd x ≠ 4) : negI x ≠ x := by
  rw [negI_eq h]
  obtain ⟨h0, h1⟩ := hx
  omega
theorem inf_word (hx : Wd x) (h : kd x = 3) : x = sb (sgn x) + INFI := by
  obtain ⟨h0, h1⟩ := hx
  unfold kd at h
  unfold sgn sb INFI
  by_cases g : 9223372036854775808 ≤ x
  · rw [decide_eq_true g, if_pos rfl]; (repeat' split at h) <;> omega
  · rw [decide_eq_false g, if_neg (by simp)]; (repeat' split at h) <;> omega
theorem zero_word' (hx : Wd x) (h : kd x = 0) : x = sb (sgn x) := by
  obtain ⟨h0, h1⟩ := hx
  unfold kd at h
  unfold sgn sb
  by_cases g : 9223372036854775808 ≤ x
  · rw [decide_eq_true g, if_pos rfl]; (repeat' split at h) <;> omega
  · rw [decide_eq_false g, if_neg (by simp)]; (repeat' split at h) <;> omega
end
theorem kd_nan : kd NAN = 4 := by decide
theorem neg_nan : negI NAN = NAN := by unfold negI; rw [if_pos kd_nan]
theorem kd_fbits (neg : Bool) (N : Nat) (e : Int) (more : Bool) : kd (fbits neg N e more) ≠ 4 := by
  have h1 := fbits_bd neg N e more
  generalize fbits neg N e more = x at *
  unfold INFI sb at h1
  unfold kd
  cases neg
  · simp at h1; (repeat' split) <;> omega
  · simp at h1; (repeat' split) <;> omega
theorem neg_fbits (neg : Bool) (N : Nat) (e : Int) (more : Bool) : negI (fbits neg N e more) = fbits (!neg) N e more := by
  rw [negI_eq (kd_fbits neg N e more)]
  have := Pl.mag_le_inf N e more
  rw [Pl.INF_eq] at this
  unfold fbits sb
  cases neg <;> simp <;> omega
theorem sg_not (s : Bool) (n : Nat) : sg (!s) n = - sg s n := by unfold sg; cases s <;> simp
theorem rnd_neg {S : Int} (h : S ≠ 0) : rnd (-S) = negI (rnd S) := by
  unfold rnd
  rw [neg_fbits, Int.natAbs_neg]
  congr 1
  by_cases g : S < 0
  · rw [decide_eq_true g, decide_eq_false (by omega)]; rfl
  · rw [decide_eq_false g, decide_eq_true (by omega)]; rfl
def sv (x : Int) : Int := sg (sgn x) (fn x)
theorem sv_neg {x : Int} (hx : Wd x) (h : kd x ≠ 4) : sv (negI x) = - sv x := by unfold sv; rw [sgn_neg hx h, fn_neg hx h, sg_not]
theorem addI_fin {a b : Int} (h1 : kd a ≤ 2) (h2 : kd b ≤ 2) (h3 : kd a ≠ 0 ∨ kd b ≠ 0) : addI a b = rnd (sv a + sv b) := by
  unfold addI sv; rw [if_neg (by omega), if_neg (by omega), if_neg (by omega), if_neg (by omega)]
theorem addI_zero {a b : Int} (h1 : kd a = 0) (h2 : kd b = 0) : addI a b = if a = b then a else 0 := by
  unfold addI; rw [if_neg (by omega), if_neg (by omega), if_neg (by omega), if_pos ⟨h1, h2⟩]

theorem add_comm' (a b : Int) : addI a b = addI b a := by
  have h1 := kd_bd a
  have h2 := kd_bd b
  by_cases h4 : kd a = 4 ∨ kd b = 4
  · unfold addI; rw [if_pos h4, if_pos h4.symm]
  · have h4' : ¬ (kd b = 4 ∨ kd a = 4) := by omega
    by_cases ha : kd a = 3
    · by_cases hb : kd b = 3
      · unfold addI
        rw [if_neg h4, if_neg h4', if_pos ha, if_pos hb]
        by_cases hab : a = b
        · subst hab; rfl
        · rw [if_pos ⟨hb, hab⟩, if_pos ⟨ha, fun g => hab g.symm⟩]
      · unfold addI
        rw [if_neg h4, if_neg h4', if_pos ha, if_neg hb, if_neg (by omega), if_pos ha]
    · by_cases hb : kd b = 3
      · unfold addI
        rw [if_neg h4, if_neg h4', if_neg ha, if_pos hb, if_pos hb, if_neg (by omega)]
      · by_cases h0 : kd a = 0 ∧ kd b = 0
        · rw [addI_zero h0.1 h0.2, addI_zero h0.2 h0.1]
          by_cases hab : a = b
          · subst hab; rfl
          · rw [if_neg hab, if_neg (fun g => hab g.symm)]
        · rw [addI_fin (by omega) (by omega) (by omega), addI_fin (by omega) (by omega) (by omega), Int.add_comm]
theorem mul_comm' (a b : Int) : mulI a b = mulI b a := by
  have e : (sgn a != sgn b) = (sgn b != sgn a) := by cases sgn a <;> cases sgn b <;> rfl
  have e1 : (kd a = 4 ∨ kd b = 4 ∨ (kd a = 3 ∧ kd b = 0) ∨ (kd a = 0 ∧ kd b = 3)) ↔ (kd b = 4 ∨ kd a = 4 ∨ (kd b = 3 ∧ kd a = 0) ∨ (kd b = 0 ∧ kd a = 3)) := by omega
  have e2 : (kd a = 3 ∨ kd b = 3) ↔ (kd b = 3 ∨ kd a = 3) := by omega
  unfold mulI
  rw [e, Int.mul_comm (mant a), Int.add_comm (expo a)]
  simp only [e1, e2]
/-- The other way round: the other sign, or zeros. -/
theorem sub_turn {a b : Int} (ha : Wd a) (hb : Wd b) : subI a b = negI (subI b a) ∨ (subI a b % 9223372036854775808 = 0 ∧ subI b a % 9223372036854775808 = 0) := by
  have h1 := kd_bd a
  have h2 := kd_bd b
  unfold subI
  by_cases a4 : kd a = 4
  · left
    have e1 : addI a (negI b) = NAN := by unfold addI; rw [if_pos (.inl a4)]
    have e2 : negI a = NAN := by unfold negI; rw [if_pos a4]
    have e3 : addI b (negI a) = NAN := by unfold addI; rw [e2, if_pos (.inr kd_nan)]
    rw [e1, e3, neg_nan]
  · by_cases b4 : kd b = 4
    · left
      have e2 : negI b = NAN := by unfold negI; rw [if_pos b4]
      have e1 : addI a (negI b) = NAN := by unfold addI; rw [e2, if_pos (.inr kd_nan)]
      have e3 : addI b (negI a) = NAN := by unfold addI; rw [if_pos (.inl b4)]
      rw [e1, e3, neg_nan]
    · have ka := kd_neg ha a4
      have kb := kd_neg hb b4
      by_cases a3 : kd a = 3
      · left
        by_cases b3 : kd b = 3
        · by_cases hab : a = negI b
          · have hba : b = negI a := by rw [hab, neg_neg' hb b4]
            have e1 : addI a (negI b) = a := by unfold addI; rw [if_neg (by omega), if_pos a3, if_neg (by simp [hab])]
            have e2 : addI b (negI a) = b := by unfold addI; rw [if_neg (by omega), if_pos b3, if_neg (by simp [hba])]
            rw [e1, e2]; exact hab
          · have hba : b ≠ negI a := fun g => hab (by rw [g, neg_neg' ha a4])
            have e1 : addI a (negI b) = NAN := by unfold addI; rw [if_neg (by omega), if_pos a3, if_pos ⟨by omega, hab⟩]
            have e2 : addI b (negI a) = NAN := by unfold addI; rw [if_neg (by omega), if_pos b3, if_pos ⟨by omega, hba⟩]
            rw [e1, e2, neg_nan]
        · have e1 : addI a (negI b) = a := by unfold addI; rw [if_neg (by omega), if_pos a3, if_neg (by omega)]
          have e2 : addI b (negI a) = negI a := by unfold addI; rw [if_neg (by omega), if_neg b3, if_pos (by omega)]
          rw [e1, e2, neg_neg' ha a4]
      · by_cases b3 : kd b = 3
        · left
          have e1 : addI a (negI b) = negI b := by unfold addI; rw [if_neg (by omega), if_neg a3, if_pos (by omega)]
          have e2 : addI b (negI a) = b := by unfold addI; rw [if_neg (by omega), if_pos b3, if_neg (by omega)]
          rw [e1, e2]
        · by_cases h0 : kd a = 0 ∧ kd b = 0
          · right
            have za := zero_word' ha h0.1
            have zb := zero_word' hb h0.2
            have zna := zero_word' (wd_neg ha) (by omega)
            have znb := zero_word' (wd_neg hb) (by omega)
            rw [addI_zero h0.1 (by omega), addI_zero h0.2 (by omega)]
            unfold sb at za zb zna znb
            constructor <;> (repeat' split) <;> (first | rfl | (split at za <;> omega) | (split at zb <;> omega))
          · rw [addI_fin (by omega) (by omega) (by omega), addI_fin (by omega) (by omega) (by omega), sv_neg hb b4, sv_neg ha a4]
            by_cases hS : sv a + - sv b = 0
            · right
              have hS' : sv b + - sv a = 0 := by omega
              rw [hS, hS', rnd_zero]; decide
            · left
              rw [← rnd_neg (by omega)]
              congr 1; omega
theorem mul_neg_l {a b : Int} (ha : Wd a) : mulI (negI a) b = negI (mulI a b) := by
  have h1 := kd_bd a
  have h2 := kd_bd b
  by_cases a4 : kd a = 4
  · have e2 : negI a = NAN := by unfold negI; rw [if_pos a4]
    have e1 : mulI a b = NAN := by unfold mulI; rw [if_pos (.inl a4)]
    have e3 : mulI NAN b = NAN := by unfold mulI; rw [if_pos (.inl kd_nan)]
    rw [e2, e1, e3, neg_nan]
  · have ka := kd_neg ha a4
    unfold mulI
    rw [ka, sgn_neg ha a4, mant_neg ha a4, expo_neg ha a4]
    split
    · rw [neg_nan]
    · split
      · have : ((!sgn a) != sgn b) = !(sgn a != sgn b) := by cases sgn a <;> cases sgn b <;> rfl
        rw [this]
        generalize (sgn a != sgn b) = s
        cases s <;> decide
      · have : ((!sgn a) != sgn b) = !(sgn a != sgn b) := by cases sgn a <;> cases sgn b <;> rfl
        rw [this, neg_fbits]

/-! ### A finite number is what its own value rounds to -/
theorem V_fn {x : Int} (hx : Wd x) (h : kd x ≤ 2) : Pl.V (x % 9223372036854775808).toNat = fn x := by
  obtain ⟨h0, h1⟩ := hx
  have hE0 : 0 ≤ x / 4503599627370496 % 2048 := by omega
  unfold fn mant expo
  by_cases hk : kd x ≤ 1
  · rw [if_pos hk, if_pos hk]
    have hE : x / 4503599627370496 % 2048 = 0 := by unfold kd at hk; (repeat' split at hk) <;> omega
    unfold Pl.V
    rw [if_pos (by omega)]
    simp; omega
  · rw [if_neg hk, if_neg hk, if_pos (by omega), if_pos (by omega)]
    have hE : x / 4503599627370496 % 2048 ≠ 0 := by unfold kd at hk; (repeat' split at hk) <;> omega
    unfold Pl.V
    rw [if_neg (by omega)]
    have e1 : (x % 9223372036854775808).toNat % 2 ^ 52 = (x % 4503599627370496).toNat := by omega
    have e2 : (x % 9223372036854775808).toNat / 2 ^ 52 - 1 = (x / 4503599627370496 % 2048 - 1075 + 1074).toNat := by omega
    have e3 : 2 ^ 52 + (x % 4503599627370496).toNat = (4503599627370496 + x % 4503599627370496).toNat := by omega
    rw [e1, e2, e3]
theorem low_inf {x : Int} (hx : Wd x) (h : kd x ≤ 2) : (x % 9223372036854775808).toNat < Pl.INF := by
  obtain ⟨h0, h1⟩ := hx
  rw [Pl.INF_eq]
  unfold kd at h
  (repeat' split at h) <;> omega
theorem mag_V {R : Nat} (h : R ≤ Pl.INF) : Pl.mag (Pl.V R) (-1074) false = R := by
  refine Pl.mag_of_V h ?_
  have e1 : Pl.sd (-1074) = 0 := by decide
  have e2 : Pl.sc (-1074) = 1 := by decide
  rw [e1, e2]; omega
theorem word_parts {x : Int} (hx : Wd x) : x = sb (sgn x) + x % 9223372036854775808 := by
  obtain ⟨h0, h1⟩ := hx
  unfold sb sgn
  by_cases g : 9223372036854775808 ≤ x
  · rw [decide_eq_true g, if_pos rfl]; omega
  · rw [decide_eq_false g, if_neg (by simp)]; omega
theorem fbits_id {x : Int} (hx : Wd x) (h : kd x ≤ 2) : fbits (sgn x) (fn x) (-1074) false = x := by
  unfold fbits
  rw [← V_fn hx h, mag_V (Nat.le_of_lt (low_inf hx h))]
  have := word_parts hx
  obtain ⟨h0, h1⟩ := hx
  omega
theorem fbits_parts {x : Int} (hx : Wd x) (h : kd x ≤ 2) : fbits (sgn x) (mant x).toNat (expo x) false = x := by
  have h1 := fbits_id hx h
  unfold fn at h1
  rw [fbits_scale] at h1
  have h2 := expo_bd (x := x)
  have e : (-1074 : Int) + ((expo x + 1074).toNat : Int) = expo x := by omega
  rw [e] at h1
  exact h1
theorem sg_sign {s : Bool} {n : Nat} (h : n ≠ 0) : decide (sg s n < 0) = s := by
  unfold sg
  cases s
  · simp
  · simp; omega
theorem sg_abs (s : Bool) (n : Nat) : (sg s n).natAbs = n := by unfold sg; cases s <;> simp
theorem fn_ne {x : Int} (hx : Wd x) (h : kd x ≤ 2) (h0 : kd x ≠ 0) : fn x ≠ 0 := by
  have hV := V_fn hx h
  intro g
  rw [g] at hV
  have hx0 : (x % 9223372036854775808).toNat = 0 := by
    rcases Nat.eq_zero_or_pos (x % 9223372036854775808).toNat with k | k
    · exact k
    · have := Pl.V_pos k; omega
  obtain ⟨g0, g1⟩ := hx
  apply h0
  unfold kd
  (repeat' split) <;> omega
theorem rnd_sv {x : Int} (hx : Wd x) (h : kd x ≤ 2) (h0 : kd x ≠ 0) : rnd (sv x) = x := by
  unfold rnd sv
  rw [sg_abs, sg_sign (fn_ne hx h h0), fbits_id hx h]
theorem sv_zero {x : Int} (_hx : Wd x) (h : kd x = 0) : sv x = 0 := by
  unfold sv
  have : fn x = 0 := by
    unfold fn mant
    have : x % 4503599627370496 = 0 := by unfold kd at h; (repeat' split at h) <;> omega
    rw [if_pos (by omega), this]; simp
  rw [this]; unfold sg; split <;> rfl

/-! ### Nothing added, multiplied by one -/
def ONE : Int := 4607182418800017408
theorem one_parts : kd 4607182418800017408 = 2 ∧ sgn 4607182418800017408 = false ∧ mant 4607182418800017408 = 4503599627370496 ∧ expo 4607182418800017408 = -52 := by decide
theorem two_parts : kd 4611686018427387904 = 2 ∧ sgn 4611686018427387904 = false ∧ mant 4611686018427387904 = 4503599627370496 ∧ expo 4611686018427387904 = -51 := by decide
theorem mul_one' {a : Int} (ha : Wd a) : mulI a 4607182418800017408 = rightI a := by
  obtain ⟨k, s, m, e⟩ := one_parts
  have h1 := kd_bd a
  unfold mulI rightI
  rw [k, s, m, e]
  by_cases a4 : kd a = 4
  · rw [if_pos (by omega), if_pos a4]
  · rw [if_neg (by omega), if_neg a4]
    by_cases a3 : kd a = 3
    · rw [if_pos (by omega)]
      have : (sgn a != false) = sgn a := by cases sgn a <;> rfl
      rw [this]; exact (inf_word ha a3).symm
    · rw [if_neg (by omega)]
      have : (sgn a != false) = sgn a := by cases sgn a <;> rfl
      have hm := mant_bd (x := a)
      have e1 : (mant a * 4503599627370496).toNat = (mant a).toNat * 2 ^ 52 := by omega
      rw [this, e1, fbits_scale]
      have e2 : expo a + -52 + ((52 : Nat) : Int) = expo a := by omega
      rw [e2]
      exact fbits_parts ha (by omega)
theorem add_self {a : Int} (ha : Wd a) : addI a a = mulI a 4611686018427387904 := by
  obtain ⟨k, s, m, e⟩ := two_parts
  have h1 := kd_bd a
  have hs : (sgn a != false) = sgn a := by cases sgn a <;> rfl
  have hm := mant_bd (x := a)
  have he := expo_bd (x := a)
  have e1 : (mant a * 4503599627370496).toNat = (mant a).toNat * 2 ^ 52 := by omega
  have e2 : expo a + -51 + ((52 : Nat) : Int) = expo a + 1 := by omega
  have hM : mulI a 4611686018427387904 = if kd a = 4 then NAN else if kd a = 3 then sb (sgn a) + INFI else fbits (sgn a) ((mant a).toNat * 2 ^ 1) (expo a) false := by
    unfold mulI
    rw [k, s, m, e, hs, e1, fbits_scale, e2, fbits_scale]
    by_cases a4 : kd a = 4
    · rw [if_pos (by omega), if_pos a4]
    · rw [if_neg (by omega), if_neg a4]
      by_cases a3 : kd a = 3
      · rw [if_pos (by omega), if_pos a3]
      · rw [if_neg (by omega), if_neg a3]; rfl
  rw [hM]
  by_cases a4 : kd a = 4
  · rw [if_pos a4]; unfold addI; rw [if_pos (.inl a4)]
  · rw [if_neg a4]
    by_cases a3 : kd a = 3
    · rw [if_pos a3]; unfold addI; rw [if_neg (by omega), if_pos a3, if_neg (by simp)]; exact inf_word ha a3
    · rw [if_neg a3]
      by_cases a0 : kd a = 0
      · rw [addI_zero a0 a0, if_pos rfl]
        have : mant a = 0 := by
          unfold mant
          have : a % 4503599627370496 = 0 := by unfold kd at a0; (repeat' split at a0) <;> omega
          rw [if_pos (by omega), this]
        rw [this]
        unfold fbits
        rw [show (0 : Int).toNat * 2 ^ 1 = 0 from rfl, mag_zero]
        have := zero_word' ha a0
        simpa using this
      · rw [addI_fin (by omega) (by omega) (by omega)]
        have hf := fn_ne ha (by omega) a0
        have : sv a + sv a = sg (sgn a) (fn a * 2 ^ 1) := by unfold sv sg; cases sgn a <;> simp <;> omega
        rw [this]
        unfold rnd
        rw [sg_abs, sg_sign (by omega), fbits_scale, fbits_scale]
        unfold fn
        rw [fbits_scale]
        congr 1; omega
theorem mul_mone {a : Int} (ha : Wd a) : mulI a 13830554455654793216 = negI a := by
  have e : (13830554455654793216 : Int) = negI 4607182418800017408 := by decide
  rw [mul_comm', e, mul_neg_l ⟨by decide, by decide⟩, mul_comm', mul_one' ha]
  unfold rightI
  by_cases a4 : kd a = 4
  · rw [if_pos a4, neg_nan]; unfold negI; rw [if_pos a4]
  · rw [if_neg a4]
theorem sub_self_fin {a : Int} (ha : Wd a) (h : kd a ≤ 2) : subI a a = 0 := by
  have kn := kd_neg ha (by omega)
  unfold subI
  by_cases a0 : kd a = 0
  · rw [addI_zero a0 (by omega), if_neg (fun g => neg_ne ha (by omega) g.symm)]
  · rw [addI_fin (by omega) (by omega) (by omega), sv_neg ha (by omega)]
    have : sv a + - sv a = 0 := by omega
    rw [this, rnd_zero]
theorem sub_self_inf {a : Int} (ha : Wd a) (h : 3 ≤ kd a) : subI a a = NAN := by
  have h1 := kd_bd a
  unfold subI addI
  by_cases a4 : kd a = 4
  · rw [if_pos (.inl a4)]
  · have kn := kd_neg ha a4
    rw [if_neg (by omega), if_pos (by omega), if_pos ⟨by omega, fun g => neg_ne ha a4 g.symm⟩]
theorem add_zero_inf {a : Int} (h : 3 ≤ kd a) : addI a 0 = rightI a := by
  have h1 := kd_bd a
  have k0 : kd 0 = 0 := by decide
  unfold addI rightI
  by_cases a4 : kd a = 4
  · rw [if_pos (.inl a4), if_pos a4]
  · rw [if_neg (by omega), if_pos (by omega), if_neg (by omega), if_neg a4]
theorem add_zero_fin {a : Int} (ha : Wd a) (h : kd a ≤ 2) (hn : a ≠ 9223372036854775808) : addI a 0 = a := by
  have k0 : kd 0 = 0 := by decide
  by_cases a0 : kd a = 0
  · rw [addI_zero a0 k0]
    have := zero_word' ha a0
    unfold sb at this
    split at this
    · exact absurd this hn
    · rw [if_pos this]
  · rw [addI_fin h (by omega) (by omega), sv_zero ⟨by decide, by decide⟩ k0, Int.add_zero, rnd_sv ha h a0]
theorem add_nzero_fin {a : Int} (ha : Wd a) (h : kd a ≤ 2) : addI a 9223372036854775808 = a := by
  have k0 : kd 9223372036854775808 = 0 := by decide
  by_cases a0 : kd a = 0
  · rw [addI_zero a0 k0]
    have := zero_word' ha a0
    unfold sb at this
    split at this
    · rw [if_pos this]
    · rw [if_neg (by omega)]; exact this.symm
  · rw [addI_fin h (by omega) (by omega), sv_zero ⟨by decide, by decide⟩ k0, Int.add_zero, rnd_sv ha h a0]
end Go.Proofs.Ytmjaoeafompclaa

namespace Go.Proofs.Ytmjaoeafompclaa
open Go.RowKit Go.Shelf

def rankI (x : Int) : Int := if 9223372036854775808 ≤ x then -(x - 9223372036854775808) else x
theorem rank_word {x : Int} (hx : Wd x) : rankI x = sg (sgn x) (x % 9223372036854775808).toNat := by
  obtain ⟨h0, h1⟩ := hx
  unfold rankI sg sgn
  by_cases g : 9223372036854775808 ≤ x
  · rw [if_pos g, decide_eq_true g, if_pos rfl]; omega
  · rw [if_neg g, decide_eq_false g, if_neg (by simp)]; omega
theorem rank_fbits (neg : Bool) (N : Nat) (e : Int) (more : Bool) : rankI (fbits neg N e more) = sg neg (Pl.mag N e more) := by
  have := Pl.mag_le_inf N e more
  rw [Pl.INF_eq] at this
  unfold rankI fbits sg sb
  cases neg
  · simp; omega
  · simp; omega
theorem rank_bd {x : Int} (hx : Wd x) (h : kd x ≠ 4) : -INFI ≤ rankI x ∧ rankI x ≤ INFI := by
  obtain ⟨h0, h1⟩ := hx
  unfold kd at h
  unfold rankI INFI
  (repeat' split at h) <;> (try omega) <;> split <;> omega
theorem rank_inf {x : Int} (hx : Wd x) (h : kd x = 3) : rankI x = sg (sgn x) 9218868437227405312 := by
  rw [rank_word hx]
  have := inf_word hx h
  obtain ⟨h0, h1⟩ := hx
  congr 1
  unfold sb INFI at this
  split at this <;> omega
theorem inf_rank {x : Int} (hx : Wd x) (h : kd x ≠ 4) (hr : rankI x = INFI ∨ rankI x = -INFI) : kd x = 3 := by
  obtain ⟨h0, h1⟩ := hx
  unfold kd at *
  unfold rankI INFI at hr
  (repeat' split at h) <;> (try omega) <;> split at hr <;> (repeat' split) <;> omega
theorem sgn_rank {x : Int} (hx : Wd x) : (sgn x = true → rankI x ≤ 0) ∧ (sgn x = false → 0 ≤ rankI x) ∧ (rankI x < 0 → sgn x = true) ∧ (0 < rankI x → sgn x = false) := by
  obtain ⟨h0, h1⟩ := hx
  unfold sgn rankI
  by_cases g : 9223372036854775808 ≤ x
  · rw [if_pos g, decide_eq_true g]; simp; omega
  · rw [if_neg g, decide_eq_false g]; simp; omega
theorem rank_zero {x : Int} (hx : Wd x) (h : rankI x = 0) : kd x = 0 := by
  obtain ⟨h0, h1⟩ := hx
  unfold rankI at h
  unfold kd
  split at h <;> (repeat' split) <;> omega
theorem zero_rank {x : Int} (hx : Wd x) (h : kd x = 0) : rankI x = 0 := by
  have := zero_word' hx h
  unfold sb at this
  unfold rankI
  split at this <;> split <;> omega

theorem sv_mono {a b : Int} (ha : Wd a) (hb : Wd b) (h1 : kd a ≤ 2) (h2 : kd b ≤ 2) (h : rankI a ≤ rankI b) : sv a ≤ sv b := by
  rw [rank_word ha, rank_word hb] at h
  unfold sv
  rw [← V_fn ha h1, ← V_fn hb h2]
  generalize (a % 9223372036854775808).toNat = n at *
  generalize (b % 9223372036854775808).toNat = m at *
  unfold sg at *
  cases hsa : sgn a <;> cases hsb : sgn b <;> rw [hsa, hsb] at h <;> simp at h ⊢
  · exact Pl.V_le h
  · have hn : n = 0 := by omega
    have hm : m = 0 := by omega
    rw [hn, hm, Pl.V_zero]; omega
  all_goals first | exact Pl.V_le h | omega
/-- Where what a whole amount of units rounds to stands. -/
def rk (S e : Int) : Int := sg (decide (S < 0)) (Pl.mag S.natAbs e false)
theorem rk_mono {S T e : Int} (h : S ≤ T) : rk S e ≤ rk T e := by
  unfold rk sg
  by_cases g : S < 0
  · by_cases k : T < 0
    · rw [decide_eq_true g, decide_eq_true k, if_pos rfl, if_pos rfl]
      have := Pl.mag_mono (a := T.natAbs) (b := S.natAbs) (e := e) (by omega)
      omega
    · rw [decide_eq_true g, decide_eq_false k, if_pos rfl, if_neg (by simp)]
      omega
  · have k : ¬ T < 0 := by omega
    rw [decide_eq_false g, decide_eq_false k, if_neg (by simp), if_neg (by simp)]
    have := Pl.mag_mono (a := S.natAbs) (b := T.natAbs) (e := e) (by omega)
    omega
theorem rk_zero (e : Int) : rk 0 e = 0 := by unfold rk; rw [show (0 : Int).natAbs = 0 from rfl, mag_zero]; rfl
theorem rank_rnd (S : Int) : rankI (rnd S) = rk S (-1074) := by unfold rnd; rw [rank_fbits]; rfl
theorem rank_add {a c : Int} (ha : Wd a) (hc : Wd c) (h1 : kd a ≤ 2) (h2 : kd c ≤ 2) : rankI (addI a c) = rk (sv a + sv c) (-1074) := by
  by_cases h0 : kd a = 0 ∧ kd c = 0
  · rw [addI_zero h0.1 h0.2, sv_zero ha h0.1, sv_zero hc h0.2, Int.add_zero, rk_zero]
    split
    · exact zero_rank ha h0.1
    · rfl
  · have k1 := kd_bd a
    have k2 := kd_bd c
    rw [addI_fin h1 h2 (by omega), rank_rnd]
theorem nan_ne {x : Int} (h : kd x ≠ 4) : x ≠ NAN := fun g => h (by rw [g]; exact kd_nan)
theorem kd_rnd (S : Int) : kd (rnd S) ≠ 4 := kd_fbits _ _ _ _
theorem kd_add {a c : Int} (h1 : kd a ≠ 4) (h2 : kd c ≤ 2) : kd (addI a c) ≠ 4 := by
  have k1 := kd_bd a
  have k2 := kd_bd c
  unfold addI
  rw [if_neg (by omega)]
  split
  · rw [if_neg (by omega)]; exact h1
  · rw [if_neg (by omega)]
    split
    · split
      · exact h1
      · decide
    · exact kd_rnd _
theorem add_nan {a c : Int} (h1 : kd a ≠ 4) (h : addI a c = NAN) : 3 ≤ kd c := by
  rcases Nat.lt_or_ge 2 (kd c).toNat with g | g
  · omega
  · have := kd_bd c
    exact absurd h (nan_ne (kd_add h1 (by omega)))
theorem add_order {a b c : Int} (ha : Wd a) (hb : Wd b) (hc : Wd c) (k1 : kd a ≠ 4) (k2 : kd b ≠ 4) (h : rankI a ≤ rankI b) (hx : addI a c ≠ NAN) (hy : addI b c ≠ NAN) : rankI (addI a c) ≤ rankI (addI b c) := by
  have g1 := kd_bd a
  have g2 := kd_bd b
  have g3 := kd_bd c
  by_cases c4 : kd c = 4
  · exact absurd (by unfold addI; rw [if_pos (.inr c4)]) hx
  · by_cases c3 : kd c = 3
    · have key : ∀ z, kd z ≠ 4 → addI z c ≠ NAN → addI z c = c := by
        intro z hz hn
        unfold addI at hn ⊢
        rw [if_neg (by omega)] at hn ⊢
        by_cases z3 : kd z = 3
        · rw [if_pos z3] at hn ⊢
          by_cases hzc : z = c
          · rw [if_neg (by simp [hzc])]; exact hzc
          · rw [if_pos ⟨c3, hzc⟩] at hn; exact absurd rfl hn
        · rw [if_neg z3, if_pos c3]
      rw [key a k1 hx, key b k2 hy]; exact Int.le_refl _
    · have c2 : kd c ≤ 2 := by omega
      have bx := rank_bd (wd_add ha hc) (kd_add k1 c2)
      have bby := rank_bd (wd_add hb hc) (kd_add k2 c2)
      have ba := rank_bd ha k1
      have bb := rank_bd hb k2
      have key : ∀ z, kd z = 3 → addI z c = z := by
        intro z z3
        unfold addI; rw [if_neg (by omega), if_pos z3, if_neg (by omega)]
      by_cases a3 : kd a = 3
      · have ra := rank_inf ha a3
        rw [key a a3] at *
        unfold sg at ra
        unfold INFI at *
        split at ra
        · omega
        · have b3 := inf_rank hb k2 (by unfold INFI; omega)
          rw [key b b3]; exact h
      · by_cases b3 : kd b = 3
        · have rb := rank_inf hb b3
          rw [key b b3] at *
          unfold sg at rb
          unfold INFI at *
          split at rb
          · have a3' := inf_rank ha k1 (by unfold INFI; omega)
            exact absurd a3' a3
          · omega
        · rw [rank_add ha hc (by omega) c2, rank_add hb hc (by omega) c2]
          have := sv_mono ha hb (by omega) (by omega) h
          exact rk_mono (by omega)

theorem sg_mul (s t : Bool) (N M : Nat) : sg s N * sg t M = sg (s != t) (N * M) := by
  unfold sg
  cases s <;> cases t <;> simp [Int.neg_mul, Int.mul_neg]
theorem sg_zero (s : Bool) : sg s 0 = 0 := by unfold sg; cases s <;> rfl
theorem rank_mul {a c : Int} (h1 : kd a ≤ 2) (h2 : kd c ≤ 2) : rankI (mulI a c) = rk (sv a * sv c) (-2148) := by
  have ba := expo_bd (x := a)
  have bc := expo_bd (x := c)
  have ma := mant_bd (x := a)
  have mc := mant_bd (x := c)
  unfold mulI
  rw [if_neg (by omega), if_neg (by omega), rank_fbits]
  unfold rk sv
  rw [sg_mul, sg_abs]
  have hP : (mant a * mant c).toNat = (mant a).toNat * (mant c).toNat := by
    obtain ⟨p, hp⟩ := Int.eq_ofNat_of_zero_le ma.1
    obtain ⟨q, hq⟩ := Int.eq_ofNat_of_zero_le mc.1
    rw [hp, hq]
    have : (p : Int) * (q : Int) = ((p * q : Nat) : Int) := by simp
    rw [this]; rfl
  have hN : fn a * fn c = (mant a).toNat * (mant c).toNat * 2 ^ ((expo a + 1074).toNat + (expo c + 1074).toNat) := by
    unfold fn; rw [Nat.pow_add]; grind
  have hm : Pl.mag (fn a * fn c) (-2148) false = Pl.mag (mant a * mant c).toNat (expo a + expo c) false := by
    rw [hN, mag_scale, hP]
    congr 1; omega
  rw [hm]
  by_cases hz : fn a * fn c = 0
  · have : Pl.mag (mant a * mant c).toNat (expo a + expo c) false = 0 := by rw [← hm, hz, mag_zero]
    rw [this, sg_zero, sg_zero]
  · rw [sg_sign hz]
theorem mul_inf {a c : Int} (h : ¬ (kd a = 4 ∨ kd c = 4 ∨ (kd a = 3 ∧ kd c = 0) ∨ (kd a = 0 ∧ kd c = 3))) (h3 : kd a = 3 ∨ kd c = 3) : rankI (mulI a c) = sg (sgn a != sgn c) 9218868437227405312 := by
  unfold mulI
  rw [if_neg h, if_pos h3]
  unfold rankI sg sb INFI
  cases (sgn a != sgn c) <;> simp
theorem kd_mul {a c : Int} (h : ¬ (kd a = 4 ∨ kd c = 4 ∨ (kd a = 3 ∧ kd c = 0) ∨ (kd a = 0 ∧ kd c = 3))) : kd (mulI a c) ≠ 4 := by
  unfold mulI
  rw [if_neg h]
  split
  · unfold sb INFI
    cases (sgn a != sgn c) <;> decide
  · exact kd_fbits _ _ _ _
theorem mul_order {a b c : Int} (ha : Wd a) (hb : Wd b) (_hc : Wd c) (k1 : kd a ≠ 4) (k2 : kd b ≠ 4) (h : rankI a ≤ rankI b) (hp : mulI a c ≠ NAN) (hq : mulI b c ≠ NAN) :
    (sgn c = false → rankI (mulI a c) ≤ rankI (mulI b c)) ∧ (sgn c = true → rankI (mulI b c) ≤ rankI (mulI a c)) := by
  have g1 := kd_bd a
  have g2 := kd_bd b
  have g3 := kd_bd c
  have na : ¬ (kd a = 4 ∨ kd c = 4 ∨ (kd a = 3 ∧ kd c = 0) ∨ (kd a = 0 ∧ kd c = 3)) := fun g => hp (by unfold mulI; rw [if_pos g])
  have nb : ¬ (kd b = 4 ∨ kd c = 4 ∨ (kd b = 3 ∧ kd c = 0) ∨ (kd b = 0 ∧ kd c = 3)) := fun g => hq (by unfold mulI; rw [if_pos g])
  have ba := rank_bd (wd_mul (a := a) (b := c)) (kd_mul na)
  have bb := rank_bd (wd_mul (a := b) (b := c)) (kd_mul nb)
  have ra := rank_bd ha k1
  have rb := rank_bd hb k2
  obtain ⟨s1, s2, s3, s4⟩ := sgn_rank ha
  obtain ⟨t1, t2, t3, t4⟩ := sgn_rank hb
  unfold INFI at *
  by_cases c3 : kd c = 3
  · rw [mul_inf na (.inr c3), mul_inf nb (.inr c3)]
    have za : rankI a ≠ 0 := fun g => by have := rank_zero ha g; omega
    have zb : rankI b ≠ 0 := fun g => by have := rank_zero hb g; omega
    have hs : sgn a = false → sgn b = false := fun g => t4 (by have := s2 g; omega)
    cases ea : sgn a <;> cases eb : sgn b <;> cases sgn c <;> simp [sg]
    all_goals (have := hs ea; rw [eb] at this; cases this)
  · by_cases a3 : kd a = 3
    · have r := rank_inf ha a3
      rw [mul_inf na (.inl a3)] at *
      unfold sg at r
      cases ea : sgn a
      · rw [ea] at r
        simp at r
        have b3 := inf_rank hb k2 (by unfold INFI; omega)
        have eb : sgn b = false := t4 (by omega)
        rw [mul_inf nb (.inl b3), eb]
        exact ⟨fun _ => Int.le_refl _, fun _ => Int.le_refl _⟩
      · rw [ea] at ba
        constructor
        · intro g; rw [g]; unfold sg; simp; omega
        · intro g; rw [g]; unfold sg; simp; omega
    · by_cases b3 : kd b = 3
      · have r := rank_inf hb b3
        rw [mul_inf nb (.inl b3)] at *
        unfold sg at r
        cases eb : sgn b
        · constructor
          · intro g; rw [g]; unfold sg; simp; omega
          · intro g; rw [g]; unfold sg; simp; omega
        · rw [eb] at r
          simp at r
          have a3' := inf_rank ha k1 (by unfold INFI; omega)
          exact absurd a3' a3
      · rw [rank_mul (by omega) (by omega), rank_mul (by omega) (by omega)]
        have hv := sv_mono ha hb (by omega) (by omega) h
        constructor
        · intro g
          have : 0 ≤ sv c := by unfold sv sg; rw [g]; simp
          exact rk_mono (Int.mul_le_mul_of_nonneg_right hv this)
        · intro g
          have : sv c ≤ 0 := by unfold sv sg; rw [g]; simp
          exact rk_mono (Int.mul_le_mul_of_nonpos_right hv this)

/-! ### What is exact -/
theorem V_double (a : Nat) : ∃ x, Pl.V x = 2 * Pl.V a := by
  by_cases h : a < 2 ^ 52
  · refine ⟨2 * a, ?_⟩
    have e := Pl.V_at (j := 0) (t := 2 * a) (by omega) (.inl rfl)
    have e2 := Pl.V_at (j := 0) (t := a) (by omega) (.inl rfl)
    simp at e e2
    rw [e, e2]
  · refine ⟨a + 2 ^ 52, ?_⟩
    unfold Pl.V
    rw [if_neg (by omega), if_neg h]
    have e1 : (a + 2 ^ 52) % 2 ^ 52 = a % 2 ^ 52 := by omega
    have e2 : (a + 2 ^ 52) / 2 ^ 52 - 1 = a / 2 ^ 52 - 1 + 1 := by omega
    rw [e1, e2]
    generalize a / 2 ^ 52 - 1 = k
    generalize 2 ^ 52 + a % 2 ^ 52 = Q
    rw [Nat.pow_succ, ← Nat.mul_assoc, Nat.mul_comm]
theorem V_rep : ∀ (j k : Nat), k < 2 ^ 53 → ∃ x, Pl.V x = k * 2 ^ j
  | 0, k, h => ⟨0 * 2 ^ 52 + k, Pl.V_at (by omega) (.inl rfl)⟩
  | j + 1, k, h => by
    by_cases hk : 2 ^ 52 ≤ k
    · exact ⟨(j + 1) * 2 ^ 52 + k, Pl.V_at (by omega) (.inr hk)⟩
    · obtain ⟨x, hx⟩ := V_rep j (2 * k) (by omega)
      exact ⟨x, by rw [hx, Nat.pow_succ]; grind⟩
/-- Between a half and the whole of it: what is left is a number. -/
theorem V_left {a b : Nat} (hab : a ≤ b) (h2 : Pl.V b ≤ 2 * Pl.V a) : ∃ d, Pl.V d = Pl.V b - Pl.V a ∧ d ≤ a := by
  obtain ⟨j, t, rfl, ht, hj⟩ := Pl.form a
  obtain ⟨i, s, rfl, hs, hi⟩ := Pl.form b
  have e1 := Pl.V_at (j := j) (t := t) (by omega) hj
  have e2 := Pl.V_at (j := i) (t := s) (by omega) hi
  rw [e1, e2] at h2
  have hji : j ≤ i := by
    rcases Nat.lt_or_ge i j with g | g
    · exfalso
      rcases hj with hj | hj
      · omega
      · have : i * 2 ^ 52 + s < j * 2 ^ 52 + t := by
          have := Nat.mul_le_mul_right (2 ^ 52) (show i + 1 ≤ j from g)
          omega
        omega
    · exact g
  obtain ⟨k, rfl⟩ : ∃ k, i = j + k := ⟨i - j, by omega⟩
  have e3 : s * 2 ^ (j + k) = s * 2 ^ k * 2 ^ j := by rw [Nat.pow_add]; grind
  rw [e1, e2, e3]
  rw [e3] at h2
  have hle : s * 2 ^ k ≤ 2 * t := by
    have : s * 2 ^ k * 2 ^ j ≤ 2 * t * 2 ^ j := by rw [Nat.mul_assoc 2]; exact h2
    exact Nat.le_of_mul_le_mul_right this (Nat.two_pow_pos j)
  rw [← Nat.sub_mul]
  obtain ⟨d, hd⟩ := V_rep j (s * 2 ^ k - t) (by omega)
  refine ⟨d, hd, Pl.V_le_iff.1 ?_⟩
  rw [hd, e1]
  exact Nat.mul_le_mul_right _ (by omega)
/-- No number above twice a number is within what twice it rounds to. -/
theorem V_twice {a b : Nat} (hb : b < Pl.INF) (h : b ≤ Pl.mag (2 * Pl.V a) (-1074) false) : Pl.V b ≤ 2 * Pl.V a := by
  rcases Nat.lt_or_ge (2 * Pl.V a) (Pl.V b) with g | g
  · exfalso
    obtain ⟨x, hx⟩ := V_double a
    have e1 : Pl.sd (-1074) = 0 := by decide
    have e2 : Pl.sc (-1074) = 1 := by decide
    have hb0 : 0 < b := by
      rcases Nat.eq_zero_or_pos b with k | k
      · rw [k, Pl.V_zero] at g; omega
      · exact k
    have hI := (Pl.mag_exact (2 * Pl.V a) (-1074)).iff (b - 1) (by omega)
    rw [e1, e2] at hI
    have := hI.1 (by omega)
    unfold Pl.mid at this
    rw [Nat.sub_add_cancel hb0] at this
    have h1 : Pl.V (b - 1) < Pl.V x := by
      rw [hx]
      omega
    have h2 : Pl.V x < Pl.V b := by rw [hx]; exact g
    have := Pl.V_lt_iff.1 h1
    have := Pl.V_lt_iff.1 h2
    omega
  · exact g
theorem low_word {x : Int} (hx : Wd x) (h : x < 9223372036854775808) : sgn x = false ∧ x % 9223372036854775808 = x := by
  obtain ⟨h0, h1⟩ := hx
  unfold sgn
  exact ⟨decide_eq_false (by omega), by omega⟩
theorem rnd_V {R : Nat} (h : R ≤ Pl.INF) : rnd ((Pl.V R : Nat) : Int) = R := by
  unfold rnd fbits
  rw [Int.natAbs_natCast, mag_V h, decide_eq_false (by omega)]
  unfold sb; simp
/-- Two numbers without signs that are within a factor of two. -/
theorem exact_all {a b : Int} (ha : Wd a) (hb : Wd b) (ha' : a < 9223372036854775808) (hab : a ≤ b) (hb' : b < 9223372036854775808) (kb : kd b ≤ 2) (h : b ≤ addI a a) :
    addI a (subI b a) = b ∧ subI b (subI b a) = a ∧ subI b a ≤ a ∧ Wd (subI b a) := by
  obtain ⟨sa, ea⟩ := low_word ha ha'
  obtain ⟨sb', eb⟩ := low_word hb hb'
  have kb0 := kd_bd b
  have ka0 := kd_bd a
  have hbI := low_inf hb kb
  rw [eb] at hbI
  have ka : kd a ≤ 2 := by
    obtain ⟨h0, h1⟩ := ha
    rw [Pl.INF_eq] at hbI
    unfold kd
    (repeat' split) <;> omega
  have hwd : Wd (subI b a) := wd_sub hb ha
  have hVa := V_fn ha ka
  have hVb := V_fn hb kb
  rw [ea] at hVa
  rw [eb] at hVb
  by_cases a0 : kd a = 0
  · have az : a = 0 := by
      have := zero_word' ha a0
      rw [sa] at this
      simpa [sb] using this
    subst az
    have hb0 : b = 0 := by
      rw [addI_zero a0 a0, if_pos rfl] at h
      obtain ⟨h0, h1⟩ := hb
      omega
    subst hb0
    exact ⟨by decide, by decide, by decide, ⟨by decide, by decide⟩⟩
  · have hsa : sv a = ((Pl.V a.toNat : Nat) : Int) := by unfold sv sg; rw [sa, hVa]; simp
    have hsb : sv b = ((Pl.V b.toNat : Nat) : Int) := by unfold sv sg; rw [sb', hVb]; simp
    have kb0' : kd b ≠ 0 := by
      intro g
      have := zero_word' hb g
      rw [sb'] at this
      have hb0 : b = 0 := by simpa [sb] using this
      have : a = 0 := by have := ha.1; omega
      exact a0 (by rw [this]; decide)
    have h2 : Pl.V b.toNat ≤ 2 * Pl.V a.toNat := by
      refine V_twice hbI ?_
      rw [addI_fin ka ka (by omega), hsa] at h
      unfold rnd fbits at h
      have e : ((Pl.V a.toNat : Nat) : Int) + ((Pl.V a.toNat : Nat) : Int) = ((2 * Pl.V a.toNat : Nat) : Int) := by omega
      rw [e, Int.natAbs_natCast, decide_eq_false (by omega)] at h
      unfold sb at h
      simp at h
      have := hb.1
      omega
    obtain ⟨d, hd, hda⟩ := V_left (a := a.toNat) (b := b.toNat) (by omega) h2
    have hmono := Pl.V_le (x := a.toNat) (y := b.toNat) (by omega)
    have hdI : d ≤ Pl.INF := by omega
    have hsub : subI b a = (d : Int) := by
      unfold subI
      rw [addI_fin kb (by rw [kd_neg ha (by omega)]; exact ka) (by omega), sv_neg ha (by omega), hsa, hsb]
      have e : ((Pl.V b.toNat : Nat) : Int) + -((Pl.V a.toNat : Nat) : Int) = ((Pl.V d : Nat) : Int) := by omega
      rw [e, rnd_V hdI]
    have hdlt : d < Pl.INF := by omega
    rw [Pl.INF_eq] at hdlt
    have wd : Wd (d : Int) := ⟨by omega, by omega⟩
    have kdd : kd (d : Int) ≤ 2 := by unfold kd; (repeat' split) <;> omega
    obtain ⟨sd', ed⟩ := low_word wd (by omega)
    have hVd := V_fn wd kdd
    rw [ed, Int.toNat_natCast] at hVd
    have hsd : sv (d : Int) = ((Pl.V d : Nat) : Int) := by unfold sv sg; rw [sd', hVd]; simp
    rw [hsub]
    refine ⟨?_, ?_, by have := ha.1; omega, wd⟩
    · rw [addI_fin ka kdd (by omega), hsa, hsd]
      have e : ((Pl.V a.toNat : Nat) : Int) + ((Pl.V d : Nat) : Int) = ((Pl.V b.toNat : Nat) : Int) := by omega
      rw [e, rnd_V (Nat.le_of_lt hbI)]
      have := hb.1
      omega
    · unfold subI
      rw [addI_fin kb (by rw [kd_neg wd (by omega)]; exact kdd) (by omega), sv_neg wd (by omega), hsb, hsd]
      have e : ((Pl.V b.toNat : Nat) : Int) + -((Pl.V d : Nat) : Int) = ((Pl.V a.toNat : Nat) : Int) := by omega
      rw [e, rnd_V (by omega)]
      have := ha.1
      omega
end Go.Proofs.Ytmjaoeafompclaa

namespace Go.Proofs.Ytmjaoeafompclaa
open Go.RowKit Go.Shelf

theorem pow_cmp {U X p r p' r' : Nat} (h : p + r' = p' + r) : (U * 2 ^ p < X * 2 ^ r ↔ U * 2 ^ p' < X * 2 ^ r') ∧ (U * 2 ^ p = X * 2 ^ r ↔ U * 2 ^ p' = X * 2 ^ r') := by
  have e1 : U * 2 ^ p * 2 ^ r' = U * 2 ^ p' * 2 ^ r := by rw [Nat.mul_assoc, Nat.mul_assoc, ← Nat.pow_add, ← Nat.pow_add, h]
  have e2 : X * 2 ^ r' * 2 ^ r = X * 2 ^ r * 2 ^ r' := by rw [Nat.mul_assoc, Nat.mul_assoc, Nat.mul_comm (2 ^ r')]
  have p1 := Nat.two_pow_pos r
  have p2 := Nat.two_pow_pos r'
  constructor
  · have a1 := Nat.mul_lt_mul_right (b := U * 2 ^ p) (c := X * 2 ^ r) p2
    have a2 := Nat.mul_lt_mul_right (b := U * 2 ^ p') (c := X * 2 ^ r') p1
    rw [← a1, ← a2, e1, e2]
  · have a1 := Nat.mul_left_inj (b := U * 2 ^ p) (c := X * 2 ^ r) (Nat.ne_of_gt p2)
    have a2 := Nat.mul_left_inj (b := U * 2 ^ p') (c := X * 2 ^ r') (Nat.ne_of_gt p1)
    rw [← a1, ← a2, e1, e2]

/-! ### Quotients -/
def quo (A B : Nat) (e : Int) : Nat := Pl.mag (A / B) e (decide (0 < A % B))
theorem big_un {q : Nat} {e : Int} (h : 2 ^ 54 ≤ q) : q ≠ 0 ∧ e < Pl.un q e := by
  have h1 := Pl.lt_bl_of_le h
  refine ⟨fun g => ?_, ?_⟩
  · rw [g] at h; exact absurd h (by decide)
  · unfold Pl.un; omega
theorem quo_rnd {A B : Nat} {e : Int} (hB : 0 < B) (h : 2 ^ 54 ≤ A / B) : Pl.IsRnd (fun M => M * B * 2 ^ Pl.sd e < A * 2 ^ Pl.sc e) (fun M => M * B * 2 ^ Pl.sd e = A * 2 ^ Pl.sc e) (quo A B e) := by
  unfold quo
  have hA := Nat.div_add_mod A B
  have hr := Nat.mod_lt A hB
  generalize A / B = q at *
  generalize A % B = r at *
  have pc := Nat.two_pow_pos (Pl.sc e)
  have e1 : ∀ M : Nat, M * B * 2 ^ Pl.sd e = M * 2 ^ Pl.sd e * B := fun M => by grind
  have e2 : A * 2 ^ Pl.sc e = q * 2 ^ Pl.sc e * B + r * 2 ^ Pl.sc e := by rw [← hA]; grind
  simp only [e1, e2]
  refine Pl.mag_rnd ?_ ?_ ?_ ?_
  · intro M hM
    have := (Nat.mul_lt_mul_right hB).2 hM
    omega
  · intro M hM
    rw [hM]
    refine ⟨fun g => ?_, fun g => ?_⟩
    · have : 0 < r := by simpa using g
      have := Nat.mul_pos this pc
      omega
    · have : r = 0 := by simpa using g
      rw [this, Nat.zero_mul, Nat.add_zero]
      exact ⟨rfl, by omega⟩
  · intro M hM g
    have h1 := (Nat.mul_lt_mul_right hB).2 hM
    rcases g with g | g
    · have : r = 0 := by simpa using g
      rw [this, Nat.zero_mul, Nat.add_zero]
      exact ⟨by omega, by omega⟩
    · have h2 := Nat.mul_le_mul_right B g
      have h3 : (q + 1) * 2 ^ Pl.sc e * B = q * 2 ^ Pl.sc e * B + B * 2 ^ Pl.sc e := by grind
      have h4 := (Nat.mul_lt_mul_right pc).2 hr
      rw [h3] at h2
      exact ⟨by omega, by omega⟩
  · intro _
    exact big_un h
/-- Two quotients that mean the same. -/
theorem quo_eq {A B A' B' : Nat} {e e' : Int} (hB : 0 < B) (hB' : 0 < B') (h : 2 ^ 54 ≤ A / B) (h' : 2 ^ 54 ≤ A' / B') (s s' t t' : Nat) (hA : A * 2 ^ s = A' * 2 ^ s') (hBB : B * 2 ^ t = B' * 2 ^ t')
    (he : e - s + t = e' - s' + t') : quo A B e = quo A' B' e' := by
  have key : ∀ (A B s t : Nat) (e : Int) (M : Nat), (M * B * 2 ^ Pl.sd e < A * 2 ^ Pl.sc e ↔ M * (B * 2 ^ t) * 2 ^ (Pl.sd e + s) < A * 2 ^ s * 2 ^ (Pl.sc e + t)) ∧ (M * B * 2 ^ Pl.sd e = A * 2 ^ Pl.sc e ↔ M * (B * 2 ^ t) * 2 ^ (Pl.sd e + s) = A * 2 ^ s * 2 ^ (Pl.sc e + t)) := by
    intro A B s t e M
    have e1 : M * (B * 2 ^ t) * 2 ^ (Pl.sd e + s) = M * B * 2 ^ Pl.sd e * 2 ^ (s + t) := by rw [Nat.pow_add, Nat.pow_add]; grind
    have e2 : A * 2 ^ s * 2 ^ (Pl.sc e + t) = A * 2 ^ Pl.sc e * 2 ^ (s + t) := by rw [Nat.pow_add, Nat.pow_add]; grind
    rw [e1, e2]
    have p := Nat.two_pow_pos (s + t)
    exact ⟨(Nat.mul_lt_mul_right p).symm, (Nat.mul_left_inj (Nat.ne_of_gt p)).symm⟩
  have hp : Pl.sd e + s + (Pl.sc e' + t') = Pl.sd e' + s' + (Pl.sc e + t) := by unfold Pl.sd Pl.sc; omega
  refine (quo_rnd hB h).unique ((quo_rnd hB' h').congr (fun M => ?_) (fun M => ?_))
  · rw [(key A B s t e M).1, (key A' B' s' t' e' M).1, hA, hBB]
    exact (pow_cmp hp).1.symm
  · rw [(key A B s t e M).2, (key A' B' s' t' e' M).2, hA, hBB]
    exact (pow_cmp hp).2.symm

/-! ### Roots -/
def rtm (A : Nat) (e : Int) : Nat := Pl.mag (Pl.rt A) e (decide (Pl.rt A * Pl.rt A < A))
theorem sq_lt {a b : Nat} (h : a < b) : a * a < b * b := Nat.mul_lt_mul_of_lt_of_le h (Nat.le_of_lt h) (by omega)
theorem rtm_rnd {A : Nat} {e : Int} (h : 2 ^ 54 ≤ Pl.rt A) : Pl.IsRnd (fun M => M * M * 2 ^ (2 * Pl.sd e) < A * 2 ^ (2 * Pl.sc e)) (fun M => M * M * 2 ^ (2 * Pl.sd e) = A * 2 ^ (2 * Pl.sc e)) (rtm A e) := by
  unfold rtm
  obtain ⟨h1, h2⟩ := Pl.rt_spec A
  generalize Pl.rt A = r at *
  have pc := Nat.two_pow_pos (2 * Pl.sc e)
  have e1 : ∀ M : Nat, M * M * 2 ^ (2 * Pl.sd e) = M * 2 ^ Pl.sd e * (M * 2 ^ Pl.sd e) := fun M => by rw [Nat.two_mul, Nat.pow_add]; grind
  have e2 : ∀ r : Nat, r * r * 2 ^ (2 * Pl.sc e) = r * 2 ^ Pl.sc e * (r * 2 ^ Pl.sc e) := fun r => by rw [Nat.two_mul, Nat.pow_add]; grind
  have g1 := Nat.mul_le_mul_right (2 ^ (2 * Pl.sc e)) h1
  have g2 := (Nat.mul_lt_mul_right pc).2 h2
  rw [e2] at g1 g2
  simp only [e1]
  refine Pl.mag_rnd ?_ ?_ ?_ ?_
  · intro M hM
    have := sq_lt hM
    omega
  · intro M hM
    rw [hM]
    refine ⟨fun g => ?_, fun g => ?_⟩
    · have g3 : r * r < A := by simpa using g
      have := (Nat.mul_lt_mul_right pc).2 g3
      rw [e2] at this
      exact this
    · have g3 : A = r * r := by
        have : ¬ r * r < A := by simpa using g
        omega
      rw [g3, e2]
      exact ⟨rfl, by omega⟩
  · intro M hM g
    rcases g with g | g
    · have g3 : A = r * r := by
        have : ¬ r * r < A := by simpa using g
        omega
      have := sq_lt hM
      rw [g3, e2]
      exact ⟨by omega, by omega⟩
    · have := Nat.mul_le_mul g g
      exact ⟨by omega, by omega⟩
  · intro _
    exact big_un h
theorem rtm_eq {A A' : Nat} {e e' : Int} (h : 2 ^ 54 ≤ Pl.rt A) (h' : 2 ^ 54 ≤ Pl.rt A') (s s' : Nat) (hA : A * 2 ^ s = A' * 2 ^ s') (he : 2 * e - s = 2 * e' - s') : rtm A e = rtm A' e' := by
  have key : ∀ (A s : Nat) (e : Int) (M : Nat), (M * M * 2 ^ (2 * Pl.sd e) < A * 2 ^ (2 * Pl.sc e) ↔ M * M * 2 ^ (2 * Pl.sd e + s) < A * 2 ^ s * 2 ^ (2 * Pl.sc e)) ∧ (M * M * 2 ^ (2 * Pl.sd e) = A * 2 ^ (2 * Pl.sc e) ↔ M * M * 2 ^ (2 * Pl.sd e + s) = A * 2 ^ s * 2 ^ (2 * Pl.sc e)) := by
    intro A s e M
    have e1 : M * M * 2 ^ (2 * Pl.sd e + s) = M * M * 2 ^ (2 * Pl.sd e) * 2 ^ s := by rw [Nat.pow_add]; grind
    have e2 : A * 2 ^ s * 2 ^ (2 * Pl.sc e) = A * 2 ^ (2 * Pl.sc e) * 2 ^ s := by grind
    rw [e1, e2]
    have p := Nat.two_pow_pos s
    exact ⟨(Nat.mul_lt_mul_right p).symm, (Nat.mul_left_inj (Nat.ne_of_gt p)).symm⟩
  have hp : 2 * Pl.sd e + s + 2 * Pl.sc e' = 2 * Pl.sd e' + s' + 2 * Pl.sc e := by unfold Pl.sd Pl.sc; omega
  refine (rtm_rnd h).unique ((rtm_rnd h').congr (fun M => ?_) (fun M => ?_))
  · rw [(key A s e M).1, (key A' s' e' M).1, hA]
    exact (pow_cmp hp).1.symm
  · rw [(key A s e M).2, (key A' s' e' M).2, hA]
    exact (pow_cmp hp).2.symm

/-! ### What the functions of the chapter answer -/
def divI (a b : Int) : Int :=
  if kd a = 4 ∨ kd b = 4 ∨ (kd a = 3 ∧ kd b = 3) ∨ (kd a = 0 ∧ kd b = 0) then NAN else if kd a = 3 ∨ kd b = 0 then sb (sgn a != sgn b) + INFI
  else if kd a = 0 ∨ kd b = 3 then sb (sgn a != sgn b)
  else fbits (sgn a != sgn b) ((mant a).toNat * 2 ^ 128 / (mant b).toNat) (expo a - expo b - 128) (decide (0 < (mant a).toNat * 2 ^ 128 % (mant b).toNat))
def sqK (e : Int) : Nat := if e % 2 = 0 then 128 else 129
def sqrtI (a : Int) : Int :=
  if kd a = 4 ∨ 9223372036854775808 < a then NAN else if kd a = 0 ∨ kd a = 3 then a
  else fbits false (Pl.rt ((mant a).toNat * 2 ^ sqK (expo a))) ((expo a - sqK (expo a)) / 2) (decide (Pl.rt ((mant a).toNat * 2 ^ sqK (expo a)) * Pl.rt ((mant a).toNat * 2 ^ sqK (expo a)) < (mant a).toNat * 2 ^ sqK (expo a)))
/-- The exact product and sum, in units of 2^-2148. -/
def fsum (a b c : Int) : Int := sv a * sv b + sv c * 2 ^ 1074
def fmaF (a b c : Int) : Int :=
  if fsum a b c = 0 then (if (kd a = 0 ∨ kd b = 0) ∧ kd c = 0 ∧ (sgn a != sgn b) = true ∧ sgn c = true then 9223372036854775808 else 0)
  else fbits (decide (fsum a b c < 0)) (fsum a b c).natAbs (-2148) false
def fmaI (a b c : Int) : Int :=
  if kd a = 4 ∨ kd b = 4 ∨ kd c = 4 ∨ ((kd a = 3 ∨ kd b = 3) ∧ (kd a = 0 ∨ kd b = 0)) ∨ ((kd a = 3 ∨ kd b = 3) ∧ kd c = 3 ∧ sgn c ≠ (sgn a != sgn b)) then NAN
  else if kd a = 3 ∨ kd b = 3 then sb (sgn a != sgn b) + INFI else if kd c = 3 then c else fmaF a b c
def modI (a b : Int) : Int :=
  if kd a = 4 ∨ kd b = 4 ∨ kd a = 3 ∨ kd b = 0 then NAN else if kd a = 0 ∨ kd b = 3 then a else fbits (sgn a) (fn a % fn b) (-1074) false
/-- The k lowest bits of u are still to come. -/
def powGo (a : Int) (u : Nat) : Nat → Int → Int
  | 0, p => p
  | k + 1, p => powGo a u k (if u / 2 ^ k % 2 = 1 then mulI (mulI p p) a else mulI p p)
def powI (a n : Int) : Int :=
  if kd a = 4 then NAN else if n < 0 then divI 4607182418800017408 (powGo a n.natAbs 64 4607182418800017408) else powGo a n.natAbs 64 4607182418800017408
end Go.Proofs.Ytmjaoeafompclaa

namespace Go.Proofs.Ytmjaoeafompclaa
open Go.RowKit Go.Shelf

/-- A number's kind, the two finite ones taken for one. -/
def kc (k : Int) : Nat := if k = 0 then 0 else if k ≤ 2 then 1 else if k = 3 then 2 else 3
theorem kc_lt (k : Int) : kc k < 4 := by unfold kc; (repeat' split) <;> omega
set_option maxHeartbeats 1000000 in
theorem akind_any (x : Int) (w : World) (hx : Wd x) : Calls Try.prog 89 #[.int .u64 x] w fun e w' => e = .returned (.int .i64 (kc (kd x) : Nat)) ∧ w = w' := by
  have hb := kd_bd x
  have CK := fun v => kind_any x v hx
  obtain ⟨k, hk⟩ : ∃ k, kd x = k := ⟨_, rfl⟩
  rw [hk] at CK hb ⊢
  replace CK := Lib.hid CK
  clear hk hx
  have ix0 : ∀ w, (Instr.index 107 (.agg #[.int .i64 0, .int .i64 1, .int .i64 1, .int .i64 2, .int .i64 3]) (.int .i64 0)).run Try.prog w = .ok (.int .i64 0) w := fun _ => by kernel_rfl
  have ix1 : ∀ w, (Instr.index 107 (.agg #[.int .i64 0, .int .i64 1, .int .i64 1, .int .i64 2, .int .i64 3]) (.int .i64 1)).run Try.prog w = .ok (.int .i64 1) w := fun _ => by kernel_rfl
  have ix2 : ∀ w, (Instr.index 107 (.agg #[.int .i64 0, .int .i64 1, .int .i64 1, .int .i64 2, .int .i64 3]) (.int .i64 2)).run Try.prog w = .ok (.int .i64 1) w := fun _ => by kernel_rfl
  have ix3 : ∀ w, (Instr.index 107 (.agg #[.int .i64 0, .int .i64 1, .int .i64 1, .int .i64 2, .int .i64 3]) (.int .i64 3)).run Try.prog w = .ok (.int .i64 2) w := fun _ => by kernel_rfl
  have ix4 : ∀ w, (Instr.index 107 (.agg #[.int .i64 0, .int .i64 1, .int .i64 1, .int .i64 2, .int .i64 3]) (.int .i64 4)).run Try.prog w = .ok (.int .i64 3) w := fun _ => by kernel_rfl
  obtain rfl | rfl | rfl | rfl | rfl : k = 0 ∨ k = 1 ∨ k = 2 ∨ k = 3 ∨ k = 4 := by omega
  all_goals
    go_enter Try.func89, Try.ntmps89
    go_wp2_with (go_at_call 62; refine (CK.out _).mono ?_; rintro e w' ⟨rfl, rfl⟩)
    go_ret
    exact ⟨rfl, rfl⟩
def addT : List Int := [4, 0, 3, 1, 0, 0, 3, 1, 2, 2, 4, 1, 1, 1, 1, 1]
def mulT : List Int := [6, 6, 1, 1, 6, 0, 5, 1, 1, 5, 5, 1, 1, 1, 1, 1]
def addC (a b : Int) : Int := addT.getD (kc (kd a) * 4 + kc (kd b)) 0
def mulC (a b : Int) : Int := mulT.getD (kc (kd a) * 4 + kc (kd b)) 0

set_option maxRecDepth 100000 in
set_option maxHeartbeats 2000000 in
theorem adds_any (a b : Int) (w : World) (ha : Wd a) (hb : Wd b) : Calls Try.prog 61 #[.int .u64 a, .int .u64 b] w fun e w' => e = .returned (.int .i64 (addC a b)) ∧ Below w.heap.size w w' := by
  have KA := fun v => akind_any a v ha
  have KB := fun v => akind_any b v hb
  have h1 := kc_lt (kd a)
  have h2 := kc_lt (kd b)
  unfold addC
  obtain ⟨i, hi⟩ : ∃ i, kc (kd a) = i := ⟨_, rfl⟩
  obtain ⟨j, hj⟩ : ∃ j, kc (kd b) = j := ⟨_, rfl⟩
  rw [hi] at KA h1 ⊢
  rw [hj] at KB h2 ⊢
  replace KA := Lib.hid KA
  replace KB := Lib.hid KB
  clear hi hj ha hb
  obtain ⟨R, hR⟩ : ∃ R, addT.getD (i * 4 + j) 0 = R := ⟨_, rfl⟩
  rw [hR]
  have i0 : (0 : Int) ≤ (i : Int) := by omega
  have i1 : (i : Int) < 4 := by omega
  have j0 : (0 : Int) ≤ (j : Int) := by omega
  have j1 : (j : Int) < 4 := by omega
  have hB : Below w.heap.size w (w.alloc (.cells #[.int .i64 4, .int .i64 0, .int .i64 3, .int .i64 1, .int .i64 0, .int .i64 0, .int .i64 3, .int .i64 1, .int .i64 2, .int .i64 2, .int .i64 4, .int .i64 1, .int .i64 1, .int .i64 1, .int .i64 1, .int .i64 1] 91)) := Bel.al (Bel.re w) _
  have hcell : (w.alloc (.cells #[.int .i64 4, .int .i64 0, .int .i64 3, .int .i64 1, .int .i64 0, .int .i64 0, .int .i64 3, .int .i64 1, .int .i64 2, .int .i64 2, .int .i64 4, .int .i64 1, .int .i64 1, .int .i64 1, .int .i64 1, .int .i64 1] 91)).cell? ⟨w.heap.size, i * 4 + j, none⟩ = some (.int .i64 R) := by
    rw [← hR]
    obtain rfl | rfl | rfl | rfl : i = 0 ∨ i = 1 ∨ i = 2 ∨ i = 3 := by omega
    all_goals
      obtain rfl | rfl | rfl | rfl : j = 0 ∨ j = 1 ∨ j = 2 ∨ j = 3 := by omega
    all_goals simp [go_sem, addT]
  clear hR
  go_enter Try.func61, Try.ntmps61
  go_wp2
  generalize World.alloc w _ = W at hB hcell ⊢
  go_quiet ((go_at_call 89; first | (with_reducible exact Calls.quiet_of_same ((KA.out _).mono fun _ _ ⟨he, hw⟩ => ⟨he, hw.symm⟩)) | (with_reducible exact Calls.quiet_of_same ((KB.out _).mono fun _ _ ⟨he, hw⟩ => ⟨he, hw.symm⟩))))
  go_wp2
  go_ret
  exact ⟨rfl, Bel.drN hB _⟩
set_option maxRecDepth 100000 in
set_option maxHeartbeats 2000000 in
theorem muls_any (a b : Int) (w : World) (ha : Wd a) (hb : Wd b) : Calls Try.prog 64 #[.int .u64 a, .int .u64 b] w fun e w' => e = .returned (.int .i64 (mulC a b)) ∧ Below w.heap.size w w' := by
  have KA := fun v => akind_any a v ha
  have KB := fun v => akind_any b v hb
  have h1 := kc_lt (kd a)
  have h2 := kc_lt (kd b)
  unfold mulC
  obtain ⟨i, hi⟩ : ∃ i, kc (kd a) = i := ⟨_, rfl⟩
  obtain ⟨j, hj⟩ : ∃ j, kc (kd b) = j := ⟨_, rfl⟩
  rw [hi] at KA h1 ⊢
  rw [hj] at KB h2 ⊢
  replace KA := Lib.hid KA
  replace KB := Lib.hid KB
  clear hi hj ha hb
  obtain ⟨R, hR⟩ : ∃ R, mulT.getD (i * 4 + j) 0 = R := ⟨_, rfl⟩
  rw [hR]
  have i0 : (0 : Int) ≤ (i : Int) := by omega
  have i1 : (i : Int) < 4 := by omega
  have j0 : (0 : Int) ≤ (j : Int) := by omega
  have j1 : (j : Int) < 4 := by omega
  have hB : Below w.heap.size w (w.alloc (.cells #[.int .i64 6, .int .i64 6, .int .i64 1, .int .i64 1, .int .i64 6, .int .i64 0, .int .i64 5, .int .i64 1, .int .i64 1, .int .i64 5, .int .i64 5, .int .i64 1, .int .i64 1, .int .i64 1, .int .i64 1, .int .i64 1] 91)) := Bel.al (Bel.re w) _
  have hcell : (w.alloc (.cells #[.int .i64 6, .int .i64 6, .int .i64 1, .int .i64 1, .int .i64 6, .int .i64 0, .int .i64 5, .int .i64 1, .int .i64 1, .int .i64 5, .int .i64 5, .int .i64 1, .int .i64 1, .int .i64 1, .int .i64 1, .int .i64 1] 91)).cell? ⟨w.heap.size, i * 4 + j, none⟩ = some (.int .i64 R) := by
    rw [← hR]
    obtain rfl | rfl | rfl | rfl : i = 0 ∨ i = 1 ∨ i = 2 ∨ i = 3 := by omega
    all_goals
      obtain rfl | rfl | rfl | rfl : j = 0 ∨ j = 1 ∨ j = 2 ∨ j = 3 := by omega
    all_goals simp [go_sem, mulT]
  clear hR
  go_enter Try.func64, Try.ntmps64
  go_wp2
  generalize World.alloc w _ = W at hB hcell ⊢
  go_quiet ((go_at_call 89; first | (with_reducible exact Calls.quiet_of_same ((KA.out _).mono fun _ _ ⟨he, hw⟩ => ⟨he, hw.symm⟩)) | (with_reducible exact Calls.quiet_of_same ((KB.out _).mono fun _ _ ⟨he, hw⟩ => ⟨he, hw.symm⟩))))
  go_wp2
  go_ret
  exact ⟨rfl, Bel.drN hB _⟩
end Go.Proofs.Ytmjaoeafompclaa

namespace Go.Proofs.Ytmjaoeafompclaa
open Go.RowKit Go.Shelf

theorem num0 (x : Int) : num 0 x = x := by unfold num; omega
theorem kd_low {x : Int} : kd x ≤ 2 → -1074 < expo x → 4503599627370496 ≤ mant x := by
  unfold expo mant
  intro h h2
  by_cases h1 : kd x ≤ 1
  · rw [if_pos h1] at h2; omega
  · rw [if_neg h1, if_pos (by omega)]; omega
/-- What the sum's walk knows, the greater exponent's number first. -/
structure SumSet (sx sy : Bool) (mx my U c q low j X : Nat) (ex ey e F : Int) : Prop where
  hU : min (ex - ey) 64 = (U : Int)
  he : ex - U = e
  hc : e - ey = (c : Int)
  hj : ey + 1074 = (j : Int)
  hex : -1074 ≤ ex ∧ ex ≤ 971
  hey : -1074 ≤ ey ∧ ey ≤ 971
  hmx : mx < 9007199254740992
  hmy : my < 9007199254740992
  hX : mx * 2 ^ U = X
  hq : my / 2 ^ c = q
  hlow : my % 2 ^ c = low
  Xb : X < 166153499473114484112975882535043072
  qb : q < 9007199254740992
  at_ : SumAt X my c q low
  pos : mx * 2 ^ (ex + 1074).toNat ≠ 0 ∨ my * 2 ^ (ey + 1074).toNat ≠ 0
  hF : rnd (sg sx (mx * 2 ^ (ex + 1074).toNat) + sg sy (my * 2 ^ (ey + 1074).toNat)) = F
theorem SumSet.mk' {sx sy : Bool} {mx my : Nat} {ex ey F : Int} (hle : ey ≤ ex) (hex : -1074 ≤ ex ∧ ex ≤ 971) (hey : -1074 ≤ ey ∧ ey ≤ 971) (hmx : mx < 9007199254740992) (hmy : my < 9007199254740992)
    (hlow : -1074 < ex → 4503599627370496 ≤ mx) (hpos : mx * 2 ^ (ex + 1074).toNat ≠ 0 ∨ my * 2 ^ (ey + 1074).toNat ≠ 0)
    (hF : rnd (sg sx (mx * 2 ^ (ex + 1074).toNat) + sg sy (my * 2 ^ (ey + 1074).toNat)) = F) : ∃ U c q low j X e, SumSet sx sy mx my U c q low j X ex ey e F := by
  obtain ⟨U, hU⟩ : ∃ U : Nat, min (ex - ey) 64 = (U : Int) := ⟨(min (ex - ey) 64).toNat, by omega⟩
  obtain ⟨c, hc⟩ : ∃ c : Nat, ex - U - ey = (c : Int) := ⟨(ex - U - ey).toNat, by omega⟩
  obtain ⟨j, hj⟩ : ∃ j : Nat, ey + 1074 = (j : Int) := ⟨(ey + 1074).toNat, by omega⟩
  have hUle : U ≤ 64 := by omega
  have hp : 2 ^ U ≤ 2 ^ 64 := Nat.pow_le_pow_right (by omega) hUle
  have hX : mx * 2 ^ U ≤ 9007199254740991 * 2 ^ 64 := Nat.mul_le_mul (by omega) hp
  have hq := Nat.div_le_self my (2 ^ c)
  refine ⟨U, c, _, _, j, _, _, ⟨hU, rfl, hc, hj, hex, hey, hmx, hmy, rfl, rfl, rfl, by omega, by omega, ⟨?_, Nat.mod_lt _ (Nat.two_pow_pos c), ?_⟩, hpos, hF⟩⟩
  · rw [Nat.mul_comm]; exact (Nat.div_add_mod my (2 ^ c)).symm
  · rcases Nat.eq_zero_or_pos c with h | h
    · exact .inl h
    · right
      have h64 : U = 64 := by omega
      have := hlow (by omega)
      subst h64
      refine ⟨?_, by omega⟩
      have := Nat.mul_le_mul_right (2 ^ 64) this
      omega
section
variable {sx sy : Bool} {mx my U c q low j X : Nat} {ex ey e F : Int}
theorem SumSet.ej (h : SumSet sx sy mx my U c q low j X ex ey e F) : e = (j : Int) + c - 1074 := by have := h.hc; have := h.hj; omega
theorem SumSet.nx (h : SumSet sx sy mx my U c q low j X ex ey e F) : mx * 2 ^ (ex + 1074).toNat = X * 2 ^ c * 2 ^ j := by
  have e1 : (ex + 1074).toNat = U + c + j := by have := h.hc; have := h.hj; have := h.he; have := h.hex; omega
  rw [e1, Nat.pow_add, Nat.pow_add, ← h.hX]; grind
theorem SumSet.ny (h : SumSet sx sy mx my U c q low j X ex ey e F) : my * 2 ^ (ey + 1074).toNat = my * 2 ^ j := by
  have e1 : (ey + 1074).toNat = j := by have := h.hj; omega
  rw [e1]
theorem SumSet.fe (h : SumSet sx sy mx my U c q low j X ex ey e F) : F = if sumN sx sy (X * 2 ^ c * 2 ^ j) (my * 2 ^ j) = 0 then 0 else fbits (sumS sx sy (X * 2 ^ c * 2 ^ j) (my * 2 ^ j)) (sumN sx sy (X * 2 ^ c * 2 ^ j) (my * 2 ^ j)) (-1074) false := by
  rw [← h.hF, rnd_sum, h.nx, h.ny]
theorem SumSet.same (h : SumSet sx sx mx my U c q low j X ex ey e F) : fbits sx (X + q) e (decide (low ≠ 0)) = F := by
  have hf := h.fe
  have hn := h.pos
  rw [h.nx, h.ny] at hn
  unfold sumN sumS at hf
  rw [if_pos rfl, if_pos rfl, if_neg (by omega)] at hf
  rw [hf, ← Nat.add_mul]
  exact (h.at_.same sx h.ej).symm
theorem SumSet.eq (h : SumSet sx sy mx my U c q low j X ex ey e F) (hs : sx ≠ sy) (h0 : low = 0) (he : X = q) : F = 0 := by
  have hf := h.fe
  obtain ⟨h1, h2, h3⟩ := h.at_
  have : X * 2 ^ c * 2 ^ j = my * 2 ^ j := by rw [h1, h0, Nat.add_zero, he]
  unfold sumN at hf
  rw [if_neg hs, this, if_pos (Nat.le_refl _), Nat.sub_self, if_pos rfl] at hf
  exact hf
theorem SumSet.gt (h : SumSet sx sy mx my U c q low j X ex ey e F) (hs : sx ≠ sy) (h0 : low = 0) (he : q < X) : fbits sx (X - q) e false = F := by
  have hf := h.fe
  obtain ⟨d1, d2, d3⟩ := h.at_.diff sx h.ej h0 (Nat.le_of_lt he)
  have hle := Nat.mul_le_mul_right (2 ^ j) d3
  have hne : (X * 2 ^ c - my) * 2 ^ j ≠ 0 := by
    have := Nat.two_pow_pos j
    intro g
    rcases Nat.mul_eq_zero.1 g with k | k
    · have := d2.1 k; omega
    · omega
  unfold sumN sumS at hf
  rw [if_neg hs, if_neg hs, if_pos hle, if_pos hle, ← Nat.sub_mul, if_neg hne] at hf
  rw [hf, d1]
theorem SumSet.lt (h : SumSet sx sy mx my U c q low j X ex ey e F) (hs : sx ≠ sy) (h0 : low = 0) (he : X < q) : fbits sy (q - X) e false = F := by
  have hf := h.fe
  obtain ⟨d1, d2⟩ := h.at_.under sy h.ej h0 he
  have hlt := (Nat.mul_lt_mul_right (Nat.two_pow_pos j)).2 d2
  have hne : (my - X * 2 ^ c) * 2 ^ j ≠ 0 := by
    have := Nat.two_pow_pos j
    intro g
    rcases Nat.mul_eq_zero.1 g with k | k <;> omega
  have hnle : ¬ my * 2 ^ j ≤ X * 2 ^ c * 2 ^ j := by omega
  unfold sumN sumS at hf
  rw [if_neg hs, if_neg hs, if_neg hnle, if_neg hnle, ← Nat.sub_mul, if_neg hne] at hf
  rw [hf, d1]
theorem SumSet.more (h : SumSet sx sy mx my U c q low j X ex ey e F) (hs : sx ≠ sy) (h0 : low ≠ 0) : fbits sx (X - (q + 1)) e true = F ∧ q + 1 ≤ X ∧ 83076749736557242056487941267521536 ≤ X := by
  have hf := h.fe
  obtain ⟨d1, d2, d3, d4⟩ := h.at_.more sx h.ej h0
  have hle := Nat.mul_le_mul_right (2 ^ j) (Nat.le_of_lt d2)
  have hne : (X * 2 ^ c - my) * 2 ^ j ≠ 0 := by
    have := Nat.two_pow_pos j
    intro g
    rcases Nat.mul_eq_zero.1 g with k | k <;> omega
  unfold sumN sumS at hf
  rw [if_neg hs, if_neg hs, if_pos hle, if_pos hle, ← Nat.sub_mul, if_neg hne] at hf
  refine ⟨by rw [hf, d1], d3, ?_⟩
  rcases h.at_.room with k | k
  · have := h.at_.low; rw [k, Nat.pow_zero] at this; omega
  · exact k.1
end
theorem shl_word (m U X : Nat) (v : World) (hm : m < 9007199254740992) (hX : m * 2 ^ U = X) (hb : X < 166153499473114484112975882535043072) (hU : U ≤ 1000) :
    Calls Try.prog 45 #[.agg #[.int .u64 0, .int .u64 m], .int .i64 U] v fun r w' => r = .returned (.agg #[.int .u64 (hiOf (X : Int)), .int .u64 (loOf (X : Int))]) ∧ Below v.heap.size v w' := by
  have h := shl_k 0 (m : Int) (U : Int) U v ⟨by decide, by decide⟩ ⟨by omega, by omega⟩ (by omega) (by omega)
  have e : shlN (num 0 (m : Int)) U = (X : Int) := by
    rw [num0]
    unfold shlN bit128
    have : (m : Int) * 2 ^ U = (X : Int) := by rw [← hX]; simp
    rw [this]; omega
  rw [e] at h
  exact h
theorem shr_word (m c q low : Nat) (v : World) (hm : m < 9007199254740992) (hq : m / 2 ^ c = q) (hl : m % 2 ^ c = low) (hc : c ≤ 100000) :
    Calls Try.prog 69 #[.agg #[.int .u64 0, .int .u64 m], .int .i64 c] v fun r w' => r = .returned (.tuple #[.agg #[.int .u64 (hiOf (q : Int)), .int .u64 (loOf (q : Int))], .bool (decide (low ≠ 0))]) ∧ Below v.heap.size v w' := by
  have h := shr_k 0 (m : Int) (c : Int) c v ⟨by decide, by decide⟩ ⟨by omega, by omega⟩ (by omega) (by omega)
  rw [num0, shrN_nat, lostN_nat, hq, hl] at h
  exact h
theorem wadd_nat (A B : Nat) (v : World) (h : A + B < 340282366920938463463374607431768211456) :
    Calls Try.prog 90 #[.agg #[.int .u64 (hiOf (A : Int)), .int .u64 (loOf (A : Int))], .agg #[.int .u64 (hiOf (B : Int)), .int .u64 (loOf (B : Int))]] v fun r w' => r = .returned (.tuple #[.agg #[.int .u64 (hiOf ((A + B : Nat) : Int)), .int .u64 (loOf ((A + B : Nat) : Int))], .bool false]) ∧ Below v.heap.size v w' := by
  have h1 := wadd_any (hiOf (A : Int)) (loOf (A : Int)) (hiOf (B : Int)) (loOf (B : Int)) v (Wd.hi (by omega) (by omega)) (Wd.lo _) (Wd.hi (by omega) (by omega)) (Wd.lo _)
  rw [num_parts, num_parts] at h1
  have e : ((A : Int) + (B : Int)) % bit128 = ((A + B : Nat) : Int) := by unfold bit128; omega
  have e2 : decide (bit128 ≤ (A : Int) + (B : Int)) = false := by unfold bit128; simp; omega
  rw [e, e2] at h1
  exact h1
theorem wsub_nat (A B : Nat) (v : World) (h : B ≤ A) (hA : A < 340282366920938463463374607431768211456) :
    Calls Try.prog 91 #[.agg #[.int .u64 (hiOf (A : Int)), .int .u64 (loOf (A : Int))], .agg #[.int .u64 (hiOf (B : Int)), .int .u64 (loOf (B : Int))]] v fun r w' => r = .returned (.tuple #[.agg #[.int .u64 (hiOf ((A - B : Nat) : Int)), .int .u64 (loOf ((A - B : Nat) : Int))], .bool false]) ∧ Below v.heap.size v w' := by
  have h1 := wsub_any (hiOf (A : Int)) (loOf (A : Int)) (hiOf (B : Int)) (loOf (B : Int)) v (Wd.hi (by omega) (by omega)) (Wd.lo _) (Wd.hi (by omega) (by omega)) (Wd.lo _)
  rw [num_parts, num_parts] at h1
  have e : ((A : Int) - (B : Int)) % bit128 = ((A - B : Nat) : Int) := by unfold bit128; omega
  have e2 : decide ((A : Int) < (B : Int)) = false := by simp; omega
  rw [e, e2] at h1
  exact h1
theorem wsub_under (A B : Nat) (v : World) (h : A < B) (hB : B < 340282366920938463463374607431768211456) :
    Calls Try.prog 91 #[.agg #[.int .u64 (hiOf (A : Int)), .int .u64 (loOf (A : Int))], .agg #[.int .u64 (hiOf (B : Int)), .int .u64 (loOf (B : Int))]] v fun r w' => r = .returned (.tuple #[.agg #[.int .u64 (hiOf (((A : Int) - (B : Int)) % bit128)), .int .u64 (loOf (((A : Int) - (B : Int)) % bit128))], .bool true]) ∧ Below v.heap.size v w' := by
  have h1 := wsub_any (hiOf (A : Int)) (loOf (A : Int)) (hiOf (B : Int)) (loOf (B : Int)) v (Wd.hi (by omega) (by omega)) (Wd.lo _) (Wd.hi (by omega) (by omega)) (Wd.lo _)
  rw [num_parts, num_parts] at h1
  have e2 : decide ((A : Int) < (B : Int)) = true := by simp; omega
  rw [e2] at h1
  exact h1
theorem join_nat (neg : Bool) (A : Nat) (e : Int) (more : Bool) (v : World) (hA : A < 340282366920938463463374607431768211456) (e0 : -9223372036854775808 ≤ e) (e1 : e < 9223372036854775808) :
    Calls Try.prog 34 #[.bool neg, .agg #[.int .u64 (hiOf (A : Int)), .int .u64 (loOf (A : Int))], .int .i64 e, .bool more] v fun r w' => r = .returned (.int .u64 (fbits neg A e more)) ∧ Below v.heap.size v w' := by
  have h1 := join_any neg (hiOf (A : Int)) (loOf (A : Int)) e more v (Wd.hi (by omega) (by omega)) (Wd.lo _) e0 e1
  rw [num_parts, Int.toNat_natCast] at h1
  exact h1

set_option maxRecDepth 100000 in
set_option maxHeartbeats 8000000 in
theorem sum_same (sx : Bool) (mx my : Nat) {U c q low j X : Nat} {ex ey e F a b : Int} (w : World) (ha : Wd a) (hb : Wd b)
    (hsw : (expo b ≤ expo a ∧ sgn a = sx ∧ mant a = mx ∧ expo a = ex ∧ sgn b = sx ∧ mant b = my ∧ expo b = ey) ∨ (expo a < expo b ∧ sgn b = sx ∧ mant b = mx ∧ expo b = ex ∧ sgn a = sx ∧ mant a = my ∧ expo a = ey))
    (H : SumSet sx sx mx my U c q low j X ex ey e F)  :
    Calls Try.prog 63 #[.int .u64 a, .int .u64 b] w fun r w' => r = .returned (.int .u64 F) ∧ Below w.heap.size w w' := by
  have bex := H.hex
  have bey := H.hey
  have bU : U ≤ 64 := by have := H.hU; omega
  have bc : c ≤ 100000 := by have := H.hc; have := H.he; omega
  have be : -100000 ≤ e ∧ e ≤ 100000 := by have := H.he; have := H.hU; omega
  have rU := H.hU
  have rE := H.he
  have rC := H.hc
  have bq := H.qb
  have bX := H.Xb
  have bmx := H.hmx
  have bmy := H.hmy
  have CSH := fun v => shl_word mx U X v bmx H.hX bX (by omega)
  have CSR := fun v => shr_word my c q low v bmy H.hq H.hlow bc
  have CAD := fun v => wadd_nat X q v (by omega)
  have CJ := fun v => join_nat sx (X + q) e (decide (low ≠ 0)) v (by omega) (by omega) (by omega)
  rw [H.same] at CJ
  obtain ⟨D, hD⟩ : ∃ D, X + q = D := ⟨_, rfl⟩
  rw [hD] at CAD CJ
  have CA := fun v => split_any a v ha
  have CB := fun v => split_any b v hb
  obtain ⟨MO, hMO⟩ : ∃ MO, decide (low ≠ 0) = MO := ⟨_, rfl⟩
  rw [hMO] at CSR CJ
  obtain ⟨XxH, hXxH⟩ : ∃ XxH, hiOf (X : Int) = XxH := ⟨_, rfl⟩
  obtain ⟨XxL, hXxL⟩ : ∃ XxL, loOf (X : Int) = XxL := ⟨_, rfl⟩
  obtain ⟨qxH, hqxH⟩ : ∃ qxH, hiOf (q : Int) = qxH := ⟨_, rfl⟩
  obtain ⟨qxL, hqxL⟩ : ∃ qxL, loOf (q : Int) = qxL := ⟨_, rfl⟩
  obtain ⟨DxH, hDxH⟩ : ∃ DxH, hiOf (D : Int) = DxH := ⟨_, rfl⟩
  obtain ⟨DxL, hDxL⟩ : ∃ DxL, loOf (D : Int) = DxL := ⟨_, rfl⟩
  simp only [hXxH, hXxL] at CSH CAD
  simp only [hqxH, hqxL] at CSR CAD
  simp only [hDxH, hDxL] at CAD CJ
  replace CSH := Lib.hid CSH
  replace CSR := Lib.hid CSR
  replace CAD := Lib.hid CAD
  replace CJ := Lib.hid CJ
  replace CA := Lib.hid CA
  replace CB := Lib.hid CB
  have HSW := Lib.hid hsw
  have HE := Lib.hid (show ey ≤ ex by have := H.hc; have := H.he; omega)
  have RU := Lib.hid rU
  have RE := Lib.hid rE
  have RC := Lib.hid rC
  clear hsw H rU rE rC ha hb hD hMO hXxH hXxL hqxH hqxL hDxH hDxL
  go_enter Try.func63, Try.ntmps63
  go_upto_if 34 with (first | (go_at_call_of 49 (Value.int IntKind.u64 a); (with_reducible refine (CA.out _).mono ?_); rintro e w' ⟨rfl, rfl⟩) | (go_at_call_of 49 (Value.int IntKind.u64 b); (with_reducible refine (CB.out _).mono ?_); rintro e w' ⟨rfl, rfl⟩))
  go_cut [5, 6, 7, 8, 9, 10] (fun s5 s6 s7 s8 s9 s10 wx => s5 = .bool sx ∧ s6 = .int .u64 mx ∧ s7 = .int .i64 ex ∧ s8 = .bool sx ∧ s9 = .int .u64 my ∧ s10 = .int .i64 ey ∧ wx = w)
  case first =>
    rcases HSW.out with ⟨g, h1, h2, h3, h4, h5, h6⟩ | ⟨g, h1, h2, h3, h4, h5, h6⟩
    · have g2 : ¬ expo a < expo b := by omega
      have T1 := Lib.hid h1; have T2 := Lib.hid h2; have T3 := Lib.hid h3; have T4 := Lib.hid h4; have T5 := Lib.hid h5; have T6 := Lib.hid h6
      clear h1 h2 h3 h4 h5 h6 g
      go_wp2
      go_meet
      exact ⟨by rw [T1.out], by rw [T2.out], by rw [T3.out], by rw [T4.out], by rw [T5.out], by rw [T6.out], rfl⟩
    · have T1 := Lib.hid h1; have T2 := Lib.hid h2; have T3 := Lib.hid h3; have T4 := Lib.hid h4; have T5 := Lib.hid h5; have T6 := Lib.hid h6
      clear h1 h2 h3 h4 h5 h6
      go_wp2
      go_meet
      exact ⟨by rw [T1.out], by rw [T2.out], by rw [T3.out], by rw [T4.out], by rw [T5.out], by rw [T6.out], rfl⟩
  case rest =>
    obtain ⟨rfl, rfl, rfl, rfl, rfl, rfl, rfl⟩ := hcut
    have rU := RU.out
    have rE := RE.out
    have rC := RC.out
    clear HSW
    go_wp2_with fail
    (with_reducible refine (CSH.out _).mono ?_)
    rintro e w0 ⟨rfl, hb⟩
    have hB := Bel.st (Bel.re wc) hb
    clear hb
    go_wp2_with fail
    (with_reducible refine (CSR.out _).mono ?_)
    rintro e w1 ⟨rfl, hb⟩
    replace hB := Bel.st (Bel.al hB _) hb
    have T_x := (HdV.new w0 (.int .u64 XxH) (.int .u64 XxL) _).below hb
    clear hb
    have hxy : w0.heap.size ≠ w1.heap.size := Nat.ne_of_lt T_x.lt
    have hby : wc.heap.size ≤ w1.heap.size := hB.size
    obtain ⟨zx, cx0, cx1, fx0, fx1⟩ := id T_x
    go_wp2_with fail
    (with_reducible refine (CAD.out _).mono ?_)
    rintro e w2 ⟨rfl, hb⟩
    replace hB := Bel.st (Bel.al hB _) hb
    replace T_x := (T_x.alloc _).below hb
    have T_y := (HdV.new w1 (.int .u64 qxH) (.int .u64 qxL) _).below hb
    clear hb zx cx0 cx1 fx0 fx1
    go_wp2_with fail
    (with_reducible refine (CJ.out _).mono ?_)
    rintro e w3 ⟨rfl, hb⟩
    replace hB := Bel.st (Bel.al hB _) hb
    replace T_x := (T_x.alloc _).below hb
    replace T_y := (T_y.alloc _).below hb
    clear hb
    go_wp2_with fail
    go_ret
    exact ⟨rfl, hB⟩
set_option maxRecDepth 100000 in
set_option maxHeartbeats 8000000 in
theorem sum_eq (sx sy : Bool) (mx my : Nat) {U c q low j X : Nat} {ex ey e F a b : Int} (w : World) (ha : Wd a) (hb : Wd b)
    (hsw : (expo b ≤ expo a ∧ sgn a = sx ∧ mant a = mx ∧ expo a = ex ∧ sgn b = sy ∧ mant b = my ∧ expo b = ey) ∨ (expo a < expo b ∧ sgn b = sx ∧ mant b = mx ∧ expo b = ex ∧ sgn a = sy ∧ mant a = my ∧ expo a = ey))
    (H : SumSet sx sy mx my U c q low j X ex ey e F) (hst : sx ≠ sy) (h0 : low = 0) (hXq : X = q) :
    Calls Try.prog 63 #[.int .u64 a, .int .u64 b] w fun r w' => r = .returned (.int .u64 F) ∧ Below w.heap.size w w' := by
  have bex := H.hex
  have bey := H.hey
  have bU : U ≤ 64 := by have := H.hU; omega
  have bc : c ≤ 100000 := by have := H.hc; have := H.he; omega
  have be : -100000 ≤ e ∧ e ≤ 100000 := by have := H.he; have := H.hU; omega
  have rU := H.hU
  have rE := H.he
  have rC := H.hc
  have bq := H.qb
  have bX := H.Xb
  have bmx := H.hmx
  have bmy := H.hmy
  have CSH := fun v => shl_word mx U X v bmx H.hX bX (by omega)
  have CSR := fun v => shr_word my c q low v bmy H.hq H.hlow bc
  have hF := H.eq hst h0 hXq
  subst hF
  have CSB := fun v => wsub_nat X q v (by omega) (by omega)
  rw [show X - q = 0 by omega, show hiOf ((0 : Nat) : Int) = 0 from rfl, show loOf ((0 : Nat) : Int) = 0 from rfl] at CSB
  have CA := fun v => split_any a v ha
  have CB := fun v => split_any b v hb
  rw [show decide (low ≠ 0) = false by simp [h0]] at CSR
  obtain ⟨XxH, hXxH⟩ : ∃ XxH, hiOf (X : Int) = XxH := ⟨_, rfl⟩
  obtain ⟨XxL, hXxL⟩ : ∃ XxL, loOf (X : Int) = XxL := ⟨_, rfl⟩
  obtain ⟨qxH, hqxH⟩ : ∃ qxH, hiOf (q : Int) = qxH := ⟨_, rfl⟩
  obtain ⟨qxL, hqxL⟩ : ∃ qxL, loOf (q : Int) = qxL := ⟨_, rfl⟩
  simp only [hXxH, hXxL] at CSH CSB
  simp only [hqxH, hqxL] at CSR CSB
  have hst' : (sx == sy) = false := by simpa using hst
  replace CSH := Lib.hid CSH
  replace CSR := Lib.hid CSR
  replace CSB := Lib.hid CSB
  replace CA := Lib.hid CA
  replace CB := Lib.hid CB
  have HSW := Lib.hid hsw
  have HE := Lib.hid (show ey ≤ ex by have := H.hc; have := H.he; omega)
  have RU := Lib.hid rU
  have RE := Lib.hid rE
  have RC := Lib.hid rC
  clear hsw H rU rE rC ha hb hXq h0 hXxH hXxL hqxH hqxL hst
  go_enter Try.func63, Try.ntmps63
  go_upto_if 34 with (first | (go_at_call_of 49 (Value.int IntKind.u64 a); (with_reducible refine (CA.out _).mono ?_); rintro e w' ⟨rfl, rfl⟩) | (go_at_call_of 49 (Value.int IntKind.u64 b); (with_reducible refine (CB.out _).mono ?_); rintro e w' ⟨rfl, rfl⟩))
  go_cut [5, 6, 7, 8, 9, 10] (fun s5 s6 s7 s8 s9 s10 wx => s5 = .bool sx ∧ s6 = .int .u64 mx ∧ s7 = .int .i64 ex ∧ s8 = .bool sy ∧ s9 = .int .u64 my ∧ s10 = .int .i64 ey ∧ wx = w)
  case first =>
    rcases HSW.out with ⟨g, h1, h2, h3, h4, h5, h6⟩ | ⟨g, h1, h2, h3, h4, h5, h6⟩
    · have g2 : ¬ expo a < expo b := by omega
      have T1 := Lib.hid h1; have T2 := Lib.hid h2; have T3 := Lib.hid h3; have T4 := Lib.hid h4; have T5 := Lib.hid h5; have T6 := Lib.hid h6
      clear h1 h2 h3 h4 h5 h6 g
      go_wp2
      go_meet
      exact ⟨by rw [T1.out], by rw [T2.out], by rw [T3.out], by rw [T4.out], by rw [T5.out], by rw [T6.out], rfl⟩
    · have T1 := Lib.hid h1; have T2 := Lib.hid h2; have T3 := Lib.hid h3; have T4 := Lib.hid h4; have T5 := Lib.hid h5; have T6 := Lib.hid h6
      clear h1 h2 h3 h4 h5 h6
      go_wp2
      go_meet
      exact ⟨by rw [T1.out], by rw [T2.out], by rw [T3.out], by rw [T4.out], by rw [T5.out], by rw [T6.out], rfl⟩
  case rest =>
    obtain ⟨rfl, rfl, rfl, rfl, rfl, rfl, rfl⟩ := hcut
    have rU := RU.out
    have rE := RE.out
    have rC := RC.out
    clear HSW
    go_wp2_with fail
    (with_reducible refine (CSH.out _).mono ?_)
    rintro e w0 ⟨rfl, hb⟩
    have hB := Bel.st (Bel.re wc) hb
    clear hb
    go_wp2_with fail
    (with_reducible refine (CSR.out _).mono ?_)
    rintro e w1 ⟨rfl, hb⟩
    replace hB := Bel.st (Bel.al hB _) hb
    have T_x := (HdV.new w0 (.int .u64 XxH) (.int .u64 XxL) _).below hb
    clear hb
    have hxy : w0.heap.size ≠ w1.heap.size := Nat.ne_of_lt T_x.lt
    have hby : wc.heap.size ≤ w1.heap.size := hB.size
    obtain ⟨zx, cx0, cx1, fx0, fx1⟩ := id T_x
    go_wp2_with fail
    (with_reducible refine (CSB.out _).mono ?_)
    rintro e w2 ⟨rfl, hb⟩
    replace hB := Bel.st (Bel.al hB _) hb
    replace T_x := (T_x.alloc _).below hb
    have T_y := (HdV.new w1 (.int .u64 qxH) (.int .u64 qxL) _).below hb
    clear hb zx cx0 cx1 fx0 fx1
    go_wp2_with fail
    go_ret
    exact ⟨rfl, hB.alloc hB.size _⟩
set_option maxRecDepth 100000 in
set_option maxHeartbeats 8000000 in
theorem sum_gt (sx sy : Bool) (mx my : Nat) {U c q low j X : Nat} {ex ey e F a b : Int} (w : World) (ha : Wd a) (hb : Wd b)
    (hsw : (expo b ≤ expo a ∧ sgn a = sx ∧ mant a = mx ∧ expo a = ex ∧ sgn b = sy ∧ mant b = my ∧ expo b = ey) ∨ (expo a < expo b ∧ sgn b = sx ∧ mant b = mx ∧ expo b = ex ∧ sgn a = sy ∧ mant a = my ∧ expo a = ey))
    (H : SumSet sx sy mx my U c q low j X ex ey e F) (hst : sx ≠ sy) (h0 : low = 0) (hXq : q < X) :
    Calls Try.prog 63 #[.int .u64 a, .int .u64 b] w fun r w' => r = .returned (.int .u64 F) ∧ Below w.heap.size w w' := by
  have bex := H.hex
  have bey := H.hey
  have bU : U ≤ 64 := by have := H.hU; omega
  have bc : c ≤ 100000 := by have := H.hc; have := H.he; omega
  have be : -100000 ≤ e ∧ e ≤ 100000 := by have := H.he; have := H.hU; omega
  have rU := H.hU
  have rE := H.he
  have rC := H.hc
  have bq := H.qb
  have bX := H.Xb
  have bmx := H.hmx
  have bmy := H.hmy
  have CSH := fun v => shl_word mx U X v bmx H.hX bX (by omega)
  have CSR := fun v => shr_word my c q low v bmy H.hq H.hlow bc
  have CSB := fun v => wsub_nat X q v (by omega) (by omega)
  have CJ := fun v => join_nat sx (X - q) e false v (by omega) (by omega) (by omega)
  rw [H.gt hst h0 hXq] at CJ
  obtain ⟨D, hD⟩ : ∃ D, X - q = D := ⟨_, rfl⟩
  rw [hD] at CSB CJ
  have hnz : hiOf (D : Int) = 0 → loOf (D : Int) ≠ 0 := by unfold hiOf loOf; omega
  have CA := fun v => split_any a v ha
  have CB := fun v => split_any b v hb
  rw [show decide (low ≠ 0) = false by simp [h0]] at CSR
  obtain ⟨XxH, hXxH⟩ : ∃ XxH, hiOf (X : Int) = XxH := ⟨_, rfl⟩
  obtain ⟨XxL, hXxL⟩ : ∃ XxL, loOf (X : Int) = XxL := ⟨_, rfl⟩
  obtain ⟨qxH, hqxH⟩ : ∃ qxH, hiOf (q : Int) = qxH := ⟨_, rfl⟩
  obtain ⟨qxL, hqxL⟩ : ∃ qxL, loOf (q : Int) = qxL := ⟨_, rfl⟩
  obtain ⟨DxH, hDxH⟩ : ∃ DxH, hiOf (D : Int) = DxH := ⟨_, rfl⟩
  obtain ⟨DxL, hDxL⟩ : ∃ DxL, loOf (D : Int) = DxL := ⟨_, rfl⟩
  simp only [hXxH, hXxL] at CSH CSB
  simp only [hqxH, hqxL] at CSR CSB
  simp only [hDxH, hDxL] at CSB CJ hnz
  have hst' : (sx == sy) = false := by simpa using hst
  replace CSH := Lib.hid CSH
  replace CSR := Lib.hid CSR
  replace CSB := Lib.hid CSB
  replace CJ := Lib.hid CJ
  replace CA := Lib.hid CA
  replace CB := Lib.hid CB
  have HSW := Lib.hid hsw
  have HE := Lib.hid (show ey ≤ ex by have := H.hc; have := H.he; omega)
  have RU := Lib.hid rU
  have RE := Lib.hid rE
  have RC := Lib.hid rC
  clear hsw H rU rE rC ha hb hD h0 hXxH hXxL hqxH hqxL hDxH hDxL hst
  go_enter Try.func63, Try.ntmps63
  go_upto_if 34 with (first | (go_at_call_of 49 (Value.int IntKind.u64 a); (with_reducible refine (CA.out _).mono ?_); rintro e w' ⟨rfl, rfl⟩) | (go_at_call_of 49 (Value.int IntKind.u64 b); (with_reducible refine (CB.out _).mono ?_); rintro e w' ⟨rfl, rfl⟩))
  go_cut [5, 6, 7, 8, 9, 10] (fun s5 s6 s7 s8 s9 s10 wx => s5 = .bool sx ∧ s6 = .int .u64 mx ∧ s7 = .int .i64 ex ∧ s8 = .bool sy ∧ s9 = .int .u64 my ∧ s10 = .int .i64 ey ∧ wx = w)
  case first =>
    rcases HSW.out with ⟨g, h1, h2, h3, h4, h5, h6⟩ | ⟨g, h1, h2, h3, h4, h5, h6⟩
    · have g2 : ¬ expo a < expo b := by omega
      have T1 := Lib.hid h1; have T2 := Lib.hid h2; have T3 := Lib.hid h3; have T4 := Lib.hid h4; have T5 := Lib.hid h5; have T6 := Lib.hid h6
      clear h1 h2 h3 h4 h5 h6 g
      go_wp2
      go_meet
      exact ⟨by rw [T1.out], by rw [T2.out], by rw [T3.out], by rw [T4.out], by rw [T5.out], by rw [T6.out], rfl⟩
    · have T1 := Lib.hid h1; have T2 := Lib.hid h2; have T3 := Lib.hid h3; have T4 := Lib.hid h4; have T5 := Lib.hid h5; have T6 := Lib.hid h6
      clear h1 h2 h3 h4 h5 h6
      go_wp2
      go_meet
      exact ⟨by rw [T1.out], by rw [T2.out], by rw [T3.out], by rw [T4.out], by rw [T5.out], by rw [T6.out], rfl⟩
  case rest =>
    obtain ⟨rfl, rfl, rfl, rfl, rfl, rfl, rfl⟩ := hcut
    have rU := RU.out
    have rE := RE.out
    have rC := RC.out
    clear HSW
    go_wp2_with fail
    (with_reducible refine (CSH.out _).mono ?_)
    rintro e w0 ⟨rfl, hb⟩
    have hB := Bel.st (Bel.re wc) hb
    clear hb
    go_wp2_with fail
    (with_reducible refine (CSR.out _).mono ?_)
    rintro e w1 ⟨rfl, hb⟩
    replace hB := Bel.st (Bel.al hB _) hb
    have T_x := (HdV.new w0 (.int .u64 XxH) (.int .u64 XxL) _).below hb
    clear hb
    have hxy : w0.heap.size ≠ w1.heap.size := Nat.ne_of_lt T_x.lt
    have hby : wc.heap.size ≤ w1.heap.size := hB.size
    obtain ⟨zx, cx0, cx1, fx0, fx1⟩ := id T_x
    go_wp2_with fail
    (with_reducible refine (CSB.out _).mono ?_)
    rintro e w2 ⟨rfl, hb⟩
    replace hB := Bel.st (Bel.al hB _) hb
    replace T_x := (T_x.alloc _).below hb
    have T_y := (HdV.new w1 (.int .u64 qxH) (.int .u64 qxL) _).below hb
    clear hb zx cx0 cx1 fx0 fx1
    by_cases hz : DxH = 0
    · have hz1 : (DxH == 0) = true := by simpa using hz
      have hz2 : (DxL == 0) = false := by simpa using hnz hz
      clear hz hnz
      go_wp2_with fail
      (with_reducible refine (CJ.out _).mono ?_)
      rintro e w3 ⟨rfl, hb⟩
      replace hB := Bel.st (Bel.al hB _) hb
      replace T_x := (T_x.alloc _).below hb
      replace T_y := (T_y.alloc _).below hb
      clear hb
      go_wp2_with fail
      go_ret
      exact ⟨rfl, hB⟩
    · have hz1 : (DxH == 0) = false := by simpa using hz
      clear hz hnz
      go_wp2_with fail
      (with_reducible refine (CJ.out _).mono ?_)
      rintro e w3 ⟨rfl, hb⟩
      replace hB := Bel.st (Bel.al hB _) hb
      replace T_x := (T_x.alloc _).below hb
      replace T_y := (T_y.alloc _).below hb
      clear hb
      go_wp2_with fail
      go_ret
      exact ⟨rfl, hB⟩
set_option maxRecDepth 100000 in
set_option maxHeartbeats 8000000 in
theorem sum_lt (sx sy : Bool) (mx my : Nat) {U c q low j X : Nat} {ex ey e F a b : Int} (w : World) (ha : Wd a) (hb : Wd b)
    (hsw : (expo b ≤ expo a ∧ sgn a = sx ∧ mant a = mx ∧ expo a = ex ∧ sgn b = sy ∧ mant b = my ∧ expo b = ey) ∨ (expo a < expo b ∧ sgn b = sx ∧ mant b = mx ∧ expo b = ex ∧ sgn a = sy ∧ mant a = my ∧ expo a = ey))
    (H : SumSet sx sy mx my U c q low j X ex ey e F) (hst : sx ≠ sy) (h0 : low = 0) (hXq : X < q) :
    Calls Try.prog 63 #[.int .u64 a, .int .u64 b] w fun r w' => r = .returned (.int .u64 F) ∧ Below w.heap.size w w' := by
  have bex := H.hex
  have bey := H.hey
  have bU : U ≤ 64 := by have := H.hU; omega
  have bc : c ≤ 100000 := by have := H.hc; have := H.he; omega
  have be : -100000 ≤ e ∧ e ≤ 100000 := by have := H.he; have := H.hU; omega
  have rU := H.hU
  have rE := H.he
  have rC := H.hc
  have bq := H.qb
  have bX := H.Xb
  have bmx := H.hmx
  have bmy := H.hmy
  have CSH := fun v => shl_word mx U X v bmx H.hX bX (by omega)
  have CSR := fun v => shr_word my c q low v bmy H.hq H.hlow bc
  have CSB := fun v => wsub_nat q X v (by omega) (by omega)
  have CSU := fun v => wsub_under X q v hXq (by omega)
  obtain ⟨UH, hUH⟩ : ∃ UH, hiOf (((X : Int) - (q : Int)) % bit128) = UH := ⟨_, rfl⟩
  obtain ⟨UL, hUL⟩ : ∃ UL, loOf (((X : Int) - (q : Int)) % bit128) = UL := ⟨_, rfl⟩
  rw [hUH, hUL] at CSU
  have CJ := fun v => join_nat sy (q - X) e false v (by omega) (by omega) (by omega)
  rw [H.lt hst h0 hXq] at CJ
  obtain ⟨D, hD⟩ : ∃ D, q - X = D := ⟨_, rfl⟩
  rw [hD] at CSB CJ
  have CA := fun v => split_any a v ha
  have CB := fun v => split_any b v hb
  rw [show decide (low ≠ 0) = false by simp [h0]] at CSR
  obtain ⟨XxH, hXxH⟩ : ∃ XxH, hiOf (X : Int) = XxH := ⟨_, rfl⟩
  obtain ⟨XxL, hXxL⟩ : ∃ XxL, loOf (X : Int) = XxL := ⟨_, rfl⟩
  obtain ⟨qxH, hqxH⟩ : ∃ qxH, hiOf (q : Int) = qxH := ⟨_, rfl⟩
  obtain ⟨qxL, hqxL⟩ : ∃ qxL, loOf (q : Int) = qxL := ⟨_, rfl⟩
  obtain ⟨DxH, hDxH⟩ : ∃ DxH, hiOf (D : Int) = DxH := ⟨_, rfl⟩
  obtain ⟨DxL, hDxL⟩ : ∃ DxL, loOf (D : Int) = DxL := ⟨_, rfl⟩
  simp only [hXxH, hXxL] at CSH CSB CSU
  simp only [hqxH, hqxL] at CSR CSB CSU
  simp only [hDxH, hDxL] at CSB CJ
  have hst' : (sx == sy) = false := by simpa using hst
  replace CSH := Lib.hid CSH
  replace CSR := Lib.hid CSR
  replace CSB := Lib.hid CSB
  replace CSU := Lib.hid CSU
  replace CJ := Lib.hid CJ
  replace CA := Lib.hid CA
  replace CB := Lib.hid CB
  have HSW := Lib.hid hsw
  have HE := Lib.hid (show ey ≤ ex by have := H.hc; have := H.he; omega)
  have RU := Lib.hid rU
  have RE := Lib.hid rE
  have RC := Lib.hid rC
  clear hsw H rU rE rC ha hb hD h0 hUH hUL hXxH hXxL hqxH hqxL hDxH hDxL hst
  go_enter Try.func63, Try.ntmps63
  go_upto_if 34 with (first | (go_at_call_of 49 (Value.int IntKind.u64 a); (with_reducible refine (CA.out _).mono ?_); rintro e w' ⟨rfl, rfl⟩) | (go_at_call_of 49 (Value.int IntKind.u64 b); (with_reducible refine (CB.out _).mono ?_); rintro e w' ⟨rfl, rfl⟩))
  go_cut [5, 6, 7, 8, 9, 10] (fun s5 s6 s7 s8 s9 s10 wx => s5 = .bool sx ∧ s6 = .int .u64 mx ∧ s7 = .int .i64 ex ∧ s8 = .bool sy ∧ s9 = .int .u64 my ∧ s10 = .int .i64 ey ∧ wx = w)
  case first =>
    rcases HSW.out with ⟨g, h1, h2, h3, h4, h5, h6⟩ | ⟨g, h1, h2, h3, h4, h5, h6⟩
    · have g2 : ¬ expo a < expo b := by omega
      have T1 := Lib.hid h1; have T2 := Lib.hid h2; have T3 := Lib.hid h3; have T4 := Lib.hid h4; have T5 := Lib.hid h5; have T6 := Lib.hid h6
      clear h1 h2 h3 h4 h5 h6 g
      go_wp2
      go_meet
      exact ⟨by rw [T1.out], by rw [T2.out], by rw [T3.out], by rw [T4.out], by rw [T5.out], by rw [T6.out], rfl⟩
    · have T1 := Lib.hid h1; have T2 := Lib.hid h2; have T3 := Lib.hid h3; have T4 := Lib.hid h4; have T5 := Lib.hid h5; have T6 := Lib.hid h6
      clear h1 h2 h3 h4 h5 h6
      go_wp2
      go_meet
      exact ⟨by rw [T1.out], by rw [T2.out], by rw [T3.out], by rw [T4.out], by rw [T5.out], by rw [T6.out], rfl⟩
  case rest =>
    obtain ⟨rfl, rfl, rfl, rfl, rfl, rfl, rfl⟩ := hcut
    have rU := RU.out
    have rE := RE.out
    have rC := RC.out
    clear HSW
    go_wp2_with fail
    (with_reducible refine (CSH.out _).mono ?_)
    rintro e w0 ⟨rfl, hb⟩
    have hB := Bel.st (Bel.re wc) hb
    clear hb
    go_wp2_with fail
    (with_reducible refine (CSR.out _).mono ?_)
    rintro e w1 ⟨rfl, hb⟩
    replace hB := Bel.st (Bel.al hB _) hb
    have T_x := (HdV.new w0 (.int .u64 XxH) (.int .u64 XxL) _).below hb
    clear hb
    have hxy : w0.heap.size ≠ w1.heap.size := Nat.ne_of_lt T_x.lt
    have hby : wc.heap.size ≤ w1.heap.size := hB.size
    obtain ⟨zx, cx0, cx1, fx0, fx1⟩ := id T_x
    go_wp2_with fail
    (with_reducible refine (CSU.out _).mono ?_)
    rintro e w2 ⟨rfl, hb⟩
    replace hB := Bel.st (Bel.al hB _) hb
    replace T_x := (T_x.alloc _).below hb
    have T_y := (HdV.new w1 (.int .u64 qxH) (.int .u64 qxL) _).below hb
    clear hb zx cx0 cx1 fx0 fx1
    have hxd : w0.heap.size ≠ w2.heap.size := Nat.ne_of_lt T_x.lt
    have hyd : w1.heap.size ≠ w2.heap.size := Nat.ne_of_lt T_y.lt
    have hbd : wc.heap.size ≤ w2.heap.size := hB.size
    obtain ⟨zx, cx0, cx1, fx0, fx1⟩ := id T_x
    obtain ⟨zy, cy0, cy1, fy0, fy1⟩ := id T_y
    go_wp2_with fail
    (with_reducible refine (CSB.out _).mono ?_)
    rintro e w3 ⟨rfl, hb⟩
    replace hB := Bel.st (Bel.al hB _) hb
    replace T_x := (T_x.alloc _).below hb
    replace T_y := (T_y.alloc _).below hb
    have T_d := (HdV.new w2 (.int .u64 UH) (.int .u64 UL) _).below hb
    clear hb zx cx0 cx1 fx0 fx1 zy cy0 cy1 fy0 fy1
    obtain ⟨zd, cd0, cd1, fd0, fd1⟩ := id T_d
    go_wp2_with fail
    (with_reducible refine (CJ.out _).mono ?_)
    rintro e w4 ⟨rfl, hb⟩
    replace hB := Bel.st (Bel.se2 (G := w2.heap.size) hB hbd _ _) hb
    replace T_x := (T_x.keep2 (G := w2.heap.size) (Ne.symm hxd) _ _).below hb
    replace T_y := (T_y.keep2 (G := w2.heap.size) (Ne.symm hyd) _ _).below hb
    replace T_d := (T_d.set _ _).below hb
    clear hb zd cd0 cd1 fd0 fd1
    go_wp2_with fail
    go_ret
    exact ⟨rfl, hB⟩
set_option maxRecDepth 100000 in
set_option maxHeartbeats 8000000 in
theorem sum_more (sx sy : Bool) (mx my : Nat) {U c q low j X : Nat} {ex ey e F a b : Int} (w : World) (ha : Wd a) (hb : Wd b)
    (hsw : (expo b ≤ expo a ∧ sgn a = sx ∧ mant a = mx ∧ expo a = ex ∧ sgn b = sy ∧ mant b = my ∧ expo b = ey) ∨ (expo a < expo b ∧ sgn b = sx ∧ mant b = mx ∧ expo b = ex ∧ sgn a = sy ∧ mant a = my ∧ expo a = ey))
    (H : SumSet sx sy mx my U c q low j X ex ey e F) (hst : sx ≠ sy) (h0 : low ≠ 0) :
    Calls Try.prog 63 #[.int .u64 a, .int .u64 b] w fun r w' => r = .returned (.int .u64 F) ∧ Below w.heap.size w w' := by
  have bex := H.hex
  have bey := H.hey
  have bU : U ≤ 64 := by have := H.hU; omega
  have bc : c ≤ 100000 := by have := H.hc; have := H.he; omega
  have be : -100000 ≤ e ∧ e ≤ 100000 := by have := H.he; have := H.hU; omega
  have rU := H.hU
  have rE := H.he
  have rC := H.hc
  have bq := H.qb
  have bX := H.Xb
  have bmx := H.hmx
  have bmy := H.hmy
  have CSH := fun v => shl_word mx U X v bmx H.hX bX (by omega)
  have CSR := fun v => shr_word my c q low v bmy H.hq H.hlow bc
  obtain ⟨hf, hq1, hX1⟩ := H.more hst h0
  have CAD := fun v => wadd_nat q 1 v (by omega)
  rw [show hiOf ((1 : Nat) : Int) = 0 from rfl, show loOf ((1 : Nat) : Int) = 1 from rfl] at CAD
  have CSB := fun v => wsub_nat X (q + 1) v hq1 (by omega)
  have CJ := fun v => join_nat sx (X - (q + 1)) e true v (by omega) (by omega) (by omega)
  rw [hf] at CJ
  obtain ⟨Q1, hQ1⟩ : ∃ Q1, q + 1 = Q1 := ⟨_, rfl⟩
  rw [hQ1] at CAD CSB CJ hq1
  obtain ⟨D, hD⟩ : ∃ D, X - Q1 = D := ⟨_, rfl⟩
  rw [hD] at CSB CJ
  have hnz : (hiOf (D : Int) == 0) = false := by
    have : hiOf (D : Int) ≠ 0 := by unfold hiOf; omega
    simpa using this
  obtain ⟨QH, hQH⟩ : ∃ QH, hiOf (Q1 : Int) = QH := ⟨_, rfl⟩
  obtain ⟨QL, hQL⟩ : ∃ QL, loOf (Q1 : Int) = QL := ⟨_, rfl⟩
  rw [hQH, hQL] at CAD CSB
  have CA := fun v => split_any a v ha
  have CB := fun v => split_any b v hb
  rw [show decide (low ≠ 0) = true by simpa using h0] at CSR
  obtain ⟨XxH, hXxH⟩ : ∃ XxH, hiOf (X : Int) = XxH := ⟨_, rfl⟩
  obtain ⟨XxL, hXxL⟩ : ∃ XxL, loOf (X : Int) = XxL := ⟨_, rfl⟩
  obtain ⟨qxH, hqxH⟩ : ∃ qxH, hiOf (q : Int) = qxH := ⟨_, rfl⟩
  obtain ⟨qxL, hqxL⟩ : ∃ qxL, loOf (q : Int) = qxL := ⟨_, rfl⟩
  obtain ⟨DxH, hDxH⟩ : ∃ DxH, hiOf (D : Int) = DxH := ⟨_, rfl⟩
  obtain ⟨DxL, hDxL⟩ : ∃ DxL, loOf (D : Int) = DxL := ⟨_, rfl⟩
  simp only [hXxH, hXxL] at CSH CSB
  simp only [hqxH, hqxL] at CSR CAD
  simp only [hDxH, hDxL] at CSB CJ
  rw [hDxH] at hnz
  have hst' : (sx == sy) = false := by simpa using hst
  replace CSH := Lib.hid CSH
  replace CSR := Lib.hid CSR
  replace CAD := Lib.hid CAD
  replace CSB := Lib.hid CSB
  replace CJ := Lib.hid CJ
  replace CA := Lib.hid CA
  replace CB := Lib.hid CB
  have HSW := Lib.hid hsw
  have HE := Lib.hid (show ey ≤ ex by have := H.hc; have := H.he; omega)
  have RU := Lib.hid rU
  have RE := Lib.hid rE
  have RC := Lib.hid rC
  clear hsw H rU rE rC ha hb hQ1 hD hQH hQL h0 hX1 hf hXxH hXxL hqxH hqxL hDxH hDxL hst
  go_enter Try.func63, Try.ntmps63
  go_upto_if 34 with (first | (go_at_call_of 49 (Value.int IntKind.u64 a); (with_reducible refine (CA.out _).mono ?_); rintro e w' ⟨rfl, rfl⟩) | (go_at_call_of 49 (Value.int IntKind.u64 b); (with_reducible refine (CB.out _).mono ?_); rintro e w' ⟨rfl, rfl⟩))
  go_cut [5, 6, 7, 8, 9, 10] (fun s5 s6 s7 s8 s9 s10 wx => s5 = .bool sx ∧ s6 = .int .u64 mx ∧ s7 = .int .i64 ex ∧ s8 = .bool sy ∧ s9 = .int .u64 my ∧ s10 = .int .i64 ey ∧ wx = w)
  case first =>
    rcases HSW.out with ⟨g, h1, h2, h3, h4, h5, h6⟩ | ⟨g, h1, h2, h3, h4, h5, h6⟩
    · have g2 : ¬ expo a < expo b := by omega
      have T1 := Lib.hid h1; have T2 := Lib.hid h2; have T3 := Lib.hid h3; have T4 := Lib.hid h4; have T5 := Lib.hid h5; have T6 := Lib.hid h6
      clear h1 h2 h3 h4 h5 h6 g
      go_wp2
      go_meet
      exact ⟨by rw [T1.out], by rw [T2.out], by rw [T3.out], by rw [T4.out], by rw [T5.out], by rw [T6.out], rfl⟩
    · have T1 := Lib.hid h1; have T2 := Lib.hid h2; have T3 := Lib.hid h3; have T4 := Lib.hid h4; have T5 := Lib.hid h5; have T6 := Lib.hid h6
      clear h1 h2 h3 h4 h5 h6
      go_wp2
      go_meet
      exact ⟨by rw [T1.out], by rw [T2.out], by rw [T3.out], by rw [T4.out], by rw [T5.out], by rw [T6.out], rfl⟩
  case rest =>
    obtain ⟨rfl, rfl, rfl, rfl, rfl, rfl, rfl⟩ := hcut
    have rU := RU.out
    have rE := RE.out
    have rC := RC.out
    clear HSW
    go_wp2_with fail
    (with_reducible refine (CSH.out _).mono ?_)
    rintro e w0 ⟨rfl, hb⟩
    have hB := Bel.st (Bel.re wc) hb
    clear hb
    go_wp2_with fail
    (with_reducible refine (CSR.out _).mono ?_)
    rintro e w1 ⟨rfl, hb⟩
    replace hB := Bel.st (Bel.al hB _) hb
    have T_x := (HdV.new w0 (.int .u64 XxH) (.int .u64 XxL) _).below hb
    clear hb
    have hxy : w0.heap.size ≠ w1.heap.size := Nat.ne_of_lt T_x.lt
    have hby : wc.heap.size ≤ w1.heap.size := hB.size
    obtain ⟨zx, cx0, cx1, fx0, fx1⟩ := id T_x
    go_wp2_with fail
    (with_reducible refine (CAD.out _).mono ?_)
    rintro e w2 ⟨rfl, hb⟩
    replace hB := Bel.st (Bel.al hB _) hb
    replace T_x := (T_x.alloc _).below hb
    have T_y := (HdV.new w1 (.int .u64 qxH) (.int .u64 qxL) _).below hb
    clear hb zx cx0 cx1 fx0 fx1
    obtain ⟨zx, cx0, cx1, fx0, fx1⟩ := id T_x
    obtain ⟨zy, cy0, cy1, fy0, fy1⟩ := id T_y
    have hby2 := hby
    go_wp2_with fail
    (with_reducible refine (CSB.out _).mono ?_)
    rintro e w3 ⟨rfl, hb⟩
    replace hB := Bel.st (Bel.se2 (G := w1.heap.size) hB hby _ _) hb
    replace T_x := (T_x.keep2 (G := w1.heap.size) (Ne.symm hxy) _ _).below hb
    replace T_y := (T_y.set _ _).below hb
    clear hb zx cx0 cx1 fx0 fx1 zy cy0 cy1 fy0 fy1
    go_wp2_with fail
    (with_reducible refine (CJ.out _).mono ?_)
    rintro e w4 ⟨rfl, hb⟩
    replace hB := Bel.st (Bel.al hB _) hb
    replace T_x := (T_x.alloc _).below hb
    replace T_y := (T_y.alloc _).below hb
    clear hb
    go_wp2_with fail
    go_ret
    exact ⟨rfl, hB⟩
end Go.Proofs.Ytmjaoeafompclaa
