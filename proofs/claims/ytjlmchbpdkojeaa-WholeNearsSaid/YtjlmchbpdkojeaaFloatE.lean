/-
  The walk of float.Round: the nearest number of a natural.
-/
import Derived.Test.YtjlmchbpdkojeaaNat
import Derived.Test.YtjlmchbpdkojeaaFloatD
import Derived.Deep.DeepCutAuto
namespace Go.Proofs.Ytjlmchbpdkojeaa
open Go.RowKit Go.Shelf

theorem retW {a b : Int} (h : a = b) : Ending.returned (.int .u64 a) = .returned (.int .u64 b) := by rw [h]
theorem veI {k : IntKind} {a b : Int} (h : a = b) : Value.int k a = Value.int k b := by rw [h]
theorem veB {a b : Bool} (h : a = b) : Value.bool a = Value.bool b := by rw [h]

/-- The bits below the c-th are as good as a little more. -/
theorem rne_cut {H low c k : Nat} (more : Bool) (hl : low < 2 ^ c) (hk : 1 ≤ k) : Pl.rne (H * 2 ^ c + low) (k + c) more = Pl.rne H k (more || decide (low ≠ 0)) := by
  obtain ⟨j, rfl⟩ : ∃ j, k = j + 1 := ⟨k - 1, by omega⟩
  have hd : ∀ i, (H * 2 ^ c + low) / 2 ^ (i + c) = H / 2 ^ i := fun i => by
    rw [Nat.add_comm i c, Nat.pow_add, ← Nat.div_div_eq_div_mul, Nat.mul_comm H, Nat.mul_add_div (Nat.two_pow_pos c), Nat.div_eq_of_lt hl, Nat.add_zero]
  have hm : (H * 2 ^ c + low) % 2 ^ (j + c) = (H % 2 ^ j) * 2 ^ c + low := by
    rw [Nat.add_comm j c, Nat.pow_add, Nat.mod_mul, Nat.mul_comm H, Nat.mul_add_mod, Nat.mod_eq_of_lt hl, Nat.mul_add_div (Nat.two_pow_pos c), Nat.div_eq_of_lt hl, Nat.add_zero, Nat.mul_comm (2 ^ c), Nat.add_comm]
  have e1 : j + 1 + c - 1 = j + c := by omega
  unfold Pl.rne
  rw [e1, Nat.add_sub_cancel, hd, hd, hm]
  have hp := Nat.two_pow_pos c
  have h1 : (H % 2 ^ j) * 2 ^ c + low ≠ 0 ↔ H % 2 ^ j ≠ 0 ∨ low ≠ 0 := by
    constructor
    · intro h
      by_cases g : H % 2 ^ j = 0
      · right; rw [g] at h; omega
      · exact .inl g
    · rintro (h | h)
      · have := Nat.mul_le_mul_right (2 ^ c) (show 1 ≤ H % 2 ^ j by omega); omega
      · omega
  have h2 : (more || decide (low ≠ 0)) = true ↔ (more = true ∨ low ≠ 0) := by simp
  by_cases g : (H / 2 ^ j % 2 = 1 ∧ ((H % 2 ^ j) * 2 ^ c + low ≠ 0 ∨ more = true ∨ H / 2 ^ (j + 1) % 2 = 1))
  · rw [if_pos g, if_pos ⟨g.1, by
      rcases g.2 with k | k | k
      · rcases h1.1 k with q | q
        · exact .inl q
        · exact .inr (.inl (h2.2 (.inr q)))
      · exact .inr (.inl (h2.2 (.inl k)))
      · exact .inr (.inr k)⟩]
  · rw [if_neg g, if_neg (fun q => g ⟨q.1, by
      rcases q.2 with k | k | k
      · exact .inl (h1.2 (.inl k))
      · rcases h2.1 k with r | r
        · exact .inr (.inl r)
        · exact .inl (h1.2 (.inr r))
      · exact .inr (.inr k)⟩)]
theorem mag_cut {H low c : Nat} {e : Int} (more : Bool) (hl : low < 2 ^ c) (hH : 2 ^ 54 ≤ H) : Pl.mag (H * 2 ^ c + low) e more = Pl.mag H (e + c) (more || decide (low ≠ 0)) := by
  have hH0 : H ≠ 0 := by have := Nat.two_pow_pos 54; omega
  have hb := Pl.lt_bl_of_le hH
  have hbl : Pl.bl (H * 2 ^ c + low) = Pl.bl H + c := by
    have h1 := Pl.two_bl_le hH0
    have h2 := Pl.lt_two_bl H
    have h3 := Pl.bl_pos hH0
    have p1 : 2 ^ (Pl.bl H - 1 + c) = 2 ^ (Pl.bl H - 1) * 2 ^ c := Nat.pow_add ..
    have e1 : Pl.bl H - 1 + c + 1 = Pl.bl H + c := by omega
    have p2 : 2 ^ (Pl.bl H + c) = 2 ^ Pl.bl H * 2 ^ c := Nat.pow_add ..
    have q1 := Nat.mul_le_mul_right (2 ^ c) h1
    have q2 := Nat.mul_le_mul_right (2 ^ c) (show H + 1 ≤ 2 ^ Pl.bl H from h2)
    rw [Nat.add_mul] at q2
    have := Pl.bl_eq (n := H * 2 ^ c + low) (k := Pl.bl H - 1 + c) (by rw [p1]; omega) (by rw [e1, p2]; omega)
    omega
  have hN0 : H * 2 ^ c + low ≠ 0 := by
    have := Nat.mul_le_mul_right (2 ^ c) (show 1 ≤ H by omega)
    have := Nat.two_pow_pos c
    omega
  have hu : Pl.un (H * 2 ^ c + low) e = Pl.un H (e + c) := by unfold Pl.un; rw [hbl]; omega
  have hu2 : Pl.un H (e + c) ≥ e + c + 2 := by unfold Pl.un; omega
  unfold Pl.mag
  rw [if_neg hN0, if_neg hH0, hu, if_neg (by omega), if_neg (by omega)]
  have e2 : (Pl.un H (e + c) - e).toNat = (Pl.un H (e + c) - (e + c)).toNat + c := by omega
  rw [e2, rne_cut more hl (by omega)]
theorem mag_cut_inf {H low c : Nat} {e e' : Int} (more more' : Bool) (hH : 2 ^ 54 ≤ H) (he : 2000 < e) (he' : 2000 < e') : Pl.mag (H * 2 ^ c + low) e more = Pl.mag H e' more' := by
  have h1 := Nat.mul_le_mul_right (2 ^ c) (show 1 ≤ H by have := Nat.two_pow_pos 54; omega)
  have h2 := Nat.two_pow_pos c
  rw [mag_high (by omega) he, mag_high (by have := Nat.two_pow_pos 54; omega) he']

theorem Lim.drop {w : World} {b : Addr} {n : Nat} {l : List Nat} (h : Lim w (some b) n l) {k : Nat} (hk : k ≤ n) : Lim w (some (b.add k)) (n - k) (l.drop k) := by
  refine ⟨by rw [List.length_drop, h.len], h.fit.drop k, by rw [List.length_map, List.length_drop, h.len]; omega, fun h0 => ?_⟩
  obtain ⟨ad, hA, hb, hc⟩ := h.reads.2 (by omega)
  injection hA with hA
  subst hA
  refine ⟨_, rfl, by rw [block_of_add]; exact hb, fun j u hu => ?_⟩
  rw [add_of_add]
  rw [List.map_drop, List.getElem?_drop] at hu
  exact hc _ u hu

theorem more_step (more : Bool) (l : List Nat) (j x : Nat) (hj : j < l.length) (hx : l.getD j 0 = x) : (more || decide (Pl.val (l.take (j + 1)) ≠ 0)) = ((more || decide (Pl.val (l.take j) ≠ 0)) || decide (0 < (x : Int))) := by
  rw [Pl.val_take_succ l j hj, hx]
  have hp : 0 < Pl.B32 ^ j := Nat.pow_pos Pl.B32_pos
  have a1 : decide (Pl.val (l.take j) + Pl.B32 ^ j * x ≠ 0) = (decide (Pl.val (l.take j) ≠ 0) || decide (0 < (x : Int))) := by
    generalize Pl.val (l.take j) = s
    by_cases h2 : x = 0
    · subst h2; simp
    · have := Nat.mul_pos hp (show 0 < x by omega)
      rw [decide_eq_true (show s + Pl.B32 ^ j * x ≠ 0 by omega), decide_eq_true (show (0 : Int) < x by omega), Bool.or_true]
  rw [a1, Bool.or_assoc]

/-- What the cut of Round's long naturals leads to. -/
theorem cut_bits (neg more : Bool) {N n cut : Nat} (e : Int) (hn : (Pl.limbs N).length = n) (hc : n = cut + 4) :
    fbits neg (Pl.val ((Pl.limbs N).drop cut)) (e + 32 * cut) (more || decide (Pl.val ((Pl.limbs N).take cut) ≠ 0)) = fbits neg N e more ∧
    (4611686018427387904 ≤ e → fbits neg (Pl.val ((Pl.limbs N).drop cut)) e (more || decide (Pl.val ((Pl.limbs N).take cut) ≠ 0)) = fbits neg N e more) := by
  have hf := Pl.fit_limbs N
  have e1 := Pl.val_take_drop (Pl.limbs N) cut (by omega)
  rw [Pl.val_limbs] at e1
  have hlow := Pl.val_lt (hf.take cut)
  rw [List.length_take, hn, Nat.min_eq_left (by omega), Pl.B32_pow] at hlow
  have hH : 2 ^ 54 ≤ Pl.val ((Pl.limbs N).drop cut) := by
    have hlen : ((Pl.limbs N).drop cut).length = 3 + 1 := by rw [List.length_drop]; omega
    have e2 := Pl.val_take_succ ((Pl.limbs N).drop cut) 3 (by omega)
    rw [← hlen, List.take_length] at e2
    have hlast := last_limb (N := N) (m := cut + 3) (by omega)
    have e3 : ((Pl.limbs N).drop cut).getD 3 0 = (Pl.limbs N).getD (cut + 3) 0 := by
      rw [List.getD_eq_getElem?_getD, List.getElem?_drop, ← List.getD_eq_getElem?_getD]
    rw [e2, e3]
    have : Pl.B32 ^ 3 = 79228162514264337593543950336 := by decide
    rw [this]
    omega
  rw [Pl.B32_pow, Nat.mul_comm, Nat.add_comm] at e1
  have key := mag_cut (e := e) more hlow hH
  rw [← e1] at key
  have e4 : ((32 * cut : Nat) : Int) = 32 * (cut : Int) := by omega
  rw [e4] at key
  refine ⟨by unfold fbits; rw [key], fun he => ?_⟩
  unfold fbits
  have k2 := mag_cut_inf (low := Pl.val ((Pl.limbs N).take cut)) (c := 32 * cut) more (more || decide (Pl.val ((Pl.limbs N).take cut) ≠ 0)) hH (show (2000 : Int) < e by omega) (show (2000 : Int) < e by omega)
  rw [← e1] at k2
  rw [k2]
end Go.Proofs.Ytjlmchbpdkojeaa
