/-
  The reference of chapter 1: Len.
-/
import Derived.Test.YtjlmchbpdkojeaaRef1B
namespace Go.Proofs.Ytjlmchbpdkojeaa
open Go.RowKit Go.Shelf

theorem bl_top {l : List Nat} {m x : Nat} (hf : Pl.Fit l) (hl : l.length = m + 1) (hx : l.getD m 0 = x) (h0 : x ≠ 0) : Pl.bl (Pl.val l) = 32 * m + Pl.bl x := by
  have e := Pl.val_take_succ l m (by omega)
  have e2 : l.take (m + 1) = l := by rw [← hl, List.take_length]
  rw [e2, hx] at e
  have h1 := Pl.val_lt (hf.take m)
  rw [List.length_take, hl, Nat.min_eq_left (by omega)] at h1
  have h2 := Pl.two_bl_le h0
  have h3 := Pl.lt_two_bl x
  have h4 := Pl.bl_pos h0
  rw [Pl.B32_pow] at e h1
  have p1 : 2 ^ (32 * m + Pl.bl x - 1) = 2 ^ (32 * m) * 2 ^ (Pl.bl x - 1) := by rw [← Nat.pow_add]; congr 1; omega
  have p2 : 2 ^ (32 * m + Pl.bl x - 1 + 1) = 2 ^ (32 * m) * 2 ^ Pl.bl x := by rw [← Nat.pow_add]; congr 1; omega
  have q1 := Nat.mul_le_mul_left (2 ^ (32 * m)) h2
  have q2 := Nat.mul_le_mul_left (2 ^ (32 * m)) (show x + 1 ≤ 2 ^ Pl.bl x from h3)
  rw [Nat.mul_add] at q2
  have := Pl.bl_eq (n := Pl.val l) (k := 32 * m + Pl.bl x - 1) (by rw [p1]; omega) (by rw [p2]; omega)
  omega
theorem last_limb {N m : Nat} (hl : (Pl.limbs N).length = m + 1) : (Pl.limbs N).getD m 0 ≠ 0 := by
  have h : Pl.limbs N ≠ [] := by intro h; rw [h] at hl; simp at hl
  have := Pl.limbs_last h
  rw [List.getLast_eq_getElem] at this
  rw [List.getD_eq_getElem?_getD, List.getElem?_eq_getElem (by omega)]
  simpa [hl] using this

set_option maxHeartbeats 1000000 in
theorem rlen_any (A : Option Addr) (n c : Nat) (l : List Nat) (w : World) (hl : Lim w A n l) (hc : n ≤ c) (hcm : c ≤ maxLen) (hn : n ≤ 1048575) :
    Calls Try.prog 66 #[.slice A n c] w fun e w' => e = .returned (.int .i64 (Pl.bl (Pl.val l))) ∧ Below w.heap.size w w' := by
  have hle : (Pl.limbs (Pl.val l)).length ≤ n := by
    have := Pl.limbs_len_le (Pl.val_lt hl.fit)
    rw [hl.len] at this; exact this
  have HL := Lib.hid hl
  clear hl
  by_cases h0 : Pl.val l = 0
  · have hz : (Pl.limbs (Pl.val l)).length = 0 := by rw [h0, Pl.limbs_zero]; rfl
    have HB := Lib.hid (show Pl.bl (Pl.val l) = 0 by rw [h0]; rfl)
    have HZ := Lib.hid hz
    clear h0 hz
    go_enter Try.func66, Try.ntmps66
    go_wp2_with (go_at_call 70; refine (trim_any A n c l _ HL.out hc hcm (by omega)).mono ?_; rintro e w1 ⟨v, rfl, ⟨A1, n1, c1, rfl, h1, h2, hl1⟩, hb1⟩; obtain rfl : n1 = 0 := hl1.len.symm.trans HZ.out)
    go_ret
    exact ⟨retI (by rw [HB.out]; rfl), hb1⟩
  · obtain ⟨m, hm⟩ : ∃ m, (Pl.limbs (Pl.val l)).length = m + 1 := by
      cases h : (Pl.limbs (Pl.val l)).length with
      | zero => exact absurd (Pl.limbs_nil (List.eq_nil_of_length_eq_zero h)) h0
      | succ m => exact ⟨m, rfl⟩
    have hla := last_limb hm
    have hfx := (Pl.fit_limbs (Pl.val l)).get m
    obtain ⟨x, hx⟩ : ∃ x, (Pl.limbs (Pl.val l)).getD m 0 = x := ⟨_, rfl⟩
    have htop := bl_top (Pl.fit_limbs _) hm hx (by rw [← hx]; exact hla)
    rw [Pl.val_limbs] at htop
    rw [hx] at hla hfx
    unfold Pl.B32 at hfx
    have hbx : Pl.bl x ≤ 32 := Pl.bl_le_of_lt (by omega)
    have hmn : m + 1 ≤ n := by omega
    have HM := Lib.hid hm
    have HX := Lib.hid hx
    have HT := Lib.hid htop
    clear hm hx htop h0 hle
    go_enter Try.func66, Try.ntmps66
    go_wp2_with (go_at_call 70; refine (trim_any A n c l _ HL.out hc hcm (by omega)).mono ?_; rintro e w1 ⟨v, rfl, ⟨A1, n1, c1, rfl, h1, h2, hl1⟩, hb1⟩; obtain rfl : n1 = m + 1 := hl1.len.symm.trans HM.out; obtain ⟨ad, hA, hadb, hcell⟩ := hl1.at_ (show m < m + 1 by omega); subst hA; rw [HX.out] at hcell)
    go_loop [4, 5] (fun nv xv => ∃ j y : Nat, nv = .int .i64 (32 * m + j : Nat) ∧ xv = .int .u32 y ∧ y < 4294967296 ∧ j ≤ 32 ∧ Pl.bl x = j + Pl.bl y) (fun _ xv => (intOf xv).toNat)
    case atStart => exact ⟨0, x, by go_num, rfl, hfx, by omega, by omega⟩
    case round =>
      obtain ⟨j, y, rfl, rfl, hy, hj, hbl⟩ := hrel
      have HBL := Lib.hid hbl
      clear hbl
      rcases Nat.eq_zero_or_pos y with h0 | h0
      · subst h0
        go_wp2
        go_ret
        exact ⟨retI (by rw [HT.out, HBL.out]; simp [Pl.bl]), hb1⟩
      · have hb2 := bl_half y (by omega)
        have hb3 : j + 1 ≤ 32 := by have := HBL.out; omega
        have HB2 := Lib.hid hb2
        clear hb2
        go_wp2
        go_round
        case rel => exact ⟨j + 1, y / 2, by go_num, by go_num, by omega, hb3, by rw [HBL.out, HB2.out]; omega⟩
        case measure => simp [intOf]; omega
end Go.Proofs.Ytjlmchbpdkojeaa
