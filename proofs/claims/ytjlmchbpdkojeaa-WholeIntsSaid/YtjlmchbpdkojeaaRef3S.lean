/-
  The reference of chapter 3: Up.
-/
import Derived.Test.YtjlmchbpdkojeaaRef3R
namespace Go.Proofs.Ytjlmchbpdkojeaa
open Go.RowKit Go.Shelf

theorem fit_zeros (n : Nat) : Pl.Fit (List.replicate n 0) := fun x hx => by rw [(List.mem_replicate.1 hx).2]; exact Pl.B32_pos
theorem up_bound {N d q k r : Nat} (hN : N < Pl.B32 ^ d) (hk : k ≤ r) (hr : r < 32) : N * 2 ^ (32 * q + k) < Pl.B32 ^ (d + q + 1) := by
  have h1 : 2 ^ (32 * q + k) ≤ Pl.B32 ^ (q + 1) := by rw [Pl.B32_pow]; exact Nat.pow_le_pow_right (by omega) (by omega)
  have h2 := Nat.mul_lt_mul_of_lt_of_le hN h1 (Nat.pow_pos Pl.B32_pos)
  rw [← Nat.pow_add] at h2
  exact h2
theorem up_first (l : List Nat) (q : Nat) : Pl.val (List.replicate q 0 ++ l) = Pl.val l * 2 ^ (32 * q + 0) := by
  rw [Pl.val_append, Pl.val_zeros, List.length_replicate, Nat.zero_add, Pl.B32_pow, Nat.mul_comm, Nat.add_zero]
theorem up_step (N q k : Nat) : 2 * (N * 2 ^ (32 * q + k)) + b01 false = N * 2 ^ (32 * q + (k + 1)) := by
  unfold b01
  rw [← Nat.add_assoc, Nat.pow_succ, ← Nat.mul_assoc N]; simp; omega

set_option maxHeartbeats 2000000 in
theorem up_fresh (A : Option Addr) (n c u : Nat) (l : List Nat) (w : World) (hl : Lim w A n l) (hn : n ≤ 100000) (hu : u ≤ 1000000) :
    Calls Try.prog 50 #[.slice A n c, .int .i64 u] w (RetNatF (Pl.val l * 2 ^ u) w) := by
  obtain ⟨i0, hi0, hz0, hz1, hz2⟩ := info_parts u32_info
  obtain ⟨q, hq⟩ : ∃ q : Nat, (u : Int) / 32 = q := ⟨u / 32, by omega⟩
  obtain ⟨r, hr⟩ : ∃ r : Nat, (u : Int) % 32 = r := ⟨u % 32, by omega⟩
  have hr1 : r < 32 := by omega
  have hq1 : q ≤ 40000 := by omega
  have hU := Lib.hid (show u = 32 * q + r by omega)
  have hlt : Pl.val l < Pl.B32 ^ n := by have := Pl.val_lt hl.fit; rw [hl.len] at this; exact this
  have HLT := Lib.hid hlt
  have HL := Lib.hid hl
  clear hl hlt
  go_enter Try.func50, Try.ntmps50
  go_wp2_with (first
    | (at_make; refine wpList_make_full _ rfl _ _ _ rfl w.heap.size 63 i0 _ 1 Try.underlying46 hi0 hz0 hz1 .i64 .i64 _ _ q rfl rfl rfl rfl (by rw [hz2]; omega) (by unfold maxLen; omega) (Nat.le_refl _) ?_; intro w1 hown1 hg1; rw [made_zero] at hown1; have hB1 := (Below.refl w.heap.size w).grown hg1 (Nat.le_refl _) (by simp))
    | (at_builtin; refine wpList_append_any _ rfl (.tmp 10) (.tmp 11) _ rfl w.heap.size 63 i0 _ 1 4 Try.underlying46 hi0 hz0 hz1 hz2 rfl (by omega) (.slice (some ⟨w.heap.size, 0, none⟩) q q) q ((List.replicate q 0).map lv) rfl hown1 w1.heap.size A n c (l.map lv) rfl (HL.out.below hB1).reads (one_limbs _) (by unfold maxLen; omega) (by omega) hB1.size ?_; intro v2 w2 hown2 hg2 hat2; rw [← List.map_append] at hown2; have hB2 : Below w.heap.size w w2 := hB1.grown hg2 hB1.size (fun k h => own_at h)))
  have hS : SliceV w2 v2 (Pl.val l * 2 ^ (32 * q + 0)) (n + q + 1) := by
    have := SliceV.of_own hown2 ((fit_zeros q).append HL.out.fit)
    rw [up_first] at this
    exact this.more (by omega)
  have HS := Lib.hid hS
  have HB2 := Lib.hid hB2
  clear hS hB2 hown1 hown2 hB1 hg1 hg2 hat2
  go_loopw [5, 6] (fun v iv wr => ∃ k : Nat, iv = .int .i64 k ∧ k ≤ r ∧ SliceV wr v (Pl.val l * 2 ^ (32 * q + k)) (n + q + 1) ∧ Below w.heap.size w wr) (fun _ iv _ => r - (intOf iv).toNat)
  case atStart => exact ⟨0, rfl, Nat.zero_le _, HS.out, HB2.out⟩
  case round =>
    obtain ⟨k, rfl, hk, hs, hB⟩ := hrel
    have HSk := Lib.hid hs
    have HB := Lib.hid hB
    clear hs hB
    by_cases hlt : k < r
    · have HE := Lib.hid (up_step (Pl.val l) q k)
      go_wp2_with (go_at_call 52; refine (twice_v false HSk.out (by omega)).mono ?_; rw [HE.out]; rintro e w3 ⟨v3, rfl, hv3, hb3⟩)
      go_roundw
      case rel => exact ⟨k + 1, by go_num, by omega, hv3.slice (up_bound HLT.out (show k + 1 ≤ r by omega) hr1), HB.out.trans (hb3.mono HB.out.size)⟩
      case measure => simp [intOf]; omega
    · have HK := Lib.hid (show 32 * q + k = u by have := hU.out; omega)
      go_wp2_with (go_at_call 70; refine (trim_vF HSk.out (by omega)).mono ?_; rw [HK.out]; rintro e w3 ⟨v3, rfl, hv3, hb3, hf3⟩)
      go_ret
      exact ⟨v3, rfl, hv3, HB.out.trans (hb3.mono HB.out.size), hf3.mono HB.out.size⟩
theorem up_vF {w : World} {v : Value} {N d : Nat} (u : Nat) (h : SliceV w v N d) (hd : d ≤ 100000) (hu : u ≤ 1000000) : Calls Try.prog 50 #[v, .int .i64 u] w (RetNatF (N * 2 ^ u) w) := by
  obtain ⟨A, n, c, l, rfl, h1, h2, hl, rfl, hd'⟩ := h
  exact up_fresh A n c u l w hl (by omega) hu
theorem up_v {w : World} {v : Value} {N d : Nat} (u : Nat) (h : SliceV w v N d) (hd : d ≤ 100000) (hu : u ≤ 1000000) : Calls Try.prog 50 #[v, .int .i64 u] w (RetNat (N * 2 ^ u) w) := by
  obtain ⟨A, n, c, l, rfl, h1, h2, hl, rfl, hd'⟩ := h
  exact (up_fresh A n c u l w hl (by omega) hu).mono fun _ _ ⟨v, he, hv, hb, _⟩ => ⟨v, he, hv, hb⟩
end Go.Proofs.Ytjlmchbpdkojeaa
