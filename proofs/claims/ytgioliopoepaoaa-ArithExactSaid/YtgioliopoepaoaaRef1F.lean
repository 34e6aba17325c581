/-
  The reference of chapter 1: Times. A block of limbs that the call itself writes.
-/
import Derived.Test.YtgioliopoepaoaaRef1E
import Derived.Deep.LoopGhost
import Derived.Deep.Light
import Derived.Laws.Rows
namespace Go.Proofs.Ytgioliopoepaoaa
open Go.RowKit Go.Shelf

/-- Block g holds the limbs o. -/
def Blk (w : World) (g : Nat) (o : List Nat) : Prop := w.heap[g]? = some (.cells (o.map lv).toArray 66 (0, 0))
section
variable {w w' : World} {g : Nat} {o : List Nat}
theorem Blk.lt (h : Blk w g o) : g < w.heap.size := by
  unfold Blk at h
  rcases Nat.lt_or_ge g w.heap.size with k | k
  · exact k
  · rw [Array.getElem?_eq_none k] at h; cases h
theorem Blk.cell (h : Blk w g o) {j : Nat} (hj : j < o.length) : w.cell? ⟨g, j, none⟩ = some (.int .u32 ((o.getD j 0 : Nat) : Int)) := by
  unfold Blk at h
  unfold World.cell?
  rw [h]
  simp [List.getD_eq_getElem?_getD, List.getElem?_eq_getElem hj, lv]
theorem Blk.free (h : Blk w g o) (j : Nat) : w.frozen? ⟨g, j, none⟩ = false := frozen_of_row w g j _ _ h
theorem Blk.set (h : Blk w g o) (j : Nat) {z : Int} {x : Nat} (hz : z = x) : Blk (w.setCell ⟨g, j, none⟩ (.int .u32 z)) g (o.set j x) := by
  subst hz
  unfold Blk
  rw [heap_setCell_same w g j _ _ _ h]
  congr 2
  simp [List.map_set, lv]
theorem Blk.drewN (h : Blk w g o) (n : Nat) : Blk (w.drewN n) g o := h
theorem Blk.below (h : Blk w g o) (hb : Below w.heap.size w w') : Blk w' g o := (hb.block g h.lt).trans h
theorem Blk.own (h : Blk w g o) {base n : Nat} (hb : base ≤ g) (hk : o.length = n) (hm : n ≤ maxLen) : w.ownsRow base 66 1 (.slice (some ⟨g, 0, none⟩) n n) n (o.map lv) :=
  ⟨by rw [List.length_map]; omega, .inr ⟨g, n, (o.map lv).toArray, rfl, hb, h, Nat.le_refl _, hm, by simp [hk], by rw [← hk, Nat.mul_one, List.take_of_length_le (by simp)]⟩⟩
theorem Blk.slice (h : Blk w g o) {n : Nat} (hk : o.length = n) (hm : n ≤ maxLen) (hf : Pl.Fit o) : SliceV w (.slice (some ⟨g, 0, none⟩) n n) (Pl.val o) n := SliceV.of_own (h.own (Nat.le_refl _) hk hm) hf
theorem Blk.of_own {base n : Nat} {xs : List Nat} (h : w.ownsRow base 66 1 (.slice (some ⟨g, 0, none⟩) n n) n (xs.map lv)) : Blk w g xs := by
  rcases h.2 with ⟨h0, _⟩ | ⟨g', cap, cur, h1, h2, h3, h4, h5, h6, h7⟩
  · cases h0
  · injection h1 with h1 _ hcap
    injection h1 with h1
    injection h1 with h1
    subst h1
    subst hcap
    unfold Blk
    have : cur = (xs.map lv).toArray := by
      rw [← h7, Nat.mul_one, List.take_of_length_le (by rw [Array.length_toList]; omega)]
    rw [← this]
    exact h3
end

set_option maxRecDepth 100000 in
set_option maxHeartbeats 8000000 in
theorem times1_v {w : World} {a b : Value} {N M d : Nat} (ha : SliceV w a N d) (hb : SliceV w b M d) (hd : d ≤ 100000) : Calls Try.prog 37 #[a, b] w (RetNat (N * M) w) := by
  obtain ⟨i0, hi0, hz0, hz1, hz2⟩ := info_parts u32_info
  obtain ⟨A1, n1, c1, l1, rfl, h1, h2, hl1, rfl, hd1⟩ := ha
  obtain ⟨A2, n2, c2, l2, rfl, h3, h4, hl2, rfl, hd2⟩ := hb
  have len1 := Lib.hid hl1.len
  have len2 := Lib.hid hl2.len
  have fit1 := Lib.hid hl1.fit
  have fit2 := Lib.hid hl2.fit
  have HL1 := Lib.hid hl1
  have HL2 := Lib.hid hl2
  clear hl1 hl2
  go_enter Try.func37, Try.ntmps37
  go_wp2_with (at_make; refine wpList_make_full _ rfl _ _ _ rfl w.heap.size 66 i0 _ 1 Try.underlying35 hi0 hz0 hz1 .i64 .i64 _ _ (n1 + n2 + 1) rfl rfl rfl rfl (by rw [hz2]; omega) (by unfold maxLen; omega) (Nat.le_refl _) ?_; intro w1 hown1 hg1; rw [made_zero] at hown1; have hB1 := (Below.refl w.heap.size w).grown hg1 (Nat.le_refl _) (by simp))
  have HB1 := Lib.hid hB1
  have BK := Lib.hid (Blk.of_own hown1)
  clear hown1 hg1 hB1
  go_loopg [6] n1 (fun g iv wr => ∃ (i : Nat) (o : List Nat), i ≤ n1 ∧ g = n1 - i ∧ iv = .int .i64 i ∧ Pl.MulOut l1 l2 i o ∧ Blk wr w.heap.size o ∧ Below w.heap.size w wr)
  case atStart => exact ⟨0, _, Nat.zero_le _, rfl, rfl, (by have := Pl.MulOut.start l1 l2; rw [len1.out, len2.out] at this; exact this), BK.out, HB1.out⟩
  case round =>
    obtain ⟨i, o, hi, rfl, rfl, hat, hbk, hB⟩ := hrel
    have HA := Lib.hid hat
    have HK := Lib.hid hbk
    have HB := Lib.hid hB
    clear hat hbk hB BK HB1
    by_cases hlt : i < n1
    · go_wp2
      go_loopg [7, 8] n2 (fun g cv kv wr => ∃ (k c : Nat) (o : List Nat), k ≤ n2 ∧ g = n2 - k ∧ kv = .int .i64 k ∧ cv = .int .u64 c ∧ Pl.MulIn l1 l2 i k o c ∧ Blk wr w.heap.size o ∧ Below w.heap.size w wr)
      case atStart => exact ⟨0, 0, o, Nat.zero_le _, rfl, rfl, rfl, HA.out.inn, HK.out, HB.out⟩
      case round =>
        obtain ⟨k, c, o2, hk, rfl, rfl, rfl, hat2, hbk2, hB2⟩ := hrel
        have hc := hat2.car
        unfold Pl.B32 at hc
        have HA2 := Lib.hid hat2
        have HK2 := Lib.hid hbk2
        have HB2 := Lib.hid hB2
        clear hat2 hbk2 hB2
        by_cases hlt2 : k < n2
        · obtain ⟨ad1, hA1, hadb1, hcell1⟩ := (HL1.out.below HB2.out).at_ hlt
          obtain ⟨ad2, hA2, hadb2, hcell2⟩ := (HL2.out.below HB2.out).at_ hlt2
          subst hA1 hA2
          obtain ⟨p, hp⟩ : ∃ p, i + k = p := ⟨_, rfl⟩
          have hpl : p < o2.length := by have := HA2.out.len; have := len1.out; have := len2.out; omega
          have hcell3 := HK2.out.cell hpl
          have hfz := HK2.out.free p
          have hx := fit1.out.get i
          have hy := fit2.out.get k
          have hz := HA2.out.fit.get p
          obtain ⟨x, hxe⟩ : ∃ x, l1.getD i 0 = x := ⟨_, rfl⟩
          obtain ⟨y, hye⟩ : ∃ y, l2.getD k 0 = y := ⟨_, rfl⟩
          obtain ⟨z, hze⟩ : ∃ z, o2.getD p 0 = z := ⟨_, rfl⟩
          rw [hxe] at hcell1 hx
          rw [hye] at hcell2 hy
          rw [hze] at hcell3 hz
          unfold Pl.B32 at hx hy hz
          have HS := HA2.out.step hxe hye (show o2.getD (i + k) 0 = z by rw [hp]; exact hze) hx hy (by rw [len1.out]; exact hlt) (by rw [len2.out]; exact hlt2)
          rw [hp] at HS
          obtain ⟨t, ht⟩ : ∃ t, x * y = t := ⟨_, rfl⟩
          have htb : t ≤ 4294967295 * 4294967295 := by rw [← ht]; exact Nat.mul_le_mul (by omega) (by omega)
          rw [ht] at HS
          have HT := HS
          obtain ⟨s, hs⟩ : ∃ s, t + z + c = s := ⟨_, rfl⟩
          rw [hs] at HT
          have HSS := Lib.hid HT
          have q1 : (x : Int) * (y : Int) = (t : Int) := by rw [← ht]; simp
          have q2 : (t : Int) + (z : Int) + (c : Int) = (s : Int) := by omega
          have q3 : IntKind.u64.wrap ((t : Int) + (z : Int)) = (t : Int) + (z : Int) := wraps_u64 _ (by omega) (by omega)
          have q4 : IntKind.u64.wrap (s : Int) = (s : Int) := wraps_u64 _ (by omega) (by omega)
          have q5 : IntKind.u64.wrap (t : Int) = (t : Int) := wraps_u64 _ (by omega) (by omega)
          have q6 : (i : Int) + (k : Int) = (p : Int) := by omega
          have q7 : IntKind.i64.wrap (p : Int) = (p : Int) := by rw [IntKind.wrap_i64]; omega
          have hsb : s < 18446744073709551616 := by omega
          clear HS HT hxe hye hze hs ht htb hp
          go_wp2
          go_quiet (fail)
          go_wp2
          go_roundg (n2 - (k + 1))
          case measure => go_light; omega
          case rel => go_light; exact ⟨k + 1, s / 4294967296, _, by omega, rfl, by go_num, by go_num, HSS.out, (HK2.out.drewN _).set p (by omega), (below_drewN HB2.out _).setCell (Nat.le_refl _) _⟩
        · obtain rfl : k = n2 := by omega
          obtain ⟨p, hp⟩ : ∃ p, i + k = p := ⟨_, rfl⟩
          have hpl : p < o2.length := by have := HA2.out.len; have := len1.out; have := len2.out; omega
          have hcell3 := HK2.out.cell hpl
          have hfz := HK2.out.free p
          have q6 : (i : Int) + (k : Int) = (p : Int) := by omega
          have HS := HA2.out
          rw [← len2.out] at HS
          have HT := HS.out (by rw [len1.out]; exact hlt)
          rw [len2.out, hp] at HT
          have HSS := Lib.hid HT
          clear HS HT hp
          go_wp2
          go_roundg (n1 - (i + 1))
          case measure => go_light; omega
          case rel => go_light; exact ⟨i + 1, _, by omega, rfl, by go_num, HSS.out, HK2.out.set p (by omega), HB2.out.setCell (Nat.le_refl _) _⟩
    · have hln := HA.out.len
      rw [len1.out, len2.out] at hln
      have HV := Lib.hid (HA.out.done (show l1.length ≤ i by rw [len1.out]; omega))
      have HSL := Lib.hid (HK.out.slice hln (by unfold maxLen; omega) HA.out.fit)
      clear hln
      go_wp2_with (go_at_call 56; refine (trim_v HSL.out (by omega)).mono ?_; rw [HV.out]; rintro e w2 ⟨v2, rfl, hv2, hb2⟩)
      go_ret
      exact ⟨v2, rfl, hv2, HB.out.trans (hb2.mono HB.out.size)⟩
end Go.Proofs.Ytgioliopoepaoaa
