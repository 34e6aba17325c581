/-
  The walks of package nat: right, Trim.
-/
import Derived.Test.YtlndpbjolgjloaaRef1D
import Derived.Laws.CopyOwn
namespace Go.Proofs.Ytlndpbjolgjloaa
open Go.RowKit Go.Shelf

theorem right_len {l : List Nat} {n k : Nat} (hf : Pl.Fit l) (hl : l.length = n) (hk : k ≤ n) (hz : ∀ i, k ≤ i → i < n → l.getD i 0 = 0) (h : 0 < k → l.getD (k - 1) 0 ≠ 0) : k = (Pl.limbs (Pl.val l)).length := by
  rw [← Pl.limbs_take hf (by omega) (fun i h1 h2 => hz i h1 (by omega)) h, List.length_take]; omega

set_option maxHeartbeats 1000000 in
theorem right_n (A : Option Addr) (n c : Nat) (l : List Nat) (w : World) (hl : Lim w A n l) (hc : n ≤ c) (hcm : c ≤ maxLen) :
    Calls Try.prog 50 #[.slice A n c] w fun e w' => e = .returned (.int .i64 (Pl.limbs (Pl.val l)).length) ∧ w = w' := by
  have hlen := Lib.hid hl.len
  have hfit := hl.fit
  have HL := Lib.hid hl
  unfold maxLen at hcm
  clear hl
  go_enter Try.func50, Try.ntmps50
  go_wp2
  go_loop [3] (fun nv => ∃ k : Nat, nv = .int .i64 k ∧ k ≤ n ∧ ∀ i, k ≤ i → i < n → l.getD i 0 = 0) (fun nv => (intOf nv).toNat)
  case atStart => exact ⟨n, rfl, Nat.le_refl _, fun i h1 h2 => by omega⟩
  case round =>
    obtain ⟨k, rfl, hk, hz⟩ := hrel
    have HZ := Lib.hid hz
    clear hz
    rcases Nat.eq_zero_or_pos k with h0 | h0
    · subst h0
      go_wp2
      go_ret
      exact ⟨retI (by rw [← right_len hfit hlen.out hk HZ.out (fun h => absurd h (by omega))]; rfl), rfl⟩
    · obtain ⟨j, rfl⟩ : ∃ j, k = j + 1 := ⟨k - 1, by omega⟩
      obtain ⟨ad, hA, hadb, hcell⟩ := HL.out.at_ (k := j) (by omega)
      subst hA
      have hx := hfit.get j
      obtain ⟨x, hxe⟩ : ∃ x, l.getD j 0 = x := ⟨_, rfl⟩
      rw [hxe] at hcell hx
      have HX := Lib.hid hxe
      clear hxe
      rcases Nat.eq_zero_or_pos x with hx0 | hx0
      · subst hx0
        go_wp2
        go_round
        case rel => exact ⟨j, by go_num, by omega, fun i h1 h2 => by
          rcases Nat.eq_or_lt_of_le h1 with g | g
          · subst g; exact HX.out
          · exact HZ.out i g h2⟩
        case measure => simp [intOf]
      · have hne : ((x : Int) == 0) = false := by simp; omega
        go_wp2
        go_ret
        exact ⟨retI (by rw [← right_len hfit hlen.out hk HZ.out (fun h => by rw [Nat.add_sub_cancel, HX.out]; omega)]; omega), rfl⟩

theorem limbs_is_take : ∀ {l : List Nat}, Pl.Fit l → Pl.limbs (Pl.val l) = l.take (Pl.limbs (Pl.val l)).length
  | [], _ => by rw [show Pl.val [] = 0 from rfl, Pl.limbs_zero]; rfl
  | x :: l, hf => by
    have ih := limbs_is_take hf.tail
    by_cases h : x + Pl.B32 * Pl.val l = 0
    · rw [show Pl.val (x :: l) = 0 from h, Pl.limbs_zero]; rfl
    · have e : Pl.limbs (Pl.val (x :: l)) = x :: Pl.limbs (Pl.val l) := by
        show Pl.limbs (x + Pl.B32 * Pl.val l) = _
        rw [Pl.limbs_pos h, Nat.add_mul_mod_self_left, Nat.mod_eq_of_lt hf.head, Nat.add_mul_div_left _ _ Pl.B32_pos, Nat.div_eq_of_lt hf.head, Nat.zero_add]
      rw [e, List.length_cons, List.take_succ_cons, ← ih]
theorem Lim.src {w w' : World} {A : Option Addr} {n k : Nat} {l : List Nat} (h : Lim w A n l) (hk : k ≤ n) (hb : Below w.heap.size w w') (g : Nat) : 0 < ((l.take k).map lv).length →
    (some (⟨g, 0, none⟩ : Addr) = some ⟨g, 0, none⟩) ∧ ∃ ad, A = some ad ∧ ∀ j v, ((l.take k).map lv)[j]? = some v → w'.cell? (ad.add j) = some v := fun h0 => by
  have hr := ((h.take hk).below hb).reads
  rw [List.length_map, ((h.take hk).below hb).len] at h0
  obtain ⟨ad, hA, _, hc⟩ := hr.2 h0
  exact ⟨rfl, ad, hA, hc⟩
theorem Lim.take_len {w : World} {A : Option Addr} {n k : Nat} {l : List Nat} (h : Lim w A n l) (hk : k ≤ n) : ((l.take k).map lv).length = Nat.min n k := by
  rw [List.length_map, (h.take hk).len]
  exact (Nat.min_eq_right hk).symm
theorem zeros_len (k : Nat) : ((List.replicate k 0).map lv).length = k := by rw [List.length_map, List.length_replicate]

/-- A row that is owned with no room to spare is its block. -/
theorem own_block {w : World} {base : Nat} {e : TypeId} {g k : Nat} {xs : List Value} (h : w.ownsRow base e 1 (.slice (some ⟨g, 0, none⟩) k k) k xs) : w.heap[g]? = some (.cells xs.toArray e (0, 0)) ∧ base ≤ g := by
  rcases h.2 with ⟨h0, _⟩ | ⟨g', cap, cur, h1, h2, h3, h4, h5, h6, h7⟩
  · cases h0
  · injection h1 with h1 _ hcap
    injection h1 with h1
    injection h1 with h1
    subst h1
    subst hcap
    have : cur = xs.toArray := by
      rw [← h7, Nat.mul_one, List.take_of_length_le (by rw [Array.length_toList]; omega)]
    rw [← this]
    exact ⟨h3, h2⟩
theorem block_own {w : World} {base g k : Nat} {e : TypeId} {xs : List Value} (h : w.heap[g]? = some (.cells xs.toArray e (0, 0))) (hb : base ≤ g) (hk : xs.length = k) (hm : k ≤ maxLen) : w.ownsRow base e 1 (.slice (some ⟨g, 0, none⟩) k k) k xs :=
  ⟨by omega, .inr ⟨g, k, xs.toArray, rfl, hb, h, Nat.le_refl _, hm, by simp [hk], by simp [← hk]⟩⟩
theorem splice_all (cur cs : List Value) (h : cur.length = cs.length) : splice cur 0 cs = cs := by
  unfold splice
  simp [h]

set_option maxHeartbeats 1000000 in
theorem ntrim_any (A : Option Addr) (n c : Nat) (l : List Nat) (w : World) (hl : Lim w A n l) (hc : n ≤ c) (hcm : c ≤ maxLen) (hn : n ≤ 1048576) :
    Calls Try.prog 41 #[.slice A n c] w (RetNat (Pl.val l) w) := by
  obtain ⟨i0, hi0, hz0, hz1, hz2⟩ := info_parts u32_info
  have hsz : (Try.prog.info? 40).map (·.size) = some 1 := by kernel_rfl
  obtain ⟨k, hk⟩ : ∃ k, (Pl.limbs (Pl.val l)).length = k := ⟨_, rfl⟩
  have hkn : k ≤ n := by
    have := Pl.limbs_len_le (Pl.val_lt hl.fit)
    rw [hl.len, hk] at this; exact this
  have hR := right_n A n c l w hl hc hcm
  rw [hk] at hR
  have ht : l.take k = Pl.limbs (Pl.val l) := by rw [← hk]; exact (limbs_is_take hl.fit).symm
  have HR := Lib.hid hR
  have HT := Lib.hid ht
  have HK := Lib.hid hk
  have HL := Lib.hid hl
  clear hR ht hk hl
  go_enter Try.func41, Try.ntmps41
  go_wp2_with (first
    | (go_at_call 50; refine HR.out.mono ?_; rintro e w' ⟨rfl, rfl⟩)
    | (at_make; refine wpList_make_full _ rfl _ _ _ rfl w.heap.size 40 i0 _ 1 Try.underlying53 hi0 hz0 hz1 .i64 .i64 _ _ k rfl rfl rfl rfl (by rw [hz2]; omega) (by unfold maxLen; omega) (Nat.le_refl _) ?_; intro w1 hown1 hg1; rw [made_zero] at hown1; have hB1 := (Below.refl w.heap.size w).grown hg1 (Nat.le_refl _) (by simp))
    | (with_reducible refine wpList_copy_splice rfl (.tmp 7) (.tmp 8) _ _ rfl 40 Try.underlying53 hsz (some ⟨w.heap.size, 0, none⟩) A k k n c rfl rfl w.heap.size 0 ((List.replicate k 0).map lv) 40 (own_block hown1).1 ((l.take k).map lv) (HL.out.take_len hkn) (HL.out.src hkn hB1 _) (by rw [HL.out.take_len hkn, zeros_len]; simp; exact Nat.min_le_right _ _) (one_limbs _) w.heap.size w hB1 (Nat.le_refl _) ?_; intro w2 hw2 hB2))
  go_ret
  have hw := hw2.out
  rw [splice_all _ _ (by rw [zeros_len, HL.out.take_len hkn]; exact (Nat.min_eq_right hkn).symm)] at hw
  exact ⟨_, rfl, NatV.of_own (block_own hw (Nat.le_refl _) (by rw [HL.out.take_len hkn]; exact Nat.min_eq_right hkn) (by unfold maxLen; omega)) HT.out, hB2⟩
theorem ntrim_v {w : World} {v : Value} {N d : Nat} (h : SliceV w v N d) (hd : d ≤ 1048576) : Calls Try.prog 41 #[v] w (RetNat N w) := by
  obtain ⟨A, n, c, l, rfl, h1, h2, hl, rfl, hd'⟩ := h
  exact ntrim_any A n c l w hl h1 h2 (by omega)
end Go.Proofs.Ytlndpbjolgjloaa
