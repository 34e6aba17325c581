/-
  The walks of package nat: right, Trim.
-/
import Derived.Test.YtjlmchbpdkojeaaRef1D
import Derived.Laws.CopyOwn
namespace Go.Proofs.Ytjlmchbpdkojeaa
open Go.RowKit Go.Shelf

theorem right_len {l : List Nat} {n k : Nat} (hf : Pl.Fit l) (hl : l.length = n) (hk : k ≤ n) (hz : ∀ i, k ≤ i → i < n → l.getD i 0 = 0) (h : 0 < k → l.getD (k - 1) 0 ≠ 0) : k = (Pl.limbs (Pl.val l)).length := by
  rw [← Pl.limbs_take hf (by omega) (fun i h1 h2 => hz i h1 (by omega)) h, List.length_take]; omega

theorem limbs_is_take : ∀ {l : List Nat}, Pl.Fit l → Pl.limbs (Pl.val l) = l.take (Pl.limbs (Pl.val l)).length
  | [], _ => by rw [show Pl.val [] = 0 from rfl, Pl.limbs_zero]; rfl
  | x :: l, hf => by
    have ih := limbs_is_take hf.tail
    by_cases h : x + Pl.B32 * Pl.val l = 0
    · rw [show Pl.val (x :: l) = 0 from h, Pl.limbs_zero]; rfl
    · have e : Pl.limbs (Pl.val (x :: l)) = x :: Pl.limbs (Pl.val l) := by
        show Pl.limbs (x + Pl.B32 * Pl.val l) = _
        rw [Pl.limbs_pos h, Nat.add_mul_mod_self_left, Nat.mod_eq_of_lt hf.head, Nat.add_mul_div_left _ _ Pl.B32_pos, Nat.div_eq_of_lt hf.head, Nat.zero_add]
      rw [e, List.length_cons, List.take_succ_cons, ← ih]
theorem Lim.src {w w' : World} {A : Option Addr} {n k : Nat} {l : List Nat} (h : Lim w A n l) (hk : k ≤ n) (hb : Below w.heap.size w w') (g : Nat) : 0 < ((l.take k).map lv).length →
    (some (⟨g, 0, none⟩ : Addr) = some ⟨g, 0, none⟩) ∧ ∃ ad, A = some ad ∧ ∀ j v, ((l.take k).map lv)[j]? = some v → w'.cell? (ad.add j) = some v := fun h0 => by
  have hr := ((h.take hk).below hb).reads
  rw [List.length_map, ((h.take hk).below hb).len] at h0
  obtain ⟨ad, hA, _, hc⟩ := hr.2 h0
  exact ⟨rfl, ad, hA, hc⟩
theorem Lim.take_len {w : World} {A : Option Addr} {n k : Nat} {l : List Nat} (h : Lim w A n l) (hk : k ≤ n) : ((l.take k).map lv).length = Nat.min n k := by
  rw [List.length_map, (h.take hk).len]
  exact (Nat.min_eq_right hk).symm
theorem zeros_len (k : Nat) : ((List.replicate k 0).map lv).length = k := by rw [List.length_map, List.length_replicate]

/-- A row that is owned with no room to spare is its block. -/
theorem own_block {w : World} {base : Nat} {e : TypeId} {g k : Nat} {xs : List Value} (h : w.ownsRow base e 1 (.slice (some ⟨g, 0, none⟩) k k) k xs) : w.heap[g]? = some (.cells xs.toArray e (0, 0)) ∧ base ≤ g := by
  rcases h.2 with ⟨h0, _⟩ | ⟨g', cap, cur, h1, h2, h3, h4, h5, h6, h7⟩
  · cases h0
  · injection h1 with h1 _ hcap
    injection h1 with h1
    injection h1 with h1
    subst h1
    subst hcap
    have : cur = xs.toArray := by
      rw [← h7, Nat.mul_one, List.take_of_length_le (by rw [Array.length_toList]; omega)]
    rw [← this]
    exact ⟨h3, h2⟩
theorem block_own {w : World} {base g k : Nat} {e : TypeId} {xs : List Value} (h : w.heap[g]? = some (.cells xs.toArray e (0, 0))) (hb : base ≤ g) (hk : xs.length = k) (hm : k ≤ maxLen) : w.ownsRow base e 1 (.slice (some ⟨g, 0, none⟩) k k) k xs :=
  ⟨by omega, .inr ⟨g, k, xs.toArray, rfl, hb, h, Nat.le_refl _, hm, by simp [hk], by simp [← hk]⟩⟩
theorem splice_all (cur cs : List Value) (h : cur.length = cs.length) : splice cur 0 cs = cs := by
  unfold splice
  simp [h]

end Go.Proofs.Ytjlmchbpdkojeaa
