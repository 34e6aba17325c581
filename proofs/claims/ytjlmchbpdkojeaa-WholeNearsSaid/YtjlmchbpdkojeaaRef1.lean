/-
  The reference of chapter 1: Trim, limb, Bit.
-/
import Derived.Test.YtjlmchbpdkojeaaSl
namespace Go.Proofs.Ytjlmchbpdkojeaa
open Go.RowKit Go.Shelf

theorem below_own {w w1 : World} {o : Obj} {row : Option Nat} (hg : (w.alloc o).grownBy w1 row) (hr : ∀ k, row = some k → w.heap.size ≤ k) : Below w.heap.size w w1 :=
  ((Below.refl _ _).alloc (Nat.le_refl _) _).grown hg (by simp) hr
theorem own_at {g : Nat} {n c : Nat} {k : Nat} (h : (Value.slice (some ⟨g, 0, none⟩) n c).ownBlock = some k) : g ≤ k := by
  simp [Value.ownBlock] at h; omega

/-- The value leads to no older block. -/
def Fresh (B : Nat) (v : Value) : Prop := ∀ ad n c, v = .slice (some ad) n c → B ≤ ad.block
theorem Fresh.of_own {w : World} {base : Nat} {e : TypeId} {size n : Nat} {v : Value} {xs : List Value} (h : w.ownsRow base e size v n xs) : Fresh base v := by
  intro ad n c hv
  rcases h.2 with ⟨rfl, rfl⟩ | ⟨g, cap, cur, rfl, hb, _⟩
  · cases hv
  · injection hv with h1
    injection h1 with h1
    subst h1
    exact hb
theorem Fresh.mono {B B' : Nat} {v : Value} (h : Fresh B v) (hB : B' ≤ B) : Fresh B' v := fun ad n c hv => Nat.le_trans hB (h ad n c hv)
def RetNatF (N : Nat) (w : World) (e : Ending) (w' : World) : Prop := ∃ v, e = .returned v ∧ NatV w' v N ∧ Below w.heap.size w w' ∧ Fresh w.heap.size v

set_option maxHeartbeats 1000000 in
theorem trim_fresh (A : Option Addr) (n c : Nat) (l : List Nat) (w : World) (hl : Lim w A n l) (hc : n ≤ c) (hcm : c ≤ maxLen) (hn : n ≤ 1048576) :
    Calls Try.prog 70 #[.slice A n c] w (RetNatF (Pl.val l) w) := by
  obtain ⟨i0, hi0, hz0, hz1, hz2⟩ := info_parts u32_info
  have hlen := Lib.hid hl.len
  have hfit := hl.fit
  have HL := Lib.hid hl
  have hcm' := Lib.hid hcm
  unfold maxLen at hcm
  clear hl
  go_enter Try.func70, Try.ntmps70
  go_wp2
  go_loop [3] (fun nv => ∃ k : Nat, nv = .int .i64 k ∧ k ≤ n ∧ ∀ i, k ≤ i → i < n → l.getD i 0 = 0) (fun nv => (intOf nv).toNat)
  case atStart => exact ⟨n, rfl, Nat.le_refl _, fun i h1 h2 => by omega⟩
  case round =>
    obtain ⟨k, rfl, hk, hz⟩ := hrel
    have HZ := Lib.hid hz
    clear hz
    rcases Nat.eq_zero_or_pos k with h0 | h0
    · subst h0
      go_wp2_with (at_builtin; refine wpList_append_any _ rfl (.tmp 18) (.tmp 21) _ rfl w.heap.size 63 i0 _ 1 4 Try.underlying46 hi0 hz0 hz1 hz2 rfl (by omega) (.slice (some ⟨w.heap.size, 0, none⟩) 0 0) 0 [] rfl (own_empty w _ 1) w.heap.size A 0 c ((l.take 0).map lv) rfl ((HL.out.take hk).reads.alloc (Nat.le_refl _) _) (one_limbs _) (by unfold maxLen; omega) (by omega) (by simp) ?_; intro v1 w1 hown1 hg1 hat1)
      go_ret
      exact ⟨v1, rfl, NatV.of_own hown1 (Pl.limbs_take hfit (by have := hlen.out; omega) (fun i h1 h2 => HZ.out i h1 (by have := hlen.out; omega)) (fun h => absurd h (by omega))), below_own hg1 (fun k h => own_at h), Fresh.of_own hown1⟩
    · obtain ⟨j, rfl⟩ : ∃ j, k = j + 1 := ⟨k - 1, by omega⟩
      obtain ⟨ad, hA, hadb, hcell⟩ := HL.out.at_ (k := j) (by omega)
      subst hA
      have hx := hfit.get j
      obtain ⟨x, hxe⟩ : ∃ x, l.getD j 0 = x := ⟨_, rfl⟩
      rw [hxe] at hcell hx
      have HX := Lib.hid hxe
      clear hxe
      rcases Nat.eq_zero_or_pos x with hx0 | hx0
      · subst hx0
        go_wp2
        go_round
        case rel => exact ⟨j, by go_num, by omega, fun i h1 h2 => by
          rcases Nat.eq_or_lt_of_le h1 with g | g
          · subst g; exact HX.out
          · exact HZ.out i g h2⟩
        case measure => simp [intOf]
      · have hne : ((x : Int) == 0) = false := by simp; omega
        go_wp2_with (at_builtin; refine wpList_append_any _ rfl (.tmp 18) (.tmp 21) _ rfl w.heap.size 63 i0 _ 1 4 Try.underlying46 hi0 hz0 hz1 hz2 rfl (by omega) (.slice (some ⟨w.heap.size, 0, none⟩) 0 0) 0 [] rfl (own_empty w _ 1) w.heap.size (some ad) (j + 1) c ((l.take (j + 1)).map lv) rfl ((HL.out.take hk).reads.alloc (Nat.le_refl _) _) (one_limbs _) (by unfold maxLen; omega) (by omega) (by simp) ?_; intro v1 w1 hown1 hg1 hat1)
        go_ret
        exact ⟨v1, rfl, NatV.of_own hown1 (Pl.limbs_take hfit (by have := hlen.out; omega) (fun i h1 h2 => HZ.out i h1 (by have := hlen.out; omega)) (fun h => by rw [Nat.add_sub_cancel, HX.out]; omega)), below_own hg1 (fun k h => own_at h), Fresh.of_own hown1⟩

theorem trim_any (A : Option Addr) (n c : Nat) (l : List Nat) (w : World) (hl : Lim w A n l) (hc : n ≤ c) (hcm : c ≤ maxLen) (hn : n ≤ 1048576) :
    Calls Try.prog 70 #[.slice A n c] w (RetNat (Pl.val l) w) :=
  (trim_fresh A n c l w hl hc hcm hn).mono fun _ _ ⟨v, he, hv, hb, _⟩ => ⟨v, he, hv, hb⟩

theorem getD_out {l : List Nat} {i : Nat} (h : l.length ≤ i) : l.getD i 0 = 0 := by
  rw [List.getD_eq_getElem?_getD, List.getElem?_eq_none h]; rfl
set_option maxHeartbeats 400000 in
theorem limb_any (A : Option Addr) (n c i : Nat) (l : List Nat) (w : World) (hl : Lim w A n l) (hi : i < 4611686018427387904) :
    Calls Try.prog 80 #[.slice A n c, .int .i64 i] w fun e w' => e = .returned (.int .u64 (l.getD i 0 : Nat)) ∧ w = w' := by
  have hlen := Lib.hid hl.len
  have hf := hl.fit.get i
  have HL := Lib.hid hl
  clear hl
  by_cases h : i < n
  · obtain ⟨ad, hA, hadb, hcell⟩ := HL.out.at_ h
    subst hA
    obtain ⟨x, hxe⟩ : ∃ x, l.getD i 0 = x := ⟨_, rfl⟩
    rw [hxe] at hcell hf ⊢
    unfold Pl.B32 at hf
    have HX := Lib.hid hxe
    clear hxe HL hlen
    go_enter Try.func80, Try.ntmps80
    go_wp2
    go_ret
    exact ⟨rfl, rfl⟩
  · have HX := Lib.hid (getD_out (l := l) (i := i) (by have := hlen.out; omega))
    go_enter Try.func80, Try.ntmps80
    go_wp2
    go_ret
    exact ⟨by rw [HX.out]; rfl, rfl⟩

/-- The i-th bit. -/
def bitB (N i : Nat) : Bool := decide (N / 2 ^ i % 2 = 1)
set_option maxHeartbeats 400000 in
theorem bit_any (A : Option Addr) (n c i : Nat) (l : List Nat) (w : World) (hl : Lim w A n l) (hi : i < 4611686018427387904) :
    Calls Try.prog 64 #[.slice A n c, .int .i64 i] w fun e w' => e = .returned (.bool (bitB (Pl.val l) i)) ∧ w = w' := by
  obtain ⟨q, hq⟩ : ∃ q : Nat, (i : Int) / 32 = q := ⟨i / 32, by omega⟩
  obtain ⟨r, hr⟩ : ∃ r : Nat, (i : Int) % 32 = r := ⟨i % 32, by omega⟩
  have hr1 : r < 32 := by omega
  have hq1 : q ≤ i := by omega
  have hb := Pl.bit_val hl.fit i
  have hf := hl.fit.get q
  have eq1 : i / 32 = q := by omega
  have eq2 : i % 32 = r := by omega
  rw [eq1, eq2] at hb
  have HB := Lib.hid hb
  have HL := Lib.hid hl
  clear hb hl eq1 eq2
  obtain ⟨x, hxe⟩ : ∃ x, l.getD q 0 = x := ⟨_, rfl⟩
  rw [hxe] at hf
  unfold Pl.B32 at hf
  have HX := Lib.hid hxe
  clear hxe
  have h9 : 0 ≤ (x : Int) / 2 ^ r := Int.ediv_nonneg (by omega) (Int.le_of_lt (Int.pow_pos (by decide)))
  go_enter Try.func64, Try.ntmps64
  go_wp2_with (go_at_call 80; refine (limb_any A n c q l _ HL.out (by omega)).mono ?_; rw [HX.out]; rintro e w' ⟨rfl, rfl⟩)
  go_ret
  refine ⟨retB ?_, rfl⟩
  unfold bitB
  rw [← HB.out, HX.out]
  have e9 : (x : Int) / 2 ^ r = ((x / 2 ^ r : Nat) : Int) := by simp
  rw [e9]
  generalize x / 2 ^ r = y
  rw [Bool.eq_iff_iff]
  simp
  omega
end Go.Proofs.Ytjlmchbpdkojeaa
