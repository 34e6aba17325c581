/-
  The walks of package wide: each function answers what its name says of the numbers that its words make.
-/
import Derived.Test.YtjlmchbpdkojeaaBase
import Derived.Test.YtjlmchbpdkojeaaPlainW
namespace Go.Proofs.Ytjlmchbpdkojeaa
open Go.RowKit Go.Shelf

/-- A word. -/
def Wd (x : Int) : Prop := 0 ≤ x ∧ x < 18446744073709551616
theorem Wd.mk {x : Int} (h0 : 0 ≤ x) (h1 : x < 18446744073709551616) : Wd x := ⟨h0, h1⟩

/-- The high and the low word of a number; the number of two words. -/
def hiOf (n : Int) : Int := n / 18446744073709551616
def loOf (n : Int) : Int := n % 18446744073709551616
def num (hi lo : Int) : Int := hi * 18446744073709551616 + lo
def cmpI (a b : Int) : Int := if a < b then -1 else if a = b then 0 else 1

theorem hi_num {h l : Int} (h0 : 0 ≤ l) (h1 : l < 18446744073709551616) : hiOf (num h l) = h := by unfold hiOf num; omega
theorem lo_num {h l : Int} (h0 : 0 ≤ l) (h1 : l < 18446744073709551616) : loOf (num h l) = l := by unfold loOf num; omega
theorem num_parts (n : Int) : num (hiOf n) (loOf n) = n := by unfold hiOf loOf num; omega

theorem ret_int {k : IntKind} {a b : Int} (h : a = b) : Ending.returned (.int k a) = .returned (.int k b) := by rw [h]
theorem ret_bool {a b : Bool} (h : a = b) : Ending.returned (.bool a) = .returned (.bool b) := by rw [h]

/-- A number of 128 bits, as the program holds it. -/
def bit64 : Int := 18446744073709551616
def bit128 : Int := 340282366920938463463374607431768211456

set_option maxHeartbeats 400000 in
theorem wadd_any (ah al bh bl : Int) (w : World) (hah : Wd ah) (hal : Wd al) (hbh : Wd bh) (hbl : Wd bl) :
    Calls Try.prog 82 #[.agg #[.int .u64 ah, .int .u64 al], .agg #[.int .u64 bh, .int .u64 bl]] w fun e w' =>
      e = .returned (.tuple #[.agg #[.int .u64 (hiOf ((num ah al + num bh bl) % bit128)), .int .u64 (loOf ((num ah al + num bh bl) % bit128))], .bool (decide (bit128 ≤ num ah al + num bh bl))]) ∧ Below w.heap.size w w' := by
  obtain ⟨a0, a9⟩ := hah
  obtain ⟨a1, a2⟩ := hal
  obtain ⟨b0, b9⟩ := hbh
  obtain ⟨b1, b2⟩ := hbl
  have k0 : 0 ≤ (al + bl) / 18446744073709551616 := by omega
  have k1 : (al + bl) / 18446744073709551616 ≤ 1 := by omega
  go_enter Try.func82, Try.ntmps82
  go_wp2_with (first | simp only [add64_0 al bl a1 b1] | simp only [add64 ah bh _ a0 b0 k0 k1])
  simp [bodyPost, results, Try.results82, go_sem]
  exact ⟨⟨⟨by unfold hiOf num bit128; omega, by unfold loOf num bit128; omega⟩, by unfold num bit128; omega⟩, (((Below.refl _ _).alloc (Nat.le_refl _) _).alloc (by simp) _).alloc (by simp <;> omega) _⟩

set_option maxHeartbeats 400000 in
theorem wsub_any (ah al bh bl : Int) (w : World) (hah : Wd ah) (hal : Wd al) (hbh : Wd bh) (hbl : Wd bl) :
    Calls Try.prog 83 #[.agg #[.int .u64 ah, .int .u64 al], .agg #[.int .u64 bh, .int .u64 bl]] w fun e w' =>
      e = .returned (.tuple #[.agg #[.int .u64 (hiOf ((num ah al - num bh bl) % bit128)), .int .u64 (loOf ((num ah al - num bh bl) % bit128))], .bool (decide (num ah al < num bh bl))]) ∧ Below w.heap.size w w' := by
  obtain ⟨a0, a9⟩ := hah
  obtain ⟨a1, a2⟩ := hal
  obtain ⟨b0, b9⟩ := hbh
  obtain ⟨b1, b2⟩ := hbl
  have k0 : 0 ≤ bor al bl := bor_ge _ _
  have k1 : bor al bl ≤ 1 := bor_le _ _
  go_enter Try.func83, Try.ntmps83
  go_wp2_with (first | simp only [sub64_0 al bl a1 b1 b2] | simp only [sub64 ah bh _ a0 b0 b9 k0 k1])
  simp [bodyPost, results, Try.results83, go_sem]
  exact ⟨⟨⟨by unfold hiOf num bit128 bor; split <;> omega, by unfold loOf num bit128; omega⟩, by unfold num bor; split <;> split <;> omega⟩, (((Below.refl _ _).alloc (Nat.le_refl _) _).alloc (by simp) _).alloc (by simp <;> omega) _⟩

theorem bl_64 {x : Int} (h : x < 18446744073709551616) : Pl.bl x.toNat ≤ 64 := Pl.bl_le_of_lt (by
  have : (2 : Nat) ^ 64 = 18446744073709551616 := by decide
  omega)

theorem bl_hi (h l : Int) (h0 : 0 < h) (l0 : 0 ≤ l) (l1 : l < 18446744073709551616) : Pl.bl (num h l).toNat = 64 + Pl.bl h.toNat := by
  obtain ⟨h, rfl⟩ := Int.eq_ofNat_of_zero_le (Int.le_of_lt h0)
  obtain ⟨l, rfl⟩ := Int.eq_ofNat_of_zero_le l0
  have hn : h ≠ 0 := by omega
  have e : (num h l).toNat = h * 18446744073709551616 + l := by unfold num; omega
  have h1 := Pl.two_bl_le hn
  have h2 := Pl.lt_two_bl h
  have h3 := Pl.bl_pos hn
  have e2 : (h : Int).toNat = h := rfl
  rw [e, e2]
  have p1 : 2 ^ (Pl.bl h - 1 + 64) = 2 ^ (Pl.bl h - 1) * 18446744073709551616 := Nat.pow_add 2 _ 64
  have p2 : 2 ^ (Pl.bl h + 64) = 2 ^ (Pl.bl h) * 18446744073709551616 := Nat.pow_add 2 _ 64
  have e3 : Pl.bl h - 1 + 64 + 1 = Pl.bl h + 64 := by omega
  have := Pl.bl_eq (n := h * 18446744073709551616 + l) (k := Pl.bl h - 1 + 64) (by rw [p1]; omega) (by rw [e3, p2]; omega)
  omega

set_option maxHeartbeats 400000 in
theorem wlen_any (h l : Int) (w : World) (hh : Wd h) (hl : Wd l) :
    Calls Try.prog 55 #[.agg #[.int .u64 h, .int .u64 l]] w fun e w' => e = .returned (.int .i64 (Pl.bl (num h l).toNat)) ∧ Below w.heap.size w w' := by
  obtain ⟨a0, a9⟩ := hh
  obtain ⟨b0, b9⟩ := hl
  have g1 := bl_64 a9
  go_enter Try.func55, Try.ntmps55
  go_wp2_with (go_at_call 79; refine (len64 _ _ (by assumption) (by assumption)).mono ?_; rintro e w' ⟨rfl, rfl⟩)
  · go_ret
    exact ⟨ret_int (by have := bl_hi h l (by assumption) b0 b9; omega), (Below.refl _ _).alloc (Nat.le_refl _) _⟩
  · go_ret
    exact ⟨ret_int (by obtain rfl : h = 0 := by omega
                       simp [num]), (Below.refl _ _).alloc (Nat.le_refl _) _⟩

set_option maxHeartbeats 400000 in
theorem low_at (h m l : Int) (w : World) :
    Calls Try.prog 74 #[.agg #[.int .u64 h, .int .u64 m, .int .u64 l]] w fun e w' => e = .returned (.agg #[.int .u64 m, .int .u64 l]) ∧
      (w.alloc (.cells #[.int .u64 h, .int .u64 m, .int .u64 l] 81)).alloc (.cells #[.int .u64 m, .int .u64 l] 51) = w' := by
  go_enter Try.func74, Try.ntmps74
  go_wp2
  simp [bodyPost, results, Try.results74, go_sem]

theorem low_any (h m l : Int) (w : World) :
    Calls Try.prog 74 #[.agg #[.int .u64 h, .int .u64 m, .int .u64 l]] w fun e w' => e = .returned (.agg #[.int .u64 m, .int .u64 l]) ∧ Below w.heap.size w w' :=
  (low_at h m l w).mono fun _ _ ⟨he, hw⟩ => ⟨he, by rw [← hw]; exact ((Below.refl _ _).alloc (Nat.le_refl _) _).alloc (by simp) _⟩

theorem p2_pos (n : Nat) : (0 : Int) < 2 ^ n := Int.pow_pos (by decide)
theorem p2_split {n : Nat} (h : n ≤ 64) : (2 : Int) ^ n * 2 ^ (64 - n) = 18446744073709551616 := by
  have := Pl.pow_split h
  have e : ((2 ^ n * 2 ^ (64 - n) : Nat) : Int) = 18446744073709551616 := by rw [this]; rfl
  rw [← e]; simp

theorem bit64_nat (n : Nat) (h : n ≤ 64) : (18446744073709551616 : Int) = ((2 ^ n * 2 ^ (64 - n) : Nat) : Int) := by rw [Pl.pow_split h]; rfl
theorem bit128_nat (n : Nat) (h : n ≤ 64) : bit128 = ((2 ^ n * 2 ^ (64 - n) * (2 ^ n * 2 ^ (64 - n)) : Nat) : Int) := by rw [Pl.pow_split h]; rfl

theorem or_shift (a b : Int) (m : Nat) (hm : m ≤ 64) (ha : Wd a) (hb : Wd b) : bits .or .u64 (IntKind.u64.wrap (a * 2 ^ m)) (b / 2 ^ (64 - m)) = (a * 2 ^ m) % 18446744073709551616 + b / 2 ^ (64 - m) := by
  obtain ⟨a0, a9⟩ := ha
  obtain ⟨b0, b9⟩ := hb
  have hs := p2_split hm
  have h1 := p2_pos m
  have h2 := p2_pos (64 - m)
  rw [IntKind.wrap_u64]
  refine or_join _ _ m (Int.emod_nonneg _ (by decide)) ?_ (Int.emod_lt_of_pos _ (by decide)) (Int.ediv_nonneg b0 (Int.le_of_lt h2)) ?_ ?_
  · rw [← hs, Int.emod_emod_of_dvd _ ⟨_, rfl⟩, Int.mul_emod_left]
  · exact (Int.ediv_lt_iff_lt_mul h2).2 (by rw [hs]; exact b9)
  · exact Int.lt_of_le_of_lt (Int.ediv_le_self _ b0) b9

theorem shl_hi (h l : Int) (m : Nat) (hm : m ≤ 64) (hh : Wd h) (hl : Wd l) : bits .or .u64 (IntKind.u64.wrap (h * 2 ^ m)) (l / 2 ^ (64 - m)) = hiOf (num h l * 2 ^ m % bit128) := by
  rw [or_shift h l m hm hh hl]
  obtain ⟨a0, a9⟩ := hh
  obtain ⟨b0, b9⟩ := hl
  obtain ⟨h, rfl⟩ := Int.eq_ofNat_of_zero_le a0
  obtain ⟨l, rfl⟩ := Int.eq_ofNat_of_zero_le b0
  have := Pl.shl_hi_nat h l (2 ^ m) (2 ^ (64 - m)) (Nat.two_pow_pos _) (Nat.two_pow_pos _) (by rw [Pl.pow_split hm]; omega)
  unfold hiOf num
  rw [bit128_nat m hm, bit64_nat m hm]
  have e := congrArg (fun n : Nat => (n : Int)) this
  simp only [Int.natCast_add, Int.natCast_ediv, Int.natCast_emod, Int.natCast_mul, Int.natCast_pow] at e ⊢
  exact e.symm
theorem shl_lo (h l : Int) (m : Nat) (hm : m ≤ 64) (hh : Wd h) (hl : Wd l) : IntKind.u64.wrap (l * 2 ^ m) = loOf (num h l * 2 ^ m % bit128) := by
  rw [IntKind.wrap_u64]
  obtain ⟨a0, a9⟩ := hh
  obtain ⟨b0, b9⟩ := hl
  obtain ⟨h, rfl⟩ := Int.eq_ofNat_of_zero_le a0
  obtain ⟨l, rfl⟩ := Int.eq_ofNat_of_zero_le b0
  have := Pl.shl_lo_nat h l (2 ^ m) (2 ^ (64 - m))
  unfold loOf num
  rw [bit128_nat m hm, bit64_nat m hm]
  have e := congrArg (fun n : Nat => (n : Int)) this
  simp only [Int.natCast_add, Int.natCast_emod, Int.natCast_mul, Int.natCast_pow] at e ⊢
  exact e.symm
/-- 64 places and more: the low word goes up. -/
theorem shl_far_hi (h l : Int) (m k : Nat) (hk : min ((m : Int) - 64) 64 = (k : Int)) (hm : 64 ≤ m) : IntKind.u64.wrap (l * 2 ^ k) = hiOf (num h l * 2 ^ m % bit128) := by
  rw [IntKind.wrap_u64]
  unfold hiOf num bit128
  by_cases h1 : m ≤ 128
  · have e : m = k + 64 := by omega
    subst e
    have e1 : (h * 18446744073709551616 + l) * 2 ^ (k + 64) = (l * 2 ^ k) * 18446744073709551616 + 340282366920938463463374607431768211456 * (h * 2 ^ k) := by rw [Int.pow_add]; grind
    rw [e1, Int.add_mul_emod_self_left]
    generalize l * 2 ^ k = t
    omega
  · have e2 : k = 64 := by omega
    subst e2
    obtain ⟨c, rfl⟩ : ∃ c, m = c + 128 := ⟨m - 128, by omega⟩
    have e1 : (h * 18446744073709551616 + l) * 2 ^ (c + 128) = 340282366920938463463374607431768211456 * ((h * 18446744073709551616 + l) * 2 ^ c) := by rw [Int.pow_add]; grind
    rw [e1, Int.mul_emod_right]
    omega
theorem shl_far_lo (h l : Int) (m : Nat) (hm : 64 ≤ m) : 0 = loOf (num h l * 2 ^ m % bit128) := by
  unfold loOf num bit128
  obtain ⟨c, rfl⟩ : ∃ c, m = c + 64 := ⟨m - 64, by omega⟩
  have e1 : (h * 18446744073709551616 + l) * 2 ^ (c + 64) = 18446744073709551616 * ((h * 18446744073709551616 + l) * 2 ^ c) := by rw [Int.pow_add]; grind
  rw [e1]
  generalize (h * 18446744073709551616 + l) * 2 ^ c = t
  omega

theorem ret_two {a b c d : Int} (h1 : a = c) (h2 : b = d) : Ending.returned (.agg #[.int .u64 a, .int .u64 b]) = .returned (.agg #[.int .u64 c, .int .u64 d]) := by rw [h1, h2]

set_option maxHeartbeats 400000 in
theorem shl_any (h l n : Int) (w : World) (hh : Wd h) (hl : Wd l) (n1 : n < 9223372036854775808) :
    Calls Try.prog 57 #[.agg #[.int .u64 h, .int .u64 l], .int .i64 n] w fun e w' =>
      e = .returned (.agg #[.int .u64 (hiOf (num h l * 2 ^ n.toNat % bit128)), .int .u64 (loOf (num h l * 2 ^ n.toNat % bit128))]) ∧ Below w.heap.size w w' := by
  obtain ⟨m, hm⟩ : ∃ m : Nat, max n 0 = m := ⟨n.toNat, by omega⟩
  have em : n.toNat = m := by omega
  have m1 : m < 9223372036854775808 := by omega
  rw [em]
  clear em n1
  by_cases h64 : 64 ≤ m
  · obtain ⟨k, hk⟩ : ∃ k : Nat, min ((m : Int) - 64) 64 = k := ⟨(min ((m : Int) - 64) 64).toNat, by omega⟩
    have k1 : k ≤ 64 := by omega
    have e1 := shl_far_hi h l m k hk h64
    have e2 := shl_far_lo h l m h64
    have H1 := Lib.hid e1
    have H2 := Lib.hid e2
    clear e1 e2
    go_enter Try.func57, Try.ntmps57
    go_wp2
    simp [bodyPost, results, Try.results57, go_sem]
    exact ⟨⟨H1.out, H2.out⟩, ((Below.refl _ _).alloc (Nat.le_refl _) _).alloc (by simp) _⟩
  · have H1 := Lib.hid (shl_hi h l m (by omega) hh hl)
    have H2 := Lib.hid (shl_lo h l m (by omega) hh hl)
    go_enter Try.func57, Try.ntmps57
    go_wp2
    go_region
    all_goals go_wp2
    all_goals simp [bodyPost, results, Try.results57, go_sem]
    all_goals exact ⟨⟨H1.out, H2.out⟩, (((Below.refl _ _).alloc (Nat.le_refl _) _).alloc (by simp) _).drew⟩

theorem bcell {W w1 : World} (hb : Below W.heap.size W w1) : (∀ b o, b < W.heap.size → w1.cell? ⟨b, o, none⟩ = W.cell? ⟨b, o, none⟩) ∧ (∀ b o, b < W.heap.size → w1.frozen? ⟨b, o, none⟩ = W.frozen? ⟨b, o, none⟩) :=
  ⟨fun b o h => hb.cell (p := ⟨b, o, none⟩) h, fun b o h => hb.frozen (p := ⟨b, o, none⟩) h⟩

end Go.Proofs.Ytjlmchbpdkojeaa
