/-
  Shl, Shr once more, what they answer under names that the walk does not open.
-/
import Derived.Test.YtjlmchbpdkojeaaWideE
namespace Go.Proofs.Ytjlmchbpdkojeaa
open Go.RowKit Go.Shelf

def shlN (A : Int) (k : Nat) : Int := A * 2 ^ k % bit128
def shrN (A : Int) (k : Nat) : Int := A / 2 ^ k
def lostN (A : Int) (k : Nat) : Bool := decide (0 < A % 2 ^ k)

theorem shl_k (h l n : Int) (k : Nat) (w : World) (hh : Wd h) (hl : Wd l) (hk : max n 0 = k) (n1 : n < 9223372036854775808) :
    Calls Try.prog 57 #[.agg #[.int .u64 h, .int .u64 l], .int .i64 n] w fun e w' =>
      e = .returned (.agg #[.int .u64 (hiOf (shlN (num h l) k)), .int .u64 (loOf (shlN (num h l) k))]) ∧ Below w.heap.size w w' := by
  have e : n.toNat = k := by omega
  have := shl_any h l n w hh hl n1
  rw [e] at this
  exact this
theorem shr_k (h l n : Int) (k : Nat) (w : World) (hh : Wd h) (hl : Wd l) (hk : max n 0 = k) (n1 : n < 9223372036854775808) :
    Calls Try.prog 48 #[.agg #[.int .u64 h, .int .u64 l], .int .i64 n] w fun e w' =>
      e = .returned (.tuple #[.agg #[.int .u64 (hiOf (shrN (num h l) k)), .int .u64 (loOf (shrN (num h l) k))], .bool (lostN (num h l) k)]) ∧ Below w.heap.size w w' := by
  have e : n.toNat = k := by omega
  have := shr_any h l n w hh hl n1
  rw [e] at this
  exact this
theorem wd_shl (A : Int) (k : Nat) : Wd (hiOf (shlN A k)) ∧ Wd (loOf (shlN A k)) := by
  have h0 : 0 ≤ shlN A k := Int.emod_nonneg _ (by decide)
  have h1 : shlN A k < bit128 := Int.emod_lt_of_pos _ (by decide)
  unfold bit128 at h1
  exact ⟨Wd.hi h0 h1, Wd.lo _⟩
theorem shrN_bd {A : Int} (k : Nat) (h0 : 0 ≤ A) (h1 : A < 340282366920938463463374607431768211456) : 0 ≤ shrN A k ∧ shrN A k < 340282366920938463463374607431768211456 := shr_bd A k h0 h1
theorem num_bd {h l : Int} (hh : Wd h) (hl : Wd l) : 0 ≤ num h l ∧ num h l < 340282366920938463463374607431768211456 := by
  obtain ⟨a, b⟩ := hh
  obtain ⟨c, d⟩ := hl
  unfold num; omega

/-- A field of a struct that is a value. -/
theorem field_hi (x y : Int) (w : World) : (Instr.field 51 (.agg #[.int .u64 x, .int .u64 y]) 0).run Try.prog w = .ok (.int .u64 x) w := by kernel_rfl
theorem field_lo (x y : Int) (w : World) : (Instr.field 51 (.agg #[.int .u64 x, .int .u64 y]) 1).run Try.prog w = .ok (.int .u64 y) w := by kernel_rfl
end Go.Proofs.Ytjlmchbpdkojeaa
