/-
  Plain words of chapter 6: where a number stands; its whole part and what is beside it.
-/
import Derived.Test.YtjlmchbpdkojeaaArithO
namespace Go.Proofs.Ytjlmchbpdkojeaa
open Go.RowKit Go.Shelf

def oneN (x : Int) : Prop := kd x = 4
def cmpW (a b : Int) : Int := cmpI (rankI a) (rankI b)
def minI (a b : Int) : Int := if kd a = 4 ∨ kd b = 4 then NAN else if rankI a < rankI b ∨ (rankI a = rankI b ∧ sgn a = true) then a else b
def maxI (a b : Int) : Int := if kd a = 4 ∨ kd b = 4 then NAN else if rankI b < rankI a ∨ (rankI a = rankI b ∧ sgn a = false) then a else b

/-- The half beside the whole part, the rest, the whole part. -/
def hB (m k : Nat) : Bool := decide (m / 2 ^ (k - 1) % 2 = 1)
def rB (m k : Nat) : Bool := decide (m % 2 ^ (k - 1) ≠ 0)
def moreW (way : Int) (s h r : Bool) (q : Nat) : Bool :=
  if way = 0 then h && (r || decide (q % 2 = 1)) else if way = 1 then h else if way = 3 then h || r else if way = 4 then s && (h || r) else if way = 5 then !s && (h || r) else false
structure Sp where
  s : Bool
  h : Bool
  r : Bool
  q : Nat
def Sp.val (p : Sp) : Value := .agg #[.bool p.s, .bool p.h, .bool p.r, .int .u64 p.q]
def spW (x : Int) : Sp :=
  if 0 ≤ expo x then ⟨sgn x, false, false, (mant x).toNat⟩ else ⟨sgn x, hB (mant x).toNat (-expo x).toNat, rB (mant x).toNat (-expo x).toNat, (mant x).toNat / 2 ^ (-expo x).toNat⟩
def roundW (p : Sp) (way : Int) : Nat := p.q + if moreW way p.s p.h p.r p.q then 1 else 0
def okWay (way : Int) : Prop := 0 ≤ way ∧ way ≤ 5
def wholeI (x way : Int) : Int :=
  if way < 0 ∨ 5 < way then 0 else if kd x = 4 then NAN else if kd x = 3 then x else if 0 ≤ expo x then x else fbits (sgn x) (roundW (spW x) way) 0 false
def wholeE (way : Int) : Int := if way < 0 ∨ 5 < way then 1 else 0
def isW (x : Int) : Bool := decide (kd x < 3) && !((spW x).h || (spW x).r)
theorem sp_bd (x : Int) : (spW x).q ≤ 9007199254740991 := by
  have := mant_bd (x := x)
  unfold spW
  split
  · show (mant x).toNat ≤ _; omega
  · show (mant x).toNat / 2 ^ (-expo x).toNat ≤ _
    have := Nat.div_le_self (mant x).toNat (2 ^ (-expo x).toNat)
    omega
end Go.Proofs.Ytjlmchbpdkojeaa
