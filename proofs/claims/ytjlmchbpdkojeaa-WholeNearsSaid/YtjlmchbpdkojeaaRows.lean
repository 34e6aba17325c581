/-
  No cell of these rows narrows 'for every input' (looked for: loops, veiled, ifaces, maps, wideKeys, modest, calm, conditions, laid).
  DERIVED. THE GIVEN ROWS OF THIS SEAT. 6 by the template 'for every input the law returns true; each argument reads behind the call as it read before'; 0 by the template 'total and deterministic' (their statements: YtjlmchbpdkojeaaTotals.lean).
  GIVEN WITH THE SEED: the statements are not yours to turn. If you find one false, say at which input.
  Laid BY PROGRAM, IN A SANDBOX (cutbox-rows.mjs): the forced cells as the released guide's own fill.sh prints them over the translation 9444ac686dec1085… (all of the seat's roots in one cut). By AI agents, Wed Nov 11 2026. No macro, syntax, notation, axiom, sorry.
-/
import Derived.Test.YtjlmchbpdkojeaaChecked
import GoSem.Claim
import GoSem.ClaimJoined
import GoSem.ClaimMapViews
import Derived.JoinedTies
import Derived.KernelRfl
namespace Go.Proofs.Ytjlmchbpdkojeaa
/- THE CELL 'sum', in the pinned program and in every row, IS THE sha256 OF THE DUMP (.gsa) THAT YtjlmchbpdkojeaaProg.lean LOADS. Nothing in Lean hashes anything: it is a label: what it is worth is what the hold of that sum in a sandbox is worth. -/
noncomputable def Try.pinned : Pinned := { name := "ytjlmchbpdkojeaa", sum := "9444ac686dec1085c42cad6532b2d3903a6c7ad9fd8b62671e7b6a4f050c568e", checked := Try.checked }
namespace Rows
def none {H : Type} : Left H := { results := [], args := [] }

/-- 'tabardlaw6.WholeCompares': WHATEVER THE INPUT: true; the input reads as it did. -/
def wholeComparesSpec : ChangeSpec := { name := "wholeCompares", fn := fun _ => fun
  | [d1, d2] => { results := [.lit (.bool true)], args := [d1, d2] }
  | _ => none }
def wholeComparesRow : OpenClaim := { program := "ytjlmchbpdkojeaa", sum := "9444ac686dec1085c42cad6532b2d3903a6c7ad9fd8b62671e7b6a4f050c568e", func := "tabard/tabardlaw6.WholeCompares", spec := "wholeCompares", unfollowed := true, recurses := true, apart := false }
def WholeComparesSaid : Prop := wholeComparesRow.holds Try.pinned (OpenSpec.ofChange wholeComparesSpec)

/-- ITS FALSE NEIGHBOUR: 'it returns false'. Refute it at one input. -/
def wholeComparesWrong : ChangeSpec := { name := "wholeCompares", fn := fun _ => fun
  | [d1, d2] => { results := [.lit (.bool false)], args := [d1, d2] }
  | _ => none }
def WholeComparesWrongFalsely : Prop := wholeComparesRow.holds Try.pinned (OpenSpec.ofChange wholeComparesWrong)

/-- 'tabardlaw6.WholeRounds': WHATEVER THE INPUT: true; the input reads as it did. -/
def wholeRoundsSpec : ChangeSpec := { name := "wholeRounds", fn := fun _ => fun
  | [d1, d2] => { results := [.lit (.bool true)], args := [d1, d2] }
  | _ => none }
def wholeRoundsRow : OpenClaim := { program := "ytjlmchbpdkojeaa", sum := "9444ac686dec1085c42cad6532b2d3903a6c7ad9fd8b62671e7b6a4f050c568e", func := "tabard/tabardlaw6.WholeRounds", spec := "wholeRounds", unfollowed := true, recurses := true, apart := false }
def WholeRoundsSaid : Prop := wholeRoundsRow.holds Try.pinned (OpenSpec.ofChange wholeRoundsSpec)

/-- ITS FALSE NEIGHBOUR: 'it returns false'. Refute it at one input. -/
def wholeRoundsWrong : ChangeSpec := { name := "wholeRounds", fn := fun _ => fun
  | [d1, d2] => { results := [.lit (.bool false)], args := [d1, d2] }
  | _ => none }
def WholeRoundsWrongFalsely : Prop := wholeRoundsRow.holds Try.pinned (OpenSpec.ofChange wholeRoundsWrong)

/-- 'tabardlaw6.WholeInts': WHATEVER THE INPUT: true; the input reads as it did. -/
def wholeIntsSpec : ChangeSpec := { name := "wholeInts", fn := fun _ => fun
  | [d1, d2, d3] => { results := [.lit (.bool true)], args := [d1, d2, d3] }
  | _ => none }
def wholeIntsRow : OpenClaim := { program := "ytjlmchbpdkojeaa", sum := "9444ac686dec1085c42cad6532b2d3903a6c7ad9fd8b62671e7b6a4f050c568e", func := "tabard/tabardlaw6.WholeInts", spec := "wholeInts", unfollowed := true, recurses := true, apart := false }
def WholeIntsSaid : Prop := wholeIntsRow.holds Try.pinned (OpenSpec.ofChange wholeIntsSpec)

/-- ITS FALSE NEIGHBOUR: 'it returns false'. Refute it at one input. -/
def wholeIntsWrong : ChangeSpec := { name := "wholeInts", fn := fun _ => fun
  | [d1, d2, d3] => { results := [.lit (.bool false)], args := [d1, d2, d3] }
  | _ => none }
def WholeIntsWrongFalsely : Prop := wholeIntsRow.holds Try.pinned (OpenSpec.ofChange wholeIntsWrong)

/-- 'tabardlaw6.WholeOrders': WHATEVER THE INPUT: true; the input reads as it did. -/
def wholeOrdersSpec : ChangeSpec := { name := "wholeOrders", fn := fun _ => fun
  | [d1, d2, d3] => { results := [.lit (.bool true)], args := [d1, d2, d3] }
  | _ => none }
def wholeOrdersRow : OpenClaim := { program := "ytjlmchbpdkojeaa", sum := "9444ac686dec1085c42cad6532b2d3903a6c7ad9fd8b62671e7b6a4f050c568e", func := "tabard/tabardlaw6.WholeOrders", spec := "wholeOrders", unfollowed := true, recurses := true, apart := false }
def WholeOrdersSaid : Prop := wholeOrdersRow.holds Try.pinned (OpenSpec.ofChange wholeOrdersSpec)

/-- ITS FALSE NEIGHBOUR: 'it returns false'. Refute it at one input. -/
def wholeOrdersWrong : ChangeSpec := { name := "wholeOrders", fn := fun _ => fun
  | [d1, d2, d3] => { results := [.lit (.bool false)], args := [d1, d2, d3] }
  | _ => none }
def WholeOrdersWrongFalsely : Prop := wholeOrdersRow.holds Try.pinned (OpenSpec.ofChange wholeOrdersWrong)

/-- 'tabardlaw6.WholeBack': WHATEVER THE INPUT: true; the input reads as it did. -/
def wholeBackSpec : ChangeSpec := { name := "wholeBack", fn := fun _ => fun
  | [d1, d2] => { results := [.lit (.bool true)], args := [d1, d2] }
  | _ => none }
def wholeBackRow : OpenClaim := { program := "ytjlmchbpdkojeaa", sum := "9444ac686dec1085c42cad6532b2d3903a6c7ad9fd8b62671e7b6a4f050c568e", func := "tabard/tabardlaw6.WholeBack", spec := "wholeBack", unfollowed := true, recurses := true, apart := false }
def WholeBackSaid : Prop := wholeBackRow.holds Try.pinned (OpenSpec.ofChange wholeBackSpec)

/-- ITS FALSE NEIGHBOUR: 'it returns false'. Refute it at one input. -/
def wholeBackWrong : ChangeSpec := { name := "wholeBack", fn := fun _ => fun
  | [d1, d2] => { results := [.lit (.bool false)], args := [d1, d2] }
  | _ => none }
def WholeBackWrongFalsely : Prop := wholeBackRow.holds Try.pinned (OpenSpec.ofChange wholeBackWrong)

/-- 'tabardlaw6.WholeNears': WHATEVER THE INPUT: true; the input reads as it did. -/
def wholeNearsSpec : ChangeSpec := { name := "wholeNears", fn := fun _ => fun
  | [d] => { results := [.lit (.bool true)], args := [d] }
  | _ => none }
def wholeNearsRow : OpenClaim := { program := "ytjlmchbpdkojeaa", sum := "9444ac686dec1085c42cad6532b2d3903a6c7ad9fd8b62671e7b6a4f050c568e", func := "tabard/tabardlaw6.WholeNears", spec := "wholeNears", inPlace := ["math/bits.Add64", "math/bits.Sub64"], unfollowed := true, recurses := true, apart := false }
def WholeNearsSaid : Prop := wholeNearsRow.holds Try.pinned (OpenSpec.ofChange wholeNearsSpec)

/-- ITS FALSE NEIGHBOUR: 'it returns false'. Refute it at one input. -/
def wholeNearsWrong : ChangeSpec := { name := "wholeNears", fn := fun _ => fun
  | [d] => { results := [.lit (.bool false)], args := [d] }
  | _ => none }
def WholeNearsWrongFalsely : Prop := wholeNearsRow.holds Try.pinned (OpenSpec.ofChange wholeNearsWrong)

/- THE SECOND FORM. 'bulk': how many values and letters a reading holds, each counted each time it is reached (what is shared counts as often as it is met; a slice's spare places count too). A statement '..UptoSaid' is the law's where the arguments, and the package variables that the reading takes, are together of bulk at most 1048576: NARROWER than '..Said'. Prove '..Said' where nothing that the law and all that it calls make is longer than what came in: it says more and counts as full. Else prove '..UptoSaid'. A law counts once. -/
mutual
def uptoBulk {H : Type} : DataW H → Nat
  | .lit (.string bytes) => bytes.length + 1
  | .lit _ => 1
  | .nil => 1
  | .ptr d => uptoBulk d + 1
  | .slice elems spare => uptoBulkAll elems + uptoBulkAll spare + 1
  | .agg parts => uptoBulkAll parts + 1
  | .iface _ d => uptoBulk d + 1
  | .map entries => uptoBulkEntries entries + 1
  | .held _ => 1
def uptoBulkAll {H : Type} : List (DataW H) → Nat
  | [] => 0
  | d :: r => uptoBulk d + uptoBulkAll r
def uptoBulkEntries {H : Type} : List (Lit × DataW H) → Nat
  | [] => 0
  | x :: r => uptoBulkEntry x + uptoBulkEntries r
def uptoBulkEntry {H : Type} : Lit × DataW H → Nat
  | (.string bytes, d) => bytes.length + uptoBulk d + 1
  | (_, d) => uptoBulk d + 1
 end
def uptoSmall : (H : Type) → List (DataW H) → Bool := fun _ ds => decide (uptoBulkAll ds ≤ 1048576)
def OpenSpec.upto (s : _root_.Go.ChangeSpec) : _root_.Go.OpenSpec := { _root_.Go.OpenSpec.ofChange s with cond := some uptoSmall }

/-- 'tabardlaw6.WholeCompares', WHERE WHAT IT READS IS OF BULK AT MOST 1048576: true; the input reads as it did. -/
def wholeComparesUptoRow : OpenClaim := { program := "ytjlmchbpdkojeaa", sum := "9444ac686dec1085c42cad6532b2d3903a6c7ad9fd8b62671e7b6a4f050c568e", func := "tabard/tabardlaw6.WholeCompares", spec := "wholeCompares", unfollowed := true, recurses := true, apart := false, narrowed := true }
def WholeComparesUptoSaid : Prop := wholeComparesUptoRow.holds Try.pinned (OpenSpec.upto wholeComparesSpec)

/-- 'tabardlaw6.WholeRounds', WHERE WHAT IT READS IS OF BULK AT MOST 1048576: true; the input reads as it did. -/
def wholeRoundsUptoRow : OpenClaim := { program := "ytjlmchbpdkojeaa", sum := "9444ac686dec1085c42cad6532b2d3903a6c7ad9fd8b62671e7b6a4f050c568e", func := "tabard/tabardlaw6.WholeRounds", spec := "wholeRounds", unfollowed := true, recurses := true, apart := false, narrowed := true }
def WholeRoundsUptoSaid : Prop := wholeRoundsUptoRow.holds Try.pinned (OpenSpec.upto wholeRoundsSpec)

/-- 'tabardlaw6.WholeInts', WHERE WHAT IT READS IS OF BULK AT MOST 1048576: true; the input reads as it did. -/
def wholeIntsUptoRow : OpenClaim := { program := "ytjlmchbpdkojeaa", sum := "9444ac686dec1085c42cad6532b2d3903a6c7ad9fd8b62671e7b6a4f050c568e", func := "tabard/tabardlaw6.WholeInts", spec := "wholeInts", unfollowed := true, recurses := true, apart := false, narrowed := true }
def WholeIntsUptoSaid : Prop := wholeIntsUptoRow.holds Try.pinned (OpenSpec.upto wholeIntsSpec)

/-- 'tabardlaw6.WholeOrders', WHERE WHAT IT READS IS OF BULK AT MOST 1048576: true; the input reads as it did. -/
def wholeOrdersUptoRow : OpenClaim := { program := "ytjlmchbpdkojeaa", sum := "9444ac686dec1085c42cad6532b2d3903a6c7ad9fd8b62671e7b6a4f050c568e", func := "tabard/tabardlaw6.WholeOrders", spec := "wholeOrders", unfollowed := true, recurses := true, apart := false, narrowed := true }
def WholeOrdersUptoSaid : Prop := wholeOrdersUptoRow.holds Try.pinned (OpenSpec.upto wholeOrdersSpec)

/-- 'tabardlaw6.WholeBack', WHERE WHAT IT READS IS OF BULK AT MOST 1048576: true; the input reads as it did. -/
def wholeBackUptoRow : OpenClaim := { program := "ytjlmchbpdkojeaa", sum := "9444ac686dec1085c42cad6532b2d3903a6c7ad9fd8b62671e7b6a4f050c568e", func := "tabard/tabardlaw6.WholeBack", spec := "wholeBack", unfollowed := true, recurses := true, apart := false, narrowed := true }
def WholeBackUptoSaid : Prop := wholeBackUptoRow.holds Try.pinned (OpenSpec.upto wholeBackSpec)

/-- 'tabardlaw6.WholeNears', WHERE WHAT IT READS IS OF BULK AT MOST 1048576: true; the input reads as it did. -/
def wholeNearsUptoRow : OpenClaim := { program := "ytjlmchbpdkojeaa", sum := "9444ac686dec1085c42cad6532b2d3903a6c7ad9fd8b62671e7b6a4f050c568e", func := "tabard/tabardlaw6.WholeNears", spec := "wholeNears", inPlace := ["math/bits.Add64", "math/bits.Sub64"], unfollowed := true, recurses := true, apart := false, narrowed := true }
def WholeNearsUptoSaid : Prop := wholeNearsUptoRow.holds Try.pinned (OpenSpec.upto wholeNearsSpec)

end Rows
end Go.Proofs.Ytjlmchbpdkojeaa
