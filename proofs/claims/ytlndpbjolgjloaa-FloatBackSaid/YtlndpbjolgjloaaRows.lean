/-
  No cell of these rows narrows 'for every input' (looked for: loops, veiled, ifaces, maps, wideKeys, modest, calm, conditions, laid).
  DERIVED. THE GIVEN ROWS OF THIS SEAT. 6 by the template 'for every input the law returns true; each argument reads behind the call as it read before'; 0 by the template 'total and deterministic' (their statements: YtlndpbjolgjloaaTotals.lean).
  GIVEN WITH THE SEED: the statements are not yours to turn. If you find one false, say at which input.
  Laid BY PROGRAM, IN A SANDBOX (cutbox-rows.mjs): the forced cells as the released guide's own fill.sh prints them over the translation 5a0b299eeaccc30b… (all of the seat's roots in one cut). By AI agents, Wed Nov 11 2026. No macro, syntax, notation, axiom, sorry.
-/
import Derived.Test.YtlndpbjolgjloaaChecked
import GoSem.Claim
import GoSem.ClaimJoined
import GoSem.ClaimMapViews
import Derived.JoinedTies
import Derived.KernelRfl
namespace Go.Proofs.Ytlndpbjolgjloaa
/- THE CELL 'sum', in the pinned program and in every row, IS THE sha256 OF THE DUMP (.gsa) THAT YtlndpbjolgjloaaProg.lean LOADS. Nothing in Lean hashes anything: it is a label: what it is worth is what the hold of that sum in a sandbox is worth. -/
noncomputable def Try.pinned : Pinned := { name := "ytlndpbjolgjloaa", sum := "5a0b299eeaccc30b555497f575d774bc8634d3006e56f77077fe00ca661d945d", checked := Try.checked }
namespace Rows
def none {H : Type} : Left H := { results := [], args := [] }

/-- 'tabardlaw3.FloatJoins': WHATEVER THE INPUT: true; the input reads as it did. -/
def floatJoinsSpec : ChangeSpec := { name := "floatJoins", fn := fun _ => fun
  | [d1, d2, d3, d4] => { results := [.lit (.bool true)], args := [d1, d2, d3, d4] }
  | _ => none }
def floatJoinsRow : OpenClaim := { program := "ytlndpbjolgjloaa", sum := "5a0b299eeaccc30b555497f575d774bc8634d3006e56f77077fe00ca661d945d", func := "tabard/tabardlaw3.FloatJoins", spec := "floatJoins", unfollowed := true, recurses := true, apart := false }
def FloatJoinsSaid : Prop := floatJoinsRow.holds Try.pinned (OpenSpec.ofChange floatJoinsSpec)

/-- ITS FALSE NEIGHBOUR: 'it returns false'. Refute it at one input. -/
def floatJoinsWrong : ChangeSpec := { name := "floatJoins", fn := fun _ => fun
  | [d1, d2, d3, d4] => { results := [.lit (.bool false)], args := [d1, d2, d3, d4] }
  | _ => none }
def FloatJoinsWrongFalsely : Prop := floatJoinsRow.holds Try.pinned (OpenSpec.ofChange floatJoinsWrong)

/-- 'tabardlaw3.FloatNexts': WHATEVER THE INPUT: true; the input reads as it did. -/
def floatNextsSpec : ChangeSpec := { name := "floatNexts", fn := fun _ => fun
  | [d] => { results := [.lit (.bool true)], args := [d] }
  | _ => none }
def floatNextsRow : OpenClaim := { program := "ytlndpbjolgjloaa", sum := "5a0b299eeaccc30b555497f575d774bc8634d3006e56f77077fe00ca661d945d", func := "tabard/tabardlaw3.FloatNexts", spec := "floatNexts", unfollowed := true, recurses := true, apart := false }
def FloatNextsSaid : Prop := floatNextsRow.holds Try.pinned (OpenSpec.ofChange floatNextsSpec)

/-- ITS FALSE NEIGHBOUR: 'it returns false'. Refute it at one input. -/
def floatNextsWrong : ChangeSpec := { name := "floatNexts", fn := fun _ => fun
  | [d] => { results := [.lit (.bool false)], args := [d] }
  | _ => none }
def FloatNextsWrongFalsely : Prop := floatNextsRow.holds Try.pinned (OpenSpec.ofChange floatNextsWrong)

/-- 'tabardlaw3.FloatOrders': WHATEVER THE INPUT: true; the input reads as it did. -/
def floatOrdersSpec : ChangeSpec := { name := "floatOrders", fn := fun _ => fun
  | [d1, d2, d3] => { results := [.lit (.bool true)], args := [d1, d2, d3] }
  | _ => none }
def floatOrdersRow : OpenClaim := { program := "ytlndpbjolgjloaa", sum := "5a0b299eeaccc30b555497f575d774bc8634d3006e56f77077fe00ca661d945d", func := "tabard/tabardlaw3.FloatOrders", spec := "floatOrders", unfollowed := true, recurses := true, apart := false }
def FloatOrdersSaid : Prop := floatOrdersRow.holds Try.pinned (OpenSpec.ofChange floatOrdersSpec)

/-- ITS FALSE NEIGHBOUR: 'it returns false'. Refute it at one input. -/
def floatOrdersWrong : ChangeSpec := { name := "floatOrders", fn := fun _ => fun
  | [d1, d2, d3] => { results := [.lit (.bool false)], args := [d1, d2, d3] }
  | _ => none }
def FloatOrdersWrongFalsely : Prop := floatOrdersRow.holds Try.pinned (OpenSpec.ofChange floatOrdersWrong)

/-- 'tabardlaw3.FloatParts': WHATEVER THE INPUT: true; the input reads as it did. -/
def floatPartsSpec : ChangeSpec := { name := "floatParts", fn := fun _ => fun
  | [d] => { results := [.lit (.bool true)], args := [d] }
  | _ => none }
def floatPartsRow : OpenClaim := { program := "ytlndpbjolgjloaa", sum := "5a0b299eeaccc30b555497f575d774bc8634d3006e56f77077fe00ca661d945d", func := "tabard/tabardlaw3.FloatParts", spec := "floatParts", unfollowed := true, recurses := true, apart := false }
def FloatPartsSaid : Prop := floatPartsRow.holds Try.pinned (OpenSpec.ofChange floatPartsSpec)

/-- ITS FALSE NEIGHBOUR: 'it returns false'. Refute it at one input. -/
def floatPartsWrong : ChangeSpec := { name := "floatParts", fn := fun _ => fun
  | [d] => { results := [.lit (.bool false)], args := [d] }
  | _ => none }
def FloatPartsWrongFalsely : Prop := floatPartsRow.holds Try.pinned (OpenSpec.ofChange floatPartsWrong)

/-- 'tabardlaw3.FloatRounds': WHATEVER THE INPUT: true; the input reads as it did. -/
def floatRoundsSpec : ChangeSpec := { name := "floatRounds", fn := fun _ => fun
  | [d1, d2, d3, d4] => { results := [.lit (.bool true)], args := [d1, d2, d3, d4] }
  | _ => none }
def floatRoundsRow : OpenClaim := { program := "ytlndpbjolgjloaa", sum := "5a0b299eeaccc30b555497f575d774bc8634d3006e56f77077fe00ca661d945d", func := "tabard/tabardlaw3.FloatRounds", spec := "floatRounds", unfollowed := true, recurses := true, apart := false }
def FloatRoundsSaid : Prop := floatRoundsRow.holds Try.pinned (OpenSpec.ofChange floatRoundsSpec)

/-- ITS FALSE NEIGHBOUR: 'it returns false'. Refute it at one input. -/
def floatRoundsWrong : ChangeSpec := { name := "floatRounds", fn := fun _ => fun
  | [d1, d2, d3, d4] => { results := [.lit (.bool false)], args := [d1, d2, d3, d4] }
  | _ => none }
def FloatRoundsWrongFalsely : Prop := floatRoundsRow.holds Try.pinned (OpenSpec.ofChange floatRoundsWrong)

/-- 'tabardlaw3.FloatBack': WHATEVER THE INPUT: true; the input reads as it did. -/
def floatBackSpec : ChangeSpec := { name := "floatBack", fn := fun _ => fun
  | [d] => { results := [.lit (.bool true)], args := [d] }
  | _ => none }
def floatBackRow : OpenClaim := { program := "ytlndpbjolgjloaa", sum := "5a0b299eeaccc30b555497f575d774bc8634d3006e56f77077fe00ca661d945d", func := "tabard/tabardlaw3.FloatBack", spec := "floatBack", unfollowed := true, recurses := true, apart := false }
def FloatBackSaid : Prop := floatBackRow.holds Try.pinned (OpenSpec.ofChange floatBackSpec)

/-- ITS FALSE NEIGHBOUR: 'it returns false'. Refute it at one input. -/
def floatBackWrong : ChangeSpec := { name := "floatBack", fn := fun _ => fun
  | [d] => { results := [.lit (.bool false)], args := [d] }
  | _ => none }
def FloatBackWrongFalsely : Prop := floatBackRow.holds Try.pinned (OpenSpec.ofChange floatBackWrong)

/- THE SECOND FORM. 'bulk': how many values and letters a reading holds, each counted each time it is reached (what is shared counts as often as it is met; a slice's spare places count too). A statement '..UptoSaid' is the law's where the arguments, and the package variables that the reading takes, are together of bulk at most 1048576: NARROWER than '..Said'. Prove '..Said' where nothing that the law and all that it calls make is longer than what came in: it says more and counts as full. Else prove '..UptoSaid'. A law counts once. -/
mutual
def uptoBulk {H : Type} : DataW H → Nat
  | .lit (.string bytes) => bytes.length + 1
  | .lit _ => 1
  | .nil => 1
  | .ptr d => uptoBulk d + 1
  | .slice elems spare => uptoBulkAll elems + uptoBulkAll spare + 1
  | .agg parts => uptoBulkAll parts + 1
  | .iface _ d => uptoBulk d + 1
  | .map entries => uptoBulkEntries entries + 1
  | .held _ => 1
def uptoBulkAll {H : Type} : List (DataW H) → Nat
  | [] => 0
  | d :: r => uptoBulk d + uptoBulkAll r
def uptoBulkEntries {H : Type} : List (Lit × DataW H) → Nat
  | [] => 0
  | x :: r => uptoBulkEntry x + uptoBulkEntries r
def uptoBulkEntry {H : Type} : Lit × DataW H → Nat
  | (.string bytes, d) => bytes.length + uptoBulk d + 1
  | (_, d) => uptoBulk d + 1
 end
def uptoSmall : (H : Type) → List (DataW H) → Bool := fun _ ds => decide (uptoBulkAll ds ≤ 1048576)
def OpenSpec.upto (s : _root_.Go.ChangeSpec) : _root_.Go.OpenSpec := { _root_.Go.OpenSpec.ofChange s with cond := some uptoSmall }

/-- 'tabardlaw3.FloatJoins', WHERE WHAT IT READS IS OF BULK AT MOST 1048576: true; the input reads as it did. -/
def floatJoinsUptoRow : OpenClaim := { program := "ytlndpbjolgjloaa", sum := "5a0b299eeaccc30b555497f575d774bc8634d3006e56f77077fe00ca661d945d", func := "tabard/tabardlaw3.FloatJoins", spec := "floatJoins", unfollowed := true, recurses := true, apart := false, narrowed := true }
def FloatJoinsUptoSaid : Prop := floatJoinsUptoRow.holds Try.pinned (OpenSpec.upto floatJoinsSpec)

/-- 'tabardlaw3.FloatNexts', WHERE WHAT IT READS IS OF BULK AT MOST 1048576: true; the input reads as it did. -/
def floatNextsUptoRow : OpenClaim := { program := "ytlndpbjolgjloaa", sum := "5a0b299eeaccc30b555497f575d774bc8634d3006e56f77077fe00ca661d945d", func := "tabard/tabardlaw3.FloatNexts", spec := "floatNexts", unfollowed := true, recurses := true, apart := false, narrowed := true }
def FloatNextsUptoSaid : Prop := floatNextsUptoRow.holds Try.pinned (OpenSpec.upto floatNextsSpec)

/-- 'tabardlaw3.FloatOrders', WHERE WHAT IT READS IS OF BULK AT MOST 1048576: true; the input reads as it did. -/
def floatOrdersUptoRow : OpenClaim := { program := "ytlndpbjolgjloaa", sum := "5a0b299eeaccc30b555497f575d774bc8634d3006e56f77077fe00ca661d945d", func := "tabard/tabardlaw3.FloatOrders", spec := "floatOrders", unfollowed := true, recurses := true, apart := false, narrowed := true }
def FloatOrdersUptoSaid : Prop := floatOrdersUptoRow.holds Try.pinned (OpenSpec.upto floatOrdersSpec)

/-- 'tabardlaw3.FloatParts', WHERE WHAT IT READS IS OF BULK AT MOST 1048576: true; the input reads as it did. -/
def floatPartsUptoRow : OpenClaim := { program := "ytlndpbjolgjloaa", sum := "5a0b299eeaccc30b555497f575d774bc8634d3006e56f77077fe00ca661d945d", func := "tabard/tabardlaw3.FloatParts", spec := "floatParts", unfollowed := true, recurses := true, apart := false, narrowed := true }
def FloatPartsUptoSaid : Prop := floatPartsUptoRow.holds Try.pinned (OpenSpec.upto floatPartsSpec)

/-- 'tabardlaw3.FloatRounds', WHERE WHAT IT READS IS OF BULK AT MOST 1048576: true; the input reads as it did. -/
def floatRoundsUptoRow : OpenClaim := { program := "ytlndpbjolgjloaa", sum := "5a0b299eeaccc30b555497f575d774bc8634d3006e56f77077fe00ca661d945d", func := "tabard/tabardlaw3.FloatRounds", spec := "floatRounds", unfollowed := true, recurses := true, apart := false, narrowed := true }
def FloatRoundsUptoSaid : Prop := floatRoundsUptoRow.holds Try.pinned (OpenSpec.upto floatRoundsSpec)

/-- 'tabardlaw3.FloatBack', WHERE WHAT IT READS IS OF BULK AT MOST 1048576: true; the input reads as it did. -/
def floatBackUptoRow : OpenClaim := { program := "ytlndpbjolgjloaa", sum := "5a0b299eeaccc30b555497f575d774bc8634d3006e56f77077fe00ca661d945d", func := "tabard/tabardlaw3.FloatBack", spec := "floatBack", unfollowed := true, recurses := true, apart := false, narrowed := true }
def FloatBackUptoSaid : Prop := floatBackUptoRow.holds Try.pinned (OpenSpec.upto floatBackSpec)

end Rows
end Go.Proofs.Ytlndpbjolgjloaa
