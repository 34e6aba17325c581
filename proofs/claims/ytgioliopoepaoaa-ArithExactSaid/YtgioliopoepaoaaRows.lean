/-
  No cell of these rows narrows 'for every input' (looked for: loops, veiled, ifaces, maps, wideKeys, modest, calm, conditions, laid).
  DERIVED. THE GIVEN ROWS OF THIS SEAT. 7 by the template 'for every input the law returns true; each argument reads behind the call as it read before'; 0 by the template 'total and deterministic' (their statements: YtgioliopoepaoaaTotals.lean).
  GIVEN WITH THE SEED: the statements are not yours to turn. If you find one false, say at which input.
  Laid BY PROGRAM, IN A SANDBOX (cutbox-rows.mjs): the forced cells as the released guide's own fill.sh prints them over the translation 925044f758ef9dab… (all of the seat's roots in one cut). By AI agents, Wed Nov 11 2026. No macro, syntax, notation, axiom, sorry.
-/
import Derived.Test.YtgioliopoepaoaaChecked
import GoSem.Claim
import GoSem.ClaimJoined
import GoSem.ClaimMapViews
import Derived.JoinedTies
import Derived.KernelRfl
namespace Go.Proofs.Ytgioliopoepaoaa
/- THE CELL 'sum', in the pinned program and in every row, IS THE sha256 OF THE DUMP (.gsa) THAT YtgioliopoepaoaaProg.lean LOADS. Nothing in Lean hashes anything: it is a label: what it is worth is what the hold of that sum in a sandbox is worth. -/
noncomputable def Try.pinned : Pinned := { name := "ytgioliopoepaoaa", sum := "925044f758ef9dabc0961cb1e8ca3e4b1af48429d6dddfa49592def9296f7c0f", checked := Try.checked }
namespace Rows
def none {H : Type} : Left H := { results := [], args := [] }

/-- 'tabardlaw4.ArithAdds': WHATEVER THE INPUT: true; the input reads as it did. -/
def arithAddsSpec : ChangeSpec := { name := "arithAdds", fn := fun _ => fun
  | [d1, d2] => { results := [.lit (.bool true)], args := [d1, d2] }
  | _ => none }
def arithAddsRow : OpenClaim := { program := "ytgioliopoepaoaa", sum := "925044f758ef9dabc0961cb1e8ca3e4b1af48429d6dddfa49592def9296f7c0f", func := "tabard/tabardlaw4.ArithAdds", spec := "arithAdds", inPlace := ["math/bits.Add64", "math/bits.Sub64"], unfollowed := true, recurses := true, apart := false }
def ArithAddsSaid : Prop := arithAddsRow.holds Try.pinned (OpenSpec.ofChange arithAddsSpec)

/-- ITS FALSE NEIGHBOUR: 'it returns false'. Refute it at one input. -/
def arithAddsWrong : ChangeSpec := { name := "arithAdds", fn := fun _ => fun
  | [d1, d2] => { results := [.lit (.bool false)], args := [d1, d2] }
  | _ => none }
def ArithAddsWrongFalsely : Prop := arithAddsRow.holds Try.pinned (OpenSpec.ofChange arithAddsWrong)

/-- 'tabardlaw4.ArithMuls': WHATEVER THE INPUT: true; the input reads as it did. -/
def arithMulsSpec : ChangeSpec := { name := "arithMuls", fn := fun _ => fun
  | [d1, d2] => { results := [.lit (.bool true)], args := [d1, d2] }
  | _ => none }
def arithMulsRow : OpenClaim := { program := "ytgioliopoepaoaa", sum := "925044f758ef9dabc0961cb1e8ca3e4b1af48429d6dddfa49592def9296f7c0f", func := "tabard/tabardlaw4.ArithMuls", spec := "arithMuls", inPlace := ["math/bits.Add64", "math/bits.Sub64"], unfollowed := true, recurses := true, apart := false }
def ArithMulsSaid : Prop := arithMulsRow.holds Try.pinned (OpenSpec.ofChange arithMulsSpec)

/-- ITS FALSE NEIGHBOUR: 'it returns false'. Refute it at one input. -/
def arithMulsWrong : ChangeSpec := { name := "arithMuls", fn := fun _ => fun
  | [d1, d2] => { results := [.lit (.bool false)], args := [d1, d2] }
  | _ => none }
def ArithMulsWrongFalsely : Prop := arithMulsRow.holds Try.pinned (OpenSpec.ofChange arithMulsWrong)

/-- 'tabardlaw4.ArithSums': WHATEVER THE INPUT: true; the input reads as it did. -/
def arithSumsSpec : ChangeSpec := { name := "arithSums", fn := fun _ => fun
  | [d] => { results := [.lit (.bool true)], args := [d] }
  | _ => none }
def arithSumsRow : OpenClaim := { program := "ytgioliopoepaoaa", sum := "925044f758ef9dabc0961cb1e8ca3e4b1af48429d6dddfa49592def9296f7c0f", func := "tabard/tabardlaw4.ArithSums", spec := "arithSums", inPlace := ["math/bits.Add64", "math/bits.Sub64"], unfollowed := true, recurses := true, apart := false }
def ArithSumsSaid : Prop := arithSumsRow.holds Try.pinned (OpenSpec.ofChange arithSumsSpec)

/-- ITS FALSE NEIGHBOUR: 'it returns false'. Refute it at one input. -/
def arithSumsWrong : ChangeSpec := { name := "arithSums", fn := fun _ => fun
  | [d] => { results := [.lit (.bool false)], args := [d] }
  | _ => none }
def ArithSumsWrongFalsely : Prop := arithSumsRow.holds Try.pinned (OpenSpec.ofChange arithSumsWrong)

/-- 'tabardlaw4.ArithTurns': WHATEVER THE INPUT: true; the input reads as it did. -/
def arithTurnsSpec : ChangeSpec := { name := "arithTurns", fn := fun _ => fun
  | [d1, d2] => { results := [.lit (.bool true)], args := [d1, d2] }
  | _ => none }
def arithTurnsRow : OpenClaim := { program := "ytgioliopoepaoaa", sum := "925044f758ef9dabc0961cb1e8ca3e4b1af48429d6dddfa49592def9296f7c0f", func := "tabard/tabardlaw4.ArithTurns", spec := "arithTurns", inPlace := ["math/bits.Add64", "math/bits.Sub64"], unfollowed := true, recurses := true, apart := false }
def ArithTurnsSaid : Prop := arithTurnsRow.holds Try.pinned (OpenSpec.ofChange arithTurnsSpec)

/-- ITS FALSE NEIGHBOUR: 'it returns false'. Refute it at one input. -/
def arithTurnsWrong : ChangeSpec := { name := "arithTurns", fn := fun _ => fun
  | [d1, d2] => { results := [.lit (.bool false)], args := [d1, d2] }
  | _ => none }
def ArithTurnsWrongFalsely : Prop := arithTurnsRow.holds Try.pinned (OpenSpec.ofChange arithTurnsWrong)

/-- 'tabardlaw4.ArithPlain': WHATEVER THE INPUT: true; the input reads as it did. -/
def arithPlainSpec : ChangeSpec := { name := "arithPlain", fn := fun _ => fun
  | [d] => { results := [.lit (.bool true)], args := [d] }
  | _ => none }
def arithPlainRow : OpenClaim := { program := "ytgioliopoepaoaa", sum := "925044f758ef9dabc0961cb1e8ca3e4b1af48429d6dddfa49592def9296f7c0f", func := "tabard/tabardlaw4.ArithPlain", spec := "arithPlain", inPlace := ["math/bits.Add64", "math/bits.Sub64"], unfollowed := true, recurses := true, apart := false }
def ArithPlainSaid : Prop := arithPlainRow.holds Try.pinned (OpenSpec.ofChange arithPlainSpec)

/-- ITS FALSE NEIGHBOUR: 'it returns false'. Refute it at one input. -/
def arithPlainWrong : ChangeSpec := { name := "arithPlain", fn := fun _ => fun
  | [d] => { results := [.lit (.bool false)], args := [d] }
  | _ => none }
def ArithPlainWrongFalsely : Prop := arithPlainRow.holds Try.pinned (OpenSpec.ofChange arithPlainWrong)

/-- 'tabardlaw4.ArithOrders': WHATEVER THE INPUT: true; the input reads as it did. -/
def arithOrdersSpec : ChangeSpec := { name := "arithOrders", fn := fun _ => fun
  | [d1, d2, d3] => { results := [.lit (.bool true)], args := [d1, d2, d3] }
  | _ => none }
def arithOrdersRow : OpenClaim := { program := "ytgioliopoepaoaa", sum := "925044f758ef9dabc0961cb1e8ca3e4b1af48429d6dddfa49592def9296f7c0f", func := "tabard/tabardlaw4.ArithOrders", spec := "arithOrders", inPlace := ["math/bits.Add64", "math/bits.Sub64"], unfollowed := true, recurses := true, apart := false }
def ArithOrdersSaid : Prop := arithOrdersRow.holds Try.pinned (OpenSpec.ofChange arithOrdersSpec)

/-- ITS FALSE NEIGHBOUR: 'it returns false'. Refute it at one input. -/
def arithOrdersWrong : ChangeSpec := { name := "arithOrders", fn := fun _ => fun
  | [d1, d2, d3] => { results := [.lit (.bool false)], args := [d1, d2, d3] }
  | _ => none }
def ArithOrdersWrongFalsely : Prop := arithOrdersRow.holds Try.pinned (OpenSpec.ofChange arithOrdersWrong)

/-- 'tabardlaw4.ArithExact': WHATEVER THE INPUT: true; the input reads as it did. -/
def arithExactSpec : ChangeSpec := { name := "arithExact", fn := fun _ => fun
  | [d1, d2] => { results := [.lit (.bool true)], args := [d1, d2] }
  | _ => none }
def arithExactRow : OpenClaim := { program := "ytgioliopoepaoaa", sum := "925044f758ef9dabc0961cb1e8ca3e4b1af48429d6dddfa49592def9296f7c0f", func := "tabard/tabardlaw4.ArithExact", spec := "arithExact", inPlace := ["math/bits.Add64", "math/bits.Sub64"], unfollowed := true, recurses := true, apart := false }
def ArithExactSaid : Prop := arithExactRow.holds Try.pinned (OpenSpec.ofChange arithExactSpec)

/-- ITS FALSE NEIGHBOUR: 'it returns false'. Refute it at one input. -/
def arithExactWrong : ChangeSpec := { name := "arithExact", fn := fun _ => fun
  | [d1, d2] => { results := [.lit (.bool false)], args := [d1, d2] }
  | _ => none }
def ArithExactWrongFalsely : Prop := arithExactRow.holds Try.pinned (OpenSpec.ofChange arithExactWrong)

/- THE SECOND FORM. 'bulk': how many values and letters a reading holds, each counted each time it is reached (what is shared counts as often as it is met; a slice's spare places count too). A statement '..UptoSaid' is the law's where the arguments, and the package variables that the reading takes, are together of bulk at most 1048576: NARROWER than '..Said'. Prove '..Said' where nothing that the law and all that it calls make is longer than what came in: it says more and counts as full. Else prove '..UptoSaid'. A law counts once. -/
mutual
def uptoBulk {H : Type} : DataW H → Nat
  | .lit (.string bytes) => bytes.length + 1
  | .lit _ => 1
  | .nil => 1
  | .ptr d => uptoBulk d + 1
  | .slice elems spare => uptoBulkAll elems + uptoBulkAll spare + 1
  | .agg parts => uptoBulkAll parts + 1
  | .iface _ d => uptoBulk d + 1
  | .map entries => uptoBulkEntries entries + 1
  | .held _ => 1
def uptoBulkAll {H : Type} : List (DataW H) → Nat
  | [] => 0
  | d :: r => uptoBulk d + uptoBulkAll r
def uptoBulkEntries {H : Type} : List (Lit × DataW H) → Nat
  | [] => 0
  | x :: r => uptoBulkEntry x + uptoBulkEntries r
def uptoBulkEntry {H : Type} : Lit × DataW H → Nat
  | (.string bytes, d) => bytes.length + uptoBulk d + 1
  | (_, d) => uptoBulk d + 1
 end
def uptoSmall : (H : Type) → List (DataW H) → Bool := fun _ ds => decide (uptoBulkAll ds ≤ 1048576)
def OpenSpec.upto (s : _root_.Go.ChangeSpec) : _root_.Go.OpenSpec := { _root_.Go.OpenSpec.ofChange s with cond := some uptoSmall }

/-- 'tabardlaw4.ArithAdds', WHERE WHAT IT READS IS OF BULK AT MOST 1048576: true; the input reads as it did. -/
def arithAddsUptoRow : OpenClaim := { program := "ytgioliopoepaoaa", sum := "925044f758ef9dabc0961cb1e8ca3e4b1af48429d6dddfa49592def9296f7c0f", func := "tabard/tabardlaw4.ArithAdds", spec := "arithAdds", inPlace := ["math/bits.Add64", "math/bits.Sub64"], unfollowed := true, recurses := true, apart := false, narrowed := true }
def ArithAddsUptoSaid : Prop := arithAddsUptoRow.holds Try.pinned (OpenSpec.upto arithAddsSpec)

/-- 'tabardlaw4.ArithMuls', WHERE WHAT IT READS IS OF BULK AT MOST 1048576: true; the input reads as it did. -/
def arithMulsUptoRow : OpenClaim := { program := "ytgioliopoepaoaa", sum := "925044f758ef9dabc0961cb1e8ca3e4b1af48429d6dddfa49592def9296f7c0f", func := "tabard/tabardlaw4.ArithMuls", spec := "arithMuls", inPlace := ["math/bits.Add64", "math/bits.Sub64"], unfollowed := true, recurses := true, apart := false, narrowed := true }
def ArithMulsUptoSaid : Prop := arithMulsUptoRow.holds Try.pinned (OpenSpec.upto arithMulsSpec)

/-- 'tabardlaw4.ArithSums', WHERE WHAT IT READS IS OF BULK AT MOST 1048576: true; the input reads as it did. -/
def arithSumsUptoRow : OpenClaim := { program := "ytgioliopoepaoaa", sum := "925044f758ef9dabc0961cb1e8ca3e4b1af48429d6dddfa49592def9296f7c0f", func := "tabard/tabardlaw4.ArithSums", spec := "arithSums", inPlace := ["math/bits.Add64", "math/bits.Sub64"], unfollowed := true, recurses := true, apart := false, narrowed := true }
def ArithSumsUptoSaid : Prop := arithSumsUptoRow.holds Try.pinned (OpenSpec.upto arithSumsSpec)

/-- 'tabardlaw4.ArithTurns', WHERE WHAT IT READS IS OF BULK AT MOST 1048576: true; the input reads as it did. -/
def arithTurnsUptoRow : OpenClaim := { program := "ytgioliopoepaoaa", sum := "925044f758ef9dabc0961cb1e8ca3e4b1af48429d6dddfa49592def9296f7c0f", func := "tabard/tabardlaw4.ArithTurns", spec := "arithTurns", inPlace := ["math/bits.Add64", "math/bits.Sub64"], unfollowed := true, recurses := true, apart := false, narrowed := true }
def ArithTurnsUptoSaid : Prop := arithTurnsUptoRow.holds Try.pinned (OpenSpec.upto arithTurnsSpec)

/-- 'tabardlaw4.ArithPlain', WHERE WHAT IT READS IS OF BULK AT MOST 1048576: true; the input reads as it did. -/
def arithPlainUptoRow : OpenClaim := { program := "ytgioliopoepaoaa", sum := "925044f758ef9dabc0961cb1e8ca3e4b1af48429d6dddfa49592def9296f7c0f", func := "tabard/tabardlaw4.ArithPlain", spec := "arithPlain", inPlace := ["math/bits.Add64", "math/bits.Sub64"], unfollowed := true, recurses := true, apart := false, narrowed := true }
def ArithPlainUptoSaid : Prop := arithPlainUptoRow.holds Try.pinned (OpenSpec.upto arithPlainSpec)

/-- 'tabardlaw4.ArithOrders', WHERE WHAT IT READS IS OF BULK AT MOST 1048576: true; the input reads as it did. -/
def arithOrdersUptoRow : OpenClaim := { program := "ytgioliopoepaoaa", sum := "925044f758ef9dabc0961cb1e8ca3e4b1af48429d6dddfa49592def9296f7c0f", func := "tabard/tabardlaw4.ArithOrders", spec := "arithOrders", inPlace := ["math/bits.Add64", "math/bits.Sub64"], unfollowed := true, recurses := true, apart := false, narrowed := true }
def ArithOrdersUptoSaid : Prop := arithOrdersUptoRow.holds Try.pinned (OpenSpec.upto arithOrdersSpec)

/-- 'tabardlaw4.ArithExact', WHERE WHAT IT READS IS OF BULK AT MOST 1048576: true; the input reads as it did. -/
def arithExactUptoRow : OpenClaim := { program := "ytgioliopoepaoaa", sum := "925044f758ef9dabc0961cb1e8ca3e4b1af48429d6dddfa49592def9296f7c0f", func := "tabard/tabardlaw4.ArithExact", spec := "arithExact", inPlace := ["math/bits.Add64", "math/bits.Sub64"], unfollowed := true, recurses := true, apart := false, narrowed := true }
def ArithExactUptoSaid : Prop := arithExactUptoRow.holds Try.pinned (OpenSpec.upto arithExactSpec)

end Rows
end Go.Proofs.Ytgioliopoepaoaa
