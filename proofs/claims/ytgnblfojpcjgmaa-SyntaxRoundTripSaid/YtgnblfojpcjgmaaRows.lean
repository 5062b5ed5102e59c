/-
  No cell of these rows narrows 'for every input' (looked for: loops, veiled, ifaces, maps, wideKeys, modest, calm, conditions, laid).
  DERIVED. THE GIVEN ROWS OF THIS SEAT. 6 by the template 'for every input the law returns true; each argument reads behind the call as it read before'; 0 by the template 'total and deterministic' (their statements: YtgnblfojpcjgmaaTotals.lean).
  GIVEN WITH THE SEED: the statements are not yours to turn. If you find one false, say at which input.
  Laid BY PROGRAM, IN A SANDBOX (cutbox-rows.mjs): the forced cells as the released guide's own fill.sh prints them over the translation 608488a04b6ecc86… (all of the seat's roots in one cut). By AI agents, Wed Nov 11 2026. No macro, syntax, notation, axiom, sorry.
-/
import Derived.Test.YtgnblfojpcjgmaaChecked
import GoSem.Claim
import GoSem.ClaimJoined
import GoSem.ClaimMapViews
import Derived.JoinedTies
import Derived.KernelRfl
namespace Go.Proofs.Ytgnblfojpcjgmaa
/- THE CELL 'sum', in the pinned program and in every row, IS THE sha256 OF THE DUMP (.gsa) THAT YtgnblfojpcjgmaaProg.lean LOADS. Nothing in Lean hashes anything: it is a label: what it is worth is what the hold of that sum in a sandbox is worth. -/
noncomputable def Try.pinned : Pinned := { name := "ytgnblfojpcjgmaa", sum := "608488a04b6ecc8625d705b38361192c7e47f1c3126bf243dd20fe61cc78a71e", checked := Try.checked }
namespace Rows
def none {H : Type} : Left H := { results := [], args := [] }

/-- 'armplanlaw7.SyntaxParses': WHATEVER THE INPUT: true; the input reads as it did. -/
def syntaxParsesSpec : ChangeSpec := { name := "syntaxParses", fn := fun _ => fun
  | [d1, d2] => { results := [.lit (.bool true)], args := [d1, d2] }
  | _ => none }
def syntaxParsesRow : OpenClaim := { program := "ytgnblfojpcjgmaa", sum := "608488a04b6ecc8625d705b38361192c7e47f1c3126bf243dd20fe61cc78a71e", func := "armplan/armplanlaw7.SyntaxParses", spec := "syntaxParses", unfollowed := true, recurses := true, apart := false }
def SyntaxParsesSaid : Prop := syntaxParsesRow.holds Try.pinned (OpenSpec.ofChange syntaxParsesSpec)

/-- ITS FALSE NEIGHBOUR: 'it returns false'. Refute it at one input. -/
def syntaxParsesWrong : ChangeSpec := { name := "syntaxParses", fn := fun _ => fun
  | [d1, d2] => { results := [.lit (.bool false)], args := [d1, d2] }
  | _ => none }
def SyntaxParsesWrongFalsely : Prop := syntaxParsesRow.holds Try.pinned (OpenSpec.ofChange syntaxParsesWrong)

/-- 'armplanlaw7.SyntaxComments': WHATEVER THE INPUT: true; the input reads as it did. -/
def syntaxCommentsSpec : ChangeSpec := { name := "syntaxComments", fn := fun _ => fun
  | [d1, d2] => { results := [.lit (.bool true)], args := [d1, d2] }
  | _ => none }
def syntaxCommentsRow : OpenClaim := { program := "ytgnblfojpcjgmaa", sum := "608488a04b6ecc8625d705b38361192c7e47f1c3126bf243dd20fe61cc78a71e", func := "armplan/armplanlaw7.SyntaxComments", spec := "syntaxComments", unfollowed := true, recurses := true, apart := false }
def SyntaxCommentsSaid : Prop := syntaxCommentsRow.holds Try.pinned (OpenSpec.ofChange syntaxCommentsSpec)

/-- ITS FALSE NEIGHBOUR: 'it returns false'. Refute it at one input. -/
def syntaxCommentsWrong : ChangeSpec := { name := "syntaxComments", fn := fun _ => fun
  | [d1, d2] => { results := [.lit (.bool false)], args := [d1, d2] }
  | _ => none }
def SyntaxCommentsWrongFalsely : Prop := syntaxCommentsRow.holds Try.pinned (OpenSpec.ofChange syntaxCommentsWrong)

/-- 'armplanlaw7.SyntaxPrefix': WHATEVER THE INPUT: true; the input reads as it did. -/
def syntaxPrefixSpec : ChangeSpec := { name := "syntaxPrefix", fn := fun _ => fun
  | [d1, d2] => { results := [.lit (.bool true)], args := [d1, d2] }
  | _ => none }
def syntaxPrefixRow : OpenClaim := { program := "ytgnblfojpcjgmaa", sum := "608488a04b6ecc8625d705b38361192c7e47f1c3126bf243dd20fe61cc78a71e", func := "armplan/armplanlaw7.SyntaxPrefix", spec := "syntaxPrefix", unfollowed := true, recurses := true, apart := false }
def SyntaxPrefixSaid : Prop := syntaxPrefixRow.holds Try.pinned (OpenSpec.ofChange syntaxPrefixSpec)

/-- ITS FALSE NEIGHBOUR: 'it returns false'. Refute it at one input. -/
def syntaxPrefixWrong : ChangeSpec := { name := "syntaxPrefix", fn := fun _ => fun
  | [d1, d2] => { results := [.lit (.bool false)], args := [d1, d2] }
  | _ => none }
def SyntaxPrefixWrongFalsely : Prop := syntaxPrefixRow.holds Try.pinned (OpenSpec.ofChange syntaxPrefixWrong)

/-- 'armplanlaw7.SyntaxArguments': WHATEVER THE INPUT: true; the input reads as it did. -/
def syntaxArgumentsSpec : ChangeSpec := { name := "syntaxArguments", fn := fun _ => fun
  | [d1, d2, d3] => { results := [.lit (.bool true)], args := [d1, d2, d3] }
  | _ => none }
def syntaxArgumentsRow : OpenClaim := { program := "ytgnblfojpcjgmaa", sum := "608488a04b6ecc8625d705b38361192c7e47f1c3126bf243dd20fe61cc78a71e", func := "armplan/armplanlaw7.SyntaxArguments", spec := "syntaxArguments", unfollowed := true, recurses := true, apart := false }
def SyntaxArgumentsSaid : Prop := syntaxArgumentsRow.holds Try.pinned (OpenSpec.ofChange syntaxArgumentsSpec)

/-- ITS FALSE NEIGHBOUR: 'it returns false'. Refute it at one input. -/
def syntaxArgumentsWrong : ChangeSpec := { name := "syntaxArguments", fn := fun _ => fun
  | [d1, d2, d3] => { results := [.lit (.bool false)], args := [d1, d2, d3] }
  | _ => none }
def SyntaxArgumentsWrongFalsely : Prop := syntaxArgumentsRow.holds Try.pinned (OpenSpec.ofChange syntaxArgumentsWrong)

/-- 'armplanlaw7.SyntaxRoundTrip': WHATEVER THE INPUT: true; the input reads as it did. -/
def syntaxRoundTripSpec : ChangeSpec := { name := "syntaxRoundTrip", fn := fun _ => fun
  | [d1, d2] => { results := [.lit (.bool true)], args := [d1, d2] }
  | _ => none }
def syntaxRoundTripRow : OpenClaim := { program := "ytgnblfojpcjgmaa", sum := "608488a04b6ecc8625d705b38361192c7e47f1c3126bf243dd20fe61cc78a71e", func := "armplan/armplanlaw7.SyntaxRoundTrip", spec := "syntaxRoundTrip", inPlace := ["internal/abi.NoEscape"], unfollowed := true, recurses := true, apart := false }
def SyntaxRoundTripSaid : Prop := syntaxRoundTripRow.holds Try.pinned (OpenSpec.ofChange syntaxRoundTripSpec)

/-- ITS FALSE NEIGHBOUR: 'it returns false'. Refute it at one input. -/
def syntaxRoundTripWrong : ChangeSpec := { name := "syntaxRoundTrip", fn := fun _ => fun
  | [d1, d2] => { results := [.lit (.bool false)], args := [d1, d2] }
  | _ => none }
def SyntaxRoundTripWrongFalsely : Prop := syntaxRoundTripRow.holds Try.pinned (OpenSpec.ofChange syntaxRoundTripWrong)

/-- 'armplanlaw7.SyntaxFormats': WHATEVER THE INPUT: true; the input reads as it did. -/
def syntaxFormatsSpec : ChangeSpec := { name := "syntaxFormats", fn := fun _ => fun
  | [d1, d2, d3] => { results := [.lit (.bool true)], args := [d1, d2, d3] }
  | _ => none }
def syntaxFormatsRow : OpenClaim := { program := "ytgnblfojpcjgmaa", sum := "608488a04b6ecc8625d705b38361192c7e47f1c3126bf243dd20fe61cc78a71e", func := "armplan/armplanlaw7.SyntaxFormats", spec := "syntaxFormats", inPlace := ["internal/abi.NoEscape"], unfollowed := true, recurses := true, apart := false }
def SyntaxFormatsSaid : Prop := syntaxFormatsRow.holds Try.pinned (OpenSpec.ofChange syntaxFormatsSpec)

/-- ITS FALSE NEIGHBOUR: 'it returns false'. Refute it at one input. -/
def syntaxFormatsWrong : ChangeSpec := { name := "syntaxFormats", fn := fun _ => fun
  | [d1, d2, d3] => { results := [.lit (.bool false)], args := [d1, d2, d3] }
  | _ => none }
def SyntaxFormatsWrongFalsely : Prop := syntaxFormatsRow.holds Try.pinned (OpenSpec.ofChange syntaxFormatsWrong)

/- THE SECOND FORM. 'bulk': how many values and letters a reading holds, each counted each time it is reached (what is shared counts as often as it is met; a slice's spare places count too). A statement '..UptoSaid' is the law's where the arguments, and the package variables that the reading takes, are together of bulk at most 1048576: NARROWER than '..Said'. Prove '..Said' where nothing that the law and all that it calls make is longer than what came in: it says more and counts as full. Else prove '..UptoSaid'. A law counts once. -/
mutual
def uptoBulk {H : Type} : DataW H → Nat
  | .lit (.string bytes) => bytes.length + 1
  | .lit _ => 1
  | .nil => 1
  | .ptr d => uptoBulk d + 1
  | .slice elems spare => uptoBulkAll elems + uptoBulkAll spare + 1
  | .agg parts => uptoBulkAll parts + 1
  | .iface _ d => uptoBulk d + 1
  | .map entries => uptoBulkEntries entries + 1
  | .held _ => 1
def uptoBulkAll {H : Type} : List (DataW H) → Nat
  | [] => 0
  | d :: r => uptoBulk d + uptoBulkAll r
def uptoBulkEntries {H : Type} : List (Lit × DataW H) → Nat
  | [] => 0
  | x :: r => uptoBulkEntry x + uptoBulkEntries r
def uptoBulkEntry {H : Type} : Lit × DataW H → Nat
  | (.string bytes, d) => bytes.length + uptoBulk d + 1
  | (_, d) => uptoBulk d + 1
 end
def uptoSmall : (H : Type) → List (DataW H) → Bool := fun _ ds => decide (uptoBulkAll ds ≤ 1048576)
def OpenSpec.upto (s : _root_.Go.ChangeSpec) : _root_.Go.OpenSpec := { _root_.Go.OpenSpec.ofChange s with cond := some uptoSmall }

/-- 'armplanlaw7.SyntaxParses', WHERE WHAT IT READS IS OF BULK AT MOST 1048576: true; the input reads as it did. -/
def syntaxParsesUptoRow : OpenClaim := { program := "ytgnblfojpcjgmaa", sum := "608488a04b6ecc8625d705b38361192c7e47f1c3126bf243dd20fe61cc78a71e", func := "armplan/armplanlaw7.SyntaxParses", spec := "syntaxParses", unfollowed := true, recurses := true, apart := false, narrowed := true }
def SyntaxParsesUptoSaid : Prop := syntaxParsesUptoRow.holds Try.pinned (OpenSpec.upto syntaxParsesSpec)

/-- 'armplanlaw7.SyntaxComments', WHERE WHAT IT READS IS OF BULK AT MOST 1048576: true; the input reads as it did. -/
def syntaxCommentsUptoRow : OpenClaim := { program := "ytgnblfojpcjgmaa", sum := "608488a04b6ecc8625d705b38361192c7e47f1c3126bf243dd20fe61cc78a71e", func := "armplan/armplanlaw7.SyntaxComments", spec := "syntaxComments", unfollowed := true, recurses := true, apart := false, narrowed := true }
def SyntaxCommentsUptoSaid : Prop := syntaxCommentsUptoRow.holds Try.pinned (OpenSpec.upto syntaxCommentsSpec)

/-- 'armplanlaw7.SyntaxPrefix', WHERE WHAT IT READS IS OF BULK AT MOST 1048576: true; the input reads as it did. -/
def syntaxPrefixUptoRow : OpenClaim := { program := "ytgnblfojpcjgmaa", sum := "608488a04b6ecc8625d705b38361192c7e47f1c3126bf243dd20fe61cc78a71e", func := "armplan/armplanlaw7.SyntaxPrefix", spec := "syntaxPrefix", unfollowed := true, recurses := true, apart := false, narrowed := true }
def SyntaxPrefixUptoSaid : Prop := syntaxPrefixUptoRow.holds Try.pinned (OpenSpec.upto syntaxPrefixSpec)

/-- 'armplanlaw7.SyntaxArguments', WHERE WHAT IT READS IS OF BULK AT MOST 1048576: true; the input reads as it did. -/
def syntaxArgumentsUptoRow : OpenClaim := { program := "ytgnblfojpcjgmaa", sum := "608488a04b6ecc8625d705b38361192c7e47f1c3126bf243dd20fe61cc78a71e", func := "armplan/armplanlaw7.SyntaxArguments", spec := "syntaxArguments", unfollowed := true, recurses := true, apart := false, narrowed := true }
def SyntaxArgumentsUptoSaid : Prop := syntaxArgumentsUptoRow.holds Try.pinned (OpenSpec.upto syntaxArgumentsSpec)

/-- 'armplanlaw7.SyntaxRoundTrip', WHERE WHAT IT READS IS OF BULK AT MOST 1048576: true; the input reads as it did. -/
def syntaxRoundTripUptoRow : OpenClaim := { program := "ytgnblfojpcjgmaa", sum := "608488a04b6ecc8625d705b38361192c7e47f1c3126bf243dd20fe61cc78a71e", func := "armplan/armplanlaw7.SyntaxRoundTrip", spec := "syntaxRoundTrip", inPlace := ["internal/abi.NoEscape"], unfollowed := true, recurses := true, apart := false, narrowed := true }
def SyntaxRoundTripUptoSaid : Prop := syntaxRoundTripUptoRow.holds Try.pinned (OpenSpec.upto syntaxRoundTripSpec)

/-- 'armplanlaw7.SyntaxFormats', WHERE WHAT IT READS IS OF BULK AT MOST 1048576: true; the input reads as it did. -/
def syntaxFormatsUptoRow : OpenClaim := { program := "ytgnblfojpcjgmaa", sum := "608488a04b6ecc8625d705b38361192c7e47f1c3126bf243dd20fe61cc78a71e", func := "armplan/armplanlaw7.SyntaxFormats", spec := "syntaxFormats", inPlace := ["internal/abi.NoEscape"], unfollowed := true, recurses := true, apart := false, narrowed := true }
def SyntaxFormatsUptoSaid : Prop := syntaxFormatsUptoRow.holds Try.pinned (OpenSpec.upto syntaxFormatsSpec)

end Rows
end Go.Proofs.Ytgnblfojpcjgmaa
