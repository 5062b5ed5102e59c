/-
  No cell of these rows narrows 'for every input' (looked for: loops, veiled, ifaces, maps, wideKeys, modest, calm, conditions, laid).
  DERIVED. THE GIVEN ROWS OF THIS SEAT. 6 by the template 'for every input the law returns true; each argument reads behind the call as it read before'; 0 by the template 'total and deterministic' (their statements: YtoabhjflfbblfaaTotals.lean).
  GIVEN WITH THE SEED: the statements are not yours to turn. If you find one false, say at which input.
  Laid BY PROGRAM, IN A SANDBOX (cutbox-rows.mjs): the forced cells as the released guide's own fill.sh prints them over the translation 64937002f18b0e42… (all of the seat's roots in one cut). By AI agents, Wed Nov 11 2026. No macro, syntax, notation, axiom, sorry.
-/
import Derived.Test.YtoabhjflfbblfaaChecked
import GoSem.Claim
import GoSem.ClaimJoined
import GoSem.ClaimMapViews
import Derived.JoinedTies
import Derived.KernelRfl
namespace Go.Proofs.Ytoabhjflfbblfaa
/- THE CELL 'sum', in the pinned program and in every row, IS THE sha256 OF THE DUMP (.gsa) THAT YtoabhjflfbblfaaProg.lean LOADS. Nothing in Lean hashes anything: it is a label: what it is worth is what the hold of that sum in a sandbox is worth. -/
noncomputable def Try.pinned : Pinned := { name := "ytoabhjflfbblfaa", sum := "64937002f18b0e4253d0e22234221b8fe533967e50bd8920baabbac444386369", checked := Try.checked }
namespace Rows
def none {H : Type} : Left H := { results := [], args := [] }

/-- 'armplanlaw6.TokenSplits': WHATEVER THE INPUT: true; the input reads as it did. -/
def tokenSplitsSpec : ChangeSpec := { name := "tokenSplits", fn := fun _ => fun
  | [d1, d2] => { results := [.lit (.bool true)], args := [d1, d2] }
  | _ => none }
def tokenSplitsRow : OpenClaim := { program := "ytoabhjflfbblfaa", sum := "64937002f18b0e4253d0e22234221b8fe533967e50bd8920baabbac444386369", func := "armplan/armplanlaw6.TokenSplits", spec := "tokenSplits", inPlace := ["internal/bytealg.IndexByteString", "internal/bytealg.IndexString"], unfollowed := true, recurses := true, named := ["internal/bytealg.MaxLen"], apart := false }
def TokenSplitsSaid : Prop := tokenSplitsRow.holds Try.pinned (OpenSpec.ofChange tokenSplitsSpec)

/-- ITS FALSE NEIGHBOUR: 'it returns false'. Refute it at one input. -/
def tokenSplitsWrong : ChangeSpec := { name := "tokenSplits", fn := fun _ => fun
  | [d1, d2] => { results := [.lit (.bool false)], args := [d1, d2] }
  | _ => none }
def TokenSplitsWrongFalsely : Prop := tokenSplitsRow.holds Try.pinned (OpenSpec.ofChange tokenSplitsWrong)

/-- 'armplanlaw6.TokenRejoins': WHATEVER THE INPUT: true; the input reads as it did. -/
def tokenRejoinsSpec : ChangeSpec := { name := "tokenRejoins", fn := fun _ => fun
  | [d] => { results := [.lit (.bool true)], args := [d] }
  | _ => none }
def tokenRejoinsRow : OpenClaim := { program := "ytoabhjflfbblfaa", sum := "64937002f18b0e4253d0e22234221b8fe533967e50bd8920baabbac444386369", func := "armplan/armplanlaw6.TokenRejoins", spec := "tokenRejoins", inPlace := ["internal/bytealg.IndexByteString", "internal/bytealg.IndexString"], unfollowed := true, recurses := true, named := ["internal/bytealg.MaxLen"], apart := false }
def TokenRejoinsSaid : Prop := tokenRejoinsRow.holds Try.pinned (OpenSpec.ofChange tokenRejoinsSpec)

/-- ITS FALSE NEIGHBOUR: 'it returns false'. Refute it at one input. -/
def tokenRejoinsWrong : ChangeSpec := { name := "tokenRejoins", fn := fun _ => fun
  | [d] => { results := [.lit (.bool false)], args := [d] }
  | _ => none }
def TokenRejoinsWrongFalsely : Prop := tokenRejoinsRow.holds Try.pinned (OpenSpec.ofChange tokenRejoinsWrong)

/-- 'armplanlaw6.TokenPlaces': WHATEVER THE INPUT: true; the input reads as it did. -/
def tokenPlacesSpec : ChangeSpec := { name := "tokenPlaces", fn := fun _ => fun
  | [d1, d2] => { results := [.lit (.bool true)], args := [d1, d2] }
  | _ => none }
def tokenPlacesRow : OpenClaim := { program := "ytoabhjflfbblfaa", sum := "64937002f18b0e4253d0e22234221b8fe533967e50bd8920baabbac444386369", func := "armplan/armplanlaw6.TokenPlaces", spec := "tokenPlaces", inPlace := ["internal/bytealg.IndexByteString", "internal/bytealg.IndexString"], unfollowed := true, recurses := true, named := ["internal/bytealg.MaxLen"], apart := false }
def TokenPlacesSaid : Prop := tokenPlacesRow.holds Try.pinned (OpenSpec.ofChange tokenPlacesSpec)

/-- ITS FALSE NEIGHBOUR: 'it returns false'. Refute it at one input. -/
def tokenPlacesWrong : ChangeSpec := { name := "tokenPlaces", fn := fun _ => fun
  | [d1, d2] => { results := [.lit (.bool false)], args := [d1, d2] }
  | _ => none }
def TokenPlacesWrongFalsely : Prop := tokenPlacesRow.holds Try.pinned (OpenSpec.ofChange tokenPlacesWrong)

/-- 'armplanlaw6.TokenNearest': WHATEVER THE INPUT: true; the input reads as it did. -/
def tokenNearestSpec : ChangeSpec := { name := "tokenNearest", fn := fun _ => fun
  | [d1, d2, d3] => { results := [.lit (.bool true)], args := [d1, d2, d3] }
  | _ => none }
def tokenNearestRow : OpenClaim := { program := "ytoabhjflfbblfaa", sum := "64937002f18b0e4253d0e22234221b8fe533967e50bd8920baabbac444386369", func := "armplan/armplanlaw6.TokenNearest", spec := "tokenNearest", inPlace := ["internal/bytealg.IndexByteString", "internal/bytealg.IndexString"], unfollowed := true, recurses := true, named := ["internal/bytealg.MaxLen"], apart := false }
def TokenNearestSaid : Prop := tokenNearestRow.holds Try.pinned (OpenSpec.ofChange tokenNearestSpec)

/-- ITS FALSE NEIGHBOUR: 'it returns false'. Refute it at one input. -/
def tokenNearestWrong : ChangeSpec := { name := "tokenNearest", fn := fun _ => fun
  | [d1, d2, d3] => { results := [.lit (.bool false)], args := [d1, d2, d3] }
  | _ => none }
def TokenNearestWrongFalsely : Prop := tokenNearestRow.holds Try.pinned (OpenSpec.ofChange tokenNearestWrong)

/-- 'armplanlaw6.TokenNames': WHATEVER THE INPUT: true; the input reads as it did. -/
def tokenNamesSpec : ChangeSpec := { name := "tokenNames", fn := fun _ => fun
  | [d] => { results := [.lit (.bool true)], args := [d] }
  | _ => none }
def tokenNamesRow : OpenClaim := { program := "ytoabhjflfbblfaa", sum := "64937002f18b0e4253d0e22234221b8fe533967e50bd8920baabbac444386369", func := "armplan/armplanlaw6.TokenNames", spec := "tokenNames", inPlace := ["internal/bytealg.IndexByteString", "internal/bytealg.IndexString"], unfollowed := true, recurses := true, named := ["internal/bytealg.MaxLen"], apart := false }
def TokenNamesSaid : Prop := tokenNamesRow.holds Try.pinned (OpenSpec.ofChange tokenNamesSpec)

/-- ITS FALSE NEIGHBOUR: 'it returns false'. Refute it at one input. -/
def tokenNamesWrong : ChangeSpec := { name := "tokenNames", fn := fun _ => fun
  | [d] => { results := [.lit (.bool false)], args := [d] }
  | _ => none }
def TokenNamesWrongFalsely : Prop := tokenNamesRow.holds Try.pinned (OpenSpec.ofChange tokenNamesWrong)

/-- 'armplanlaw6.TokenNumbers': WHATEVER THE INPUT: true; the input reads as it did. -/
def tokenNumbersSpec : ChangeSpec := { name := "tokenNumbers", fn := fun _ => fun
  | [d1, d2] => { results := [.lit (.bool true)], args := [d1, d2] }
  | _ => none }
def tokenNumbersRow : OpenClaim := { program := "ytoabhjflfbblfaa", sum := "64937002f18b0e4253d0e22234221b8fe533967e50bd8920baabbac444386369", func := "armplan/armplanlaw6.TokenNumbers", spec := "tokenNumbers", inPlace := ["internal/bytealg.IndexByteString", "internal/bytealg.IndexString"], unfollowed := true, recurses := true, named := ["internal/bytealg.MaxLen"], apart := false }
def TokenNumbersSaid : Prop := tokenNumbersRow.holds Try.pinned (OpenSpec.ofChange tokenNumbersSpec)

/-- ITS FALSE NEIGHBOUR: 'it returns false'. Refute it at one input. -/
def tokenNumbersWrong : ChangeSpec := { name := "tokenNumbers", fn := fun _ => fun
  | [d1, d2] => { results := [.lit (.bool false)], args := [d1, d2] }
  | _ => none }
def TokenNumbersWrongFalsely : Prop := tokenNumbersRow.holds Try.pinned (OpenSpec.ofChange tokenNumbersWrong)

/- THE SECOND FORM. 'bulk': how many values and letters a reading holds, each counted each time it is reached (what is shared counts as often as it is met; a slice's spare places count too). A statement '..UptoSaid' is the law's where the arguments, and the package variables that the reading takes, are together of bulk at most 1048576: NARROWER than '..Said'. Prove '..Said' where nothing that the law and all that it calls make is longer than what came in: it says more and counts as full. Else prove '..UptoSaid'. A law counts once. -/
mutual
def uptoBulk {H : Type} : DataW H → Nat
  | .lit (.string bytes) => bytes.length + 1
  | .lit _ => 1
  | .nil => 1
  | .ptr d => uptoBulk d + 1
  | .slice elems spare => uptoBulkAll elems + uptoBulkAll spare + 1
  | .agg parts => uptoBulkAll parts + 1
  | .iface _ d => uptoBulk d + 1
  | .map entries => uptoBulkEntries entries + 1
  | .held _ => 1
def uptoBulkAll {H : Type} : List (DataW H) → Nat
  | [] => 0
  | d :: r => uptoBulk d + uptoBulkAll r
def uptoBulkEntries {H : Type} : List (Lit × DataW H) → Nat
  | [] => 0
  | x :: r => uptoBulkEntry x + uptoBulkEntries r
def uptoBulkEntry {H : Type} : Lit × DataW H → Nat
  | (.string bytes, d) => bytes.length + uptoBulk d + 1
  | (_, d) => uptoBulk d + 1
 end
def uptoSmall : (H : Type) → List (DataW H) → Bool := fun _ ds => decide (uptoBulkAll ds ≤ 1048576)
def OpenSpec.upto (s : _root_.Go.ChangeSpec) : _root_.Go.OpenSpec := { _root_.Go.OpenSpec.ofChange s with cond := some uptoSmall }

/-- 'armplanlaw6.TokenSplits', WHERE WHAT IT READS IS OF BULK AT MOST 1048576: true; the input reads as it did. -/
def tokenSplitsUptoRow : OpenClaim := { program := "ytoabhjflfbblfaa", sum := "64937002f18b0e4253d0e22234221b8fe533967e50bd8920baabbac444386369", func := "armplan/armplanlaw6.TokenSplits", spec := "tokenSplits", inPlace := ["internal/bytealg.IndexByteString", "internal/bytealg.IndexString"], unfollowed := true, recurses := true, named := ["internal/bytealg.MaxLen"], apart := false, narrowed := true }
def TokenSplitsUptoSaid : Prop := tokenSplitsUptoRow.holds Try.pinned (OpenSpec.upto tokenSplitsSpec)

/-- 'armplanlaw6.TokenRejoins', WHERE WHAT IT READS IS OF BULK AT MOST 1048576: true; the input reads as it did. -/
def tokenRejoinsUptoRow : OpenClaim := { program := "ytoabhjflfbblfaa", sum := "64937002f18b0e4253d0e22234221b8fe533967e50bd8920baabbac444386369", func := "armplan/armplanlaw6.TokenRejoins", spec := "tokenRejoins", inPlace := ["internal/bytealg.IndexByteString", "internal/bytealg.IndexString"], unfollowed := true, recurses := true, named := ["internal/bytealg.MaxLen"], apart := false, narrowed := true }
def TokenRejoinsUptoSaid : Prop := tokenRejoinsUptoRow.holds Try.pinned (OpenSpec.upto tokenRejoinsSpec)

/-- 'armplanlaw6.TokenPlaces', WHERE WHAT IT READS IS OF BULK AT MOST 1048576: true; the input reads as it did. -/
def tokenPlacesUptoRow : OpenClaim := { program := "ytoabhjflfbblfaa", sum := "64937002f18b0e4253d0e22234221b8fe533967e50bd8920baabbac444386369", func := "armplan/armplanlaw6.TokenPlaces", spec := "tokenPlaces", inPlace := ["internal/bytealg.IndexByteString", "internal/bytealg.IndexString"], unfollowed := true, recurses := true, named := ["internal/bytealg.MaxLen"], apart := false, narrowed := true }
def TokenPlacesUptoSaid : Prop := tokenPlacesUptoRow.holds Try.pinned (OpenSpec.upto tokenPlacesSpec)

/-- 'armplanlaw6.TokenNearest', WHERE WHAT IT READS IS OF BULK AT MOST 1048576: true; the input reads as it did. -/
def tokenNearestUptoRow : OpenClaim := { program := "ytoabhjflfbblfaa", sum := "64937002f18b0e4253d0e22234221b8fe533967e50bd8920baabbac444386369", func := "armplan/armplanlaw6.TokenNearest", spec := "tokenNearest", inPlace := ["internal/bytealg.IndexByteString", "internal/bytealg.IndexString"], unfollowed := true, recurses := true, named := ["internal/bytealg.MaxLen"], apart := false, narrowed := true }
def TokenNearestUptoSaid : Prop := tokenNearestUptoRow.holds Try.pinned (OpenSpec.upto tokenNearestSpec)

/-- 'armplanlaw6.TokenNames', WHERE WHAT IT READS IS OF BULK AT MOST 1048576: true; the input reads as it did. -/
def tokenNamesUptoRow : OpenClaim := { program := "ytoabhjflfbblfaa", sum := "64937002f18b0e4253d0e22234221b8fe533967e50bd8920baabbac444386369", func := "armplan/armplanlaw6.TokenNames", spec := "tokenNames", inPlace := ["internal/bytealg.IndexByteString", "internal/bytealg.IndexString"], unfollowed := true, recurses := true, named := ["internal/bytealg.MaxLen"], apart := false, narrowed := true }
def TokenNamesUptoSaid : Prop := tokenNamesUptoRow.holds Try.pinned (OpenSpec.upto tokenNamesSpec)

/-- 'armplanlaw6.TokenNumbers', WHERE WHAT IT READS IS OF BULK AT MOST 1048576: true; the input reads as it did. -/
def tokenNumbersUptoRow : OpenClaim := { program := "ytoabhjflfbblfaa", sum := "64937002f18b0e4253d0e22234221b8fe533967e50bd8920baabbac444386369", func := "armplan/armplanlaw6.TokenNumbers", spec := "tokenNumbers", inPlace := ["internal/bytealg.IndexByteString", "internal/bytealg.IndexString"], unfollowed := true, recurses := true, named := ["internal/bytealg.MaxLen"], apart := false, narrowed := true }
def TokenNumbersUptoSaid : Prop := tokenNumbersUptoRow.holds Try.pinned (OpenSpec.upto tokenNumbersSpec)

end Rows
end Go.Proofs.Ytoabhjflfbblfaa
