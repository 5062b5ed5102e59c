/-
  DERIVED. GIVEN WITH THE SEED: THE CARDS: each row of YtoabhjflfbblfaaDoorRows.lean that lists a variable, with what it lists TIED to the program's text (the seventh form; the later family's looks); each row that meets fmt, with fmt's text TOLD by the authors' own Lean function (tested against real Go, not proved from fmt's source: count such statements apart). THE CARD IS WHAT COUNTS. Prove the row's statement (the work); the ties are given (YtoabhjflfbblfaaDoorTie.lean); close each card by the builder's one call (the guide's Derived/Test/ToyasCard.lean, 'card_holds'). Laid BY PROGRAM, IN A SANDBOX (cutbox-door.mjs). By AI agents, Wed Nov 11 2026. No macro, syntax, notation, axiom, sorry.
-/
import Derived.Test.YtoabhjflfbblfaaDoorRows
import GoSem.ClaimSeven
namespace Go.Proofs.YtoabhjflfbblfaaDoor
namespace Rows

/-- THE TIED CARD OF 'armplanlaw6.TokenFormats'. -/
def tokenFormatsCard : Claim7 := { stood := { row := tokenFormatsRow, standIns := [], harness := (true, "1a30d35aca822ecb72c9d10af16ba59b8dd5675f030763b120d5d4bcbe1569b0"), looks := false }, kinds := [], alts := [], laidByText := true, laidKinds := [.data, .data, .data, .data, .pinned], laidTests := true, laidLooks := .later }
def TokenFormatsCardSaid : Prop := Claim7.holds Tryd.pinned (.plain (OpenSpec.ofChange tokenFormatsSpec)) tokenFormatsCard

/-- THE SECOND FORM's CARD OF 'armplanlaw6.TokenFormats'. -/
def tokenFormatsUptoCard : Claim7 := { stood := { row := tokenFormatsUptoRow, standIns := [], harness := (true, "1a30d35aca822ecb72c9d10af16ba59b8dd5675f030763b120d5d4bcbe1569b0"), looks := false }, kinds := [], alts := [], laidByText := true, laidKinds := [.data, .data, .data, .data, .pinned], laidTests := true, laidLooks := .later }
def TokenFormatsUptoCardSaid : Prop := Claim7.holds Tryd.pinned (.plain (OpenSpec.upto tokenFormatsSpec)) tokenFormatsUptoCard
end Rows
end Go.Proofs.YtoabhjflfbblfaaDoor
