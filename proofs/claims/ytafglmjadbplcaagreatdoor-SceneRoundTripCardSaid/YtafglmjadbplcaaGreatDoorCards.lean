/-
  DERIVED. GIVEN WITH THE SEED: THE CARDS: each row of YtafglmjadbplcaaGreatDoorRows.lean that lists a variable, with what it lists TIED to the program's text (the seventh form; the later family's looks); each row that meets fmt, with fmt's text TOLD by the authors' own Lean function (tested against real Go, not proved from fmt's source: count such statements apart). THE CARD IS WHAT COUNTS. Prove the row's statement (the work); the ties are given (YtafglmjadbplcaaGreatDoorTie.lean); close each card by the builder's one call (the guide's Derived/Test/ToyasCard.lean, 'card_holds'). Laid BY PROGRAM, IN A SANDBOX (cutbox-door.mjs). By AI agents, Wed Nov 11 2026. No macro, syntax, notation, axiom, sorry.
-/
import Derived.Test.YtafglmjadbplcaaGreatDoorRows
import GoSem.ClaimSeven
namespace Go.Proofs.YtafglmjadbplcaaGreatDoor
namespace Rows

/-- THE TIED CARD OF 'armplanlaw9.SceneRoundTrip'. -/
def sceneRoundTripCard : Claim7 := { stood := { row := sceneRoundTripRow, standIns := [], harness := (true, "982631df656752543456cb0340826088210f3850e75deacc8b50fa0692379576"), looks := false }, kinds := [], alts := [], laidByText := true, laidKinds := [.data, .data, .data, .data, .data, .pinned], laidTests := true, laidLooks := .later }
def SceneRoundTripCardSaid : Prop := Claim7.holds Tryz.pinned (.plain (OpenSpec.ofChange sceneRoundTripSpec)) sceneRoundTripCard

/-- THE SECOND FORM's CARD OF 'armplanlaw9.SceneRoundTrip'. -/
def sceneRoundTripUptoCard : Claim7 := { stood := { row := sceneRoundTripUptoRow, standIns := [], harness := (true, "982631df656752543456cb0340826088210f3850e75deacc8b50fa0692379576"), looks := false }, kinds := [], alts := [], laidByText := true, laidKinds := [.data, .data, .data, .data, .data, .pinned], laidTests := true, laidLooks := .later }
def SceneRoundTripUptoCardSaid : Prop := Claim7.holds Tryz.pinned (.plain (OpenSpec.upto sceneRoundTripSpec)) sceneRoundTripUptoCard
end Rows
end Go.Proofs.YtafglmjadbplcaaGreatDoor
