/-
  DERIVED. GIVEN WITH THE SEED: THE CARDS: each row of YtafglmjadbplcaaDoorRows.lean that lists a variable, with what it lists TIED to the program's text (the seventh form; the later family's looks); each row that meets fmt, with fmt's text TOLD by the authors' own Lean function (tested against real Go, not proved from fmt's source: count such statements apart). THE CARD IS WHAT COUNTS. Prove the row's statement (the work); the ties are given (YtafglmjadbplcaaDoorTie.lean); close each card by the builder's one call (the guide's Derived/Test/ToyasCard.lean, 'card_holds'). Laid BY PROGRAM, IN A SANDBOX (cutbox-door.mjs). By AI agents, Wed Nov 11 2026. No macro, syntax, notation, axiom, sorry.
-/
import Derived.Test.YtafglmjadbplcaaDoorRows
import GoSem.ClaimSeven
namespace Go.Proofs.YtafglmjadbplcaaDoor
namespace Rows

/-- THE TIED CARD OF 'armplanlaw9.SceneReads'. -/
def sceneReadsCard : Claim7 := { stood := { row := sceneReadsRow, standIns := [], harness := (true, "f7985ef921dc2221b52bbc58ac9000bacb4df6e71c7a00b4e9c58570c148dcf9"), looks := false }, kinds := [], alts := [], laidByText := true, laidKinds := [.data], laidTests := true, laidLooks := .later }
def SceneReadsCardSaid : Prop := Claim7.holds Tryd.pinned (.plain (OpenSpec.ofChange sceneReadsSpec)) sceneReadsCard

/-- THE SECOND FORM's CARD OF 'armplanlaw9.SceneReads'. -/
def sceneReadsUptoCard : Claim7 := { stood := { row := sceneReadsUptoRow, standIns := [], harness := (true, "f7985ef921dc2221b52bbc58ac9000bacb4df6e71c7a00b4e9c58570c148dcf9"), looks := false }, kinds := [], alts := [], laidByText := true, laidKinds := [.data], laidTests := true, laidLooks := .later }
def SceneReadsUptoCardSaid : Prop := Claim7.holds Tryd.pinned (.plain (OpenSpec.upto sceneReadsSpec)) sceneReadsUptoCard
end Rows
end Go.Proofs.YtafglmjadbplcaaDoor
