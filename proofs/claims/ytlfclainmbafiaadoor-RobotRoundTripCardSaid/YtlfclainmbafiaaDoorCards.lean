/-
  DERIVED. GIVEN WITH THE SEED: THE CARDS: each row of YtlfclainmbafiaaDoorRows.lean that lists a variable, with what it lists TIED to the program's text (the seventh form; the later family's looks); each row that meets fmt, with fmt's text TOLD by the authors' own Lean function (tested against real Go, not proved from fmt's source: count such statements apart). THE CARD IS WHAT COUNTS. Prove the row's statement (the work); the ties are given (YtlfclainmbafiaaDoorTie.lean); close each card by the builder's one call (the guide's Derived/Test/ToyasCard.lean, 'card_holds'). Laid BY PROGRAM, IN A SANDBOX (cutbox-door.mjs). By AI agents, Wed Nov 11 2026. No macro, syntax, notation, axiom, sorry.
-/
import Derived.Test.YtlfclainmbafiaaDoorRows
import GoSem.ClaimSeven
namespace Go.Proofs.YtlfclainmbafiaaDoor
namespace Rows

/-- THE TIED CARD OF 'armplanlaw8.RobotChecks'. -/
def robotChecksCard : Claim7 := { stood := { row := robotChecksRow, standIns := [], harness := (true, "a1e73b3cce15e0c1450dc509880d25adf7377a4ce05768d5d1340f9631ab068c"), looks := false }, kinds := [], alts := [], laidByText := true, laidKinds := [.data], laidTests := true, laidLooks := .later }
def RobotChecksCardSaid : Prop := Claim7.holds Tryd.pinned (.plain (OpenSpec.ofChange robotChecksSpec)) robotChecksCard

/-- THE TIED CARD OF 'armplanlaw8.RobotReads'. -/
def robotReadsCard : Claim7 := { stood := { row := robotReadsRow, standIns := [], harness := (true, "a1e73b3cce15e0c1450dc509880d25adf7377a4ce05768d5d1340f9631ab068c"), looks := false }, kinds := [], alts := [], laidByText := true, laidKinds := [.data], laidTests := true, laidLooks := .later }
def RobotReadsCardSaid : Prop := Claim7.holds Tryd.pinned (.plain (OpenSpec.ofChange robotReadsSpec)) robotReadsCard

/-- THE TIED CARD OF 'armplanlaw8.RobotChainSteps'. -/
def robotChainStepsCard : Claim7 := { stood := { row := robotChainStepsRow, standIns := [], harness := (true, "a1e73b3cce15e0c1450dc509880d25adf7377a4ce05768d5d1340f9631ab068c"), looks := false }, kinds := [], alts := [], laidByText := true, laidKinds := [.data], laidTests := true, laidLooks := .later }
def RobotChainStepsCardSaid : Prop := Claim7.holds Tryd.pinned (.plain (OpenSpec.ofChange robotChainStepsSpec)) robotChainStepsCard

/-- THE TIED CARD OF 'armplanlaw8.RobotBetween'. -/
def robotBetweenCard : Claim7 := { stood := { row := robotBetweenRow, standIns := [], harness := (true, "a1e73b3cce15e0c1450dc509880d25adf7377a4ce05768d5d1340f9631ab068c"), looks := false }, kinds := [], alts := [], laidByText := true, laidKinds := [.data], laidTests := true, laidLooks := .later }
def RobotBetweenCardSaid : Prop := Claim7.holds Tryd.pinned (.plain (OpenSpec.ofChange robotBetweenSpec)) robotBetweenCard

/-- THE TIED CARD OF 'armplanlaw8.RobotChains'. -/
def robotChainsCard : Claim7 := { stood := { row := robotChainsRow, standIns := [], harness := (true, "a1e73b3cce15e0c1450dc509880d25adf7377a4ce05768d5d1340f9631ab068c"), looks := false }, kinds := [], alts := [], laidByText := true, laidKinds := [.data], laidTests := true, laidLooks := .later }
def RobotChainsCardSaid : Prop := Claim7.holds Tryd.pinned (.plain (OpenSpec.ofChange robotChainsSpec)) robotChainsCard

/-- THE TIED CARD OF 'armplanlaw8.RobotRoundTrip'. -/
def robotRoundTripCard : Claim7 := { stood := { row := robotRoundTripRow, standIns := [], harness := (true, "a1e73b3cce15e0c1450dc509880d25adf7377a4ce05768d5d1340f9631ab068c"), looks := false }, kinds := [], alts := [], laidByText := true, laidKinds := [.data, .data, .data, .data, .data, .pinned], laidTests := true, laidLooks := .later }
def RobotRoundTripCardSaid : Prop := Claim7.holds Tryd.pinned (.plain (OpenSpec.ofChange robotRoundTripSpec)) robotRoundTripCard

/-- THE SECOND FORM's CARD OF 'armplanlaw8.RobotChecks'. -/
def robotChecksUptoCard : Claim7 := { stood := { row := robotChecksUptoRow, standIns := [], harness := (true, "a1e73b3cce15e0c1450dc509880d25adf7377a4ce05768d5d1340f9631ab068c"), looks := false }, kinds := [], alts := [], laidByText := true, laidKinds := [.data], laidTests := true, laidLooks := .later }
def RobotChecksUptoCardSaid : Prop := Claim7.holds Tryd.pinned (.plain (OpenSpec.upto robotChecksSpec)) robotChecksUptoCard

/-- THE SECOND FORM's CARD OF 'armplanlaw8.RobotReads'. -/
def robotReadsUptoCard : Claim7 := { stood := { row := robotReadsUptoRow, standIns := [], harness := (true, "a1e73b3cce15e0c1450dc509880d25adf7377a4ce05768d5d1340f9631ab068c"), looks := false }, kinds := [], alts := [], laidByText := true, laidKinds := [.data], laidTests := true, laidLooks := .later }
def RobotReadsUptoCardSaid : Prop := Claim7.holds Tryd.pinned (.plain (OpenSpec.upto robotReadsSpec)) robotReadsUptoCard

/-- THE SECOND FORM's CARD OF 'armplanlaw8.RobotChainSteps'. -/
def robotChainStepsUptoCard : Claim7 := { stood := { row := robotChainStepsUptoRow, standIns := [], harness := (true, "a1e73b3cce15e0c1450dc509880d25adf7377a4ce05768d5d1340f9631ab068c"), looks := false }, kinds := [], alts := [], laidByText := true, laidKinds := [.data], laidTests := true, laidLooks := .later }
def RobotChainStepsUptoCardSaid : Prop := Claim7.holds Tryd.pinned (.plain (OpenSpec.upto robotChainStepsSpec)) robotChainStepsUptoCard

/-- THE SECOND FORM's CARD OF 'armplanlaw8.RobotBetween'. -/
def robotBetweenUptoCard : Claim7 := { stood := { row := robotBetweenUptoRow, standIns := [], harness := (true, "a1e73b3cce15e0c1450dc509880d25adf7377a4ce05768d5d1340f9631ab068c"), looks := false }, kinds := [], alts := [], laidByText := true, laidKinds := [.data], laidTests := true, laidLooks := .later }
def RobotBetweenUptoCardSaid : Prop := Claim7.holds Tryd.pinned (.plain (OpenSpec.upto robotBetweenSpec)) robotBetweenUptoCard

/-- THE SECOND FORM's CARD OF 'armplanlaw8.RobotChains'. -/
def robotChainsUptoCard : Claim7 := { stood := { row := robotChainsUptoRow, standIns := [], harness := (true, "a1e73b3cce15e0c1450dc509880d25adf7377a4ce05768d5d1340f9631ab068c"), looks := false }, kinds := [], alts := [], laidByText := true, laidKinds := [.data], laidTests := true, laidLooks := .later }
def RobotChainsUptoCardSaid : Prop := Claim7.holds Tryd.pinned (.plain (OpenSpec.upto robotChainsSpec)) robotChainsUptoCard

/-- THE SECOND FORM's CARD OF 'armplanlaw8.RobotRoundTrip'. -/
def robotRoundTripUptoCard : Claim7 := { stood := { row := robotRoundTripUptoRow, standIns := [], harness := (true, "a1e73b3cce15e0c1450dc509880d25adf7377a4ce05768d5d1340f9631ab068c"), looks := false }, kinds := [], alts := [], laidByText := true, laidKinds := [.data, .data, .data, .data, .data, .pinned], laidTests := true, laidLooks := .later }
def RobotRoundTripUptoCardSaid : Prop := Claim7.holds Tryd.pinned (.plain (OpenSpec.upto robotRoundTripSpec)) robotRoundTripUptoCard
end Rows
end Go.Proofs.YtlfclainmbafiaaDoor
