/-
  NARROWER THAN 'FOR EVERY INPUT', by the rows' own cells (each row's printed sentence says how): SceneReads: laid.
  DERIVED. THE GIVEN ROWS OF THIS SEAT. 1 by the template 'for every input the law returns true; each argument reads behind the call as it read before'; 0 by the template 'total and deterministic' (their statements: YtafglmjadbplcaaDoorTotals.lean).
  GIVEN WITH THE SEED: the statements are not yours to turn. If you find one false, say at which input.
  Laid BY PROGRAM, IN A SANDBOX (cutbox-rows.mjs): the forced cells as the released guide's own fill.sh prints them over the translation e4cbf85f25443daf… (all of the seat's roots in one cut). By AI agents, Wed Nov 11 2026. No macro, syntax, notation, axiom, sorry.
-/
import Derived.Test.YtafglmjadbplcaaDoorChecked
import GoSem.Claim
import GoSem.ClaimJoined
import GoSem.ClaimMapViews
import Derived.JoinedTies
import Derived.KernelRfl
namespace Go.Proofs.YtafglmjadbplcaaDoor
/- THE CELL 'sum', in the pinned program and in every row, IS THE sha256 OF THE DUMP (.gsa) THAT YtafglmjadbplcaaDoorProg.lean LOADS. Nothing in Lean hashes anything: it is a label: what it is worth is what the hold of that sum in a sandbox is worth. -/
noncomputable def Tryd.pinned : Pinned := { name := "ytafglmjadbplcaadoor", sum := "e4cbf85f25443daf225af752bb5ce1d11f6a7732a3bd0ec41b06ed6e6178c0ca", checked := Tryd.checked }
namespace Rows
def none {H : Type} : Left H := { results := [], args := [] }

/- WHAT THE LISTED PACKAGE-LEVEL VARIABLES READ AS WHEN THE CALL BEGINS. Each datum BY PROGRAM (the guide's laid-datum.mjs) off the statement by which the dump's own 'gosem.cut.vars' lays the variable. In a bare row this is a premise. The card (YtafglmjadbplcaaDoorCards.lean) ties it to the program's text. -/
def laid_armplan_robot_kindNames {H : Type} : DataW H := .agg [.lit (.string [102, 105, 120, 101, 100]), .lit (.string [116, 117, 114, 110, 120]), .lit (.string [116, 117, 114, 110, 121]), .lit (.string [116, 117, 114, 110, 122]), .lit (.string [115, 108, 105, 100, 101, 120]), .lit (.string [115, 108, 105, 100, 101, 121]), .lit (.string [115, 108, 105, 100, 101, 122])]

/-- 'armplanlaw9.SceneReads': WHATEVER THE INPUT: true; the input reads as it did. -/
def sceneReadsSpec : ChangeSpec := { name := "sceneReads", fn := fun _ => fun
  | [d1, d2, d3, d4, d5] => { results := [.lit (.bool true)], args := [d1, d2, d3, d4, d5] }
  | _ => none }
def sceneReadsRow : OpenClaim := { program := "ytafglmjadbplcaadoor", sum := "e4cbf85f25443daf225af752bb5ce1d11f6a7732a3bd0ec41b06ed6e6178c0ca", func := "armplan/armplanlaw9.SceneReads", spec := "sceneReads", inPlace := ["internal/bytealg.IndexByteString", "internal/bytealg.IndexString"], unfollowed := true, recurses := true, named := ["armplan/robot.kindNames", "internal/bytealg.MaxLen"], apart := false, laid := [("armplan/robot.kindNames", laid_armplan_robot_kindNames)] }
def SceneReadsSaid : Prop := sceneReadsRow.holds Tryd.pinned (OpenSpec.ofChange sceneReadsSpec)

/-- ITS FALSE NEIGHBOUR: 'it returns false'. Refute it at one input. -/
def sceneReadsWrong : ChangeSpec := { name := "sceneReads", fn := fun _ => fun
  | [d1, d2, d3, d4, d5] => { results := [.lit (.bool false)], args := [d1, d2, d3, d4, d5] }
  | _ => none }
def SceneReadsWrongFalsely : Prop := sceneReadsRow.holds Tryd.pinned (OpenSpec.ofChange sceneReadsWrong)

/- THE SECOND FORM. 'bulk': how many values and letters a reading holds, each counted each time it is reached (what is shared counts as often as it is met; a slice's spare places count too). A statement '..UptoSaid' is the law's where the arguments, and the package variables that the reading takes, are together of bulk at most 1048576: NARROWER than '..Said'. Prove '..Said' where nothing that the law and all that it calls make is longer than what came in: it says more and counts as full. Else prove '..UptoSaid'. A law counts once. -/
mutual
def uptoBulk {H : Type} : DataW H → Nat
  | .lit (.string bytes) => bytes.length + 1
  | .lit _ => 1
  | .nil => 1
  | .ptr d => uptoBulk d + 1
  | .slice elems spare => uptoBulkAll elems + uptoBulkAll spare + 1
  | .agg parts => uptoBulkAll parts + 1
  | .iface _ d => uptoBulk d + 1
  | .map entries => uptoBulkEntries entries + 1
  | .held _ => 1
def uptoBulkAll {H : Type} : List (DataW H) → Nat
  | [] => 0
  | d :: r => uptoBulk d + uptoBulkAll r
def uptoBulkEntries {H : Type} : List (Lit × DataW H) → Nat
  | [] => 0
  | x :: r => uptoBulkEntry x + uptoBulkEntries r
def uptoBulkEntry {H : Type} : Lit × DataW H → Nat
  | (.string bytes, d) => bytes.length + uptoBulk d + 1
  | (_, d) => uptoBulk d + 1
 end
def uptoSmall : (H : Type) → List (DataW H) → Bool := fun _ ds => decide (uptoBulkAll ds ≤ 1048576)
def OpenSpec.upto (s : _root_.Go.ChangeSpec) : _root_.Go.OpenSpec := { _root_.Go.OpenSpec.ofChange s with cond := some uptoSmall }

/-- 'armplanlaw9.SceneReads', WHERE WHAT IT READS IS OF BULK AT MOST 1048576: true; the input reads as it did. -/
def sceneReadsUptoRow : OpenClaim := { program := "ytafglmjadbplcaadoor", sum := "e4cbf85f25443daf225af752bb5ce1d11f6a7732a3bd0ec41b06ed6e6178c0ca", func := "armplan/armplanlaw9.SceneReads", spec := "sceneReads", inPlace := ["internal/bytealg.IndexByteString", "internal/bytealg.IndexString"], unfollowed := true, recurses := true, named := ["armplan/robot.kindNames", "internal/bytealg.MaxLen"], apart := false, laid := [("armplan/robot.kindNames", laid_armplan_robot_kindNames)], narrowed := true }
def SceneReadsUptoSaid : Prop := sceneReadsUptoRow.holds Tryd.pinned (OpenSpec.upto sceneReadsSpec)

end Rows
end Go.Proofs.YtafglmjadbplcaaDoor
