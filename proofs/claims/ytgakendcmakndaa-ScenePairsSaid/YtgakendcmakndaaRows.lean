/-
  No cell of these rows narrows 'for every input' (looked for: loops, veiled, ifaces, maps, wideKeys, modest, calm, conditions, laid).
  DERIVED. THE GIVEN ROWS OF THIS SEAT. 5 by the template 'for every input the law returns true; each argument reads behind the call as it read before'; 0 by the template 'total and deterministic' (their statements: YtgakendcmakndaaTotals.lean).
  GIVEN WITH THE SEED: the statements are not yours to turn. If you find one false, say at which input.
  Laid BY PROGRAM, IN A SANDBOX (cutbox-rows.mjs): the forced cells as the released guide's own fill.sh prints them over the translation 1b4fb5c35f624126… (all of the seat's roots in one cut). By AI agents, Wed Nov 11 2026. No macro, syntax, notation, axiom, sorry.
-/
import Derived.Test.YtgakendcmakndaaChecked
import GoSem.Claim
import GoSem.ClaimJoined
import GoSem.ClaimMapViews
import Derived.JoinedTies
import Derived.KernelRfl
namespace Go.Proofs.Ytgakendcmakndaa
/- THE CELL 'sum', in the pinned program and in every row, IS THE sha256 OF THE DUMP (.gsa) THAT YtgakendcmakndaaProg.lean LOADS. Nothing in Lean hashes anything: it is a label: what it is worth is what the hold of that sum in a sandbox is worth. -/
noncomputable def Try.pinned : Pinned := { name := "ytgakendcmakndaa", sum := "1b4fb5c35f62412687a3a098e2044bb0b058f36d7e81bbb1bc6e1c07fbb9f9d5", checked := Try.checked }
namespace Rows
def none {H : Type} : Left H := { results := [], args := [] }

/-- 'armplanlaw9.SceneChecks': WHATEVER THE INPUT: true; the input reads as it did. -/
def sceneChecksSpec : ChangeSpec := { name := "sceneChecks", fn := fun _ => fun
  | [d1, d2, d3, d4, d5] => { results := [.lit (.bool true)], args := [d1, d2, d3, d4, d5] }
  | _ => none }
def sceneChecksRow : OpenClaim := { program := "ytgakendcmakndaa", sum := "1b4fb5c35f62412687a3a098e2044bb0b058f36d7e81bbb1bc6e1c07fbb9f9d5", func := "armplan/armplanlaw9.SceneChecks", spec := "sceneChecks", unfollowed := true, recurses := true, apart := false }
def SceneChecksSaid : Prop := sceneChecksRow.holds Try.pinned (OpenSpec.ofChange sceneChecksSpec)

/-- ITS FALSE NEIGHBOUR: 'it returns false'. Refute it at one input. -/
def sceneChecksWrong : ChangeSpec := { name := "sceneChecks", fn := fun _ => fun
  | [d1, d2, d3, d4, d5] => { results := [.lit (.bool false)], args := [d1, d2, d3, d4, d5] }
  | _ => none }
def SceneChecksWrongFalsely : Prop := sceneChecksRow.holds Try.pinned (OpenSpec.ofChange sceneChecksWrong)

/-- 'armplanlaw9.SceneSkips': WHATEVER THE INPUT: true; the input reads as it did. -/
def sceneSkipsSpec : ChangeSpec := { name := "sceneSkips", fn := fun _ => fun
  | [d1, d2, d3] => { results := [.lit (.bool true)], args := [d1, d2, d3] }
  | _ => none }
def sceneSkipsRow : OpenClaim := { program := "ytgakendcmakndaa", sum := "1b4fb5c35f62412687a3a098e2044bb0b058f36d7e81bbb1bc6e1c07fbb9f9d5", func := "armplan/armplanlaw9.SceneSkips", spec := "sceneSkips", unfollowed := true, recurses := true, apart := false }
def SceneSkipsSaid : Prop := sceneSkipsRow.holds Try.pinned (OpenSpec.ofChange sceneSkipsSpec)

/-- ITS FALSE NEIGHBOUR: 'it returns false'. Refute it at one input. -/
def sceneSkipsWrong : ChangeSpec := { name := "sceneSkips", fn := fun _ => fun
  | [d1, d2, d3] => { results := [.lit (.bool false)], args := [d1, d2, d3] }
  | _ => none }
def SceneSkipsWrongFalsely : Prop := sceneSkipsRow.holds Try.pinned (OpenSpec.ofChange sceneSkipsWrong)

/-- 'armplanlaw9.SceneStill': WHATEVER THE INPUT: true; the input reads as it did. -/
def sceneStillSpec : ChangeSpec := { name := "sceneStill", fn := fun _ => fun
  | [d] => { results := [.lit (.bool true)], args := [d] }
  | _ => none }
def sceneStillRow : OpenClaim := { program := "ytgakendcmakndaa", sum := "1b4fb5c35f62412687a3a098e2044bb0b058f36d7e81bbb1bc6e1c07fbb9f9d5", func := "armplan/armplanlaw9.SceneStill", spec := "sceneStill", unfollowed := true, recurses := true, apart := false }
def SceneStillSaid : Prop := sceneStillRow.holds Try.pinned (OpenSpec.ofChange sceneStillSpec)

/-- ITS FALSE NEIGHBOUR: 'it returns false'. Refute it at one input. -/
def sceneStillWrong : ChangeSpec := { name := "sceneStill", fn := fun _ => fun
  | [d] => { results := [.lit (.bool false)], args := [d] }
  | _ => none }
def SceneStillWrongFalsely : Prop := sceneStillRow.holds Try.pinned (OpenSpec.ofChange sceneStillWrong)

/-- 'armplanlaw9.SceneNames': WHATEVER THE INPUT: true; the input reads as it did. -/
def sceneNamesSpec : ChangeSpec := { name := "sceneNames", fn := fun _ => fun
  | [d] => { results := [.lit (.bool true)], args := [d] }
  | _ => none }
def sceneNamesRow : OpenClaim := { program := "ytgakendcmakndaa", sum := "1b4fb5c35f62412687a3a098e2044bb0b058f36d7e81bbb1bc6e1c07fbb9f9d5", func := "armplan/armplanlaw9.SceneNames", spec := "sceneNames", unfollowed := true, recurses := true, apart := false }
def SceneNamesSaid : Prop := sceneNamesRow.holds Try.pinned (OpenSpec.ofChange sceneNamesSpec)

/-- ITS FALSE NEIGHBOUR: 'it returns false'. Refute it at one input. -/
def sceneNamesWrong : ChangeSpec := { name := "sceneNames", fn := fun _ => fun
  | [d] => { results := [.lit (.bool false)], args := [d] }
  | _ => none }
def SceneNamesWrongFalsely : Prop := sceneNamesRow.holds Try.pinned (OpenSpec.ofChange sceneNamesWrong)

/-- 'armplanlaw9.ScenePairs': WHATEVER THE INPUT: true; the input reads as it did. -/
def scenePairsSpec : ChangeSpec := { name := "scenePairs", fn := fun _ => fun
  | [d] => { results := [.lit (.bool true)], args := [d] }
  | _ => none }
def scenePairsRow : OpenClaim := { program := "ytgakendcmakndaa", sum := "1b4fb5c35f62412687a3a098e2044bb0b058f36d7e81bbb1bc6e1c07fbb9f9d5", func := "armplan/armplanlaw9.ScenePairs", spec := "scenePairs", unfollowed := true, recurses := true, apart := false }
def ScenePairsSaid : Prop := scenePairsRow.holds Try.pinned (OpenSpec.ofChange scenePairsSpec)

/-- ITS FALSE NEIGHBOUR: 'it returns false'. Refute it at one input. -/
def scenePairsWrong : ChangeSpec := { name := "scenePairs", fn := fun _ => fun
  | [d] => { results := [.lit (.bool false)], args := [d] }
  | _ => none }
def ScenePairsWrongFalsely : Prop := scenePairsRow.holds Try.pinned (OpenSpec.ofChange scenePairsWrong)

/- THE SECOND FORM. 'bulk': how many values and letters a reading holds, each counted each time it is reached (what is shared counts as often as it is met; a slice's spare places count too). A statement '..UptoSaid' is the law's where the arguments, and the package variables that the reading takes, are together of bulk at most 1048576: NARROWER than '..Said'. Prove '..Said' where nothing that the law and all that it calls make is longer than what came in: it says more and counts as full. Else prove '..UptoSaid'. A law counts once. -/
mutual
def uptoBulk {H : Type} : DataW H → Nat
  | .lit (.string bytes) => bytes.length + 1
  | .lit _ => 1
  | .nil => 1
  | .ptr d => uptoBulk d + 1
  | .slice elems spare => uptoBulkAll elems + uptoBulkAll spare + 1
  | .agg parts => uptoBulkAll parts + 1
  | .iface _ d => uptoBulk d + 1
  | .map entries => uptoBulkEntries entries + 1
  | .held _ => 1
def uptoBulkAll {H : Type} : List (DataW H) → Nat
  | [] => 0
  | d :: r => uptoBulk d + uptoBulkAll r
def uptoBulkEntries {H : Type} : List (Lit × DataW H) → Nat
  | [] => 0
  | x :: r => uptoBulkEntry x + uptoBulkEntries r
def uptoBulkEntry {H : Type} : Lit × DataW H → Nat
  | (.string bytes, d) => bytes.length + uptoBulk d + 1
  | (_, d) => uptoBulk d + 1
 end
def uptoSmall : (H : Type) → List (DataW H) → Bool := fun _ ds => decide (uptoBulkAll ds ≤ 1048576)
def OpenSpec.upto (s : _root_.Go.ChangeSpec) : _root_.Go.OpenSpec := { _root_.Go.OpenSpec.ofChange s with cond := some uptoSmall }

/-- 'armplanlaw9.SceneChecks', WHERE WHAT IT READS IS OF BULK AT MOST 1048576: true; the input reads as it did. -/
def sceneChecksUptoRow : OpenClaim := { program := "ytgakendcmakndaa", sum := "1b4fb5c35f62412687a3a098e2044bb0b058f36d7e81bbb1bc6e1c07fbb9f9d5", func := "armplan/armplanlaw9.SceneChecks", spec := "sceneChecks", unfollowed := true, recurses := true, apart := false, narrowed := true }
def SceneChecksUptoSaid : Prop := sceneChecksUptoRow.holds Try.pinned (OpenSpec.upto sceneChecksSpec)

/-- 'armplanlaw9.SceneSkips', WHERE WHAT IT READS IS OF BULK AT MOST 1048576: true; the input reads as it did. -/
def sceneSkipsUptoRow : OpenClaim := { program := "ytgakendcmakndaa", sum := "1b4fb5c35f62412687a3a098e2044bb0b058f36d7e81bbb1bc6e1c07fbb9f9d5", func := "armplan/armplanlaw9.SceneSkips", spec := "sceneSkips", unfollowed := true, recurses := true, apart := false, narrowed := true }
def SceneSkipsUptoSaid : Prop := sceneSkipsUptoRow.holds Try.pinned (OpenSpec.upto sceneSkipsSpec)

/-- 'armplanlaw9.SceneStill', WHERE WHAT IT READS IS OF BULK AT MOST 1048576: true; the input reads as it did. -/
def sceneStillUptoRow : OpenClaim := { program := "ytgakendcmakndaa", sum := "1b4fb5c35f62412687a3a098e2044bb0b058f36d7e81bbb1bc6e1c07fbb9f9d5", func := "armplan/armplanlaw9.SceneStill", spec := "sceneStill", unfollowed := true, recurses := true, apart := false, narrowed := true }
def SceneStillUptoSaid : Prop := sceneStillUptoRow.holds Try.pinned (OpenSpec.upto sceneStillSpec)

/-- 'armplanlaw9.SceneNames', WHERE WHAT IT READS IS OF BULK AT MOST 1048576: true; the input reads as it did. -/
def sceneNamesUptoRow : OpenClaim := { program := "ytgakendcmakndaa", sum := "1b4fb5c35f62412687a3a098e2044bb0b058f36d7e81bbb1bc6e1c07fbb9f9d5", func := "armplan/armplanlaw9.SceneNames", spec := "sceneNames", unfollowed := true, recurses := true, apart := false, narrowed := true }
def SceneNamesUptoSaid : Prop := sceneNamesUptoRow.holds Try.pinned (OpenSpec.upto sceneNamesSpec)

/-- 'armplanlaw9.ScenePairs', WHERE WHAT IT READS IS OF BULK AT MOST 1048576: true; the input reads as it did. -/
def scenePairsUptoRow : OpenClaim := { program := "ytgakendcmakndaa", sum := "1b4fb5c35f62412687a3a098e2044bb0b058f36d7e81bbb1bc6e1c07fbb9f9d5", func := "armplan/armplanlaw9.ScenePairs", spec := "scenePairs", unfollowed := true, recurses := true, apart := false, narrowed := true }
def ScenePairsUptoSaid : Prop := scenePairsUptoRow.holds Try.pinned (OpenSpec.upto scenePairsSpec)

end Rows
end Go.Proofs.Ytgakendcmakndaa
