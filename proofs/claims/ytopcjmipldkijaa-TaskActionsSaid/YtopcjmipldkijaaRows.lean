/-
  No cell of these rows narrows 'for every input' (looked for: loops, veiled, ifaces, maps, wideKeys, modest, calm, conditions, laid).
  DERIVED. THE GIVEN ROWS OF THIS SEAT. 6 by the template 'for every input the law returns true; each argument reads behind the call as it read before'; 0 by the template 'total and deterministic' (their statements: YtopcjmipldkijaaTotals.lean).
  GIVEN WITH THE SEED: the statements are not yours to turn. If you find one false, say at which input.
  Laid BY PROGRAM, IN A SANDBOX (cutbox-rows.mjs): the forced cells as the released guide's own fill.sh prints them over the translation 72ed20f64e297cf4… (all of the seat's roots in one cut). By AI agents, Wed Nov 11 2026. No macro, syntax, notation, axiom, sorry.
-/
import Derived.Test.YtopcjmipldkijaaChecked
import GoSem.Claim
import GoSem.ClaimJoined
import GoSem.ClaimMapViews
import Derived.JoinedTies
import Derived.KernelRfl
namespace Go.Proofs.Ytopcjmipldkijaa
/- THE CELL 'sum', in the pinned program and in every row, IS THE sha256 OF THE DUMP (.gsa) THAT YtopcjmipldkijaaProg.lean LOADS. Nothing in Lean hashes anything: it is a label: what it is worth is what the hold of that sum in a sandbox is worth. -/
noncomputable def Try.pinned : Pinned := { name := "ytopcjmipldkijaa", sum := "72ed20f64e297cf439d5d126344d42cf13cb357cb865f73e5cd11b7d8c65057a", checked := Try.checked }
namespace Rows
def none {H : Type} : Left H := { results := [], args := [] }

/-- 'armplanlaw38.TaskSolves': WHATEVER THE INPUT: true; the input reads as it did. -/
def taskSolvesSpec : ChangeSpec := { name := "taskSolves", fn := fun _ => fun
  | [d1, d2, d3, d4, d5, d6, d7, d8, d9] => { results := [.lit (.bool true)], args := [d1, d2, d3, d4, d5, d6, d7, d8, d9] }
  | _ => none }
def taskSolvesRow : OpenClaim := { program := "ytopcjmipldkijaa", sum := "72ed20f64e297cf439d5d126344d42cf13cb357cb865f73e5cd11b7d8c65057a", func := "armplan/armplanlaw38.TaskSolves", spec := "taskSolves", unfollowed := true, recurses := true, plainKeys := false, apart := false }
def TaskSolvesSaid : Prop := taskSolvesRow.holds Try.pinned (OpenSpec.ofChange taskSolvesSpec)

/-- ITS FALSE NEIGHBOUR: 'it returns false'. Refute it at one input. -/
def taskSolvesWrong : ChangeSpec := { name := "taskSolves", fn := fun _ => fun
  | [d1, d2, d3, d4, d5, d6, d7, d8, d9] => { results := [.lit (.bool false)], args := [d1, d2, d3, d4, d5, d6, d7, d8, d9] }
  | _ => none }
def TaskSolvesWrongFalsely : Prop := taskSolvesRow.holds Try.pinned (OpenSpec.ofChange taskSolvesWrong)

/-- 'armplanlaw38.TaskReplays': WHATEVER THE INPUT: true; the input reads as it did. -/
def taskReplaysSpec : ChangeSpec := { name := "taskReplays", fn := fun _ => fun
  | [d1, d2, d3, d4, d5] => { results := [.lit (.bool true)], args := [d1, d2, d3, d4, d5] }
  | _ => none }
def taskReplaysRow : OpenClaim := { program := "ytopcjmipldkijaa", sum := "72ed20f64e297cf439d5d126344d42cf13cb357cb865f73e5cd11b7d8c65057a", func := "armplan/armplanlaw38.TaskReplays", spec := "taskReplays", unfollowed := true, recurses := true, plainKeys := false, apart := false }
def TaskReplaysSaid : Prop := taskReplaysRow.holds Try.pinned (OpenSpec.ofChange taskReplaysSpec)

/-- ITS FALSE NEIGHBOUR: 'it returns false'. Refute it at one input. -/
def taskReplaysWrong : ChangeSpec := { name := "taskReplays", fn := fun _ => fun
  | [d1, d2, d3, d4, d5] => { results := [.lit (.bool false)], args := [d1, d2, d3, d4, d5] }
  | _ => none }
def TaskReplaysWrongFalsely : Prop := taskReplaysRow.holds Try.pinned (OpenSpec.ofChange taskReplaysWrong)

/-- 'armplanlaw38.TaskShortest': WHATEVER THE INPUT: true; the input reads as it did. -/
def taskShortestSpec : ChangeSpec := { name := "taskShortest", fn := fun _ => fun
  | [d1, d2, d3, d4] => { results := [.lit (.bool true)], args := [d1, d2, d3, d4] }
  | _ => none }
def taskShortestRow : OpenClaim := { program := "ytopcjmipldkijaa", sum := "72ed20f64e297cf439d5d126344d42cf13cb357cb865f73e5cd11b7d8c65057a", func := "armplan/armplanlaw38.TaskShortest", spec := "taskShortest", unfollowed := true, recurses := true, plainKeys := false, apart := false }
def TaskShortestSaid : Prop := taskShortestRow.holds Try.pinned (OpenSpec.ofChange taskShortestSpec)

/-- ITS FALSE NEIGHBOUR: 'it returns false'. Refute it at one input. -/
def taskShortestWrong : ChangeSpec := { name := "taskShortest", fn := fun _ => fun
  | [d1, d2, d3, d4] => { results := [.lit (.bool false)], args := [d1, d2, d3, d4] }
  | _ => none }
def TaskShortestWrongFalsely : Prop := taskShortestRow.holds Try.pinned (OpenSpec.ofChange taskShortestWrong)

/-- 'armplanlaw38.TaskWeaker': WHATEVER THE INPUT: true; the input reads as it did. -/
def taskWeakerSpec : ChangeSpec := { name := "taskWeaker", fn := fun _ => fun
  | [d1, d2, d3, d4] => { results := [.lit (.bool true)], args := [d1, d2, d3, d4] }
  | _ => none }
def taskWeakerRow : OpenClaim := { program := "ytopcjmipldkijaa", sum := "72ed20f64e297cf439d5d126344d42cf13cb357cb865f73e5cd11b7d8c65057a", func := "armplan/armplanlaw38.TaskWeaker", spec := "taskWeaker", unfollowed := true, recurses := true, plainKeys := false, apart := false }
def TaskWeakerSaid : Prop := taskWeakerRow.holds Try.pinned (OpenSpec.ofChange taskWeakerSpec)

/-- ITS FALSE NEIGHBOUR: 'it returns false'. Refute it at one input. -/
def taskWeakerWrong : ChangeSpec := { name := "taskWeaker", fn := fun _ => fun
  | [d1, d2, d3, d4] => { results := [.lit (.bool false)], args := [d1, d2, d3, d4] }
  | _ => none }
def TaskWeakerWrongFalsely : Prop := taskWeakerRow.holds Try.pinned (OpenSpec.ofChange taskWeakerWrong)

/-- 'armplanlaw38.TaskKeeps': WHATEVER THE INPUT: true; the input reads as it did. -/
def taskKeepsSpec : ChangeSpec := { name := "taskKeeps", fn := fun _ => fun
  | [d1, d2, d3] => { results := [.lit (.bool true)], args := [d1, d2, d3] }
  | _ => none }
def taskKeepsRow : OpenClaim := { program := "ytopcjmipldkijaa", sum := "72ed20f64e297cf439d5d126344d42cf13cb357cb865f73e5cd11b7d8c65057a", func := "armplan/armplanlaw38.TaskKeeps", spec := "taskKeeps", unfollowed := true, recurses := true, plainKeys := false, apart := false }
def TaskKeepsSaid : Prop := taskKeepsRow.holds Try.pinned (OpenSpec.ofChange taskKeepsSpec)

/-- ITS FALSE NEIGHBOUR: 'it returns false'. Refute it at one input. -/
def taskKeepsWrong : ChangeSpec := { name := "taskKeeps", fn := fun _ => fun
  | [d1, d2, d3] => { results := [.lit (.bool false)], args := [d1, d2, d3] }
  | _ => none }
def TaskKeepsWrongFalsely : Prop := taskKeepsRow.holds Try.pinned (OpenSpec.ofChange taskKeepsWrong)

/-- 'armplanlaw38.TaskActions': WHATEVER THE INPUT: true; the input reads as it did. -/
def taskActionsSpec : ChangeSpec := { name := "taskActions", fn := fun _ => fun
  | [d1, d2, d3, d4, d5, d6, d7, d8, d9, d10, d11] => { results := [.lit (.bool true)], args := [d1, d2, d3, d4, d5, d6, d7, d8, d9, d10, d11] }
  | _ => none }
def taskActionsRow : OpenClaim := { program := "ytopcjmipldkijaa", sum := "72ed20f64e297cf439d5d126344d42cf13cb357cb865f73e5cd11b7d8c65057a", func := "armplan/armplanlaw38.TaskActions", spec := "taskActions", unfollowed := true, recurses := true, plainKeys := false, apart := false }
def TaskActionsSaid : Prop := taskActionsRow.holds Try.pinned (OpenSpec.ofChange taskActionsSpec)

/-- ITS FALSE NEIGHBOUR: 'it returns false'. Refute it at one input. -/
def taskActionsWrong : ChangeSpec := { name := "taskActions", fn := fun _ => fun
  | [d1, d2, d3, d4, d5, d6, d7, d8, d9, d10, d11] => { results := [.lit (.bool false)], args := [d1, d2, d3, d4, d5, d6, d7, d8, d9, d10, d11] }
  | _ => none }
def TaskActionsWrongFalsely : Prop := taskActionsRow.holds Try.pinned (OpenSpec.ofChange taskActionsWrong)

/- THE SECOND FORM. 'bulk': how many values and letters a reading holds, each counted each time it is reached (what is shared counts as often as it is met; a slice's spare places count too). A statement '..UptoSaid' is the law's where the arguments, and the package variables that the reading takes, are together of bulk at most 1048576: NARROWER than '..Said'. Prove '..Said' where nothing that the law and all that it calls make is longer than what came in: it says more and counts as full. Else prove '..UptoSaid'. A law counts once. -/
mutual
def uptoBulk {H : Type} : DataW H → Nat
  | .lit (.string bytes) => bytes.length + 1
  | .lit _ => 1
  | .nil => 1
  | .ptr d => uptoBulk d + 1
  | .slice elems spare => uptoBulkAll elems + uptoBulkAll spare + 1
  | .agg parts => uptoBulkAll parts + 1
  | .iface _ d => uptoBulk d + 1
  | .map entries => uptoBulkEntries entries + 1
  | .held _ => 1
def uptoBulkAll {H : Type} : List (DataW H) → Nat
  | [] => 0
  | d :: r => uptoBulk d + uptoBulkAll r
def uptoBulkEntries {H : Type} : List (Lit × DataW H) → Nat
  | [] => 0
  | x :: r => uptoBulkEntry x + uptoBulkEntries r
def uptoBulkEntry {H : Type} : Lit × DataW H → Nat
  | (.string bytes, d) => bytes.length + uptoBulk d + 1
  | (_, d) => uptoBulk d + 1
 end
def uptoSmall : (H : Type) → List (DataW H) → Bool := fun _ ds => decide (uptoBulkAll ds ≤ 1048576)
def OpenSpec.upto (s : _root_.Go.ChangeSpec) : _root_.Go.OpenSpec := { _root_.Go.OpenSpec.ofChange s with cond := some uptoSmall }

/-- 'armplanlaw38.TaskSolves', WHERE WHAT IT READS IS OF BULK AT MOST 1048576: true; the input reads as it did. -/
def taskSolvesUptoRow : OpenClaim := { program := "ytopcjmipldkijaa", sum := "72ed20f64e297cf439d5d126344d42cf13cb357cb865f73e5cd11b7d8c65057a", func := "armplan/armplanlaw38.TaskSolves", spec := "taskSolves", unfollowed := true, recurses := true, plainKeys := false, apart := false, narrowed := true }
def TaskSolvesUptoSaid : Prop := taskSolvesUptoRow.holds Try.pinned (OpenSpec.upto taskSolvesSpec)

/-- 'armplanlaw38.TaskReplays', WHERE WHAT IT READS IS OF BULK AT MOST 1048576: true; the input reads as it did. -/
def taskReplaysUptoRow : OpenClaim := { program := "ytopcjmipldkijaa", sum := "72ed20f64e297cf439d5d126344d42cf13cb357cb865f73e5cd11b7d8c65057a", func := "armplan/armplanlaw38.TaskReplays", spec := "taskReplays", unfollowed := true, recurses := true, plainKeys := false, apart := false, narrowed := true }
def TaskReplaysUptoSaid : Prop := taskReplaysUptoRow.holds Try.pinned (OpenSpec.upto taskReplaysSpec)

/-- 'armplanlaw38.TaskShortest', WHERE WHAT IT READS IS OF BULK AT MOST 1048576: true; the input reads as it did. -/
def taskShortestUptoRow : OpenClaim := { program := "ytopcjmipldkijaa", sum := "72ed20f64e297cf439d5d126344d42cf13cb357cb865f73e5cd11b7d8c65057a", func := "armplan/armplanlaw38.TaskShortest", spec := "taskShortest", unfollowed := true, recurses := true, plainKeys := false, apart := false, narrowed := true }
def TaskShortestUptoSaid : Prop := taskShortestUptoRow.holds Try.pinned (OpenSpec.upto taskShortestSpec)

/-- 'armplanlaw38.TaskWeaker', WHERE WHAT IT READS IS OF BULK AT MOST 1048576: true; the input reads as it did. -/
def taskWeakerUptoRow : OpenClaim := { program := "ytopcjmipldkijaa", sum := "72ed20f64e297cf439d5d126344d42cf13cb357cb865f73e5cd11b7d8c65057a", func := "armplan/armplanlaw38.TaskWeaker", spec := "taskWeaker", unfollowed := true, recurses := true, plainKeys := false, apart := false, narrowed := true }
def TaskWeakerUptoSaid : Prop := taskWeakerUptoRow.holds Try.pinned (OpenSpec.upto taskWeakerSpec)

/-- 'armplanlaw38.TaskKeeps', WHERE WHAT IT READS IS OF BULK AT MOST 1048576: true; the input reads as it did. -/
def taskKeepsUptoRow : OpenClaim := { program := "ytopcjmipldkijaa", sum := "72ed20f64e297cf439d5d126344d42cf13cb357cb865f73e5cd11b7d8c65057a", func := "armplan/armplanlaw38.TaskKeeps", spec := "taskKeeps", unfollowed := true, recurses := true, plainKeys := false, apart := false, narrowed := true }
def TaskKeepsUptoSaid : Prop := taskKeepsUptoRow.holds Try.pinned (OpenSpec.upto taskKeepsSpec)

/-- 'armplanlaw38.TaskActions', WHERE WHAT IT READS IS OF BULK AT MOST 1048576: true; the input reads as it did. -/
def taskActionsUptoRow : OpenClaim := { program := "ytopcjmipldkijaa", sum := "72ed20f64e297cf439d5d126344d42cf13cb357cb865f73e5cd11b7d8c65057a", func := "armplan/armplanlaw38.TaskActions", spec := "taskActions", unfollowed := true, recurses := true, plainKeys := false, apart := false, narrowed := true }
def TaskActionsUptoSaid : Prop := taskActionsUptoRow.holds Try.pinned (OpenSpec.upto taskActionsSpec)

end Rows
end Go.Proofs.Ytopcjmipldkijaa
