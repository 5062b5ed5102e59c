/-
  No cell of these rows narrows 'for every input' (looked for: loops, veiled, ifaces, maps, wideKeys, modest, calm, conditions, laid).
  DERIVED. THE GIVEN ROWS OF THIS SEAT. 10 by the template 'for every input the law returns true; each argument reads behind the call as it read before'; 0 by the template 'total and deterministic' (their statements: YtejjkajknmhplaaTotals.lean).
  GIVEN WITH THE SEED: the statements are not yours to turn. If you find one false, say at which input.
  Laid BY PROGRAM, IN A SANDBOX (cutbox-rows.mjs): the forced cells as the released guide's own fill.sh prints them over the translation c70eec4717ebac19… (all of the seat's roots in one cut). By AI agents, Wed Nov 11 2026. No macro, syntax, notation, axiom, sorry.
-/
import Derived.Test.YtejjkajknmhplaaChecked
import GoSem.Claim
import GoSem.ClaimJoined
import GoSem.ClaimMapViews
import Derived.JoinedTies
import Derived.KernelRfl
namespace Go.Proofs.Ytejjkajknmhplaa
/- THE CELL 'sum', in the pinned program and in every row, IS THE sha256 OF THE DUMP (.gsa) THAT YtejjkajknmhplaaProg.lean LOADS. Nothing in Lean hashes anything: it is a label: what it is worth is what the hold of that sum in a sandbox is worth. -/
noncomputable def Try.pinned : Pinned := { name := "ytejjkajknmhplaa", sum := "c70eec4717ebac190ad8ac2010fa800b61488b3daca951d136431050bda71d19", checked := Try.checked }
namespace Rows
def none {H : Type} : Left H := { results := [], args := [] }

/-- 'armplanlaw41.ProfileGreatest': WHATEVER THE INPUT: true; the input reads as it did. -/
def profileGreatestSpec : ChangeSpec := { name := "profileGreatest", fn := fun _ => fun
  | [d1, d2, d3, d4] => { results := [.lit (.bool true)], args := [d1, d2, d3, d4] }
  | _ => none }
def profileGreatestRow : OpenClaim := { program := "ytejjkajknmhplaa", sum := "c70eec4717ebac190ad8ac2010fa800b61488b3daca951d136431050bda71d19", func := "armplan/armplanlaw41.ProfileGreatest", spec := "profileGreatest", apart := false }
def ProfileGreatestSaid : Prop := profileGreatestRow.holds Try.pinned (OpenSpec.ofChange profileGreatestSpec)

/-- ITS FALSE NEIGHBOUR: 'it returns false'. Refute it at one input. -/
def profileGreatestWrong : ChangeSpec := { name := "profileGreatest", fn := fun _ => fun
  | [d1, d2, d3, d4] => { results := [.lit (.bool false)], args := [d1, d2, d3, d4] }
  | _ => none }
def ProfileGreatestWrongFalsely : Prop := profileGreatestRow.holds Try.pinned (OpenSpec.ofChange profileGreatestWrong)

/-- 'armplanlaw41.ProfileLattice': WHATEVER THE INPUT: true; the input reads as it did. -/
def profileLatticeSpec : ChangeSpec := { name := "profileLattice", fn := fun _ => fun
  | [d1, d2, d3] => { results := [.lit (.bool true)], args := [d1, d2, d3] }
  | _ => none }
def profileLatticeRow : OpenClaim := { program := "ytejjkajknmhplaa", sum := "c70eec4717ebac190ad8ac2010fa800b61488b3daca951d136431050bda71d19", func := "armplan/armplanlaw41.ProfileLattice", spec := "profileLattice", apart := false }
def ProfileLatticeSaid : Prop := profileLatticeRow.holds Try.pinned (OpenSpec.ofChange profileLatticeSpec)

/-- ITS FALSE NEIGHBOUR: 'it returns false'. Refute it at one input. -/
def profileLatticeWrong : ChangeSpec := { name := "profileLattice", fn := fun _ => fun
  | [d1, d2, d3] => { results := [.lit (.bool false)], args := [d1, d2, d3] }
  | _ => none }
def ProfileLatticeWrongFalsely : Prop := profileLatticeRow.holds Try.pinned (OpenSpec.ofChange profileLatticeWrong)

/-- 'armplanlaw41.ProfileTop': WHATEVER THE INPUT: true; the input reads as it did. -/
def profileTopSpec : ChangeSpec := { name := "profileTop", fn := fun _ => fun
  | [d1, d2, d3] => { results := [.lit (.bool true)], args := [d1, d2, d3] }
  | _ => none }
def profileTopRow : OpenClaim := { program := "ytejjkajknmhplaa", sum := "c70eec4717ebac190ad8ac2010fa800b61488b3daca951d136431050bda71d19", func := "armplan/armplanlaw41.ProfileTop", spec := "profileTop", apart := false }
def ProfileTopSaid : Prop := profileTopRow.holds Try.pinned (OpenSpec.ofChange profileTopSpec)

/-- ITS FALSE NEIGHBOUR: 'it returns false'. Refute it at one input. -/
def profileTopWrong : ChangeSpec := { name := "profileTop", fn := fun _ => fun
  | [d1, d2, d3] => { results := [.lit (.bool false)], args := [d1, d2, d3] }
  | _ => none }
def ProfileTopWrongFalsely : Prop := profileTopRow.holds Try.pinned (OpenSpec.ofChange profileTopWrong)

/-- 'armplanlaw41.ProfileRamps': WHATEVER THE INPUT: true; the input reads as it did. -/
def profileRampsSpec : ChangeSpec := { name := "profileRamps", fn := fun _ => fun
  | [d1, d2] => { results := [.lit (.bool true)], args := [d1, d2] }
  | _ => none }
def profileRampsRow : OpenClaim := { program := "ytejjkajknmhplaa", sum := "c70eec4717ebac190ad8ac2010fa800b61488b3daca951d136431050bda71d19", func := "armplan/armplanlaw41.ProfileRamps", spec := "profileRamps", apart := false }
def ProfileRampsSaid : Prop := profileRampsRow.holds Try.pinned (OpenSpec.ofChange profileRampsSpec)

/-- ITS FALSE NEIGHBOUR: 'it returns false'. Refute it at one input. -/
def profileRampsWrong : ChangeSpec := { name := "profileRamps", fn := fun _ => fun
  | [d1, d2] => { results := [.lit (.bool false)], args := [d1, d2] }
  | _ => none }
def ProfileRampsWrongFalsely : Prop := profileRampsRow.holds Try.pinned (OpenSpec.ofChange profileRampsWrong)

/-- 'armplanlaw41.ProfilePhases': WHATEVER THE INPUT: true; the input reads as it did. -/
def profilePhasesSpec : ChangeSpec := { name := "profilePhases", fn := fun _ => fun
  | [d] => { results := [.lit (.bool true)], args := [d] }
  | _ => none }
def profilePhasesRow : OpenClaim := { program := "ytejjkajknmhplaa", sum := "c70eec4717ebac190ad8ac2010fa800b61488b3daca951d136431050bda71d19", func := "armplan/armplanlaw41.ProfilePhases", spec := "profilePhases", apart := false }
def ProfilePhasesSaid : Prop := profilePhasesRow.holds Try.pinned (OpenSpec.ofChange profilePhasesSpec)

/-- ITS FALSE NEIGHBOUR: 'it returns false'. Refute it at one input. -/
def profilePhasesWrong : ChangeSpec := { name := "profilePhases", fn := fun _ => fun
  | [d] => { results := [.lit (.bool false)], args := [d] }
  | _ => none }
def ProfilePhasesWrongFalsely : Prop := profilePhasesRow.holds Try.pinned (OpenSpec.ofChange profilePhasesWrong)

/-- 'armplanlaw41.ProfileSplits': WHATEVER THE INPUT: true; the input reads as it did. -/
def profileSplitsSpec : ChangeSpec := { name := "profileSplits", fn := fun _ => fun
  | [d1, d2, d3, d4, d5] => { results := [.lit (.bool true)], args := [d1, d2, d3, d4, d5] }
  | _ => none }
def profileSplitsRow : OpenClaim := { program := "ytejjkajknmhplaa", sum := "c70eec4717ebac190ad8ac2010fa800b61488b3daca951d136431050bda71d19", func := "armplan/armplanlaw41.ProfileSplits", spec := "profileSplits", apart := false }
def ProfileSplitsSaid : Prop := profileSplitsRow.holds Try.pinned (OpenSpec.ofChange profileSplitsSpec)

/-- ITS FALSE NEIGHBOUR: 'it returns false'. Refute it at one input. -/
def profileSplitsWrong : ChangeSpec := { name := "profileSplits", fn := fun _ => fun
  | [d1, d2, d3, d4, d5] => { results := [.lit (.bool false)], args := [d1, d2, d3, d4, d5] }
  | _ => none }
def ProfileSplitsWrongFalsely : Prop := profileSplitsRow.holds Try.pinned (OpenSpec.ofChange profileSplitsWrong)

/-- 'armplanlaw41.ProfileStronger': WHATEVER THE INPUT: true; the input reads as it did. -/
def profileStrongerSpec : ChangeSpec := { name := "profileStronger", fn := fun _ => fun
  | [d1, d2, d3, d4, d5] => { results := [.lit (.bool true)], args := [d1, d2, d3, d4, d5] }
  | _ => none }
def profileStrongerRow : OpenClaim := { program := "ytejjkajknmhplaa", sum := "c70eec4717ebac190ad8ac2010fa800b61488b3daca951d136431050bda71d19", func := "armplan/armplanlaw41.ProfileStronger", spec := "profileStronger", apart := false }
def ProfileStrongerSaid : Prop := profileStrongerRow.holds Try.pinned (OpenSpec.ofChange profileStrongerSpec)

/-- ITS FALSE NEIGHBOUR: 'it returns false'. Refute it at one input. -/
def profileStrongerWrong : ChangeSpec := { name := "profileStronger", fn := fun _ => fun
  | [d1, d2, d3, d4, d5] => { results := [.lit (.bool false)], args := [d1, d2, d3, d4, d5] }
  | _ => none }
def ProfileStrongerWrongFalsely : Prop := profileStrongerRow.holds Try.pinned (OpenSpec.ofChange profileStrongerWrong)

/-- 'armplanlaw41.ProfileReplays': WHATEVER THE INPUT: true; the input reads as it did. -/
def profileReplaysSpec : ChangeSpec := { name := "profileReplays", fn := fun _ => fun
  | [d1, d2, d3, d4, d5, d6, d7, d8, d9] => { results := [.lit (.bool true)], args := [d1, d2, d3, d4, d5, d6, d7, d8, d9] }
  | _ => none }
def profileReplaysRow : OpenClaim := { program := "ytejjkajknmhplaa", sum := "c70eec4717ebac190ad8ac2010fa800b61488b3daca951d136431050bda71d19", func := "armplan/armplanlaw41.ProfileReplays", spec := "profileReplays", apart := false }
def ProfileReplaysSaid : Prop := profileReplaysRow.holds Try.pinned (OpenSpec.ofChange profileReplaysSpec)

/-- ITS FALSE NEIGHBOUR: 'it returns false'. Refute it at one input. -/
def profileReplaysWrong : ChangeSpec := { name := "profileReplays", fn := fun _ => fun
  | [d1, d2, d3, d4, d5, d6, d7, d8, d9] => { results := [.lit (.bool false)], args := [d1, d2, d3, d4, d5, d6, d7, d8, d9] }
  | _ => none }
def ProfileReplaysWrongFalsely : Prop := profileReplaysRow.holds Try.pinned (OpenSpec.ofChange profileReplaysWrong)

/-- 'armplanlaw41.ProfileCertified': WHATEVER THE INPUT: true; the input reads as it did. -/
def profileCertifiedSpec : ChangeSpec := { name := "profileCertified", fn := fun _ => fun
  | [d1, d2, d3, d4, d5] => { results := [.lit (.bool true)], args := [d1, d2, d3, d4, d5] }
  | _ => none }
def profileCertifiedRow : OpenClaim := { program := "ytejjkajknmhplaa", sum := "c70eec4717ebac190ad8ac2010fa800b61488b3daca951d136431050bda71d19", func := "armplan/armplanlaw41.ProfileCertified", spec := "profileCertified", apart := false }
def ProfileCertifiedSaid : Prop := profileCertifiedRow.holds Try.pinned (OpenSpec.ofChange profileCertifiedSpec)

/-- ITS FALSE NEIGHBOUR: 'it returns false'. Refute it at one input. -/
def profileCertifiedWrong : ChangeSpec := { name := "profileCertified", fn := fun _ => fun
  | [d1, d2, d3, d4, d5] => { results := [.lit (.bool false)], args := [d1, d2, d3, d4, d5] }
  | _ => none }
def ProfileCertifiedWrongFalsely : Prop := profileCertifiedRow.holds Try.pinned (OpenSpec.ofChange profileCertifiedWrong)

/-- 'armplanlaw41.ProfileSafe': WHATEVER THE INPUT: true; the input reads as it did. -/
def profileSafeSpec : ChangeSpec := { name := "profileSafe", fn := fun _ => fun
  | [d1, d2, d3] => { results := [.lit (.bool true)], args := [d1, d2, d3] }
  | _ => none }
def profileSafeRow : OpenClaim := { program := "ytejjkajknmhplaa", sum := "c70eec4717ebac190ad8ac2010fa800b61488b3daca951d136431050bda71d19", func := "armplan/armplanlaw41.ProfileSafe", spec := "profileSafe", apart := false }
def ProfileSafeSaid : Prop := profileSafeRow.holds Try.pinned (OpenSpec.ofChange profileSafeSpec)

/-- ITS FALSE NEIGHBOUR: 'it returns false'. Refute it at one input. -/
def profileSafeWrong : ChangeSpec := { name := "profileSafe", fn := fun _ => fun
  | [d1, d2, d3] => { results := [.lit (.bool false)], args := [d1, d2, d3] }
  | _ => none }
def ProfileSafeWrongFalsely : Prop := profileSafeRow.holds Try.pinned (OpenSpec.ofChange profileSafeWrong)

/- THE SECOND FORM. 'bulk': how many values and letters a reading holds, each counted each time it is reached (what is shared counts as often as it is met; a slice's spare places count too). A statement '..UptoSaid' is the law's where the arguments, and the package variables that the reading takes, are together of bulk at most 1048576: NARROWER than '..Said'. Prove '..Said' where nothing that the law and all that it calls make is longer than what came in: it says more and counts as full. Else prove '..UptoSaid'. A law counts once. -/
mutual
def uptoBulk {H : Type} : DataW H → Nat
  | .lit (.string bytes) => bytes.length + 1
  | .lit _ => 1
  | .nil => 1
  | .ptr d => uptoBulk d + 1
  | .slice elems spare => uptoBulkAll elems + uptoBulkAll spare + 1
  | .agg parts => uptoBulkAll parts + 1
  | .iface _ d => uptoBulk d + 1
  | .map entries => uptoBulkEntries entries + 1
  | .held _ => 1
def uptoBulkAll {H : Type} : List (DataW H) → Nat
  | [] => 0
  | d :: r => uptoBulk d + uptoBulkAll r
def uptoBulkEntries {H : Type} : List (Lit × DataW H) → Nat
  | [] => 0
  | x :: r => uptoBulkEntry x + uptoBulkEntries r
def uptoBulkEntry {H : Type} : Lit × DataW H → Nat
  | (.string bytes, d) => bytes.length + uptoBulk d + 1
  | (_, d) => uptoBulk d + 1
 end
def uptoSmall : (H : Type) → List (DataW H) → Bool := fun _ ds => decide (uptoBulkAll ds ≤ 1048576)
def OpenSpec.upto (s : _root_.Go.ChangeSpec) : _root_.Go.OpenSpec := { _root_.Go.OpenSpec.ofChange s with cond := some uptoSmall }

/-- 'armplanlaw41.ProfileGreatest', WHERE WHAT IT READS IS OF BULK AT MOST 1048576: true; the input reads as it did. -/
def profileGreatestUptoRow : OpenClaim := { program := "ytejjkajknmhplaa", sum := "c70eec4717ebac190ad8ac2010fa800b61488b3daca951d136431050bda71d19", func := "armplan/armplanlaw41.ProfileGreatest", spec := "profileGreatest", apart := false, narrowed := true }
def ProfileGreatestUptoSaid : Prop := profileGreatestUptoRow.holds Try.pinned (OpenSpec.upto profileGreatestSpec)

/-- 'armplanlaw41.ProfileLattice', WHERE WHAT IT READS IS OF BULK AT MOST 1048576: true; the input reads as it did. -/
def profileLatticeUptoRow : OpenClaim := { program := "ytejjkajknmhplaa", sum := "c70eec4717ebac190ad8ac2010fa800b61488b3daca951d136431050bda71d19", func := "armplan/armplanlaw41.ProfileLattice", spec := "profileLattice", apart := false, narrowed := true }
def ProfileLatticeUptoSaid : Prop := profileLatticeUptoRow.holds Try.pinned (OpenSpec.upto profileLatticeSpec)

/-- 'armplanlaw41.ProfileTop', WHERE WHAT IT READS IS OF BULK AT MOST 1048576: true; the input reads as it did. -/
def profileTopUptoRow : OpenClaim := { program := "ytejjkajknmhplaa", sum := "c70eec4717ebac190ad8ac2010fa800b61488b3daca951d136431050bda71d19", func := "armplan/armplanlaw41.ProfileTop", spec := "profileTop", apart := false, narrowed := true }
def ProfileTopUptoSaid : Prop := profileTopUptoRow.holds Try.pinned (OpenSpec.upto profileTopSpec)

/-- 'armplanlaw41.ProfileRamps', WHERE WHAT IT READS IS OF BULK AT MOST 1048576: true; the input reads as it did. -/
def profileRampsUptoRow : OpenClaim := { program := "ytejjkajknmhplaa", sum := "c70eec4717ebac190ad8ac2010fa800b61488b3daca951d136431050bda71d19", func := "armplan/armplanlaw41.ProfileRamps", spec := "profileRamps", apart := false, narrowed := true }
def ProfileRampsUptoSaid : Prop := profileRampsUptoRow.holds Try.pinned (OpenSpec.upto profileRampsSpec)

/-- 'armplanlaw41.ProfilePhases', WHERE WHAT IT READS IS OF BULK AT MOST 1048576: true; the input reads as it did. -/
def profilePhasesUptoRow : OpenClaim := { program := "ytejjkajknmhplaa", sum := "c70eec4717ebac190ad8ac2010fa800b61488b3daca951d136431050bda71d19", func := "armplan/armplanlaw41.ProfilePhases", spec := "profilePhases", apart := false, narrowed := true }
def ProfilePhasesUptoSaid : Prop := profilePhasesUptoRow.holds Try.pinned (OpenSpec.upto profilePhasesSpec)

/-- 'armplanlaw41.ProfileSplits', WHERE WHAT IT READS IS OF BULK AT MOST 1048576: true; the input reads as it did. -/
def profileSplitsUptoRow : OpenClaim := { program := "ytejjkajknmhplaa", sum := "c70eec4717ebac190ad8ac2010fa800b61488b3daca951d136431050bda71d19", func := "armplan/armplanlaw41.ProfileSplits", spec := "profileSplits", apart := false, narrowed := true }
def ProfileSplitsUptoSaid : Prop := profileSplitsUptoRow.holds Try.pinned (OpenSpec.upto profileSplitsSpec)

/-- 'armplanlaw41.ProfileStronger', WHERE WHAT IT READS IS OF BULK AT MOST 1048576: true; the input reads as it did. -/
def profileStrongerUptoRow : OpenClaim := { program := "ytejjkajknmhplaa", sum := "c70eec4717ebac190ad8ac2010fa800b61488b3daca951d136431050bda71d19", func := "armplan/armplanlaw41.ProfileStronger", spec := "profileStronger", apart := false, narrowed := true }
def ProfileStrongerUptoSaid : Prop := profileStrongerUptoRow.holds Try.pinned (OpenSpec.upto profileStrongerSpec)

/-- 'armplanlaw41.ProfileReplays', WHERE WHAT IT READS IS OF BULK AT MOST 1048576: true; the input reads as it did. -/
def profileReplaysUptoRow : OpenClaim := { program := "ytejjkajknmhplaa", sum := "c70eec4717ebac190ad8ac2010fa800b61488b3daca951d136431050bda71d19", func := "armplan/armplanlaw41.ProfileReplays", spec := "profileReplays", apart := false, narrowed := true }
def ProfileReplaysUptoSaid : Prop := profileReplaysUptoRow.holds Try.pinned (OpenSpec.upto profileReplaysSpec)

/-- 'armplanlaw41.ProfileCertified', WHERE WHAT IT READS IS OF BULK AT MOST 1048576: true; the input reads as it did. -/
def profileCertifiedUptoRow : OpenClaim := { program := "ytejjkajknmhplaa", sum := "c70eec4717ebac190ad8ac2010fa800b61488b3daca951d136431050bda71d19", func := "armplan/armplanlaw41.ProfileCertified", spec := "profileCertified", apart := false, narrowed := true }
def ProfileCertifiedUptoSaid : Prop := profileCertifiedUptoRow.holds Try.pinned (OpenSpec.upto profileCertifiedSpec)

/-- 'armplanlaw41.ProfileSafe', WHERE WHAT IT READS IS OF BULK AT MOST 1048576: true; the input reads as it did. -/
def profileSafeUptoRow : OpenClaim := { program := "ytejjkajknmhplaa", sum := "c70eec4717ebac190ad8ac2010fa800b61488b3daca951d136431050bda71d19", func := "armplan/armplanlaw41.ProfileSafe", spec := "profileSafe", apart := false, narrowed := true }
def ProfileSafeUptoSaid : Prop := profileSafeUptoRow.holds Try.pinned (OpenSpec.upto profileSafeSpec)

end Rows
end Go.Proofs.Ytejjkajknmhplaa
