/- For every input, SyntaxArguments returns true and leaves its arguments as they were. Conditions: none beyond the given statement. -/
import Derived.Test.YtgnblfojpcjgmaaPd
namespace Go.Proofs.Ytgnblfojpcjgmaa
open Eng
set_option maxRecDepth 10000
attribute [local irreducible] FnOk loopW idxF retX arrF

theorem law6 (dss : List (List DV)) (h : All2 (fun t ds => Typed T 8 t ds) [9, 3, 5] dss) : FnOk Try.prog 6 (mkSs T [9, 3, 5] dss) [] 0 (Bo true) [] 0 := by
  obtain ⟨a, q, rfl, ha, h⟩ := all2_cons h
  obtain ⟨b, q, rfl, hb, h⟩ := all2_cons h
  obtain ⟨c, q, rfl, hc, h⟩ := all2_cons h
  obtain rfl := all2_nil h
  obtain ⟨a, rfl, ka⟩ := tyB_string ha
  obtain ⟨b, rfl, kb⟩ := tyB_int hb
  obtain ⟨c, rfl, kc⟩ := tyB_uint8 hc
  exact law7_Arguments a b c ka kb kc
theorem lifted6 (os : Os) (started : os.Started) (H : Type) (enc : TypeId × Value → H) :
    ReturnsInHanded {} Try.checked os 6 .any (Rows.syntaxArgumentsSpec.pre6 enc Try.prog Try.f6 Rows.syntaxArgumentsRow.domain false) (Rows.syntaxArgumentsSpec.post enc Try.prog Try.f6 false true false false) := by
  refine returnsInHanded_of_change_sized (C := Try.checked) own started (by kernel_rfl) Try.func6
    (ChangeSpec.witness6 (enc := enc) (C := Try.checked) false ⟨#[], #[.string ByteArray.empty, .int .i64 0, .int .u8 0], []⟩ 8 (by kernel_rfl) (by kernel_rfl) (by kernel_rfl) (by kernel_rfl)) ?_
  intro W base args ds gs before hval hW _ hsz _
  exact law_contract (T := T) (n := 8) (tb := 4) (ts := [9, 3, 5]) tab laid rfl rfl (by kernel_rfl) rfl (by kernel_rfl) (fun ds hd => by
    match ds, hd with
    | [_, _, _], _ => rfl) law6 hval hW hsz
/-- For every input SyntaxArguments returns true. -/
theorem syntaxArguments_holds : Rows.SyntaxArgumentsSaid :=
  OpenClaim.holds_of_wide 6 Try.f6 rfl rfl rfl rfl rfl rfl rfl ⟨rfl, rfl, rfl, rfl, rfl⟩ rfl rfl rfl rfl rfl (by kernel_rfl) Try.func6 (by kernel_rfl)
    (of_decide_eq_true (by kernel_rfl)) (by unfold Func.isWrapper; first | (rw [if_pos (by decide +kernel)]; kernel_rfl) | (rw [if_neg (by decide +kernel)]; exact ⟨rfl, rfl⟩))
    (fun os started H enc _ => lifted6 os started H enc)
end Go.Proofs.Ytgnblfojpcjgmaa
