/- For every input of at most the given bulk, SyntaxFormats returns true and leaves its arguments as they were. Conditions: none beyond the given statement. -/
import Derived.Test.YtgnblfojpcjgmaaM2
import Derived.Deep.CondSized
namespace Go.Proofs.Ytgnblfojpcjgmaa
open Eng
set_option maxRecDepth 10000
attribute [local irreducible] FnOk loopW idxF retX arrF

theorem law8 (dss : List (List DV)) (h : All2 (fun t ds => Typed T 8 t ds) [28, 9, 27] dss) (hBk : bulkRs dss ≤ 1048576) : FnOk Try.prog 8 (mkSs T [28, 9, 27] dss) [] 0 (Bo true) [] 0 := by
  obtain ⟨a, q, rfl, ha, h⟩ := all2_cons h
  obtain ⟨b, q, rfl, hb, h⟩ := all2_cons h
  obtain ⟨c, q, rfl, hc, h⟩ := all2_cons h
  obtain rfl := all2_nil h
  obtain ⟨a, rfl, ka⟩ := tyB_s_Statement ha
  obtain ⟨b, rfl, kb⟩ := tyB_string hb
  obtain ⟨c, rfl, kc⟩ := tyB_s_int hc
  exact law7_Formats a b c (by first | exact ka | omega) (by first | exact kb | omega) (by first | exact kc | omega) hBk
theorem lifted8 (os : Os) (started : os.Started) (H : Type) (enc : TypeId × Value → H) (F : Stop.Interp) :
    ReturnsInHanded {} Try.checked os 8 .any ((Rows.OpenSpec.upto Rows.syntaxFormatsSpec).pre6 enc Try.prog Try.f8 Rows.syntaxFormatsUptoRow.domain false) (((Rows.OpenSpec.upto Rows.syntaxFormatsSpec).at F).post enc Try.prog Try.f8 false true false false) := by
  refine returnsInHanded_of_cond_sized (C := Try.checked) (s := Rows.OpenSpec.upto Rows.syntaxFormatsSpec) (k := Rows.uptoSmall) rfl own started (by kernel_rfl) Try.func8
    (OpenSpec.witness (enc := enc) (C := Try.checked) (s := Rows.OpenSpec.upto Rows.syntaxFormatsSpec) (k := Rows.uptoSmall) rfl false ⟨#[], #[.slice none 0 0, .string ByteArray.empty, .slice none 0 0], []⟩ 8 (by kernel_rfl) (by kernel_rfl) (by kernel_rfl)
      (x := ([.nil, .lit (.string []), .nil], [], [])) (by kernel_rfl) rfl (by kernel_rfl)) ?_
  intro W base args ds gs before hval hW _ hk hsz _
  exact law_contractU (T := T) (n := 8) (tb := 4) (ts := [28, 9, 27]) tab laid (s := Rows.syntaxFormatsSpec) rfl rfl (by kernel_rfl) rfl (by kernel_rfl) (fun ds hd => by
    match ds, hd with
    | [_, _, _], _ => rfl) (fun dss h hb => law8 dss h (Nat.le_trans (hb _ bulkRows) (small_sum hk))) hval hW hsz (fun _ _ h => by cases h)
/-- For every input of at most the given bulk SyntaxFormats returns true. -/
theorem syntaxFormats_holds : Rows.SyntaxFormatsUptoSaid :=
  OpenClaim.holds_of_cond 8 Try.f8 rfl rfl rfl rfl rfl rfl rfl ⟨rfl, rfl, rfl, rfl, rfl⟩ rfl rfl rfl rfl rfl (by kernel_rfl) Try.func8 (by kernel_rfl)
    (of_decide_eq_true (by kernel_rfl)) (by unfold Func.isWrapper; first | (rw [if_pos (by decide +kernel)]; kernel_rfl) | (rw [if_neg (by decide +kernel)]; exact ⟨rfl, rfl⟩))
    (fun os started H enc _ F => lifted8 os started H enc F)
end Go.Proofs.Ytgnblfojpcjgmaa
