/- For every input, TeamRestricts returns true and leaves its arguments as they were. Conditions: none beyond the given statement. -/
import Derived.Test.YthdbdokhncaijaaGreatM3
namespace Go.Proofs.YthdbdokhncaijaaGreat
open Eng
set_option maxRecDepth 10000
attribute [local irreducible] FnOk loopW idxF retX arrF

theorem law3 (dss : List (List DV)) (h : All2 (fun t ds => Typed T 8 t ds) [22, 22, 22, 3] dss) : FnOk Tryz.prog 3 (mkSs T [22, 22, 22, 3] dss) [] 0 (Bo true) [] 0 := by
  obtain ⟨a, q, rfl, ha, h⟩ := all2_cons h
  obtain ⟨b, q, rfl, hb, h⟩ := all2_cons h
  obtain ⟨c, q, rfl, hc, h⟩ := all2_cons h
  obtain ⟨d, q, rfl, hd, h⟩ := all2_cons h
  obtain rfl := all2_nil h
  obtain ⟨a, rfl, ka⟩ := tyB_s_int ha
  obtain ⟨b, rfl, kb⟩ := tyB_s_int hb
  obtain ⟨c, rfl, kc⟩ := tyB_s_int hc
  obtain ⟨d, rfl, kd⟩ := tyB_int hd
  exact law35_Restricts a b c d (by first | exact ka | omega) (by first | exact kb | omega) (by first | exact kc | omega) (by first | exact kd | omega)
theorem lifted3 (os : Os) (started : os.Started) (H : Type) (enc : TypeId × Value → H) :
    ReturnsInHanded {} Tryz.checked os 3 .any (Rows.teamRestrictsSpec.pre6 enc Tryz.prog Tryz.f3 Rows.teamRestrictsRow.domain false) (Rows.teamRestrictsSpec.post enc Tryz.prog Tryz.f3 false true false false) := by
  refine returnsInHanded_of_change_sized (C := Tryz.checked) own started (by kernel_rfl) Tryz.func3
    (ChangeSpec.witness6 (enc := enc) (C := Tryz.checked) false ⟨#[], #[.slice none 0 0, .slice none 0 0, .slice none 0 0, .int .i64 0], []⟩ 8 (by kernel_rfl) (by kernel_rfl) (by kernel_rfl) (by kernel_rfl)) ?_
  intro W base args ds gs before hval hW _ hsz _
  exact law_contract (T := T) (n := 8) (tb := 4) (ts := [22, 22, 22, 3]) tab laid rfl rfl (by kernel_rfl) rfl (by kernel_rfl) (fun ds hd => by
    match ds, hd with
    | [_, _, _, _], _ => rfl) law3 hval hW hsz (fun _ _ h => by cases h)
/-- For every input TeamRestricts returns true. -/
theorem teamRestricts_holds : Rows.TeamRestrictsSaid :=
  OpenClaim.holds_of_wide 3 Tryz.f3 rfl rfl rfl rfl rfl rfl rfl ⟨rfl, rfl, rfl, rfl, rfl⟩ rfl rfl rfl rfl rfl (by kernel_rfl) Tryz.func3 (by kernel_rfl)
    (of_decide_eq_true (by kernel_rfl)) (by unfold Func.isWrapper; first | (rw [if_pos (by decide +kernel)]; kernel_rfl) | (rw [if_neg (by decide +kernel)]; exact ⟨rfl, rfl⟩))
    (fun os started H enc _ => lifted3 os started H enc)
end Go.Proofs.YthdbdokhncaijaaGreat
