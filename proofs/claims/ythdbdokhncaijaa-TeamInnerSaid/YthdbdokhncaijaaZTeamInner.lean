/- For every input, TeamInner returns true and leaves its arguments as they were. Conditions: none beyond the given statement. -/
import Derived.Test.YthdbdokhncaijaaM2
namespace Go.Proofs.Ythdbdokhncaijaa
open Eng
set_option maxRecDepth 10000
attribute [local irreducible] FnOk loopW idxF retX arrF

theorem law8 (dss : List (List DV)) (h : All2 (fun t ds => Typed T 8 t ds) [22, 23, 3, 76, 24, 24] dss) : FnOk Try.prog 8 (mkSs T [22, 23, 3, 76, 24, 24] dss) [] 0 (Bo true) [] 0 := by
  obtain ⟨a, q, rfl, ha, h⟩ := all2_cons h
  obtain ⟨b, q, rfl, hb, h⟩ := all2_cons h
  obtain ⟨c, q, rfl, hc, h⟩ := all2_cons h
  obtain ⟨d, q, rfl, hd, h⟩ := all2_cons h
  obtain ⟨e, q, rfl, he, h⟩ := all2_cons h
  obtain ⟨f, q, rfl, hf, h⟩ := all2_cons h
  obtain rfl := all2_nil h
  obtain ⟨a, rfl, ka⟩ := tyB_s_Scene ha
  obtain ⟨b, rfl, kb⟩ := tyB_s_Vec hb
  obtain ⟨c, rfl, kc⟩ := tyB_int hc
  obtain ⟨d, rfl, kd⟩ := tyB_Verdict hd
  obtain ⟨e, rfl, ke⟩ := tyB_s_int he
  obtain ⟨f, rfl, kf⟩ := tyB_s_int hf
  exact law35_TeamInner a b c d e f (by first | exact ka | omega) (by first | exact kb | omega) (by first | exact kc | omega) (by first | exact kd | omega) (by first | exact ke | omega) (by first | exact kf | omega)
theorem lifted8 (os : Os) (started : os.Started) (H : Type) (enc : TypeId × Value → H) :
    ReturnsInHanded {} Try.checked os 8 .any (Rows.teamInnerSpec.pre6 enc Try.prog Try.f8 Rows.teamInnerRow.domain false) (Rows.teamInnerSpec.post enc Try.prog Try.f8 false true false false) := by
  refine returnsInHanded_of_change_sized (C := Try.checked) own started (by kernel_rfl) Try.func8
    (ChangeSpec.witness6 (enc := enc) (C := Try.checked) false ⟨#[], #[.slice none 0 0, .slice none 0 0, .int .i64 0, .agg #[.int .i64 0, .slice none 0 0, .int .i64 0, .slice none 0 0, .slice none 0 0], .slice none 0 0, .slice none 0 0], []⟩ 8 (by kernel_rfl) (by kernel_rfl) (by kernel_rfl) (by kernel_rfl)) ?_
  intro W base args ds gs before hval hW _ hsz _
  exact law_contract (T := T) (n := 8) (tb := 4) (ts := [22, 23, 3, 76, 24, 24]) tab laid rfl rfl (by kernel_rfl) rfl (by kernel_rfl) (fun ds hd => by
    match ds, hd with
    | [_, _, _, _, _, _], _ => rfl) law8 hval hW hsz (fun _ _ h => by cases h)
/-- For every input TeamInner returns true. -/
theorem teamInner_holds : Rows.TeamInnerSaid :=
  OpenClaim.holds_of_wide 8 Try.f8 rfl rfl rfl rfl rfl rfl rfl ⟨rfl, rfl, rfl, rfl, rfl⟩ rfl rfl rfl rfl rfl (by kernel_rfl) Try.func8 (by kernel_rfl)
    (of_decide_eq_true (by kernel_rfl)) (by unfold Func.isWrapper; first | (rw [if_pos (by decide +kernel)]; kernel_rfl) | (rw [if_neg (by decide +kernel)]; exact ⟨rfl, rfl⟩))
    (fun os started H enc _ => lifted8 os started H enc)
end Go.Proofs.Ythdbdokhncaijaa
