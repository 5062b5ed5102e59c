/- For every input, TaskSolves returns true and leaves its arguments as they were. Conditions: none beyond the given statement. -/
import Derived.Test.YtopcjmipldkijaaM3
namespace Go.Proofs.Ytopcjmipldkijaa
open Eng
set_option maxRecDepth 10000
attribute [local irreducible] FnOk loopW idxF retX arrF

theorem law3 (dss : List (List DV)) (h : All2 (fun t ds => Typed T 8 t ds) [35, 38, 36, 3, 39, 36, 36, 36, 36] dss) : FnOk Try.prog 3 (mkSs T [35, 38, 36, 3, 39, 36, 36, 36, 36] dss) [] 0 (Bo true) [] 0 := by
  obtain ⟨a, q, rfl, ha, h⟩ := all2_cons h
  obtain ⟨b, q, rfl, hb, h⟩ := all2_cons h
  obtain ⟨c, q, rfl, hc, h⟩ := all2_cons h
  obtain ⟨d, q, rfl, hd, h⟩ := all2_cons h
  obtain ⟨e, q, rfl, he, h⟩ := all2_cons h
  obtain ⟨f, q, rfl, hf, h⟩ := all2_cons h
  obtain ⟨g, q, rfl, hg, h⟩ := all2_cons h
  obtain ⟨j, q, rfl, hj, h⟩ := all2_cons h
  obtain ⟨k, q, rfl, hk, h⟩ := all2_cons h
  obtain rfl := all2_nil h
  obtain ⟨a, rfl, ka⟩ := tyB_Workspace ha
  obtain ⟨b, rfl, kb⟩ := tyB_Mode hb
  obtain ⟨c, rfl, kc⟩ := tyB_s_int hc
  obtain ⟨d, rfl, kd⟩ := tyB_int hd
  obtain ⟨e, rfl, ke⟩ := tyB_s_Ban he
  obtain ⟨f, rfl, kf⟩ := tyB_s_int hf
  obtain ⟨g, rfl, kg⟩ := tyB_s_int hg
  obtain ⟨j, rfl, kj⟩ := tyB_s_int hj
  obtain ⟨k, rfl, kk⟩ := tyB_s_int hk
  exact law38_SolvesL a b c d e f g j k (by first | exact ka | omega) (by first | exact kb | omega) (by first | exact kc | omega) (by first | exact kd | omega) (by first | exact ke | omega) (by first | exact kf | omega) (by first | exact kg | omega) (by first | exact kj | omega) (by first | exact kk | omega)
theorem lifted3 (os : Os) (started : os.Started) (H : Type) (enc : TypeId × Value → H) :
    ReturnsInHanded {} Try.checked os 3 .any (Rows.taskSolvesSpec.pre6 enc Try.prog Try.f3 Rows.taskSolvesRow.domain false) (Rows.taskSolvesSpec.post enc Try.prog Try.f3 false true false false) := by
  refine returnsInHanded_of_change_sized (C := Try.checked) own started (by kernel_rfl) Try.func3
    (ChangeSpec.witness6 (enc := enc) (C := Try.checked) false ⟨#[], #[.agg #[.slice none 0 0, .slice none 0 0, .slice none 0 0, .slice none 0 0, .slice none 0 0, .slice none 0 0, .slice none 0 0, .slice none 0 0, .int .i64 0], .agg #[.slice none 0 0], .slice none 0 0, .int .i64 0, .slice none 0 0, .slice none 0 0, .slice none 0 0, .slice none 0 0, .slice none 0 0], []⟩ 8 (by kernel_rfl) (by kernel_rfl) (by kernel_rfl) (by kernel_rfl)) ?_
  intro W base args ds gs before hval hW _ hsz _
  exact law_contract (T := T) (n := 8) (tb := 4) (ts := [35, 38, 36, 3, 39, 36, 36, 36, 36]) tab laid rfl rfl (by kernel_rfl) rfl (by kernel_rfl) (fun ds hd => by
    match ds, hd with
    | [_, _, _, _, _, _, _, _, _], _ => rfl) law3 hval hW hsz (fun _ _ h => by cases h)
/-- For every input TaskSolves returns true. -/
theorem taskSolves_holds : Rows.TaskSolvesSaid :=
  OpenClaim.holds_of_wide 3 Try.f3 rfl rfl rfl rfl rfl rfl rfl ⟨rfl, rfl, rfl, rfl, rfl⟩ rfl rfl rfl rfl rfl (by kernel_rfl) Try.func3 (by kernel_rfl)
    (of_decide_eq_true (by kernel_rfl)) (by unfold Func.isWrapper; first | (rw [if_pos (by decide +kernel)]; kernel_rfl) | (rw [if_neg (by decide +kernel)]; exact ⟨rfl, rfl⟩))
    (fun os started H enc _ => lifted3 os started H enc)
end Go.Proofs.Ytopcjmipldkijaa
