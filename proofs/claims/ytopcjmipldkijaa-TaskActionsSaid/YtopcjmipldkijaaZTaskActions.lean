/- For every input, TaskActions returns true and leaves its arguments as they were. Conditions: none beyond the given statement. -/
import Derived.Test.YtopcjmipldkijaaM3
namespace Go.Proofs.Ytopcjmipldkijaa
open Eng
set_option maxRecDepth 10000
attribute [local irreducible] FnOk loopW idxF retX arrF

theorem law8 (dss : List (List DV)) (h : All2 (fun t ds => Typed T 8 t ds) [35, 38, 54, 36, 36, 36, 36, 3, 3, 3, 3] dss) : FnOk Try.prog 8 (mkSs T [35, 38, 54, 36, 36, 36, 36, 3, 3, 3, 3] dss) [] 0 (Bo true) [] 0 := by
  obtain ⟨a, q, rfl, ha, h⟩ := all2_cons h
  obtain ⟨b, q, rfl, hb, h⟩ := all2_cons h
  obtain ⟨c, q, rfl, hc, h⟩ := all2_cons h
  obtain ⟨d, q, rfl, hd, h⟩ := all2_cons h
  obtain ⟨e, q, rfl, he, h⟩ := all2_cons h
  obtain ⟨f, q, rfl, hf, h⟩ := all2_cons h
  obtain ⟨g, q, rfl, hg, h⟩ := all2_cons h
  obtain ⟨j, q, rfl, hj, h⟩ := all2_cons h
  obtain ⟨k, q, rfl, hk, h⟩ := all2_cons h
  obtain ⟨n, q, rfl, hn, h⟩ := all2_cons h
  obtain ⟨m, q, rfl, hm, h⟩ := all2_cons h
  obtain rfl := all2_nil h
  obtain ⟨a, rfl, ka⟩ := tyB_Workspace ha
  obtain ⟨b, rfl, kb⟩ := tyB_Mode hb
  obtain ⟨c, rfl, kc⟩ := tyB_Action hc
  obtain ⟨d, rfl, kd⟩ := tyB_s_int hd
  obtain ⟨e, rfl, ke⟩ := tyB_s_int he
  obtain ⟨f, rfl, kf⟩ := tyB_s_int hf
  obtain ⟨g, rfl, kg⟩ := tyB_s_int hg
  obtain ⟨j, rfl, kj⟩ := tyB_int hj
  obtain ⟨k, rfl, kk⟩ := tyB_int hk
  obtain ⟨n, rfl, kn⟩ := tyB_int hn
  obtain ⟨m, rfl, km⟩ := tyB_int hm
  exact law38_Actions a b c d e f g j k n m (by first | exact ka | omega) (by first | exact kb | omega) (by first | exact kc | omega) (by first | exact kd | omega) (by first | exact ke | omega) (by first | exact kf | omega) (by first | exact kg | omega) (by first | exact kj | omega) (by first | exact kk | omega) (by first | exact kn | omega) (by first | exact km | omega)
theorem lifted8 (os : Os) (started : os.Started) (H : Type) (enc : TypeId × Value → H) :
    ReturnsInHanded {} Try.checked os 8 .any (Rows.taskActionsSpec.pre6 enc Try.prog Try.f8 Rows.taskActionsRow.domain false) (Rows.taskActionsSpec.post enc Try.prog Try.f8 false true false false) := by
  refine returnsInHanded_of_change_sized (C := Try.checked) own started (by kernel_rfl) Try.func8
    (ChangeSpec.witness6 (enc := enc) (C := Try.checked) false ⟨#[], #[.agg #[.slice none 0 0, .slice none 0 0, .slice none 0 0, .slice none 0 0, .slice none 0 0, .slice none 0 0, .slice none 0 0, .slice none 0 0, .int .i64 0], .agg #[.slice none 0 0], .agg #[.int .i64 0, .int .i64 0, .int .i64 0], .slice none 0 0, .slice none 0 0, .slice none 0 0, .slice none 0 0, .int .i64 0, .int .i64 0, .int .i64 0, .int .i64 0], []⟩ 8 (by kernel_rfl) (by kernel_rfl) (by kernel_rfl) (by kernel_rfl)) ?_
  intro W base args ds gs before hval hW _ hsz _
  exact law_contract (T := T) (n := 8) (tb := 4) (ts := [35, 38, 54, 36, 36, 36, 36, 3, 3, 3, 3]) tab laid rfl rfl (by kernel_rfl) rfl (by kernel_rfl) (fun ds hd => by
    match ds, hd with
    | [_, _, _, _, _, _, _, _, _, _, _], _ => rfl) law8 hval hW hsz (fun _ _ h => by cases h)
/-- For every input TaskActions returns true. -/
theorem taskActions_holds : Rows.TaskActionsSaid :=
  OpenClaim.holds_of_wide 8 Try.f8 rfl rfl rfl rfl rfl rfl rfl ⟨rfl, rfl, rfl, rfl, rfl⟩ rfl rfl rfl rfl rfl (by kernel_rfl) Try.func8 (by kernel_rfl)
    (of_decide_eq_true (by kernel_rfl)) (by unfold Func.isWrapper; first | (rw [if_pos (by decide +kernel)]; kernel_rfl) | (rw [if_neg (by decide +kernel)]; exact ⟨rfl, rfl⟩))
    (fun os started H enc _ => lifted8 os started H enc)
end Go.Proofs.Ytopcjmipldkijaa
