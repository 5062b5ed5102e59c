/- For every input of at most the given bulk, TeamParts returns true and leaves its arguments as they were. Conditions: none beyond the given statement. -/
import Derived.Test.YthdbdokhncaijaaM2
import Derived.Deep.CondSized
namespace Go.Proofs.Ythdbdokhncaijaa
open Eng
set_option maxRecDepth 10000
attribute [local irreducible] FnOk loopW idxF retX arrF

theorem law6 (dss : List (List DV)) (h : All2 (fun t ds => Typed T 8 t ds) [22, 56, 57, 44, 3, 24, 24, 24] dss) (hBk : bulkRs dss ≤ 1048576) : FnOk Try.prog 6 (mkSs T [22, 56, 57, 44, 3, 24, 24, 24] dss) [] 0 (Bo true) [] 0 := by
  obtain ⟨a, q, rfl, ha, h⟩ := all2_cons h
  obtain ⟨b, q, rfl, hb, h⟩ := all2_cons h
  obtain ⟨c, q, rfl, hc, h⟩ := all2_cons h
  obtain ⟨d, q, rfl, hd, h⟩ := all2_cons h
  obtain ⟨e, q, rfl, he, h⟩ := all2_cons h
  obtain ⟨f, q, rfl, hf, h⟩ := all2_cons h
  obtain ⟨g, q, rfl, hg, h⟩ := all2_cons h
  obtain ⟨j, q, rfl, hj, h⟩ := all2_cons h
  obtain rfl := all2_nil h
  obtain ⟨a, rfl, ka⟩ := tyB_s_Scene ha
  obtain ⟨b, rfl, kb⟩ := tyB_s_s_int64 hb
  obtain ⟨c, rfl, kc⟩ := tyB_s_int64 hc
  obtain ⟨d, rfl, kd⟩ := tyB_s_Interval hd
  obtain ⟨e, rfl, ke⟩ := tyB_int he
  obtain ⟨f, rfl, kf⟩ := tyB_s_int hf
  obtain ⟨g, rfl, kg⟩ := tyB_s_int hg
  obtain ⟨j, rfl, kj⟩ := tyB_s_int hj
  exact law35_Parts a b c d e f g j (by first | exact ka | omega) (by first | exact kb | omega) (by first | exact kc | omega) (by first | exact kd | omega) (by first | exact ke | omega) (by first | exact kf | omega) (by first | exact kg | omega) (by first | exact kj | omega) hBk
theorem lifted6 (os : Os) (started : os.Started) (H : Type) (enc : TypeId × Value → H) (F : Stop.Interp) :
    ReturnsInHanded {} Try.checked os 6 .any ((Rows.OpenSpec.upto Rows.teamPartsSpec).pre6 enc Try.prog Try.f6 Rows.teamPartsUptoRow.domain false) (((Rows.OpenSpec.upto Rows.teamPartsSpec).at F).post enc Try.prog Try.f6 false true false false) := by
  refine returnsInHanded_of_cond_sized (C := Try.checked) (s := Rows.OpenSpec.upto Rows.teamPartsSpec) (k := Rows.uptoSmall) rfl own started (by kernel_rfl) Try.func6
    (OpenSpec.witness (enc := enc) (C := Try.checked) (s := Rows.OpenSpec.upto Rows.teamPartsSpec) (k := Rows.uptoSmall) rfl false ⟨#[], #[.slice none 0 0, .slice none 0 0, .slice none 0 0, .slice none 0 0, .int .i64 0, .slice none 0 0, .slice none 0 0, .slice none 0 0], []⟩ 8 (by kernel_rfl) (by kernel_rfl) (by kernel_rfl)
      (x := ([.nil, .nil, .nil, .nil, .lit (.int .i64 0), .nil, .nil, .nil], [], [])) (by kernel_rfl) rfl (by kernel_rfl)) ?_
  intro W base args ds gs before hval hW _ hk hsz _
  exact law_contractU (T := T) (n := 8) (tb := 4) (ts := [22, 56, 57, 44, 3, 24, 24, 24]) tab laid (s := Rows.teamPartsSpec) rfl rfl (by kernel_rfl) rfl (by kernel_rfl) (fun ds hd => by
    match ds, hd with
    | [_, _, _, _, _, _, _, _], _ => rfl) (fun dss h hb => law6 dss h (Nat.le_trans (hb _ bulkRows) (small_sum hk))) hval hW hsz (fun _ _ h => by cases h)
/-- For every input of at most the given bulk TeamParts returns true. -/
theorem teamParts_holds : Rows.TeamPartsUptoSaid :=
  OpenClaim.holds_of_cond 6 Try.f6 rfl rfl rfl rfl rfl rfl rfl ⟨rfl, rfl, rfl, rfl, rfl⟩ rfl rfl rfl rfl rfl (by kernel_rfl) Try.func6 (by kernel_rfl)
    (of_decide_eq_true (by kernel_rfl)) (by unfold Func.isWrapper; first | (rw [if_pos (by decide +kernel)]; kernel_rfl) | (rw [if_neg (by decide +kernel)]; exact ⟨rfl, rfl⟩))
    (fun os started H enc _ F => lifted6 os started H enc F)
end Go.Proofs.Ythdbdokhncaijaa
