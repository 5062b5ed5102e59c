/- For every input of at most the given bulk, RobotReads returns true and leaves its arguments as they were. Conditions: the listed package variable holds its texts, tied to the program's text by the given card. -/
import Derived.Test.YtlfclainmbafiaaDoorM2
import Derived.Test.YtlfclainmbafiaaDoorCards
import Derived.Test.YtlfclainmbafiaaDoorTie
import Derived.Deep.DeepHandedRow
namespace Go.Proofs.YtlfclainmbafiaaDoor
open Eng
set_option maxRecDepth 100000
attribute [local irreducible] FnOk loopW idxF retX arrF

theorem law4 (dss : List (List DV)) (h : All2 (fun t ds => Typed T 8 t ds) [33, 26, 3, 3, 3] dss) (hBk : bulkRs dss ≤ 1048576) : FnOk Tryd.prog 4 (mkSs T [33, 26, 3, 3, 3] dss) [] 0 (Bo true) [] 0 := by
  obtain ⟨a, q, rfl, ha, h⟩ := all2_cons h
  obtain ⟨b, q, rfl, hb, h⟩ := all2_cons h
  obtain ⟨c, q, rfl, hc, h⟩ := all2_cons h
  obtain ⟨d, q, rfl, hd, h⟩ := all2_cons h
  obtain ⟨e, q, rfl, he, h⟩ := all2_cons h
  obtain rfl := all2_nil h
  obtain ⟨a, rfl, ka⟩ := tyB_s_Statement ha
  obtain ⟨b, rfl, kb⟩ := tyB_s_int hb
  obtain ⟨c, rfl, kc⟩ := tyB_int hc
  obtain ⟨d, rfl, kd⟩ := tyB_int hd
  obtain ⟨e, rfl, ke⟩ := tyB_int he
  exact law8_RobotReads a b c d e (by first | exact ka | omega) (by first | exact kb | omega) (by first | exact kc | omega) (by first | exact kd | omega) (by first | exact ke | omega) hBk
theorem met4 (os : Os) : laidMet Tryd.prog Rows.robotReadsUptoRow.laid ((laidWorld os).forCall (fun _ _ => 0) ⟨#[], #[.slice none 0 0, .slice none 0 0, .int .i64 0, .int .i64 0, .int .i64 0], []⟩).memory :=
  laidMet_of_run' 8 (by kernel_rfl) (by kernel_rfl)
theorem reads4 (os : Os) {H : Type} (enc : TypeId × Value → H) : ∃ places, DataW.whole enc Tryd.prog ((laidWorld os).forCall (fun _ _ => 0) ⟨#[], #[.slice none 0 0, .slice none 0 0, .int .i64 0, .int .i64 0, .int .i64 0], []⟩).memory Tryd.f4.params.toList Rows.robotReadsSpec.vars false (#[.slice none 0 0, .slice none 0 0, .int .i64 0, .int .i64 0, .int .i64 0] : Array Value).toList 8 = some ([.nil, .nil, .lit (.int .i64 0), .lit (.int .i64 0), .lit (.int .i64 0)], [], places) :=
  ⟨[], by kernel_rfl⟩
theorem lifted4 (os : Os) (started : os.Started) (H : Type) (enc : TypeId × Value → H) (F : Stop.Interp) :
    ReturnsInHanded {} Tryd.checked os 4 .any ((Rows.OpenSpec.upto Rows.robotReadsSpec).preRow enc Tryd.prog Tryd.f4 Rows.robotReadsUptoRow.domain false Rows.robotReadsUptoRow.laid) (((Rows.OpenSpec.upto Rows.robotReadsSpec).at F).post enc Tryd.prog Tryd.f4 false true false false) := by
  obtain ⟨places, hx⟩ := reads4 os enc
  refine returnsInHanded_of_row (C := Tryd.checked) (s := Rows.OpenSpec.upto Rows.robotReadsSpec) own started (by kernel_rfl) Tryd.func4
    (witness_row_at (enc := enc) (C := Tryd.checked) false (laidWorld os) #[.slice none 0 0, .slice none 0 0, .int .i64 0, .int .i64 0, .int .i64 0] rfl (by kernel_rfl) (by kernel_rfl) (by kernel_rfl)
      (OpenSpec.preRow_of_cond 8 hx (by kernel_rfl) (fun k hk => by cases hk; kernel_rfl) (by kernel_rfl) (met4 os))) ?_
  intro W base args ds gs before hval hW _ hcond hsz hL _ _
  exact law_contractU (T := T) (n := 8) (tb := 4) (ts := [33, 26, 3, 3, 3]) tab laid (s := Rows.robotReadsSpec) rfl rfl (by kernel_rfl) rfl (by kernel_rfl) (fun ds hd => by
    match ds, hd with
    | [_, _, _, _, _], _ => rfl) (fun dss h hb => law4 dss h (Nat.le_trans (hb _ bulkRows) (small_sum (hcond _ rfl)))) hval hW hsz (globs hL)
theorem said4 : Rows.RobotReadsUptoSaid :=
  OpenClaim.holds_of_cond 4 Tryd.f4 rfl rfl rfl rfl rfl rfl rfl ⟨rfl, rfl, rfl, rfl, rfl⟩ rfl rfl rfl rfl rfl (by kernel_rfl) Tryd.func4 (by kernel_rfl)
    (of_decide_eq_true (by kernel_rfl)) (by unfold Func.isWrapper; first | (rw [if_pos (by decide +kernel)]; kernel_rfl) | (rw [if_neg (by decide +kernel)]; exact ⟨rfl, rfl⟩))
    (fun os started H enc _ F => by rw [OpenClaim.pre_eq_preRow]; exact lifted4 os started H enc F)
theorem plain4 (f : FuncId) (fn : Func) (hf : Tryd.pinned.checked.prog.funcNamed "armplan/armplanlaw8.RobotReads" = some f) (hfn : Tryd.pinned.checked.prog.funcs[f]? = some fn) :
    false = Tryd.pinned.checked.prog.looks [] ∧ ∀ (j : Nat) t, fn.params[j]? = some t → Tryd.pinned.checked.prog.wantsStandIn t = false := by
  obtain rfl : f = 4 := Option.some.inj ((show Tryd.prog.funcNamed "armplan/armplanlaw8.RobotReads" = some 4 by kernel_rfl).symm.trans hf) |>.symm
  obtain rfl : fn = Tryd.f4 := (Option.some.inj (Tryd.func4.symm.trans hfn)).symm
  refine ⟨by kernel_rfl, fun j t ht => ?_⟩
  rw [Tryd.params4] at ht
  have hm : t ∈ [33, 26, 3, 3, 3] := by simpa using Array.mem_of_getElem? ht
  have hall : ([33, 26, 3, 3, 3] : List Nat).all (fun t => !Tryd.prog.wantsStandIn t) = true := by kernel_rfl
  have := List.all_eq_true.1 hall t hm
  show Tryd.prog.wantsStandIn t = false
  simpa using this
/-- For every input RobotReads returns true; the card. -/
theorem robotReads_holds : Rows.RobotReadsUptoCardSaid :=
  Claim7.holds_tied_plain_at .later [] _ _ _ _ said4 (fun _ h => by cases h) (by kernel_rfl) (fun _ h => by cases h) robotReadsUpto_row_tie rfl ⟨rfl, rfl⟩ (by kernel_rfl) rfl plain4 (by kernel_rfl)
end Go.Proofs.YtlfclainmbafiaaDoor
