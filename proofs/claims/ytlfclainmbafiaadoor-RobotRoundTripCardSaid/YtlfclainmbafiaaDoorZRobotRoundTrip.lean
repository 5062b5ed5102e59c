/- For every input, RobotRoundTrip returns true and leaves its arguments as they were. Conditions: the listed package variable holds its texts, tied to the program's text by the given card. -/
import Derived.Test.YtlfclainmbafiaaDoorM3
import Derived.Test.YtlfclainmbafiaaDoorCards
import Derived.Test.YtlfclainmbafiaaDoorTie
import Derived.KernelRfl
import Derived.Deep.DeepHandedRow
namespace Go.Proofs.YtlfclainmbafiaaDoor
open Eng
set_option maxRecDepth 100000
attribute [local irreducible] FnOk loopW idxF retX arrF

theorem law8 (dss : List (List DV)) (h : All2 (fun t ds => Typed T 8 t ds) [26, 3, 3, 3] dss) : FnOk Tryd.prog 8 (mkSs T [26, 3, 3, 3] dss) [] 0 (Bo true) [] 0 := by
  obtain ⟨a, q, rfl, ha, h⟩ := all2_cons h
  obtain ⟨b, q, rfl, hb, h⟩ := all2_cons h
  obtain ⟨c, q, rfl, hc, h⟩ := all2_cons h
  obtain ⟨d, q, rfl, hd, h⟩ := all2_cons h
  obtain rfl := all2_nil h
  obtain ⟨a, rfl, ka⟩ := tyB_s_int ha
  obtain ⟨b, rfl, kb⟩ := tyB_int hb
  obtain ⟨c, rfl, kc⟩ := tyB_int hc
  obtain ⟨d, rfl, kd⟩ := tyB_int hd
  exact law8_RoundTrip a b c d (by first | exact ka | omega) (by first | exact kb | omega) (by first | exact kc | omega) (by first | exact kd | omega)
theorem met8 (os : Os) : laidMet Tryd.prog Rows.robotRoundTripRow.laid ((laidWorld os).forCall (fun _ _ => 0) ⟨#[], #[.slice none 0 0, .int .i64 0, .int .i64 0, .int .i64 0], []⟩).memory :=
  laidMet_of_run' 8 (by kernel_rfl) (by kernel_rfl)
theorem reads8 (os : Os) {H : Type} (enc : TypeId × Value → H) : ∃ places, DataW.whole enc Tryd.prog ((laidWorld os).forCall (fun _ _ => 0) ⟨#[], #[.slice none 0 0, .int .i64 0, .int .i64 0, .int .i64 0], []⟩).memory Tryd.f8.params.toList Rows.robotRoundTripSpec.vars false (#[.slice none 0 0, .int .i64 0, .int .i64 0, .int .i64 0] : Array Value).toList 8 = some ([.nil, .lit (.int .i64 0), .lit (.int .i64 0), .lit (.int .i64 0)], [], places) :=
  ⟨[], by kernel_rfl⟩
theorem lifted8 (os : Os) (started : os.Started) (H : Type) (enc : TypeId × Value → H) (F : Stop.Interp) :
    ReturnsInHanded {} Tryd.checked os 8 .any ((OpenSpec.ofChange Rows.robotRoundTripSpec).preRow enc Tryd.prog Tryd.f8 Rows.robotRoundTripRow.domain false Rows.robotRoundTripRow.laid) (((OpenSpec.ofChange Rows.robotRoundTripSpec).at F).post enc Tryd.prog Tryd.f8 false true false false) := by
  obtain ⟨places, hx⟩ := reads8 os enc
  refine returnsInHanded_of_row (C := Tryd.checked) (s := OpenSpec.ofChange Rows.robotRoundTripSpec) own started (by kernel_rfl) Tryd.func8
    (witness_row_at (enc := enc) (C := Tryd.checked) false (laidWorld os) #[.slice none 0 0, .int .i64 0, .int .i64 0, .int .i64 0] rfl (by kernel_rfl) (by kernel_rfl) (by kernel_rfl)
      (OpenSpec.preRow_of_cond 8 hx (by kernel_rfl) (fun k hk => by cases hk) (by kernel_rfl) (met8 os))) ?_
  intro W base args ds gs before hval hW _ hcond hsz hL _ _
  exact law_contract (T := T) (n := 8) (tb := 4) (ts := [26, 3, 3, 3]) tab laid (s := Rows.robotRoundTripSpec) rfl rfl (by kernel_rfl) rfl (by kernel_rfl) (fun ds hd => by
    match ds, hd with
    | [_, _, _, _], _ => rfl) law8 hval hW hsz (globs hL)
theorem said8 : Rows.RobotRoundTripSaid :=
  OpenClaim.holds_of_cond 8 Tryd.f8 rfl rfl rfl rfl rfl rfl rfl ⟨rfl, rfl, rfl, rfl, rfl⟩ rfl rfl rfl rfl rfl (by kernel_rfl) Tryd.func8 (by kernel_rfl)
    (of_decide_eq_true (by kernel_rfl)) (by unfold Func.isWrapper; first | (rw [if_pos (by decide +kernel)]; kernel_rfl) | (rw [if_neg (by decide +kernel)]; exact ⟨rfl, rfl⟩))
    (fun os started H enc _ F => by rw [OpenClaim.pre_eq_preRow]; exact lifted8 os started H enc F)
theorem plain8 (f : FuncId) (fn : Func) (hf : Tryd.pinned.checked.prog.funcNamed "armplan/armplanlaw8.RobotRoundTrip" = some f) (hfn : Tryd.pinned.checked.prog.funcs[f]? = some fn) :
    false = Tryd.pinned.checked.prog.looks [] ∧ ∀ (j : Nat) t, fn.params[j]? = some t → Tryd.pinned.checked.prog.wantsStandIn t = false := by
  obtain rfl : f = 8 := Option.some.inj ((show Tryd.prog.funcNamed "armplan/armplanlaw8.RobotRoundTrip" = some 8 by kernel_rfl).symm.trans hf) |>.symm
  obtain rfl : fn = Tryd.f8 := (Option.some.inj (Tryd.func8.symm.trans hfn)).symm
  refine ⟨by kernel_rfl, fun j t ht => ?_⟩
  rw [Tryd.params8] at ht
  have hm : t ∈ [26, 3, 3, 3] := by simpa using Array.mem_of_getElem? ht
  have hall : ([26, 3, 3, 3] : List Nat).all (fun t => !Tryd.prog.wantsStandIn t) = true := by kernel_rfl
  have := List.all_eq_true.1 hall t hm
  show Tryd.prog.wantsStandIn t = false
  simpa using this
/-- For every input RobotRoundTrip returns true; the card. -/
theorem robotRoundTrip_holds : Rows.RobotRoundTripCardSaid :=
  Claim7.holds_tied_plain_at .later [] _ _ _ _ said8 (fun _ h => by cases h) (by kernel_rfl) (fun _ h => by cases h) robotRoundTrip_row_tie rfl ⟨rfl, rfl⟩ (by kernel_rfl) rfl plain8 (by kernel_rfl)
end Go.Proofs.YtlfclainmbafiaaDoor
