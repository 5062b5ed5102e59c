/- For every input, RobotChains returns true and leaves its arguments as they were. Conditions: the listed package variable holds its texts, tied to the program's text by the given card. -/
import Derived.Test.YtlfclainmbafiaaDoorM2
import Derived.Test.YtlfclainmbafiaaDoorCards
import Derived.Test.YtlfclainmbafiaaDoorTie
import Derived.KernelRfl
import Derived.Deep.DeepHandedRow
namespace Go.Proofs.YtlfclainmbafiaaDoor
open Eng
set_option maxRecDepth 100000
attribute [local irreducible] FnOk loopW idxF retX arrF

theorem law7 (dss : List (List DV)) (h : All2 (fun t ds => Typed T 8 t ds) [25, 9, 3, 3, 26] dss) : FnOk Tryd.prog 7 (mkSs T [25, 9, 3, 3, 26] dss) [] 0 (Bo true) [] 0 := by
  obtain ⟨a, q, rfl, ha, h⟩ := all2_cons h
  obtain ⟨b, q, rfl, hb, h⟩ := all2_cons h
  obtain ⟨c, q, rfl, hc, h⟩ := all2_cons h
  obtain ⟨d, q, rfl, hd, h⟩ := all2_cons h
  obtain ⟨e, q, rfl, he, h⟩ := all2_cons h
  obtain rfl := all2_nil h
  obtain ⟨a, rfl, ka⟩ := tyB_Robot ha
  obtain ⟨b, rfl, kb⟩ := tyB_string hb
  obtain ⟨c, rfl, kc⟩ := tyB_int hc
  obtain ⟨d, rfl, kd⟩ := tyB_int hd
  obtain ⟨e, rfl, ke⟩ := tyB_s_int he
  exact law8_Chains a b c d e (by first | exact ka | omega) (by first | exact kb | omega) (by first | exact kc | omega) (by first | exact kd | omega) (by first | exact ke | omega)
theorem met7 (os : Os) : laidMet Tryd.prog Rows.robotChainsRow.laid ((laidWorld os).forCall (fun _ _ => 0) ⟨#[], #[.agg #[.slice none 0 0, .slice none 0 0], .string ByteArray.empty, .int .i64 0, .int .i64 0, .slice none 0 0], []⟩).memory :=
  laidMet_of_run' 8 (by kernel_rfl) (by kernel_rfl)
theorem reads7 (os : Os) {H : Type} (enc : TypeId × Value → H) : ∃ places, DataW.whole enc Tryd.prog ((laidWorld os).forCall (fun _ _ => 0) ⟨#[], #[.agg #[.slice none 0 0, .slice none 0 0], .string ByteArray.empty, .int .i64 0, .int .i64 0, .slice none 0 0], []⟩).memory Tryd.f7.params.toList Rows.robotChainsSpec.vars false (#[.agg #[.slice none 0 0, .slice none 0 0], .string ByteArray.empty, .int .i64 0, .int .i64 0, .slice none 0 0] : Array Value).toList 8 = some ([.agg [.nil, .nil], .lit (.string []), .lit (.int .i64 0), .lit (.int .i64 0), .nil], [], places) :=
  ⟨[], by kernel_rfl⟩
theorem lifted7 (os : Os) (started : os.Started) (H : Type) (enc : TypeId × Value → H) (F : Stop.Interp) :
    ReturnsInHanded {} Tryd.checked os 7 .any ((OpenSpec.ofChange Rows.robotChainsSpec).preRow enc Tryd.prog Tryd.f7 Rows.robotChainsRow.domain false Rows.robotChainsRow.laid) (((OpenSpec.ofChange Rows.robotChainsSpec).at F).post enc Tryd.prog Tryd.f7 false true false false) := by
  obtain ⟨places, hx⟩ := reads7 os enc
  refine returnsInHanded_of_row (C := Tryd.checked) (s := OpenSpec.ofChange Rows.robotChainsSpec) own started (by kernel_rfl) Tryd.func7
    (witness_row_at (enc := enc) (C := Tryd.checked) false (laidWorld os) #[.agg #[.slice none 0 0, .slice none 0 0], .string ByteArray.empty, .int .i64 0, .int .i64 0, .slice none 0 0] rfl (by kernel_rfl) (by kernel_rfl) (by kernel_rfl)
      (OpenSpec.preRow_of_cond 8 hx (by kernel_rfl) (fun k hk => by cases hk) (by kernel_rfl) (met7 os))) ?_
  intro W base args ds gs before hval hW _ hcond hsz hL _ _
  exact law_contract (T := T) (n := 8) (tb := 4) (ts := [25, 9, 3, 3, 26]) tab laid (s := Rows.robotChainsSpec) rfl rfl (by kernel_rfl) rfl (by kernel_rfl) (fun ds hd => by
    match ds, hd with
    | [_, _, _, _, _], _ => rfl) law7 hval hW hsz (globs hL)
theorem said7 : Rows.RobotChainsSaid :=
  OpenClaim.holds_of_cond 7 Tryd.f7 rfl rfl rfl rfl rfl rfl rfl ⟨rfl, rfl, rfl, rfl, rfl⟩ rfl rfl rfl rfl rfl (by kernel_rfl) Tryd.func7 (by kernel_rfl)
    (of_decide_eq_true (by kernel_rfl)) (by unfold Func.isWrapper; first | (rw [if_pos (by decide +kernel)]; kernel_rfl) | (rw [if_neg (by decide +kernel)]; exact ⟨rfl, rfl⟩))
    (fun os started H enc _ F => by rw [OpenClaim.pre_eq_preRow]; exact lifted7 os started H enc F)
theorem plain7 (f : FuncId) (fn : Func) (hf : Tryd.pinned.checked.prog.funcNamed "armplan/armplanlaw8.RobotChains" = some f) (hfn : Tryd.pinned.checked.prog.funcs[f]? = some fn) :
    false = Tryd.pinned.checked.prog.looks [] ∧ ∀ (j : Nat) t, fn.params[j]? = some t → Tryd.pinned.checked.prog.wantsStandIn t = false := by
  obtain rfl : f = 7 := Option.some.inj ((show Tryd.prog.funcNamed "armplan/armplanlaw8.RobotChains" = some 7 by kernel_rfl).symm.trans hf) |>.symm
  obtain rfl : fn = Tryd.f7 := (Option.some.inj (Tryd.func7.symm.trans hfn)).symm
  refine ⟨by kernel_rfl, fun j t ht => ?_⟩
  rw [Tryd.params7] at ht
  have hm : t ∈ [25, 9, 3, 3, 26] := by simpa using Array.mem_of_getElem? ht
  have hall : ([25, 9, 3, 3, 26] : List Nat).all (fun t => !Tryd.prog.wantsStandIn t) = true := by kernel_rfl
  have := List.all_eq_true.1 hall t hm
  show Tryd.prog.wantsStandIn t = false
  simpa using this
/-- For every input RobotChains returns true; the card. -/
theorem robotChains_holds : Rows.RobotChainsCardSaid :=
  Claim7.holds_tied_plain_at .later [] _ _ _ _ said7 (fun _ h => by cases h) (by kernel_rfl) (fun _ h => by cases h) robotChains_row_tie rfl ⟨rfl, rfl⟩ (by kernel_rfl) rfl plain7 (by kernel_rfl)
end Go.Proofs.YtlfclainmbafiaaDoor
