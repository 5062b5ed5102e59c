/- For every input, ProfileSplits returns true and leaves its arguments as they were. Conditions: none beyond the given statement. -/
import Derived.Test.YtejjkajknmhplaaX17
namespace Go.Proofs.Ytejjkajknmhplaa
open Eng
set_option maxRecDepth 10000
attribute [local irreducible] FnOk loopW idxF retX

theorem phases_len (x : List Int) : (phases x).length ≤ x.length := by
  have := phTo_len x (x.length - 1)
  unfold phases; omega
theorem f25_mk (c a b d : Int) : FnOk Try.prog 25 [.agg [.dv (.int .i64 c), .dv (.int .i64 a), .dv (.int .i64 b), .dv (.int .i64 d)]] [] 0 (Bo true) [] 0 := f25_ok ⟨c, a, b, d⟩
theorem f8_ok (r : Row) (x l : List Int) (a b : Int) (_ : x.length ≤ 17592186044416) (hl : l.length ≤ 17592186044416) : FnOk Try.prog 8 [Rw r, Li x, Li l, I a, I b] [] 0 (Bo true) [] 0 := by
  refine fnOk tab mix Try.func8 rfl rfl (by kernel_rfl) rfl rfl ?_
  have ht := (lim_tame l).1
  have hp1 := phases_len x
  have hp2 := phases_len (limTop l)
  (conv => whnf)
  refine ask_m (fun h => ?_) (fun h => ?_)
  · (conv => whnf)
    refine call_i f14_ok ?_
    (conv => whnf)
    refine ret0 ?_
    exact ret_b rfl rfl
  have hx : x.length ≤ 200 := by simp at h; omega
  (conv => whnf)
  refine call_i (f15_ok l (by omega)) ?_
  (conv => whnf)
  refine call_i (f22_ok a 2147483648 (by decide) (by decide)) ?_
  (conv => whnf)
  refine call_i (f22_ok b 2147483648 (by decide) (by decide)) ?_
  (conv => whnf)
  refine ⟨by decide, ?_⟩
  (conv => whnf)
  refine call_i f14_ok ?_
  (conv => whnf)
  refine call_i (f25_ok r) ?_
  (conv => whnf)
  refine call_i (f25_mk _ _ _ _) ?_
  (conv => whnf)
  refine ⟨by decide, ?_⟩
  (conv => whnf)
  refine ⟨by decide, ?_⟩
  (conv => whnf)
  refine ⟨by decide, ?_⟩
  (conv => whnf)
  refine call_i (f25_mk _ _ _ _) ?_
  (conv => whnf)
  refine call_i (f24_ok x (by omega)) ?_
  (conv => whnf)
  refine call_i (f27_ok x (by omega)) ?_
  (conv => whnf)
  refine call_i (f26_ok (phases x) (phases x) (by omega)) ?_
  (conv => whnf)
  refine ⟨⟨trivial, trivial⟩, ?_⟩
  (conv => whnf)
  refine ask_mt (by simp) ?_
  (conv => whnf)
  refine call_i (f24_ok (limTop l) (by omega)) ?_
  (conv => whnf)
  refine ⟨⟨trivial, flatP _ _, trivial⟩, ?_⟩
  (conv => whnf)
  refine call_i (f27_ok (limTop l) (by omega)) ?_
  (conv => whnf)
  refine ⟨⟨trivial, flatP _ _, trivial⟩, ?_⟩
  (conv => whnf)
  refine call_i (f26_ok (phases (limTop l)) (phases (limTop l)) (by omega)) ?_
  (conv => whnf)
  refine ⟨⟨trivial, trivial⟩, ?_⟩
  (conv => whnf)
  refine ret0 ?_
  exact ret_b (by simp) rfl
theorem law8 (dss : List (List DV)) (h : All2 (fun t ds => Typed T 8 t ds) [25, 22, 26, 3, 3] dss) : FnOk Try.prog 8 (mkSs T [25, 22, 26, 3, 3] dss) [] 0 (Bo true) [] 0 := by
  obtain ⟨a, q, rfl, ha, h⟩ := all2_cons h
  obtain ⟨b, q, rfl, hb, h⟩ := all2_cons h
  obtain ⟨c, q, rfl, hc, h⟩ := all2_cons h
  obtain ⟨d, q, rfl, hd, h⟩ := all2_cons h
  obtain ⟨e, q, rfl, he, h⟩ := all2_cons h
  obtain rfl := all2_nil h
  obtain ⟨a, rfl⟩ := typed25 ha
  obtain ⟨b, rfl, kb⟩ := typed22 hb
  obtain ⟨c, rfl, kc⟩ := typed26 hc
  obtain ⟨d, rfl⟩ := typed3 hd
  obtain ⟨e, rfl⟩ := typed3 he
  exact f8_ok a b c d e kb kc
theorem lifted8 (os : Os) (started : os.Started) (H : Type) (enc : TypeId × Value → H) :
    ReturnsInHanded {} Try.checked os 8 .any (Rows.profileSplitsSpec.pre6 enc Try.prog Try.f8 Rows.profileSplitsRow.domain false) (Rows.profileSplitsSpec.post enc Try.prog Try.f8 false true false false) := by
  refine returnsInHanded_of_change_sized (C := Try.checked) own started (by kernel_rfl) Try.func8
    (ChangeSpec.witness6 (enc := enc) (C := Try.checked) false ⟨#[], #[.agg #[.int .i64 0, .int .i64 0, .int .i64 0, .int .i64 0], .slice none 0 0, .slice none 0 0, .int .i64 0, .int .i64 0], []⟩ 8 (by kernel_rfl) (by kernel_rfl) (by kernel_rfl) (by kernel_rfl)) ?_
  intro W base args ds gs before hval hW _ hsz _
  exact law_contract (T := T) (n := 8) (tb := 4) (ts := [25, 22, 26, 3, 3]) tab laid rfl rfl (by kernel_rfl) rfl (by kernel_rfl) (fun ds hd => by
    match ds, hd with
    | [_, _, _, _, _], _ => rfl) law8 hval hW hsz
/-- For every input ProfileSplits returns true. -/
theorem profileSplits_holds : Rows.ProfileSplitsSaid :=
  OpenClaim.holds_of_wide 8 Try.f8 rfl rfl rfl rfl rfl rfl rfl ⟨rfl, rfl, rfl, rfl, rfl⟩ rfl rfl rfl rfl rfl (by kernel_rfl) Try.func8 (by kernel_rfl)
    (of_decide_eq_true (by kernel_rfl)) (by unfold Func.isWrapper; first | (rw [if_pos (by decide +kernel)]; kernel_rfl) | (rw [if_neg (by decide +kernel)]; exact ⟨rfl, rfl⟩))
    (fun os started H enc _ => lifted8 os started H enc)
end Go.Proofs.Ytejjkajknmhplaa
