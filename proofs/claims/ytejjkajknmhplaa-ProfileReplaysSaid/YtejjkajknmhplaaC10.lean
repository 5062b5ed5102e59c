/- For every input, ProfileReplays returns true and leaves its arguments as they were. Conditions: none beyond the given statement. -/
import Derived.Test.YtejjkajknmhplaaX19
namespace Go.Proofs.Ytejjkajknmhplaa
open Eng
set_option maxRecDepth 10000
attribute [local irreducible] FnOk loopW idxF retX arrF

theorem f10_ok (top : List Int) (rows : List Row) (x st l m : List Int) (how at_ k : Int) (_ : top.length ≤ 17592186044416) (_ : rows.length ≤ 17592186044416) (_ : x.length ≤ 17592186044416) (_ : st.length ≤ 17592186044416) (hl : l.length ≤ 17592186044416) (hm : m.length ≤ 17592186044416) :
    FnOk Try.prog 10 [Li top, Lr rows, Li x, Li st, Li l, Li m, I how, I at_, I k] [] 0 (Bo true) [] 0 := by
  refine fnOk tab mix Try.func10 rfl rfl (by kernel_rfl) rfl rfl ?_
  have ht := lim_tame l
  have hr := limRows_len l
  have ht1 := ht.1
  have hgl := great_len (limTop l) (limRows l)
  have hlv := levels_len (limTop l) m
  (conv => whnf)
  refine call_i (f13_ok top rows x st) ?_
  (conv => whnf)
  refine ask_m (fun h => ?_) (fun h => ?_)
  · (conv => whnf)
    refine call_i f14_ok ?_
    (conv => whnf)
    refine ret0 ?_
    exact ret_b rfl rfl
  have hfew : top.length ≤ 70 ∧ rows.length ≤ 60 ∧ x.length ≤ 70 ∧ st.length ≤ 200 := by simp at h; omega
  (conv => whnf)
  refine call_i (f15_ok l (by omega)) ?_
  generalize limTop l = t at *
  generalize limRows l = r at *
  (conv => whnf)
  refine call_i (f29_ok t r (by omega) (by omega)) ?_
  (conv => whnf)
  refine ⟨⟨flatG3 _, flatI _ _, flatI _ _, trivial⟩, ?_⟩
  generalize great t r = g at *
  (conv => whnf)
  rw [List.length_map]
  refine call_i (f30_ok g.2.1 how at_ k r.length (by omega) (by omega)) ?_
  (conv => whnf)
  refine ⟨⟨trivial, flatI _ _, trivial⟩, ?_⟩
  generalize alt g.2.1 how at_ k r.length = u
  (conv => whnf)
  refine call_i f14_ok ?_
  (conv => whnf)
  refine call_i (f31_ok top rows x st (by omega) (by omega)) ?_
  (conv => whnf)
  refine call_i (f31_ok t r g.1 g.2.1 (by omega) (by omega)) ?_
  (conv => whnf)
  refine ⟨⟨trivial, trivial⟩, ?_⟩
  (conv => whnf)
  refine call_i (f31_ok t r g.1 u (by omega) (by omega)) ?_
  (conv => whnf)
  refine ⟨⟨trivial, trivial⟩, ?_⟩
  (conv => whnf)
  refine call_i (f21_ok t m ht (by omega)) ?_
  (conv => whnf)
  refine ⟨⟨trivial, flatI _ _, trivial⟩, ?_⟩
  (conv => whnf)
  refine call_i (f31_ok t r (levels t m) u (by omega) (by omega)) ?_
  (conv => whnf)
  refine ⟨⟨trivial, trivial⟩, ?_⟩
  (conv => whnf)
  refine call_i (f31_ok t r x st (by omega) (by omega)) ?_
  (conv => whnf)
  refine ⟨⟨trivial, trivial⟩, ?_⟩
  (conv => whnf)
  refine ret0 ?_
  exact ret_b rfl rfl
theorem law10 (dss : List (List DV)) (h : All2 (fun t ds => Typed T 8 t ds) [22, 23, 22, 26, 26, 26, 3, 3, 3] dss) : FnOk Try.prog 10 (mkSs T [22, 23, 22, 26, 26, 26, 3, 3, 3] dss) [] 0 (Bo true) [] 0 := by
  obtain ⟨a, q, rfl, ha, h⟩ := all2_cons h
  obtain ⟨b, q, rfl, hb, h⟩ := all2_cons h
  obtain ⟨c, q, rfl, hc, h⟩ := all2_cons h
  obtain ⟨d, q, rfl, hd, h⟩ := all2_cons h
  obtain ⟨e, q, rfl, he, h⟩ := all2_cons h
  obtain ⟨f, q, rfl, hf, h⟩ := all2_cons h
  obtain ⟨g, q, rfl, hg, h⟩ := all2_cons h
  obtain ⟨j, q, rfl, hj, h⟩ := all2_cons h
  obtain ⟨k, q, rfl, hk, h⟩ := all2_cons h
  obtain rfl := all2_nil h
  obtain ⟨a, rfl, ka⟩ := typed22 ha
  obtain ⟨b, rfl, kb⟩ := typed23 hb
  obtain ⟨c, rfl, kc⟩ := typed22 hc
  obtain ⟨d, rfl, kd⟩ := typed26 hd
  obtain ⟨e, rfl, ke⟩ := typed26 he
  obtain ⟨f, rfl, kf⟩ := typed26 hf
  obtain ⟨g, rfl⟩ := typed3 hg
  obtain ⟨j, rfl⟩ := typed3 hj
  obtain ⟨k, rfl⟩ := typed3 hk
  exact f10_ok a b c d e f g j k ka kb kc kd ke kf
theorem lifted10 (os : Os) (started : os.Started) (H : Type) (enc : TypeId × Value → H) :
    ReturnsInHanded {} Try.checked os 10 .any (Rows.profileReplaysSpec.pre6 enc Try.prog Try.f10 Rows.profileReplaysRow.domain false) (Rows.profileReplaysSpec.post enc Try.prog Try.f10 false true false false) := by
  refine returnsInHanded_of_change_sized (C := Try.checked) own started (by kernel_rfl) Try.func10
    (ChangeSpec.witness6 (enc := enc) (C := Try.checked) false ⟨#[], #[.slice none 0 0, .slice none 0 0, .slice none 0 0, .slice none 0 0, .slice none 0 0, .slice none 0 0, .int .i64 0, .int .i64 0, .int .i64 0], []⟩ 8 (by kernel_rfl) (by kernel_rfl) (by kernel_rfl) (by kernel_rfl)) ?_
  intro W base args ds gs before hval hW _ hsz _
  exact law_contract (T := T) (n := 8) (tb := 4) (ts := [22, 23, 22, 26, 26, 26, 3, 3, 3]) tab laid rfl rfl (by kernel_rfl) rfl (by kernel_rfl) (fun ds hd => by
    match ds, hd with
    | [_, _, _, _, _, _, _, _, _], _ => rfl) law10 hval hW hsz
/-- For every input ProfileReplays returns true. -/
theorem profileReplays_holds : Rows.ProfileReplaysSaid :=
  OpenClaim.holds_of_wide 10 Try.f10 rfl rfl rfl rfl rfl rfl rfl ⟨rfl, rfl, rfl, rfl, rfl⟩ rfl rfl rfl rfl rfl (by kernel_rfl) Try.func10 (by kernel_rfl)
    (of_decide_eq_true (by kernel_rfl)) (by unfold Func.isWrapper; first | (rw [if_pos (by decide +kernel)]; kernel_rfl) | (rw [if_neg (by decide +kernel)]; exact ⟨rfl, rfl⟩))
    (fun os started H enc _ => lifted10 os started H enc)
end Go.Proofs.Ytejjkajknmhplaa
