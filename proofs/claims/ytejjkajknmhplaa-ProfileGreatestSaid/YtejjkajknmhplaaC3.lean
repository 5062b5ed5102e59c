/- For every input, ProfileGreatest returns true and leaves its arguments as they were. Conditions: none beyond the given statement. -/
import Derived.Test.YtejjkajknmhplaaX16
namespace Go.Proofs.Ytejjkajknmhplaa
open Eng
set_option maxRecDepth 10000
attribute [local irreducible] FnOk loopW idxF retX

theorem lim_tame (l : List Int) : tame (limTop l) := by
  obtain ⟨n1, n2, n3⟩ := limN_bd l
  refine ⟨by simp [limTop]; omega, fun v hv => ?_⟩
  obtain ⟨i, _, rfl⟩ := List.mem_map.1 hv
  have := nxt_bd (l := l) (j := 1 + i) (m := 30) (by omega)
  omega
theorem limC_bd (l : List Int) : limC l ≤ 11 := by
  have := nxt_bd (l := l) (j := 1 + limN l) (m := 12) (by omega)
  unfold limC; omega
theorem limRows_len (l : List Int) : (limRows l).length ≤ 11 := by
  have := limC_bd l
  simp [limRows]; omega
theorem f16_app (a : List Int) (b : List Row) (r : Row) (hb : b.length ≤ 4294967296) (ha : a.length ≤ 17592186044416) : FnOk Try.prog 16 [Li a, .one (.dv (.lst 4 (b.map encR ++ [[.int .i64 r.cell, .int .i64 r.a, .int .i64 r.b, .int .i64 r.c]])))] [] 0 (Bo true) [] 0 := by
  have := f16_ok a (b ++ [r]) (by simp; omega) ha
  simp only [Lr, List.map_append] at this
  exact this
theorem f3_ok (top : List Int) (rows : List Row) (r : Row) (l : List Int) (hl : l.length ≤ 17592186044416) : FnOk Try.prog 3 [Li top, Lr rows, Rw r, Li l] [] 0 (Bo true) [] 0 := by
  refine fnOk tab mix Try.func3 rfl rfl (by kernel_rfl) rfl rfl ?_
  have ht := (lim_tame l).1
  have hrl := limRows_len l
  (conv => whnf)
  refine call_i (f13_ok top rows [] []) ?_
  (conv => whnf)
  refine ask_m (fun h => ?_) (fun h => ?_)
  · (conv => whnf)
    refine call_i f14_ok ?_
    (conv => whnf)
    refine ret0 ?_
    exact ret_b rfl rfl
  have hfew : top.length ≤ 70 ∧ rows.length ≤ 60 := by simp at h; omega
  (conv => whnf)
  refine call_i (f15_ok l (by omega)) ?_
  (conv => whnf)
  refine call_i f14_ok ?_
  (conv => whnf)
  refine call_i (f16_ok top rows (by omega) (by omega)) ?_
  (conv => whnf)
  refine call_i (f16_ok (limTop l) (limRows l) (by omega) (by omega)) ?_
  (conv => whnf)
  refine ⟨⟨trivial, trivial⟩, ?_⟩
  (conv => whnf)
  refine ⟨⟨by simp; omega, by simp; omega⟩, ?_⟩
  (conv => whnf)
  refine call_i (f16_app (limTop l) (limRows l) r (by omega) (by omega)) ?_
  (conv => whnf)
  refine ⟨⟨trivial, trivial⟩, ?_⟩
  (conv => whnf)
  refine call_i (f16_ok (limTop l) rows (by omega) (by omega)) ?_
  (conv => whnf)
  refine ⟨⟨trivial, trivial⟩, ?_⟩
  (conv => whnf)
  refine ret0 ?_
  exact ret_b rfl rfl
theorem law3 (dss : List (List DV)) (h : All2 (fun t ds => Typed T 8 t ds) [22, 23, 25, 26] dss) : FnOk Try.prog 3 (mkSs T [22, 23, 25, 26] dss) [] 0 (Bo true) [] 0 := by
  obtain ⟨a, q, rfl, ha, h⟩ := all2_cons h
  obtain ⟨b, q, rfl, hb, h⟩ := all2_cons h
  obtain ⟨c, q, rfl, hc, h⟩ := all2_cons h
  obtain ⟨d, q, rfl, hd, h⟩ := all2_cons h
  obtain rfl := all2_nil h
  obtain ⟨a, rfl, _⟩ := typed22 ha
  obtain ⟨b, rfl, _⟩ := typed23 hb
  obtain ⟨c, rfl⟩ := typed25 hc
  obtain ⟨d, rfl, hd2⟩ := typed26 hd
  exact f3_ok a b c d hd2
theorem lifted3 (os : Os) (started : os.Started) (H : Type) (enc : TypeId × Value → H) :
    ReturnsInHanded {} Try.checked os 3 .any (Rows.profileGreatestSpec.pre6 enc Try.prog Try.f3 Rows.profileGreatestRow.domain false) (Rows.profileGreatestSpec.post enc Try.prog Try.f3 false true false false) := by
  refine returnsInHanded_of_change_sized (C := Try.checked) own started (by kernel_rfl) Try.func3
    (ChangeSpec.witness6 (enc := enc) (C := Try.checked) false ⟨#[], #[.slice none 0 0, .slice none 0 0, .agg #[.int .i64 0, .int .i64 0, .int .i64 0, .int .i64 0], .slice none 0 0], []⟩ 8 (by kernel_rfl) (by kernel_rfl) (by kernel_rfl) (by kernel_rfl)) ?_
  intro W base args ds gs before hval hW _ hsz _
  exact law_contract (T := T) (n := 8) (tb := 4) (ts := [22, 23, 25, 26]) tab laid rfl rfl (by kernel_rfl) rfl (by kernel_rfl) (fun ds hd => by
    match ds, hd with
    | [_, _, _, _], _ => rfl) law3 hval hW hsz
/-- For every input ProfileGreatest returns true. -/
theorem profileGreatest_holds : Rows.ProfileGreatestSaid :=
  OpenClaim.holds_of_wide 3 Try.f3 rfl rfl rfl rfl rfl rfl rfl ⟨rfl, rfl, rfl, rfl, rfl⟩ rfl rfl rfl rfl rfl (by kernel_rfl) Try.func3 (by kernel_rfl)
    (of_decide_eq_true (by kernel_rfl)) (by unfold Func.isWrapper; first | (rw [if_pos (by decide +kernel)]; kernel_rfl) | (rw [if_neg (by decide +kernel)]; exact ⟨rfl, rfl⟩))
    (fun os started H enc _ => lifted3 os started H enc)
end Go.Proofs.Ytejjkajknmhplaa
