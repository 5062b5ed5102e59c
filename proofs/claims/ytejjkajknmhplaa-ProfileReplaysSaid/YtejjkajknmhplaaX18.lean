import Derived.Test.YtejjkajknmhplaaX17
namespace Go.Proofs.Ytejjkajknmhplaa
open Eng
set_option maxRecDepth 10000

/-- one step of a replay keeps what is feasible below -/
theorem step_below {top : List Int} {rows : List Row} {x z y : List Int} {i : Int} (hv : valid top rows = true) (hx : x.length = top.length) (hy : feas top rows y = true) (hb : below y x) (h : repStep rows x i = some z) : below y z ∧ z.length = top.length := by
  unfold repStep at h
  split at h
  · split at h
    · cases h
    · rename_i r hr
      split at h
      · rename_i ho
        simp only [Option.some.injEq] at h
        subst h
        have hmem := List.mem_of_getElem? hr
        have hri := ((valid_iff.1 hv).2.2.2.2 r hmem).1
        obtain ⟨a0, a1⟩ := bnd_in (hx ▸ hri) ho
        have h1 := bnd_mono ((feas_iff.1 hy).2.2.2 r hmem) hb ho
        have h2 := hb.2 (bnd r x).1
        have h3 := ((feas_iff.1 hy).2.2.1 (bnd r x).1).1
        exact ⟨below_set hb (by omega) (by omega), by simp [hx]⟩
      · cases h
  · cases h
theorem rep_below {top : List Int} {rows : List Row} {y : List Int} (hv : valid top rows = true) (hy : feas top rows y = true) : ∀ {s x z : List Int}, x.length = top.length → below y x → rep rows x s = some z → below y z
  | [], x, z, _, hb, h => by simp only [rep, Option.some.injEq] at h; exact h ▸ hb
  | i :: s, x, z, hx, hb, h => by
    simp only [rep] at h
    cases hst : repStep rows x i with
    | none => rw [hst] at h; cases h
    | some x' =>
      rw [hst] at h
      obtain ⟨h1, h2⟩ := step_below hv hx hy hb hst
      exact rep_below hv hy h2 h1 h
theorem replay_below {top : List Int} {rows : List Row} {y s : List Int} (hy : feas top rows y = true) (ho : (replay top rows s).2 = true) : below y (replay top rows s).1 := by
  obtain ⟨hv, _, hr, _⟩ := replay_ok ho
  exact rep_below hv hy rfl (feas_below hy) hr
theorem safe_refutes {top : List Int} {rows : List Row} {y s : List Int} (hy : feas top rows y = true) : refutes top rows s = false := by
  rcases ho : (replay top rows s).2 with _ | _
  · simp [refutes, ho]
  · have hb := replay_below hy ho
    unfold refutes
    rw [ho, Bool.true_and, Bool.or_eq_false_iff]
    constructor
    · rw [List.any_eq_false]
      intro v hv
      obtain ⟨k, hk⟩ := List.getElem?_of_mem hv
      have h1 := hb.2 k
      have h2 := ((feas_iff.1 hy).2.2.1 k).1
      rw [lv_at hk] at h1
      simp only [decide_eq_true_eq]; omega
    · rw [List.any_eq_false]
      intro r hr
      unfold negRow
      intro h
      simp only [Bool.and_eq_true, decide_eq_true_eq, Bool.not_eq_true'] at h
      obtain ⟨⟨h1, h2⟩, h3⟩ := h
      rw [sat_below h1 h2 hb ((feas_iff.1 hy).2.2.2 r hr)] at h3
      cases h3
/-- steps that name rows with a coefficient above 0 -/
def goodStep (rows : List Row) (i : Int) : Prop := 0 ≤ i ∧ i < rows.length ∧ ∃ r, rows[i.toNat]? = some r ∧ (0 < r.a ∨ 0 < r.b)
theorem rep_good {top : List Int} {rows : List Row} (hv : valid top rows = true) : ∀ (s x : List Int), x.length = top.length → (∀ i ∈ s, goodStep rows i) → ∃ z, rep rows x s = some z
  | [], x, _, _ => ⟨x, rfl⟩
  | i :: s, x, hx, h => by
    obtain ⟨h0, h1, r, hr, hp⟩ := h i (by simp)
    have hmem := List.mem_of_getElem? hr
    have hnb := ((valid_iff.1 hv).2.2.2.2 r hmem).2
    have ho : (bnd r x).2.2 = true := by
      unfold bnd
      split
      · rfl
      · split
        · rfl
        · omega
    obtain ⟨z, hz⟩ := rep_good hv s (x.set (bnd r x).1.toNat (min (lv x (bnd r x).1) (max (bnd r x).2.1 (-1)))) (by simp [hx]) fun j hj => h j (by simp [hj])
    refine ⟨z, ?_⟩
    simp only [rep, repStep, if_pos (And.intro h0 h1), hr, ho, if_true]
    exact hz
end Go.Proofs.Ytejjkajknmhplaa
