import Derived.Test.YtejjkajknmhplaaX11
namespace Go.Proofs.Ytejjkajknmhplaa
open Eng
set_option maxRecDepth 10000
attribute [local irreducible] FnOk loopW idxF retX

def mnTo (x : List Int) : Nat → Int
  | 0 => lv x 0
  | k + 1 => min (mnTo x k) (lv x k)
theorem mnTo_neg {x : List Int} {k : Nat} : mnTo x k < 0 ↔ lv x 0 < 0 ∨ ∃ i : Nat, i < k ∧ lv x i < 0 := by
  induction k with
  | zero => simp [mnTo]
  | succ k ih =>
    simp only [mnTo]
    have : min (mnTo x k) (lv x k) < 0 ↔ mnTo x k < 0 ∨ lv x k < 0 := by omega
    rw [this, ih]
    constructor
    · rintro ((h | ⟨i, h1, h2⟩) | h)
      · exact .inl h
      · exact .inr ⟨i, by omega, h2⟩
      · exact .inr ⟨k, by omega, h⟩
    · rintro (h | ⟨i, h1, h2⟩)
      · exact .inl (.inl h)
      · by_cases e : i = k
        · subst e; exact .inr h2
        · exact .inl (.inr ⟨i, by omega, h2⟩)
theorem mnTo_any {x : List Int} (hx : 0 < x.length) : decide (mnTo x x.length < 0) = x.any fun v => decide (v < 0) := by
  rw [Bool.eq_iff_iff, decide_eq_true_iff, mnTo_neg, List.any_eq_true]
  have h0 : ∀ i : Nat, i < x.length → ∃ v ∈ x, lv x i = v := fun i hi => ⟨_, List.getElem_mem hi, by simp [lv, List.getD_eq_getElem?_getD, hi]⟩
  constructor
  · rintro (h | ⟨i, h1, h2⟩)
    · obtain ⟨v, hv, e⟩ := h0 0 hx
      exact ⟨v, hv, by simp only [decide_eq_true_eq]; rw [← e]; exact h⟩
    · obtain ⟨v, hv, e⟩ := h0 i h1
      exact ⟨v, hv, by simp only [decide_eq_true_eq]; rw [← e]; exact h2⟩
  · rintro ⟨v, hv, h⟩
    obtain ⟨i, hi⟩ := List.getElem?_of_mem hv
    refine .inr ⟨i, (List.getElem?_eq_some_iff.1 hi).1, ?_⟩
    rw [lv_at hi]; simpa using h
theorem f54_ok (x : List Int) (h1 : 0 < x.length) (hl : x.length ≤ 4611686018427387904) : FnOk Try.prog 54 [Li x] [] 0 (I (mnTo x x.length)) [] 0 := by
  refine fnOk tab mix Try.func54 rfl rfl (by kernel_rfl) rfl rfl ?_
  (conv => whnf)
  refine ask_mf (by simp; omega) ?_
  (conv => whnf)
  refine idx_and (by omega) (lv_some (x := x) (i := 0) (by simpa using h1)) ?_
  (conv => whnf)
  refine loop_intro (fun k : Nat => ⟨[(0, Li x), (3, I (mnTo x (k + 1))), (4, I (k + 1 : Nat))], [], 0⟩) (fun k => k + 1 ≤ x.length) (fun k => x.length - k) [] 0 [] h1 ⟨⟨rfl, eqI (by simp [mnTo]), rfl, trivial⟩, trivial⟩ ?_
  rintro k hk
  have hkk : IntKind.i64.wrap (((k + 1 : Nat) : Int) + 1) = ((k + 1 + 1 : Nat) : Int) := by rw [w64] <;> omega
  (conv => whnf)
  refine ask_m (fun h => ?_) (fun h => ?_)
  · have hlt : k + 1 < x.length := by simp at h; omega
    (conv => whnf)
    refine idx_and (by omega) (lv_some (x := x) (i := ((k + 1 : Nat) : Int)) (by simpa using hlt)) ?_
    (conv => whnf)
    exact ⟨k + 1, [], by omega, by omega, ⟨⟨rfl, eqI rfl, eqI hkk, trivial⟩, trivial⟩⟩
  · have hk : k + 1 = x.length := by simp at h; omega
    (conv => whnf)
    refine ret0 ?_
    exact ret_i (by rw [hk]) rfl

theorem f55_ok (xs ys : List Int) (hl : xs.length ≤ 4611686018427387904) : FnOk Try.prog 55 [Li xs, Li ys] [] 0 (Bo (decide (xs = ys))) [] 0 := by
  refine fnOk tab mix Try.func55 rfl rfl (by kernel_rfl) rfl rfl ?_
  repeat' ((conv => whnf); first | refine ask_m (fun h => ?_) (fun h => ?_) | refine ret0 ?_)
  · exact ret_b (by
      have : xs ≠ ys := by rintro rfl; simp at h
      simp [this]) rfl
  have hle : xs.length = ys.length := by simp at h; omega
  refine loop_intro (fun k : Nat => ⟨[(0, Li xs), (1, Li ys), (12, I xs.length), (13, I k)], [], 0⟩) (fun k => k ≤ xs.length ∧ xs.take k = ys.take k) (fun k => xs.length - k) [] 0 [] ⟨Nat.zero_le _, rfl⟩ ⟨⟨rfl, rfl, eqI (by simp), rfl, trivial⟩, trivial⟩ ?_
  rintro k ⟨hk, hall⟩
  (conv => whnf)
  refine ask_m (fun h => ?_) (fun h => ?_)
  · have hlt : k < xs.length := by simpa using h
    obtain ⟨x, hx⟩ : ∃ x, xs[k]? = some x := ⟨_, List.getElem?_eq_getElem hlt⟩
    obtain ⟨y, hy⟩ : ∃ x, ys[k]? = some x := ⟨_, List.getElem?_eq_getElem (by omega)⟩
    have hkk : IntKind.i64.wrap ((k : Int) + 1) = ((k + 1 : Nat) : Int) := by rw [w64] <;> omega
    (conv => whnf)
    refine ⟨by omega, idx_map (by simpa using hx) ?_⟩
    (conv => whnf)
    refine ⟨by omega, idx_map (by simpa using hy) ?_⟩
    repeat' ((conv => whnf); first | refine ask_m (fun h => ?_) (fun h => ?_) | refine ret0 ?_)
    · exact ret_b (by
        have : x ≠ y := by simpa using h
        simp [ne_at hx hy this]) rfl
    · have : x = y := by simpa using h
      subst this
      exact ⟨k + 1, [], ⟨hlt, take_same hall hx hy⟩, by omega, ⟨⟨rfl, rfl, rfl, eqI hkk, trivial⟩, trivial⟩⟩
  · have hk : k = xs.length := by simp at h; omega
    subst hk
    (conv => whnf)
    refine ret0 ?_
    exact ret_b (by
      rw [List.take_length, hle, List.take_length] at hall
      simp [hall]) rfl
theorem f59_ok (xs ys : List Int) (hl : xs.length ≤ 4611686018427387904) : FnOk Try.prog 59 [Li xs, Li ys] [] 0 (Bo (decide (xs = ys))) [] 0 := by
  refine fnOk tab mix Try.func59 rfl rfl (by kernel_rfl) rfl rfl ?_
  repeat' ((conv => whnf); first | refine ask_m (fun h => ?_) (fun h => ?_) | refine ret0 ?_)
  · exact ret_b (by
      have : xs ≠ ys := by rintro rfl; simp at h
      simp [this]) rfl
  have hle : xs.length = ys.length := by simp at h; omega
  refine loop_intro (fun k : Nat => ⟨[(0, Li xs), (1, Li ys), (5, I k)], [], 0⟩) (fun k => k ≤ xs.length ∧ xs.take k = ys.take k) (fun k => xs.length - k) [] 0 [] ⟨Nat.zero_le _, rfl⟩ ⟨⟨rfl, rfl, rfl, trivial⟩, trivial⟩ ?_
  rintro k ⟨hk, hall⟩
  (conv => whnf)
  refine ask_m (fun h => ?_) (fun h => ?_)
  · have hlt : k < xs.length := by simpa using h
    obtain ⟨x, hx⟩ : ∃ x, xs[k]? = some x := ⟨_, List.getElem?_eq_getElem hlt⟩
    obtain ⟨y, hy⟩ : ∃ x, ys[k]? = some x := ⟨_, List.getElem?_eq_getElem (by omega)⟩
    have hkk : IntKind.i64.wrap ((k : Int) + 1) = ((k + 1 : Nat) : Int) := by rw [w64] <;> omega
    (conv => whnf)
    refine ⟨by omega, idx_map (by simpa using hx) ?_⟩
    (conv => whnf)
    refine ⟨by omega, idx_map (by simpa using hy) ?_⟩
    repeat' ((conv => whnf); first | refine ask_m (fun h => ?_) (fun h => ?_) | refine ret0 ?_)
    · exact ret_b (by
        have : x ≠ y := by simpa using h
        simp [ne_at hx hy this]) rfl
    · have : x = y := by simpa using h
      subst this
      exact ⟨k + 1, [], ⟨hlt, take_same hall hx hy⟩, by omega, ⟨⟨rfl, rfl, eqI hkk, trivial⟩, trivial⟩⟩
  · have hk : k = xs.length := by simp at h; omega
    subst hk
    (conv => whnf)
    refine ret0 ?_
    exact ret_b (by
      rw [List.take_length, hle, List.take_length] at hall
      simp [hall]) rfl

theorem rep_rok {n : Nat} {rows : List Row} {s : List Int} : ∀ {x y : List Int}, rok n x → rep rows x s = some y → rok n y := by
  induction s with
  | nil => intro x y hx h; simp only [rep, Option.some.injEq] at h; exact h ▸ hx
  | cons i s ih =>
    intro x y hx h
    simp only [rep] at h
    cases hst : repStep rows x i with
    | none => rw [hst] at h; cases h
    | some z =>
      rw [hst] at h
      refine ih ?_ h
      unfold repStep at hst
      split at hst
      · split at hst
        · cases hst
        · split at hst
          · simp only [Option.some.injEq] at hst
            subst hst
            rename_i r _ _
            have := hx.lv (bnd r x).1
            exact hx.set (by omega) (by omega)
          · cases hst
      · cases hst
theorem replay_ok {top : List Int} {rows : List Row} {s : List Int} (h : (replay top rows s).2 = true) : valid top rows = true ∧ s.length ≤ 16384 ∧ rep rows top s = some (replay top rows s).1 ∧ rok top.length (replay top rows s).1 := by
  unfold replay at h ⊢
  split at h
  · rename_i hv
    rw [if_pos hv]
    cases hr : rep rows top s with
    | none => rw [hr] at h; cases h
    | some x => exact ⟨hv.1, hv.2, rfl, rep_rok (rok_top (valid_iff.1 hv.1).2.2.2.1) hr⟩
  · cases h
def negRow (x : List Int) (r : Row) : Bool := decide (r.a ≤ 0) && decide (r.b ≤ 0) && !sat r x
def refutes (top : List Int) (rows : List Row) (s : List Int) : Bool := (replay top rows s).2 && (((replay top rows s).1.any fun v => decide (v < 0)) || rows.any (negRow (replay top rows s).1))
def proves (top : List Int) (rows : List Row) (x s : List Int) : Bool := feas top rows x && (replay top rows s).2 && decide (x = (replay top rows s).1)
theorem any_take {α : Type} {f : α → Bool} {xs : List α} {k : Nat} {x : α} (h : (xs.take k).any f = false) (hx : xs[k]? = some x) (hf : f x = false) : (xs.take (k + 1)).any f = false := by
  rw [List.take_add_one, hx]; simp [h, hf]
theorem any_yes {α : Type} {f : α → Bool} {xs : List α} {k : Nat} {x : α} (hx : xs[k]? = some x) (hf : f x = true) : xs.any f = true := by
  rw [List.any_eq_true]; exact ⟨x, List.mem_of_getElem? hx, hf⟩
theorem flatR2 (b : Bool) : FlatS (R2 b) := by
  intro t ht c hc
  simp at ht
  rcases ht with rfl | rfl <;> simp at hc <;> subst hc <;> trivial
theorem f32_ok (top : List Int) (rows : List Row) (s : List Int) (hr : rows.length ≤ 4611686018427387904) : FnOk Try.prog 32 [Li top, Lr rows, Li s] [] 0 (Bo (refutes top rows s)) [] 0 := by
  refine fnOk tab mix Try.func32 rfl rfl (by kernel_rfl) rfl rfl ?_
  (conv => whnf)
  refine call_i (f35_ok top rows s hr) ?_
  (conv => whnf)
  refine ask_m (fun h => ?_) (fun h => ?_)
  · (conv => whnf)
    refine ret0 ?_
    exact ret_b (by simp at h; simp [refutes, h]) rfl
  have hok : (replay top rows s).2 = true := by simpa using h
  obtain ⟨hv, hs, hrep, hx⟩ := replay_ok hok
  obtain ⟨v1, v2, v3, v4, v5⟩ := valid_iff.1 hv
  have hxl := hx.1
  (conv => whnf)
  refine call_i (f54_ok _ (by omega) (by omega)) ?_
  (conv => whnf)
  refine ⟨⟨trivial, trivial⟩, ?_⟩
  (conv => whnf)
  rw [mnTo_any (by omega)]
  refine ask_m (fun h => ?_) (fun h => ?_)
  · (conv => whnf)
    refine ret0 ?_
    exact ret_b (by simp [refutes, hok, h]) rfl
  (conv => whnf)
  refine loop_intro (fun k : Nat => ⟨[(1, Lr rows), (7, .one (.row 0)), (23, I rows.length), (24, I k)], RM (replay top rows s).1, 1⟩)
    (fun k => k ≤ rows.length ∧ (rows.take k).any (negRow (replay top rows s).1) = false) (fun k => rows.length - k) [] 0 [] ⟨Nat.zero_le _, rfl⟩ ⟨⟨rfl, rfl, eqI (by simp), rfl, trivial⟩, ⟨rfl, trivial⟩⟩ ?_
  rintro k ⟨hk, hany⟩
  have hkk : IntKind.i64.wrap ((k : Int) + 1) = ((k + 1 : Nat) : Int) := by rw [w64] <;> omega
  (conv => whnf)
  refine ask_m (fun h => ?_) (fun h => ?_)
  · have hlt : k < rows.length := by simpa using h
    obtain ⟨r, hrk⟩ : ∃ r, rows[k]? = some r := ⟨_, List.getElem?_eq_getElem hlt⟩
    have hri := (v5 r (List.mem_of_getElem? hrk)).1
    have hno : negRow (replay top rows s).1 r = false → (rows.take (k + 1)).any (negRow (replay top rows s).1) = false := any_take hany hrk
    (conv => whnf)
    refine idx_and (by omega) (by simpa using hrk) ?_
    (conv => whnf)
    refine ask_m (fun ha => ?_) (fun ha => ?_)
    · (conv => whnf)
      refine idx_and (by omega) (by simpa using hrk) ?_
      (conv => whnf)
      refine ask_m (fun hb => ?_) (fun hb => ?_)
      · (conv => whnf)
        refine idx_and (by omega) (by simpa using hrk) ?_
        (conv => whnf)
        refine call_i (f41_sat r _ (hxl ▸ hri) hx.mild (by omega)) ?_
        (conv => whnf)
        refine ⟨⟨trivial, trivial⟩, ?_⟩
        (conv => whnf)
        refine ask_m (fun hc => ?_) (fun hc => ?_)
        · (conv => whnf)
          refine ret0 ?_
          exact ret_b (by
            have : negRow (replay top rows s).1 r = true := by unfold negRow; rw [ha, hb, hc]; rfl
            simp [refutes, hok, any_yes hrk this]) rfl
        · (conv => whnf)
          exact ⟨k + 1, [], ⟨hlt, hno (by unfold negRow; rw [ha, hb, hc]; rfl)⟩, by omega, ⟨⟨rfl, rfl, rfl, eqI hkk, trivial⟩, ⟨rfl, trivial⟩⟩⟩
      · (conv => whnf)
        exact ⟨k + 1, [], ⟨hlt, hno (by unfold negRow; rw [ha, hb]; rfl)⟩, by omega, ⟨⟨rfl, rfl, rfl, eqI hkk, trivial⟩, ⟨rfl, trivial⟩⟩⟩
    · (conv => whnf)
      exact ⟨k + 1, [], ⟨hlt, hno (by unfold negRow; rw [ha]; rfl)⟩, by omega, ⟨⟨rfl, rfl, rfl, eqI hkk, trivial⟩, ⟨rfl, trivial⟩⟩⟩
  · have hk : k = rows.length := by simp at h; omega
    subst hk
    rw [List.take_length] at hany
    (conv => whnf)
    refine ret0 ?_
    rename_i h0
    exact ret_b (by rw [refutes, hok, h0, hany]; rfl) rfl
theorem f53_ok (top : List Int) (rows : List Row) (s : List Int) (hr : rows.length ≤ 4611686018427387904) : FnOk Try.prog 53 [Li top, Lr rows, Li s] [] 0 (Bo (refutes top rows s)) [] 0 := by
  refine fnOk tab mix Try.func53 rfl rfl (by kernel_rfl) rfl rfl ?_
  (conv => whnf)
  refine call_i (f51_ok top rows s hr) ?_
  (conv => whnf)
  refine ask_m (fun h => ?_) (fun h => ?_)
  · (conv => whnf)
    refine ret0 ?_
    exact ret_b (by simp at h; simp [refutes, h]) rfl
  have hok : (replay top rows s).2 = true := by simpa using h
  obtain ⟨hv, hs, hrep, hx⟩ := replay_ok hok
  obtain ⟨v1, v2, v3, v4, v5⟩ := valid_iff.1 hv
  have hxl := hx.1
  (conv => whnf)
  refine loop_intro (fun k : Nat => ⟨[(1, Lr rows), (7, .one (.row 0)), (9, I k)], RM (replay top rows s).1, 1⟩)
    (fun k => k ≤ (replay top rows s).1.length ∧ ((replay top rows s).1.take k).any (fun v => decide (v < 0)) = false) (fun k => (replay top rows s).1.length - k) [] 0 [] ⟨Nat.zero_le _, rfl⟩ ⟨⟨rfl, rfl, rfl, trivial⟩, ⟨rfl, trivial⟩⟩ ?_
  rintro k ⟨hk, hany⟩
  have hkk : IntKind.i64.wrap ((k : Int) + 1) = ((k + 1 : Nat) : Int) := by rw [w64] <;> omega
  (conv => whnf)
  refine ask_m (fun h => ?_) (fun h => ?_)
  · have hlt : k < (replay top rows s).1.length := by simpa using h
    obtain ⟨v, hv⟩ : ∃ r, (replay top rows s).1[k]? = some r := ⟨_, List.getElem?_eq_getElem hlt⟩
    (conv => whnf)
    refine ⟨⟨by omega, by simpa using hlt⟩, ?_⟩
    (conv => whnf)
    refine idx_map (by simpa using hv) ?_
    (conv => whnf)
    refine ask_m (fun ha => ?_) (fun ha => ?_)
    · (conv => whnf)
      refine ret0 ?_
      exact ret_b (by
        have := any_yes (f := fun v => decide (v < 0)) hv ha
        simp only [refutes, hok, this]; rfl) rfl
    · (conv => whnf)
      exact ⟨k + 1, [], ⟨hlt, any_take hany hv ha⟩, by omega, ⟨⟨rfl, rfl, eqI hkk, trivial⟩, ⟨rfl, trivial⟩⟩⟩
  have hk : k = (replay top rows s).1.length := by simp at h; omega
  subst hk
  rw [List.take_length] at hany
  have h0 := hany
  (conv => whnf)
  refine loop_intro (fun k : Nat => ⟨[(1, Lr rows), (7, .one (.row 0)), (10, I k)], RM (replay top rows s).1, 1⟩)
    (fun k => k ≤ rows.length ∧ (rows.take k).any (negRow (replay top rows s).1) = false) (fun k => rows.length - k) [] 0 [] ⟨Nat.zero_le _, rfl⟩ ⟨⟨rfl, rfl, rfl, trivial⟩, ⟨rfl, trivial⟩⟩ ?_
  rintro k ⟨hk, hany⟩
  (conv => whnf)
  refine ask_m (fun h => ?_) (fun h => ?_)
  · have hlt : k < rows.length := by simpa using h
    have hkk : IntKind.i64.wrap ((k : Int) + 1) = ((k + 1 : Nat) : Int) := by rw [w64] <;> omega
    obtain ⟨r, hrk⟩ : ∃ r, rows[k]? = some r := ⟨_, List.getElem?_eq_getElem hlt⟩
    have hri := (v5 r (List.mem_of_getElem? hrk)).1
    have hno : negRow (replay top rows s).1 r = false → (rows.take (k + 1)).any (negRow (replay top rows s).1) = false := any_take hany hrk
    (conv => whnf)
    refine idx_and (by omega) (by simpa using hrk) ?_
    (conv => whnf)
    refine ask_m (fun ha => ?_) (fun ha => ?_)
    · (conv => whnf)
      refine idx_and (by omega) (by simpa using hrk) ?_
      (conv => whnf)
      refine ask_m (fun hb => ?_) (fun hb => ?_)
      · (conv => whnf)
        refine idx_and (by omega) (by simpa using hrk) ?_
        (conv => whnf)
        refine call_i (f45_sat r _ (hxl ▸ hri) hx.mild (by omega)) ?_
        (conv => whnf)
        refine ⟨⟨trivial, trivial⟩, ?_⟩
        (conv => whnf)
        refine ask_m (fun hc => ?_) (fun hc => ?_)
        · (conv => whnf)
          refine ret0 ?_
          exact ret_b (by
            have : negRow (replay top rows s).1 r = true := by unfold negRow; rw [ha, hb, hc]; rfl
            simp [refutes, hok, any_yes hrk this]) rfl
        · (conv => whnf)
          exact ⟨k + 1, [], ⟨hlt, hno (by unfold negRow; rw [ha, hb, hc]; rfl)⟩, by omega, ⟨⟨rfl, rfl, eqI hkk, trivial⟩, ⟨rfl, trivial⟩⟩⟩
      · (conv => whnf)
        exact ⟨k + 1, [], ⟨hlt, hno (by unfold negRow; rw [ha, hb]; rfl)⟩, by omega, ⟨⟨rfl, rfl, eqI hkk, trivial⟩, ⟨rfl, trivial⟩⟩⟩
    · (conv => whnf)
      exact ⟨k + 1, [], ⟨hlt, hno (by unfold negRow; rw [ha]; rfl)⟩, by omega, ⟨⟨rfl, rfl, eqI hkk, trivial⟩, ⟨rfl, trivial⟩⟩⟩
  · have hk : k = rows.length := by simp at h; omega
    subst hk
    rw [List.take_length] at hany
    (conv => whnf)
    refine ret0 ?_
    exact ret_b (by rw [refutes, hok, h0, hany]; rfl) rfl
theorem f33_ok (top : List Int) (rows : List Row) (x s : List Int) (hr : rows.length ≤ 4611686018427387904) (hx : x.length ≤ 4611686018427387904) : FnOk Try.prog 33 [Li top, Lr rows, Li x, Li s] [] 0 (Bo (proves top rows x s)) [] 0 := by
  refine fnOk tab mix Try.func33 rfl rfl (by kernel_rfl) rfl rfl ?_
  (conv => whnf)
  refine call_i (f18_ok top rows x hr) ?_
  (conv => whnf)
  refine ask_m (fun h => ?_) (fun h => ?_)
  · (conv => whnf)
    refine ret0 ?_
    exact ret_b (by simp at h; simp [proves, h]) rfl
  have hf : feas top rows x = true := by simpa using h
  (conv => whnf)
  refine call_i (f35_ok top rows s hr) ?_
  (conv => whnf)
  refine ask_m (fun h => ?_) (fun h => ?_)
  · (conv => whnf)
    refine call_i (f55_ok x _ hx) ?_
    (conv => whnf)
    refine ⟨⟨trivial, trivial⟩, ?_⟩
    (conv => whnf)
    refine ret0 ?_
    exact ret_b (by simp [proves, hf, h]) rfl
  · (conv => whnf)
    refine ret0 ?_
    exact ret_b (by simp [proves, hf, h]) rfl
theorem f52_ok (top : List Int) (rows : List Row) (x s : List Int) (hr : rows.length ≤ 4611686018427387904) (hx : x.length ≤ 4611686018427387904) : FnOk Try.prog 52 [Li top, Lr rows, Li x, Li s] [] 0 (Bo (proves top rows x s)) [] 0 := by
  refine fnOk tab mix Try.func52 rfl rfl (by kernel_rfl) rfl rfl ?_
  (conv => whnf)
  refine call_i (f51_ok top rows s hr) ?_
  (conv => whnf)
  refine ask_m (fun h => ?_) (fun h => ?_)
  · (conv => whnf)
    refine call_i (f20_ok top rows x hr) ?_
    (conv => whnf)
    refine ask_m (fun hf => ?_) (fun hf => ?_)
    · (conv => whnf)
      refine call_i (f59_ok x _ hx) ?_
      (conv => whnf)
      refine ⟨⟨trivial, trivial⟩, ?_⟩
      (conv => whnf)
      refine ret0 ?_
      exact ret_b (by simp [proves, hf, h]) rfl
    · (conv => whnf)
      refine ret0 ?_
      exact ret_b (by simp [proves, hf]) rfl
  · (conv => whnf)
    refine ret0 ?_
    exact ret_b (by simp [proves, h]) rfl
end Go.Proofs.Ytejjkajknmhplaa
