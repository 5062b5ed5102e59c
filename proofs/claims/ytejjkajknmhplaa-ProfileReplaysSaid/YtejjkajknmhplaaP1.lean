import Derived.Test.YtejjkajknmhplaaX8
namespace Go.Proofs.Ytejjkajknmhplaa
open Eng
set_option maxRecDepth 10000

theorem lv_set {x : List Int} {a i m : Int} (h : a.toNat < x.length) : lv (x.set a.toNat m) i = if i.toNat = a.toNat then m else lv x i := by
  unfold lv
  rw [List.getD_eq_getElem?_getD, List.getD_eq_getElem?_getD, List.getElem?_set]
  by_cases e : a.toNat = i.toNat
  · rw [if_pos e, if_pos h, if_pos e.symm]; rfl
  · rw [if_neg e, if_neg (fun h => e h.symm)]
def below (y x : List Int) : Prop := y.length = x.length ∧ ∀ i : Int, lv y i ≤ lv x i
theorem mul_le_neg {b p q : Int} (hb : b ≤ 0) (h : p ≤ q) : b * q ≤ b * p := by
  have := Int.mul_le_mul_of_nonneg_left h (show 0 ≤ -b by omega)
  rw [Int.neg_mul, Int.neg_mul] at this
  omega
theorem mul_le_pos {b p q : Int} (hb : 0 ≤ b) (h : p ≤ q) : b * p ≤ b * q := Int.mul_le_mul_of_nonneg_left h hb
theorem bnd_mono {r : Row} {x y : List Int} (hy : sat r y = true) (hb : below y x) (ho : (bnd r x).2.2 = true) : lv y (bnd r x).1 ≤ (bnd r x).2.1 := by
  simp only [sat, decide_eq_true_eq] at hy
  unfold bnd at ho ⊢
  split
  · rename_i hc
    simp only
    rw [Int.le_ediv_iff_mul_le hc.1, Int.mul_comm]
    have := mul_le_neg hc.2 (hb.2 (r.cell + 1))
    omega
  · rename_i hc
    rw [if_neg hc] at ho
    split
    · rename_i hc2
      simp only
      rw [Int.le_ediv_iff_mul_le hc2.1, Int.mul_comm]
      have := mul_le_neg hc2.2 (hb.2 r.cell)
      omega
    · rename_i hc2; rw [if_neg hc2] at ho; cases ho
theorem hit_is {r : Row} {x : List Int} {a m : Int} (h : hit r x = some (a, m)) : sat r x = false ∧ (bnd r x).2.2 = true ∧ a = (bnd r x).1 ∧ m = (bnd r x).2.1 := by
  unfold hit at h
  split at h
  · cases h
  · rename_i hs
    split at h
    · rename_i hb
      simp only [Option.some.injEq, Prod.mk.injEq] at h
      exact ⟨by simpa using hs, hb, h.1.symm, h.2.symm⟩
    · cases h
theorem hit_mono {r : Row} {x y : List Int} {a m : Int} (hy : sat r y = true) (hb : below y x) (h : hit r x = some (a, m)) : lv y a ≤ m := by
  obtain ⟨_, ho, rfl, rfl⟩ := hit_is h
  exact bnd_mono hy hb ho
theorem below_set {x y : List Int} {a m : Int} (hb : below y x) (ha : a.toNat < x.length) (hm : lv y a ≤ m) : below y (x.set a.toNat m) := by
  refine ⟨by simp [hb.1], fun i => ?_⟩
  rw [lv_set ha]
  split
  · rename_i e
    have : lv y i = lv y a := by unfold lv; rw [e]
    omega
  · exact hb.2 i
theorem below_refl (x : List Int) : below x x := ⟨rfl, fun _ => Int.le_refl _⟩

/- feasible, said by levels -/
theorem low_iff {x top : List Int} (hl : x.length = top.length) : (x.zip top).all low = true ↔ ∀ i : Int, 0 ≤ lv x i ∧ lv x i ≤ lv top i := by
  rw [List.all_eq_true]
  constructor
  · intro h i
    by_cases hi : i.toNat < x.length
    · have := h _ (List.mem_of_getElem? (zip_at (lv_some hi) (lv_some (x := top) (by omega))))
      simpa [low] using this
    · simp [lv, List.getD_eq_getElem?_getD, List.getElem?_eq_none (show x.length ≤ i.toNat by omega), List.getElem?_eq_none (show top.length ≤ i.toNat by omega)]
  · intro h p hp
    obtain ⟨k, hk⟩ := List.getElem?_of_mem hp
    obtain ⟨h1, h2⟩ := List.getElem?_zip_eq_some.1 hk
    have := h k
    have e1 : lv x k = p.1 := by simp [lv, List.getD_eq_getElem?_getD, h1]
    have e2 : lv top k = p.2 := by simp [lv, List.getD_eq_getElem?_getD, h2]
    rw [e1, e2] at this
    simpa [low] using this
theorem feas_iff {top : List Int} {rows : List Row} {x : List Int} : feas top rows x = true ↔ valid top rows = true ∧ x.length = top.length ∧ (∀ i : Int, 0 ≤ lv x i ∧ lv x i ≤ lv top i) ∧ ∀ r ∈ rows, sat r x = true := by
  simp only [feas, Bool.and_eq_true, decide_eq_true_eq, and_assoc]
  constructor
  · rintro ⟨h1, h2, h3, h4⟩
    exact ⟨h1, h2, (low_iff h2).1 h3, List.all_eq_true.1 h4⟩
  · rintro ⟨h1, h2, h3, h4⟩
    exact ⟨h1, h2, (low_iff h2).2 h3, List.all_eq_true.2 h4⟩
theorem feas_below {top : List Int} {rows : List Row} {x : List Int} (h : feas top rows x = true) : below x top := by
  obtain ⟨_, h2, h3, _⟩ := feas_iff.1 h
  exact ⟨h2, fun i => (h3 i).2⟩

/- replaying -/
def repStep (rows : List Row) (x : List Int) (i : Int) : Option (List Int) :=
  if 0 ≤ i ∧ i < rows.length then match rows[i.toNat]? with
    | none => none
    | some r => if (bnd r x).2.2 then some (x.set (bnd r x).1.toNat (min (lv x (bnd r x).1) (max (bnd r x).2.1 (-1)))) else none
  else none
def rep (rows : List Row) : List Int → List Int → Option (List Int)
  | x, [] => some x
  | x, i :: s => match repStep rows x i with
    | none => none
    | some x' => rep rows x' s
def replay (top : List Int) (rows : List Row) (s : List Int) : List Int × Bool :=
  if valid top rows ∧ s.length ≤ 16384 then match rep rows top s with
    | some x => (x, true)
    | none => ([], false)
  else ([], false)
theorem rep_append {rows : List Row} {s t : List Int} {x : List Int} : rep rows x (s ++ t) = (rep rows x s).bind fun y => rep rows y t := by
  induction s generalizing x with
  | nil => rfl
  | cons i s ih =>
    simp only [List.cons_append, rep]
    cases repStep rows x i with
    | none => rfl
    | some y => exact ih

theorem bnd_in {r : Row} {x : List Int} (hr : rowIn r x.length) (ho : (bnd r x).2.2 = true) : 0 ≤ (bnd r x).1 ∧ (bnd r x).1 < x.length := by
  obtain ⟨h0, h1, _⟩ := hr
  unfold bnd at ho ⊢
  split
  · simp only; omega
  · rename_i hc; rw [if_neg hc] at ho
    split
    · simp only; omega
    · rename_i hc2; rw [if_neg hc2] at ho; cases ho

/-- what holds of levels and steps while Greatest runs -/
structure Run (top : List Int) (rows : List Row) (x s : List Int) : Prop where
  hok : xok top.length x
  hrep : rep rows top s = some x
  htop : below x top
  hall : ∀ y, feas top rows y = true → below y x
  hsum : (s.length : Int) + x.sum ≤ top.sum

theorem sum_set {x : List Int} {i : Nat} {m : Int} (h : i < x.length) : (x.set i m).sum = x.sum - x.getD i 0 + m := by
  induction x generalizing i with
  | nil => simp at h
  | cons a x ih => cases i with
    | zero => simp; omega
    | succ i => simp only [List.set_cons_succ, List.sum_cons, List.getD_cons_succ]; rw [ih (by simpa using h)]; omega
theorem sum_nonneg {x : List Int} (h : ∀ v ∈ x, 0 ≤ v) : 0 ≤ x.sum := by
  induction x with
  | nil => simp
  | cons a x ih =>
    have := ih fun v hv => h v (by simp [hv])
    have := h a (by simp)
    simp; omega
theorem repStep_hit {rows : List Row} {x : List Int} {k : Nat} {r : Row} {a m : Int} (hk : rows[k]? = some r) (hr : rowIn r x.length) (h : hit r x = some (a, m)) (hx : ∀ i : Int, 0 ≤ lv x i) :
    repStep rows x k = some (x.set a.toNat (max m (-1))) := by
  obtain ⟨_, ho, rfl, rfl⟩ := hit_is h
  obtain ⟨_, _, hlt⟩ := hit_some hr h
  have hkl := (List.getElem?_eq_some_iff.1 hk).1
  unfold repStep
  rw [if_pos (by omega)]
  simp only [Int.toNat_natCast, hk, ho, if_true]
  have := hx (bnd r x).1
  rw [show min (lv x (bnd r x).1) (max (bnd r x).2.1 (-1)) = max (bnd r x).2.1 (-1) by omega]
theorem Run.step {top : List Int} {rows : List Row} {x s : List Int} (h : Run top rows x s) {k : Nat} {r : Row} {a m : Int} (hk : rows[k]? = some r) (hr : rowIn r top.length) (hh : hit r x = some (a, m)) :
    (0 ≤ m → Run top rows (x.set a.toNat m) (s ++ [(k : Int)])) ∧ (m < 0 → (∃ x', rep rows top (s ++ [(k : Int)]) = some x' ∧ x'.length = top.length ∧ lv x' a < 0 ∧ 0 ≤ a ∧ a < x'.length) ∧ ∀ y, feas top rows y = false) := by
  have hl := h.hok.1
  have hr' : rowIn r x.length := hl ▸ hr
  obtain ⟨ha, hax, hlt⟩ := hit_some hr' hh
  have h0 : ∀ i : Int, 0 ≤ lv x i := fun i => (h.hok.lv i).1
  have hs := repStep_hit hk hr' hh h0
  have hat : a.toNat < x.length := by omega
  have hrep : rep rows top (s ++ [(k : Int)]) = some (x.set a.toNat (max m (-1))) := by
    rw [rep_append, h.hrep]; simp [rep, hs]
  have h4 := h.hok.lv a
  refine ⟨fun hm => ⟨h.hok.set hm (by omega), ?_, ?_, fun y hy => ?_, ?_⟩, fun hm => ⟨⟨_, hrep, by simp [hl], ?_, ha, by simpa using hax⟩, fun y => ?_⟩⟩
  · rw [hrep, show max m (-1) = m by omega]
  · refine ⟨by simp [hl], fun i => ?_⟩
    rw [lv_set hat]
    split
    · rename_i e
      have := h.htop.2 a
      have e2 : lv top i = lv top a := by unfold lv; rw [e]
      omega
    · exact h.htop.2 i
  · exact below_set (h.hall y hy) hat (hit_mono ((feas_iff.1 hy).2.2.2 r (List.mem_of_getElem? hk)) (h.hall y hy) hh)
  · have := h.hsum
    rw [sum_set hat]
    have e : x.getD a.toNat 0 = lv x a := rfl
    rw [e]
    simp only [List.length_append, List.length_cons, List.length_nil]
    omega
  · rw [lv_set hat, if_pos rfl]; omega
  · rcases hy : feas top rows y with _ | _
    · rfl
    · have h1 := hit_mono ((feas_iff.1 hy).2.2.2 r (List.mem_of_getElem? hk)) (h.hall y hy) hh
      have h2 := ((feas_iff.1 hy).2.2.1 a).1
      omega

/-- how a pass ends -/
def Ended (top : List Int) (rows : List Row) (suf : List Row) (x0 : List Int) (ch0 : Bool) : PR → Prop
  | .over => 16384 ≤ top.sum
  | .neg s => (∃ x' a, rep rows top s = some x' ∧ x'.length = top.length ∧ lv x' a < 0 ∧ 0 ≤ a ∧ a < x'.length) ∧ s.length ≤ 16384 ∧ ∀ y, feas top rows y = false
  | .go x s ch => Run top rows x s ∧ s.length ≤ 16384 ∧ (ch = false → ch0 = false ∧ x = x0 ∧ ∀ r ∈ suf, hit r x0 = none)
theorem pass_ended {top : List Int} {rows : List Row} (hv : ∀ r ∈ rows, rowIn r top.length) : ∀ (suf : List Row) (k : Nat) (x s : List Int) (ch : Bool), rows.drop k = suf → Run top rows x s → s.length ≤ 16384 → Ended top rows suf x ch (pass suf k x s ch) := by
  intro suf
  induction suf with
  | nil => intro k x s ch _ h hs; exact ⟨h, hs, fun e => ⟨e, rfl, fun r hr => by cases hr⟩⟩
  | cons r suf ih =>
    intro k x s ch hd h hs
    have hk : rows[k]? = some r := by
      have : (rows.drop k)[0]? = some r := by rw [hd]; rfl
      simpa using this
    have hd' : rows.drop (k + 1) = suf := by
      have := congrArg (List.drop 1) hd
      simpa using this
    have e1 : (k : Int) + 1 = ((k + 1 : Nat) : Int) := by omega
    unfold pass
    cases hh : hit r x with
    | none =>
      simp only
      have := ih (k + 1) x s ch hd' h hs
      rw [e1]
      revert this
      cases pass suf ((k + 1 : Nat) : Int) x s ch with
      | over => exact id
      | neg s' => exact id
      | go x' s' c' =>
        rintro ⟨h1, h2, h3⟩
        refine ⟨h1, h2, fun e => ?_⟩
        obtain ⟨g1, g2, g3⟩ := h3 e
        refine ⟨g1, g2, fun q hq => ?_⟩
        rcases List.mem_cons.1 hq with rfl | hq
        · exact hh
        · exact g3 q hq
    | some p =>
      obtain ⟨a, m⟩ := p
      simp only
      have hst := h.step hk (hv r (List.mem_of_getElem? hk)) hh
      split
      · have := h.hsum
        have := sum_nonneg (x := x) fun v hv => (h.hok.2 v hv).1
        simp only [Ended]; omega
      · rename_i hlen
        split
        · rename_i hm
          obtain ⟨⟨x', g1, g2⟩, g3⟩ := hst.2 hm
          exact ⟨⟨x', a, g1, g2⟩, by simp; omega, g3⟩
        · rename_i hm
          have := ih (k + 1) _ _ true hd' (hst.1 (by omega)) (by simp; omega)
          rw [e1]
          revert this
          cases pass suf ((k + 1 : Nat) : Int) (x.set a.toNat m) (s ++ [(k : Int)]) true with
          | over => exact id
          | neg s' => exact id
          | go x' s' c' =>
            rintro ⟨h1, h2, h3⟩
            exact ⟨h1, h2, fun e => by cases (h3 e).1⟩

/-- what Greatest answers -/
def Best (top : List Int) (rows : List Row) (g : List Int × List Int × Bool) : Prop :=
  g.2.1.length ≤ 16384 ∧ match g.2.2 with
  | true => Run top rows g.1 g.2.1 ∧ feas top rows g.1 = true
  | false => g.1 = [] ∧ ((∃ x', rep rows top g.2.1 = some x' ∧ x'.length = top.length ∧ ((∃ a : Int, lv x' a < 0 ∧ 0 ≤ a ∧ a < x'.length) ∨ (∀ i : Int, 0 ≤ lv x' i ∧ lv x' i ≤ 4096) ∧ ∃ r ∈ rows, r.a ≤ 0 ∧ r.b ≤ 0 ∧ sat r x' = false)) ∧ ∀ y, feas top rows y = false)
theorem neg_rows {r : Row} {x : List Int} (hp : ¬ (0 < r.a ∧ 0 < r.b)) (hh : hit r x = none) (hs : sat r x = false) : r.a ≤ 0 ∧ r.b ≤ 0 := by
  have : (bnd r x).2.2 = false := by
    unfold hit at hh
    rw [hs] at hh
    simp only [Bool.false_eq_true, if_false] at hh
    split at hh
    · cases hh
    · rename_i h; simpa using h
  unfold bnd at this
  split at this
  · cases this
  · split at this
    · cases this
    · omega
theorem sat_below {r : Row} {x y : List Int} (ha : r.a ≤ 0) (hb : r.b ≤ 0) (h : below y x) (hy : sat r y = true) : sat r x = true := by
  simp only [sat, decide_eq_true_eq] at hy ⊢
  have := mul_le_neg ha (h.2 r.cell)
  have := mul_le_neg hb (h.2 (r.cell + 1))
  omega
theorem great_best {top : List Int} {rows : List Row} (hv : valid top rows = true) (hsum : top.sum < 16384) : Best top rows (great top rows) := by
  obtain ⟨v1, v2, v3, v4, v5⟩ := valid_iff.1 hv
  unfold great
  rw [if_pos hv]
  have key : ∀ (n : Nat) (x s : List Int), Run top rows x s → s.length ≤ 16384 → 16386 ≤ n + s.length → Best top rows (outer rows n x s) := by
    intro n
    induction n with
    | zero => intro x s h hs hn; omega
    | succ n ih =>
      intro x s h hs hn
      have hp := pass_ended (fun r hr => (v5 r hr).1) rows 0 x s false rfl h hs
      have hmono : ∀ (suf : List Row) (i : Int) (x s : List Int) (ch : Bool) (x' s' : List Int), pass suf i x s ch = .go x' s' true → ch = true ∨ s.length < s'.length := by
        intro suf
        induction suf with
        | nil => intro i x s ch x' s' e; simp only [pass, PR.go.injEq] at e; exact .inl e.2.2
        | cons r suf ih2 =>
          intro i x s ch x' s' e
          unfold pass at e
          split at e
          · exact ih2 _ _ _ _ _ _ e
          · split at e
            · cases e
            · split at e
              · cases e
              · have hle : ∀ (suf : List Row) (i : Int) (x s : List Int) (ch : Bool) (x' s' : List Int) (c' : Bool), pass suf i x s ch = .go x' s' c' → s.length ≤ s'.length := by
                  intro suf
                  induction suf with
                  | nil => intro i x s ch x' s' c' e; simp only [pass, PR.go.injEq] at e; rw [e.2.1]; exact Nat.le_refl _
                  | cons r suf ih3 =>
                    intro i x s ch x' s' c' e
                    unfold pass at e
                    split at e
                    · exact ih3 _ _ _ _ _ _ _ e
                    · split at e
                      · cases e
                      · split at e
                        · cases e
                        · have := ih3 _ _ _ _ _ _ _ e
                          simp at this; omega
                have := hle _ _ _ _ _ _ _ _ e
                simp at this
                exact .inr (by omega)
      unfold outer
      revert hp
      cases hq : pass rows 0 x s false with
      | over => intro hp; simp only [Ended] at hp; omega
      | neg s' =>
        intro hp
        obtain ⟨⟨x', a, g1, g2, g3⟩, g4, g5⟩ := hp
        exact ⟨g4, rfl, ⟨x', g1, g2, .inl ⟨a, g3⟩⟩, g5⟩
      | go x' s' ch =>
        intro hp
        obtain ⟨g1, g2, g3⟩ := hp
        cases ch with
        | true =>
          simp only
          have := hmono _ _ _ _ _ _ _ hq
          have : s.length < s'.length := by rcases this with h | h
                                            · cases h
                                            · exact h
          exact ih x' s' g1 g2 (by omega)
        | false =>
          obtain ⟨_, rfl, g4⟩ := g3 rfl
          simp only
          unfold fin
          by_cases hs2 : rows.all (sat · x') = true
          · rw [if_pos hs2]
            exact ⟨g2, g1, feas_iff.2 ⟨hv, g1.hok.1, fun i => ⟨(g1.hok.lv i).1, g1.htop.2 i⟩, List.all_eq_true.1 hs2⟩⟩
          · rw [if_neg hs2]
            obtain ⟨r, hr, hrs⟩ : ∃ r ∈ rows, sat r x' = false := by
              have : rows.all (sat · x') = false := by simpa using hs2
              obtain ⟨r, hr, h⟩ := List.all_eq_false.1 this
              exact ⟨r, hr, by simpa using h⟩
            obtain ⟨ha, hb⟩ := neg_rows (v5 r hr).2 (g4 r hr) hrs
            refine ⟨g2, rfl, ⟨x', g1.hrep, g1.hok.1, .inr ⟨fun i => g1.hok.lv i, r, hr, ha, hb, hrs⟩⟩, fun y => ?_⟩
            rcases hy : feas top rows y with _ | _
            · rfl
            · have := sat_below ha hb (g1.hall y hy) ((feas_iff.1 hy).2.2.2 r hr)
              rw [this] at hrs; cases hrs
  exact key 16386 top [] ⟨⟨rfl, v4⟩, rfl, below_refl _, fun y hy => feas_below hy, by simp⟩ (by simp) (by simp)
end Go.Proofs.Ytejjkajknmhplaa
