/- The steps are sound: calls; all together. -/
import Derived.Test.YthdbdokhncaijaaGreatEngCY
namespace Eng
open Go Go.RowKit

variable {P : Program} {o : Oper} {l : List (Nat × SV)} {m : List (Nat × Box)} {n : Nat}

/-- a cell of a box that is handed over -/
def CBox (m : List (Nat × Box)) (ps : List Nat) (c' c : CV) : Prop :=
  (∃ d, c = .dv d ∧ c' = .dv d) ∨ (∃ sz, c = .nil sz ∧ c' = .nil sz) ∨ ((c = .bot ∧ c' = .bot) ∨ (c = .npt ∧ c' = .npt)) ∨
  (∃ b j, c = .row b ∧ c' = .row j ∧ ps[j]? = some b ∧ lkb m b ≠ .dead) ∨
  (∃ b off j, c = .vptr b off ∧ c' = .vptr j off ∧ ps[j]? = some b ∧ lkb m b ≠ .dead) ∨
  (∃ f caps caps', c = .fn f caps ∧ c' = .fn f caps' ∧ All2 (fun (p' p : Nat × Nat) => ps[p'.1]? = some p.1 ∧ p'.2 = p.2 ∧ lkb m p.1 ≠ .dead) caps' caps)
theorem CBox.mono {ps ps' : List Nat} {c' c : CV} (hp : ∀ (j : Nat) (b : Nat), ps[j]? = some b → ps'[j]? = some b) (h : CBox m ps c' c) : CBox m ps' c' c := by
  rcases h with h | h | h | ⟨b, j, h1, h2, h3, h4⟩ | ⟨b, off, j, h1, h2, h3, h4⟩ | ⟨f, caps, caps', h1, h2, h3⟩
  · exact .inl h
  · exact .inr (.inl h)
  · exact .inr (.inr (.inl h))
  · exact .inr (.inr (.inr (.inl ⟨b, j, h1, h2, hp j b h3, h4⟩)))
  · exact .inr (.inr (.inr (.inr (.inl ⟨b, off, j, h1, h2, hp j b h3, h4⟩))))
  · exact .inr (.inr (.inr (.inr (.inr ⟨f, caps, caps', h1, h2, h3.mono fun p' _ p h => ⟨hp _ _ h.1, h.2⟩⟩))))
/-- a cell as it is handed over -/
def CArg (m : List (Nat × Box)) (ps sh : List Nat) (c' c : CV) : Prop :=
  (∃ sz, c = .nil sz ∧ c' = .dv (.lst sz [])) ∨ (∃ b t sz rs, c = .row b ∧ b ∈ sh ∧ lkb m b = .rows t sz rs ∧ c' = .dv (.lst sz rs)) ∨ CBox m ps c' c
theorem CArg.mono {ps ps' sh sh' : List Nat} {c' c : CV} (hp : ∀ (j : Nat) (b : Nat), ps[j]? = some b → ps'[j]? = some b) (hs : ∀ b ∈ sh, b ∈ sh') (h : CArg m ps sh c' c) : CArg m ps' sh' c' c := by
  rcases h with h | ⟨b, t, sz, rs, h1, h2, h3, h4⟩ | h
  · exact .inl h
  · exact .inr (.inl ⟨b, t, sz, rs, h1, hs b h2, h3, h4⟩)
  · exact .inr (.inr (h.mono hp))
/-- what is handed over grows; no box twice -/
structure Handed (m : List (Nat × Box)) (ps sh ps' sh' : List Nat) : Prop where
  pre : ∀ (j : Nat) (b : Nat), ps[j]? = some b → ps'[j]? = some b
  sub : ∀ b ∈ sh, b ∈ sh'
  nd : ps.Nodup → ps'.Nodup
  rows : (∀ b ∈ sh, ∃ t sz rs, lkb m b = .rows t sz rs) → ∀ b ∈ sh', ∃ t sz rs, lkb m b = .rows t sz rs
  live : (∀ b ∈ ps, lkb m b ≠ .dead) → ∀ b ∈ ps', lkb m b ≠ .dead
theorem Handed.refl (m : List (Nat × Box)) (ps sh : List Nat) : Handed m ps sh ps sh := ⟨fun _ _ h => h, fun _ h => h, fun h => h, fun h => h, fun h => h⟩
theorem Handed.trans {m : List (Nat × Box)} {p s p' s' p'' s'' : List Nat} (h : Handed m p s p' s') (k : Handed m p' s' p'' s'') : Handed m p s p'' s'' :=
  ⟨fun j b hj => k.pre j b (h.pre j b hj), fun b hb => k.sub b (h.sub b hb), fun hn => k.nd (h.nd hn), fun hr => k.rows (h.rows hr), fun hl => k.live (h.live hl)⟩
theorem Handed.re {m : List (Nat × Box)} {p s p' s2 : List Nat} (h : Handed m p s p' s) : Handed m p s2 p' s2 := ⟨h.pre, fun _ h => h, h.nd, fun h => h, h.live⟩
theorem idxOf_some {b : Nat} : ∀ {ps : List Nat} {j i : Nat}, idxOf b ps j = some i → j ≤ i ∧ ps[i - j]? = some b := by
  intro ps
  induction ps with
  | nil => intro j i h; simp [idxOf] at h
  | cons p ps ih =>
    intro j i h
    simp only [idxOf] at h
    rcases hb : Nat.beq p b with _ | _
    · rw [hb] at h
      obtain ⟨h1, h2⟩ := ih h
      exact ⟨by omega, by rw [show i - j = (i - (j + 1)) + 1 by omega]; simpa using h2⟩
    · rw [hb] at h
      simp only [cond_true, Option.some.injEq] at h
      subst h
      exact ⟨Nat.le_refl _, by simp [Nat.eq_of_beq_eq_true hb]⟩
theorem idxOf_none {b : Nat} : ∀ {ps : List Nat} {j : Nat}, idxOf b ps j = none → b ∉ ps := by
  intro ps
  induction ps with
  | nil => intro j _ h; cases h
  | cons p ps ih =>
    intro j h hm
    simp only [idxOf] at h
    rcases hb : Nat.beq p b with _ | _
    · rw [hb] at h
      rcases List.mem_cons.1 hm with rfl | hm
      · simp at hb
      · exact ih h hm
    · rw [hb] at h; cases h
theorem handW_ok {b : Nat} {ps sh : List Nat} {k : Nat → List Nat → Prop} (h : handW m b ps k) : ∃ j ps', k j ps' ∧ ps'[j]? = some b ∧ lkb m b ≠ .dead ∧ Handed m ps sh ps' sh := by
  unfold handW at h
  split at h
  · exact h.elim
  · rename_i hl
    have hl : lkb m b ≠ .dead := hl
    split at h
    · rename_i j hj
      obtain ⟨_, h2⟩ := idxOf_some hj
      exact ⟨_, _, h, by simpa using h2, hl, .refl _ _ _⟩
    · rename_i hj
      refine ⟨_, _, h, by simp, hl, fun j b' hj' => ?_, fun _ h => h, fun hn => ?_, fun h => h, fun hp b' hb' => ?_⟩
      · rw [List.getElem?_append_left (List.getElem?_eq_some_iff.1 hj').1]; exact hj'
      · rw [List.nodup_append]
        exact ⟨hn, by simp, fun a ha b' hb' e => by simp at hb'; subst hb'; subst e; exact idxOf_none hj ha⟩
      · rcases List.mem_append.1 hb' with h | h
        · exact hp b' h
        · simp at h; subst h; exact hl
theorem capsW_ok {caps : List (Nat × Nat)} {ps sh : List Nat} {k : List (Nat × Nat) → List Nat → Prop} (h : capsW m caps ps k) : ∃ caps' ps', k caps' ps' ∧ All2 (fun (p' p : Nat × Nat) => ps'[p'.1]? = some p.1 ∧ p'.2 = p.2 ∧ lkb m p.1 ≠ .dead) caps' caps ∧ Handed m ps sh ps' sh := by
  induction caps generalizing ps k with
  | nil => exact ⟨_, _, h, trivial, .refl _ _ _⟩
  | cons p caps ih =>
    obtain ⟨b, off⟩ := p
    obtain ⟨j, p1, h1, h2, h3, h4⟩ := handW_ok (sh := sh) h
    obtain ⟨caps', p2, h5, h6, h7⟩ := ih h1
    exact ⟨_, _, h5, ⟨⟨h7.pre j b h2, rfl, h3⟩, h6⟩, h4.trans h7⟩
theorem cvW_ok {c : CV} {ps sh : List Nat} {k : CV → List Nat → List Nat → Prop} (h : cvW m c ps sh k) : ∃ c' ps' sh', k c' ps' sh' ∧ CArg m ps' sh' c' c ∧ Handed m ps sh ps' sh' := by
  unfold cvW at h
  split at h
  · exact ⟨_, _, _, h, .inr (.inr (.inl ⟨_, rfl, rfl⟩)), .refl _ _ _⟩
  · exact ⟨_, _, _, h, .inl ⟨_, rfl, rfl⟩, .refl _ _ _⟩
  · rename_i b
    split at h
    · rename_i t sz rs hb
      refine ⟨_, _, _, h, .inr (.inl ⟨b, t, sz, rs, rfl, by simp, hb, rfl⟩), fun _ _ h => h, fun _ h => by simp [h], fun h => h, fun hr b' hb' => ?_, fun h => h⟩
      rcases List.mem_cons.1 hb' with rfl | hb'
      · exact ⟨t, sz, rs, hb⟩
      · exact hr b' hb'
    · obtain ⟨j, p1, h1, h2, h3, h4⟩ := handW_ok (sh := sh) h
      exact ⟨_, _, _, h1, .inr (.inr (.inr (.inr (.inr (.inl ⟨b, j, rfl, rfl, h2, h3⟩))))), h4⟩
    · exact h.elim
  · rename_i b off
    obtain ⟨j, p1, h1, h2, h3, h4⟩ := handW_ok (sh := sh) h
    exact ⟨_, _, _, h1, .inr (.inr (.inr (.inr (.inr (.inr (.inl ⟨b, off, j, rfl, rfl, h2, h3⟩)))))), h4⟩
  · rename_i f caps
    obtain ⟨caps', p1, h1, h2, h3⟩ := capsW_ok (sh := sh) h
    exact ⟨_, _, _, h1, .inr (.inr (.inr (.inr (.inr (.inr (.inr ⟨f, caps, caps', rfl, rfl, h2⟩)))))), h3⟩
  · exact h.elim
theorem cvsW_ok {cs : List CV} {ps sh : List Nat} {k : List CV → List Nat → List Nat → Prop} (h : cvsW m cs ps sh k) : ∃ cs' ps' sh', k cs' ps' sh' ∧ All2 (CArg m ps' sh') cs' cs ∧ Handed m ps sh ps' sh' := by
  induction cs generalizing ps sh k with
  | nil => exact ⟨_, _, _, h, trivial, .refl _ _ _⟩
  | cons c cs ih =>
    obtain ⟨c', p1, s1, h1, h2, h3⟩ := cvW_ok h
    obtain ⟨cs', p2, s2, h4, h5, h6⟩ := ih h1
    exact ⟨_, _, _, h4, ⟨h2.mono h6.pre h6.sub, h5⟩, h3.trans h6⟩
def SArg (m : List (Nat × Box)) (ps sh : List Nat) (v' v : SV) : Prop :=
  (∃ c c', v = .one c ∧ v' = .one c' ∧ CArg m ps sh c' c) ∨ (∃ cs cs', v = .agg cs ∧ v' = .agg cs' ∧ All2 (CArg m ps sh) cs' cs)
theorem SArg.mono {ps ps' sh sh' : List Nat} {v' v : SV} (hp : ∀ (j : Nat) (b : Nat), ps[j]? = some b → ps'[j]? = some b) (hs : ∀ b ∈ sh, b ∈ sh') (h : SArg m ps sh v' v) : SArg m ps' sh' v' v := by
  rcases h with ⟨c, c', h1, h2, h3⟩ | ⟨cs, cs', h1, h2, h3⟩
  · exact .inl ⟨c, c', h1, h2, h3.mono hp hs⟩
  · exact .inr ⟨cs, cs', h1, h2, h3.mono fun _ _ _ h => h.mono hp hs⟩
theorem svW_ok {v : SV} {ps sh : List Nat} {k : SV → List Nat → List Nat → Prop} (h : svW m v ps sh k) : ∃ v' ps' sh', k v' ps' sh' ∧ SArg m ps' sh' v' v ∧ Handed m ps sh ps' sh' := by
  unfold svW at h
  split at h
  · obtain ⟨c', p1, s1, h1, h2, h3⟩ := cvW_ok h
    exact ⟨_, _, _, h1, .inl ⟨_, _, rfl, rfl, h2⟩, h3⟩
  · obtain ⟨c', p1, s1, h1, h2, h3⟩ := cvsW_ok h
    exact ⟨_, _, _, h1, .inr ⟨_, _, rfl, rfl, h2⟩, h3⟩
  · exact h.elim
theorem svsW_ok {vs : List SV} {ps sh : List Nat} {k : List SV → List Nat → List Nat → Prop} (h : svsW m vs ps sh k) : ∃ vs' ps' sh', k vs' ps' sh' ∧ All2 (SArg m ps' sh') vs' vs ∧ Handed m ps sh ps' sh' := by
  induction vs generalizing ps sh k with
  | nil => exact ⟨_, _, _, h, trivial, .refl _ _ _⟩
  | cons c cs ih =>
    obtain ⟨c', p1, s1, h1, h2, h3⟩ := svW_ok h
    obtain ⟨cs', p2, s2, h4, h5, h6⟩ := ih h1
    exact ⟨_, _, _, h4, ⟨h2.mono h6.pre h6.sub, h5⟩, h3.trans h6⟩
theorem bcW_ok {c : CV} {ps : List Nat} {k : CV → List Nat → Prop} (h : bcW m c ps k) : ∃ c' ps', k c' ps' ∧ CBox m ps' c' c ∧ Handed m ps [] ps' [] := by
  unfold bcW at h
  split at h
  · exact ⟨_, _, h, .inl ⟨_, rfl, rfl⟩, .refl _ _ _⟩
  · exact ⟨_, _, h, .inr (.inl ⟨_, rfl, rfl⟩), .refl _ _ _⟩
  · rename_i b
    obtain ⟨j, p1, h1, h2, h3, h4⟩ := handW_ok (sh := []) h
    exact ⟨_, _, h1, .inr (.inr (.inr (.inl ⟨b, j, rfl, rfl, h2, h3⟩))), h4⟩
  · rename_i b off
    obtain ⟨j, p1, h1, h2, h3, h4⟩ := handW_ok (sh := []) h
    exact ⟨_, _, h1, .inr (.inr (.inr (.inr (.inl ⟨b, off, j, rfl, rfl, h2, h3⟩)))), h4⟩
  · rename_i f caps
    obtain ⟨caps', p1, h1, h2, h3⟩ := capsW_ok (sh := []) h
    exact ⟨_, _, h1, .inr (.inr (.inr (.inr (.inr ⟨f, caps, caps', rfl, rfl, h2⟩)))), h3⟩
  · exact ⟨_, _, h, .inr (.inr (.inl (.inl ⟨rfl, rfl⟩))), .refl _ _ _⟩
  · exact ⟨_, _, h, .inr (.inr (.inl (.inr ⟨rfl, rfl⟩))), .refl _ _ _⟩
  · exact h.elim
theorem bcsW_ok {cs : List CV} {ps : List Nat} {k : List CV → List Nat → Prop} (h : bcsW m cs ps k) : ∃ cs' ps', k cs' ps' ∧ All2 (CBox m ps') cs' cs ∧ Handed m ps [] ps' [] := by
  induction cs generalizing ps k with
  | nil => exact ⟨_, _, h, trivial, .refl _ _ _⟩
  | cons c cs ih =>
    obtain ⟨c', p1, h1, h2, h3⟩ := bcW_ok h
    obtain ⟨cs', p2, h4, h5, h6⟩ := ih h1
    exact ⟨_, _, h4, ⟨h2.mono h6.pre, h5⟩, h3.trans h6⟩
/-- a box that is handed over -/
def BxArg (m : List (Nat × Box)) (ps : List Nat) (x' x : Box) : Prop :=
  (∃ t cs cs', x = .vars t cs ∧ x' = .vars t cs' ∧ All2 (CBox m ps) cs' cs) ∨ (∃ t sz rs, x = .rows t sz rs ∧ x' = .rows t sz rs) ∨ (∃ es, x = .mp es ∧ x' = .mp es)
/-- the boxes that are handed over -/
structure BArg (m : List (Nat × Box)) (ps : List Nat) (mA : List (Nat × Box)) (j : Nat) : Prop where
  at_ : ∀ (i b : Nat), j ≤ i → ps[i]? = some b → BxArg m ps (lkb mA i) (lkb m b)
  out : ∀ k, k < j ∨ ps.length ≤ k → lkb mA k = .dead
theorem bxsW_ok {fuel j : Nat} {ps : List Nat} {k : List Nat → List (Nat × Box) → Prop} (h : bxsW m fuel j ps k) : ∃ ps' mA, k ps' mA ∧ Handed m ps [] ps' [] ∧ BArg m ps' mA j := by
  induction fuel generalizing j ps k with
  | zero => exact h.elim
  | succ fuel ih =>
    simp only [bxsW] at h
    have step : ∀ {ps1 : List Nat} {b : Nat} {x' : Box} {k2 : List Nat → List (Nat × Box) → Prop}, Handed m ps [] ps1 [] → ps[j]? = some b → BxArg m ps1 x' (lkb m b) → bxsW m fuel (j + 1) ps1 (fun ps mA => k ps ((j, x') :: mA)) → ∃ ps' mA, k ps' mA ∧ Handed m ps [] ps' [] ∧ BArg m ps' mA j := by
      intro ps1 b x' _ hh hb hx h
      obtain ⟨ps', mA, h1, h2, h3⟩ := ih h
      have hb' : ps'[j]? = some b := h2.pre j b (hh.pre j b hb)
      refine ⟨ps', _, h1, hh.trans h2, fun i b2 hi hb2 => ?_, fun k hk => ?_⟩
      · rw [lkb_cons]
        split
        · rename_i e; subst e
          rw [hb'] at hb2; injection hb2 with hb2; subst hb2
          rcases hx with ⟨t, cs, cs', e1, e2, e3⟩ | h | h
          · exact .inl ⟨t, cs, cs', e1, e2, e3.mono fun _ _ _ h => h.mono h2.pre⟩
          · exact .inr (.inl h)
          · exact .inr (.inr h)
        · exact h3.at_ i b2 (by omega) hb2
      · have hj := (List.getElem?_eq_some_iff.1 hb').1
        rw [lkb_cons, if_neg (by omega)]
        exact h3.out k (by omega)
    split at h
    · rename_i hn
      refine ⟨_, _, h, .refl _ _ _, fun i b hi hb => ?_, fun _ _ => rfl⟩
      have := (List.getElem?_eq_some_iff.1 hb).1
      have := List.getElem?_eq_none_iff.1 hn
      omega
    · rename_i b hb
      split at h
      · rename_i t cs hbx
        obtain ⟨cs', p1, h1, h2, h3⟩ := bcsW_ok h
        exact step (k2 := k) h3 hb (.inl ⟨t, cs, cs', hbx, rfl, h2⟩) h1
      · rename_i t sz rs hbx
        exact step (k2 := k) (.refl _ _ _) hb (.inr (.inl ⟨t, sz, rs, hbx, rfl⟩)) h
      · rename_i es hbx
        exact step (k2 := k) (.refl _ _ _) hb (.inr (.inr ⟨es, hbx, rfl⟩)) h
      · exact h.elim

theorem lkb_renM {ρ : Nat → Nat} {mR : List (Nat × Box)} {nR : Nat} (hk : keysB nR mR = true) (hinj : ∀ i j, i < nR → j < nR → ρ i = ρ j → i = j) (j : Nat) (hj : j < nR) :
    lkb (renM ρ mR ++ m) (ρ j) = renB ρ (lkb mR j) ∨ (lkb mR j = .dead ∧ lkb (renM ρ mR ++ m) (ρ j) = lkb m (ρ j)) := by
  induction mR with
  | nil => exact .inr ⟨rfl, rfl⟩
  | cons p mR ih =>
    obtain ⟨k, x⟩ := p
    simp only [keysB, Bool.and_eq_true] at hk
    have hk1 := blt_iff.1 hk.1
    show lkb ((ρ k, renB ρ x) :: (renM ρ mR ++ m)) (ρ j) = _ ∨ (_ ∧ lkb ((ρ k, renB ρ x) :: (renM ρ mR ++ m)) (ρ j) = _)
    rw [lkb_cons, lkb_cons]
    by_cases hkj : k = j
    · subst hkj; simp
    · rw [if_neg (fun e => hkj (hinj k j hk1 hj e)), if_neg hkj]
      exact ih hk.2
theorem lkb_renM_out {ρ : Nat → Nat} {mR : List (Nat × Box)} {nR : Nat} (hk : keysB nR mR = true) {b : Nat} (hb : ∀ j, j < nR → ρ j ≠ b) : lkb (renM ρ mR ++ m) b = lkb m b := by
  induction mR with
  | nil => rfl
  | cons p mR ih =>
    obtain ⟨k, x⟩ := p
    simp only [keysB, Bool.and_eq_true] at hk
    show lkb ((ρ k, renB ρ x) :: (renM ρ mR ++ m)) b = _
    rw [lkb_cons, if_neg (hb k (blt_iff.1 hk.1))]
    exact ih hk.2
theorem kindsB_spec {mA mR : List (Nat × Box)} : ∀ {n : Nat}, kindsB mA mR n = true → ∀ j, j < n → ∀ sz, rowSz (lkb mR j) = some sz → rowSz (lkb mA j) = some sz := by
  intro n
  induction n with
  | zero => intro _ j hj; omega
  | succ n ih =>
    intro h j hj sz e
    simp only [kindsB, Bool.and_eq_true] at h
    by_cases hjn : j = n
    · subst hjn
      have h1 := h.1
      cases hR : lkb mR j with
      | rows t2 sz2 rs2 =>
        rw [hR] at h1 e
        cases hA : lkb mA j with
        | rows t' sz' rs' => rw [hA] at h1; have := Nat.eq_of_beq_eq_true h1; subst this; exact e
        | _ => rw [hA] at h1; cases h1
      | orow t2 sz2 rs2 last2 =>
        rw [hR] at h1
        cases hA : lkb mA j <;> rw [hA] at h1 <;> cases h1
      | _ => rw [hR] at e; cases e
    · exact ih h.2 j (by omega) sz e
theorem apartB_spec {ps sh : List Nat} (h : apartB ps sh = true) {b : Nat} (h1 : b ∈ sh) (h2 : b ∈ ps) : False := by
  have := List.all_eq_true.1 (List.all_eq_true.1 h b h1) b h2
  simp at this
theorem RefC_ren {A A' : Nat → Prop} {ρ : Nat → Nat} (h : ∀ b, A b → A' (ρ b)) {c : CV} (hc : RefC A c) : RefC A' (renC ρ c) := by
  cases c <;> simp only [RefC, renC] at hc ⊢ <;> first | trivial | exact h _ hc | skip
  intro p hp
  obtain ⟨q, hq, rfl⟩ := List.mem_map.1 hp
  exact h _ (hc q hq)
theorem RefCs_ren {A A' : Nat → Prop} {ρ : Nat → Nat} (h : ∀ b, A b → A' (ρ b)) {cs : List CV} (hc : RefCs A cs) : RefCs A' (cs.map (renC ρ)) := by
  intro c hcm
  obtain ⟨q, hq, rfl⟩ := List.mem_map.1 hcm
  exact RefC_ren h (hc q hq)
theorem RefS_ren {A A' : Nat → Prop} {ρ : Nat → Nat} (h : ∀ b, A b → A' (ρ b)) {c : SV} (hc : RefS A c) : RefS A' (renS ρ c) := by
  cases c <;> simp only [RefS, renS] at hc ⊢
  · exact RefC_ren h hc
  · exact RefCs_ren h hc
  · intro t ht
    obtain ⟨q, hq, rfl⟩ := List.mem_map.1 ht
    exact RefCs_ren h (hc q hq)
theorem RefB_ren {A A' : Nat → Prop} {ρ : Nat → Nat} (h : ∀ b, A b → A' (ρ b)) {c : Box} (hc : RefB A c) : RefB A' (renB ρ c) := by
  cases c <;> simp only [RefB, renB] at hc ⊢ <;> exact RefCs_ren h hc
theorem evTs_ok {w0 : World} {X : Nat → Prop} {Z : Zt} {nt : Nat} {A : Nat → Prop} {β : Nat → Value} {a : Act} {w : World} (hr : Rel w0 X Z nt A l m β a w) (T : List (Nat × TI)) : ∀ (ts : List Nat) (xs : List Operand), All2 (SRd w (Imm Z.p m β w) m β) (evTs T l ts xs) (xs.map a.eval) := by
  intro ts xs
  induction xs generalizing ts with
  | nil => cases ts <;> trivial
  | cons x xs ih => cases ts with
    | nil => exact ⟨(hr.ev x).1, ih []⟩
    | cons t ts => exact ⟨(hr.evT T t x).1, ih ts⟩

theorem All2.comp {α β γ : Type} {R : α → β → Prop} {S : β → γ → Prop} {U : α → γ → Prop} {l : List α} {r : List β} {s : List γ} (h : All2 R l r) (k : All2 S r s) (hu : ∀ a b c, R a b → S b c → U a c) : All2 U l s := by
  induction l generalizing r s with
  | nil => cases r with
    | nil => cases s with
      | nil => trivial
      | cons => exact k.elim
    | cons => exact h.elim
  | cons a l ih => cases r with
    | nil => exact h.elim
    | cons b r => cases s with
      | nil => exact k.elim
      | cons c s => exact ⟨hu a b c h.1 k.1, ih h.2 k.2⟩

theorem ok_callG {svs : List SV} {f : Nat} {K : KO}
    (hval : ∀ {w0 : World} {X : Nat → Prop} {Z : Zt} {nt : Nat} {A : Nat → Prop} {β : Nat → Value} {a : Act} {w : World}, Rel w0 X Z nt A l m β a w → ∃ us : List Value, All2 (SRd w (Imm Z.p m β w) m β) svs us ∧ (entered P f = true → (execOp a.eval o).run P w = .ok (.enter f us.toArray) w))
    (h : callW P f m n svs K) : ∃ v upd n' ft, n ≤ n' ∧ OpOk P o l m n v upd n' ∧ K v upd n' ft := by
  unfold callW at h
  obtain ⟨args, ps0, sh, h, harg, hhand⟩ := svsW_ok h
  obtain ⟨ps, mA, h, hhand2, hbx⟩ := bxsW_ok h
  split at h
  · exact h.elim
  rename_i hapart
  obtain ⟨sv, mR, nR, hfn, h⟩ := h
  split at h
  · exact h.elim
  rename_i hchk
  rw [Bool.and_eq_true, Bool.and_eq_true] at hchk
  obtain ⟨⟨hkd, hky⟩, hle⟩ := hchk
  have hle : ps.length ≤ nR := Nat.le_of_ble_eq_true hle
  have hflat : ∃ dd : List Nat, (∀ b ∈ dd, b ∈ sh) ∧ ((∀ b ∈ sh, b ∈ dd) ∨ (FlatS sv ∧ FlatM mR)) ∧ K (renS (ren ps n) sv) (renM (ren ps n) mR ++ (kills ps ++ kills dd)) (n + (nR - ps.length)) (ps ++ sh) := by
    have e0 : renM (ren ps n) mR ++ (kills ps ++ kills []) = renM (ren ps n) mR ++ kills ps := by simp [kills]
    split at h
    · exact ⟨[], fun b hb => (by cases hb), .inl fun b hb => hb, by rw [e0]; exact h⟩
    · split at h
      · exact ⟨sh, fun b hb => hb, .inl fun b hb => hb, h⟩
      · exact ⟨[], fun b hb => (by cases hb), .inr h.1, by rw [e0]; exact h.2⟩
  obtain ⟨dd, hdsh, hflat, hK⟩ := hflat
  refine ⟨_, _, _, _, Nat.le_add_right _ _, ?_, hK⟩
  clear h hK
  intro w0 X Z nt A β a w hr hfr K' Q hK'
  have harg : All2 (SArg m ps sh) args svs := harg.mono fun _ _ _ h => h.mono hhand2.pre fun _ h => h
  have hnd : ps.Nodup := hhand2.nd (hhand.nd List.nodup_nil)
  have hshr : ∀ b ∈ sh, ∃ t sz rs, lkb m b = .rows t sz rs := hhand.rows (fun b hb => by cases hb)
  have hplive : ∀ b ∈ ps, lkb m b ≠ .dead := hhand2.live (hhand.live (fun b hb => by cases hb))
  have hpv : ∀ (j b : Nat), ps[j]? = some b → lkb m b ≠ .dead := fun j b hj => hplive b (List.mem_of_getElem? hj)
  have hpA : ∀ (j b : Nat), ps[j]? = some b → A b := fun j b hj => (hr.refb b).2 (hpv j b hj)
  -- the callee's view
  let βc : Nat → Value := fun j => match ps[j]? with | some b => β b | none => .nilIface
  let Zc : Nat → Prop := fun g => (Imm Z.p m β w g ∨ (∃ b ∈ sh, blk (β b) = some g) ∨ ∃ b ∈ ps, blk (β b) = some g) ∨ w.heap.size ≤ g
  have hZp : ∀ g, Zc g → Z.p g := by
    rintro g ((h1 | ⟨b, hb, hg⟩ | ⟨b, hb, hg⟩) | h1)
    · exact h1.2.2
    · obtain ⟨t, sz, rs, hrow⟩ := hshr b hb
      exact hr.rown b g (by rw [hrow]; simp) hg
    · exact hr.rown b g (hplive b hb) hg
    · exact hr.new.ge g (Nat.le_trans hr.ext.size h1)
  have hβc : ∀ (j b : Nat), ps[j]? = some b → βc j = β b := fun j b hj => by show (match ps[j]? with | some b => β b | none => Value.nilIface) = _; rw [hj]
  have hmA : ∀ k, lkb mA k ≠ .dead → ∃ b, ps[k]? = some b := fun k hk => by
    rcases Nat.lt_or_ge k ps.length with hlt | hge
    · exact ⟨ps[k], List.getElem?_eq_getElem hlt⟩
    · exact absurd (hbx.out k (.inr (by omega))) hk
  have hImm : ∀ g, Imm Z.p m β w g → Imm Zc mA βc w g := fun g hg => ⟨hg.1, fun k hk hgk => by
    obtain ⟨b, hb⟩ := hmA k hk
    rw [hβc k b hb] at hgk
    exact hg.2.1 b (hpv k b hb) hgk, .inl (.inl hg)⟩
  have hImmS : ∀ b ∈ sh, ∀ g, blk (β b) = some g → Imm Zc mA βc w g := fun b hb g hg => by
    obtain ⟨t, sz, rs, hrow⟩ := hshr b hb
    have hlt := (hr.boxes b).lt (by rw [hrow]; simp) hg
    refine ⟨hlt, fun k hk hgk => ?_, .inl (.inr (.inl ⟨b, hb, hg⟩))⟩
    obtain ⟨b', hb'⟩ := hmA k hk
    rw [hβc k b' hb'] at hgk
    have := hr.inj b b' g (by rw [hrow]; simp) (hpv k b' hb') hg hgk
    subst this
    exact apartB_spec hapart hb (List.mem_of_getElem? hb')
  have hcbox : ∀ {c' c : CV} {u : Value}, CBox m ps c' c → CRd w (Imm Z.p m β w) m β c u → CRd w (Imm Zc mA βc w) mA βc c' u := by
    intro c' c u hca hu
    rcases hca with ⟨d, rfl, rfl⟩ | ⟨sz, rfl, rfl⟩ | (⟨rfl, rfl⟩ | ⟨rfl, rfl⟩) | ⟨b, j, rfl, rfl, hj, hv⟩ | ⟨b, off, j, rfl, rfl, hj, hv⟩ | ⟨f, caps, caps', rfl, rfl, h3⟩
    · exact DRd.mono hImm (fun _ _ => rfl) hu
    · exact hu
    · exact hu
    · exact hu
    · exact ⟨hu.1, fun _ => (hu.2 hv).trans (hβc j b hj).symm⟩
    · obtain ⟨g, e1, e2⟩ := hu.2 hv
      exact ⟨hu.1, fun _ => ⟨g, (hβc j b hj).trans e1, e2⟩⟩
    · obtain ⟨vs, e, hall⟩ := hu
      refine ⟨vs, e, h3.comp hall fun p' p u h1 h2 => ⟨h2.1, fun _ => ?_⟩⟩
      obtain ⟨g, e1, e2⟩ := h2.2 h1.2.2
      exact ⟨g, (hβc _ _ h1.1).trans e1, by rw [h1.2.1]; exact e2⟩
  have hcarg : ∀ {c' c : CV} {u : Value}, CArg m ps sh c' c → CRd w (Imm Z.p m β w) m β c u → CRd w (Imm Zc mA βc w) mA βc c' u := by
    intro c' c u hca hu
    rcases hca with ⟨sz, rfl, rfl⟩ | ⟨b, t, sz, rs, rfl, hb, hrow, rfl⟩ | h
    · simp only [CRd] at hu; subst hu; exact DRd.nilS _ _ _
    · have e := hu.2 (by rw [hrow]; simp)
      have hbx' := hr.boxes b
      rw [hrow] at hbx'
      rw [e]
      exact rows_read hbx' hImm (hImmS b hb)
    · exact hcbox h hu
  have hrefc : ∀ {c' c : CV}, CBox m ps c' c → RefC (· < ps.length) c' := by
    intro c' c h
    rcases h with ⟨d, rfl, rfl⟩ | ⟨sz, rfl, rfl⟩ | (⟨rfl, rfl⟩ | ⟨rfl, rfl⟩) | ⟨b, j, rfl, rfl, hj, hv⟩ | ⟨b, off, j, rfl, rfl, hj, hv⟩ | ⟨f, caps, caps', rfl, rfl, h3⟩
    · trivial
    · trivial
    · trivial
    · trivial
    · exact (List.getElem?_eq_some_iff.1 hj).1
    · exact (List.getElem?_eq_some_iff.1 hj).1
    · intro p hp
      obtain ⟨i, hi⟩ := List.getElem?_of_mem hp
      obtain ⟨q, _, hq⟩ := h3.get hi
      exact (List.getElem?_eq_some_iff.1 hq.1).1
  -- the arguments
  obtain ⟨us, hvals, hrun⟩ := hval hr
  have hrun := hrun hfn.1
  have hargs : All2 (SRd w (Imm Zc mA βc w) mA βc) args us := by
    refine harg.comp hvals fun v' v u h1 h2 => ?_
    rcases h1 with ⟨c, c', rfl, rfl, h1⟩ | ⟨cs, cs', rfl, rfl, h1⟩
    · exact hcarg h1 h2
    · obtain ⟨us, e, h2⟩ := h2
      exact ⟨us, e, h1.comp h2 fun _ _ _ h1 h2 => hcarg h1 h2⟩
  have hkn : Kn w (XOf mA βc) Zc := ⟨fun g hg => .inr hg, fun g ss hg => by
    obtain ⟨h1, h2⟩ := hr.globNow hg
    refine ⟨h1.1, ?_, .inl (.inl h1), h2⟩
    rintro ⟨k, hk, hgk⟩
    obtain ⟨b, hb⟩ := hmA k hk
    rw [hβc k b hb] at hgk
    exact h1.2.1 b (hpv k b hb) hgk⟩
  have hmem : MemRel w (XOf mA βc) Zc (· < ps.length) mA βc w := by
    refine ⟨fun k => ?_, fun k => ?_, fun k k' g hk hk' hg hg' => ?_, fun k g hk hg => .inr ⟨k, hk, hg⟩, ⟨rfl, rfl, rfl, Nat.le_refl _, fun _ _ _ => rfl⟩, hkn, fun k g hk hg => ?_⟩
    · rcases Nat.lt_or_ge k ps.length with hlt | hge
      · rcases hbx.at_ k _ (Nat.zero_le _) (List.getElem?_eq_getElem hlt) with ⟨t, cs, cs', _, h2, h3⟩ | ⟨t, sz, rs, _, h2⟩ | ⟨es, _, h2⟩
        · rw [h2]
          refine ⟨fun c hc => ?_, fun _ => hlt⟩
          obtain ⟨i, hi⟩ := List.getElem?_of_mem hc
          obtain ⟨q, _, hq⟩ := h3.get hi
          exact hrefc hq
        · rw [h2]; exact ⟨trivial, fun _ => hlt⟩
        · rw [h2]; exact ⟨trivial, fun _ => hlt⟩
      · rw [hbx.out k (.inr (by omega))]
        exact ⟨trivial, fun h => absurd rfl h⟩
    · rcases Nat.lt_or_ge k ps.length with hlt | hge
      · rw [hβc k _ (List.getElem?_eq_getElem hlt)]
        have hb := hr.boxes ps[k]
        rcases hbx.at_ k _ (Nat.zero_le _) (List.getElem?_eq_getElem hlt) with ⟨t, cs, cs', h1, h2, h3⟩ | ⟨t, sz, rs, h1, h2⟩ | ⟨es, h1, h2⟩
        · rw [h2]
          rw [h1] at hb
          obtain ⟨g, arr, e1, e2, e3⟩ := hb
          exact ⟨g, arr, e1, e2, h3.comp e3 fun _ _ _ h1 h2 => hcbox h1 h2⟩
        · rw [h2]
          rw [h1] at hb
          obtain ⟨xs, how, hl, ha⟩ := hb
          exact ⟨xs, how, hl, ha.mono fun d _ v hv => DRd.mono hImm (fun _ _ => rfl) hv⟩
        · rw [h2]
          rw [h1] at hb
          obtain ⟨g, arr, clock, e, hg, ha⟩ := hb
          exact ⟨g, arr, clock, e, hg, ha.mono fun e _ x hx => ⟨hx.1.mono hImm (fun _ _ => rfl), hx.2.mono hImm (fun _ _ => rfl)⟩⟩
      · rw [hbx.out k (.inr (by omega))]; trivial
    · obtain ⟨b, hb⟩ := hmA k hk
      obtain ⟨b', hb'⟩ := hmA k' hk'
      rw [hβc k b hb] at hg
      rw [hβc k' b' hb'] at hg'
      have := hr.inj b b' g (hpv k b hb) (hpv k' b' hb') hg hg'
      subst this
      have hk1 := (List.getElem?_eq_some_iff.1 hb)
      have hk2 := (List.getElem?_eq_some_iff.1 hb')
      obtain ⟨p1, q1⟩ := hk1
      obtain ⟨p2, q2⟩ := hk2
      exact (List.getElem_inj hnd).1 (q1.trans q2.symm)
    · obtain ⟨b, hb⟩ := hmA k hk
      rw [hβc k b hb] at hg
      exact .inl (.inr (.inr ⟨b, List.mem_of_getElem? hb, hg⟩))
  have hcalls := hfn.2 w Zc _ βc hargs hmem
  unfold Oper.wp
  rw [hrun]
  show Calls P f us.toArray w _
  refine hcalls.mono ?_
  rintro e w' ⟨v, β', rfl, hsv, hrsv, hm', hsame⟩
  -- names
  let ρ := ren ps n
  have hρ1 : ∀ (j b : Nat), ps[j]? = some b → ρ j = b := fun j b hj => by show ren ps n j = b; unfold ren; rw [hj]
  have hρ2 : ∀ j, ps.length ≤ j → ρ j = n + (j - ps.length) := fun j hj => by show ren ps n j = _; unfold ren; rw [List.getElem?_eq_none hj]
  have hinj : ∀ i j, i < nR → j < nR → ρ i = ρ j → i = j := by
    intro i j hi hj e
    rcases Nat.lt_or_ge i ps.length with hi' | hi' <;> rcases Nat.lt_or_ge j ps.length with hj' | hj'
    · rw [hρ1 i _ (List.getElem?_eq_getElem hi'), hρ1 j _ (List.getElem?_eq_getElem hj')] at e
      exact (List.getElem_inj hnd).1 e
    · rw [hρ1 i _ (List.getElem?_eq_getElem hi'), hρ2 j hj'] at e
      exact absurd (hpA i _ (List.getElem?_eq_getElem hi')) (hfr _ (by omega) (by omega))
    · rw [hρ2 i hi', hρ1 j _ (List.getElem?_eq_getElem hj')] at e
      exact absurd (hpA j _ (List.getElem?_eq_getElem hj')) (hfr _ (by omega) (by omega))
    · rw [hρ2 i hi', hρ2 j hj'] at e; omega
  have hps : ∀ b, b ∈ ps → ∃ j, j < nR ∧ ρ j = b := fun b hb => by
    obtain ⟨j, hj⟩ := List.getElem?_of_mem hb
    exact ⟨j, Nat.lt_of_lt_of_le (List.getElem?_eq_some_iff.1 hj).1 hle, hρ1 j b hj⟩
  let β2 : Nat → Value := fun b => if n ≤ b ∧ b < n + (nR - ps.length) then β' (b - n + ps.length) else β b
  have hβ2new : ∀ j, ps.length ≤ j → j < nR → β2 (ρ j) = β' j := fun j h1 h2 => by
    show (if _ then _ else _) = _
    rw [hρ2 j h1, if_pos (by omega)]
    congr 1; omega
  have hβ2old : ∀ b, A b → β2 b = β b := fun b hb => by
    show (if _ then _ else _) = _
    rw [if_neg]
    intro h; exact hfr b h.1 h.2 hb
  have happ : (renM ρ mR ++ (kills ps ++ kills dd)) ++ m = renM ρ mR ++ (kills ps ++ (kills dd ++ m)) := by rw [List.append_assoc, List.append_assoc]
  have hm2 : ∀ j, j < nR → lkb ((renM ρ mR ++ (kills ps ++ kills dd)) ++ m) (ρ j) = renB ρ (lkb mR j) := fun j hj => by
    rw [happ]
    rcases lkb_renM (m := kills ps ++ (kills dd ++ m)) hky hinj j hj with h | ⟨h1, h2⟩
    · exact h
    · rw [h2, h1]
      rcases Nat.lt_or_ge j ps.length with hj' | hj'
      · rw [hρ1 j _ (List.getElem?_eq_getElem hj'), lkb_kills_in (List.getElem_mem hj')]; rfl
      · rw [hρ2 j hj']
        by_cases hin : n + (j - ps.length) ∈ ps
        · rw [lkb_kills_in hin]; rfl
        · rw [lkb_kills_out hin]
          by_cases hin2 : n + (j - ps.length) ∈ dd
          · rw [lkb_kills_in hin2]; rfl
          rw [lkb_kills_out hin2]
          cases hd : lkb m (n + (j - ps.length)) with
          | dead => rfl
          | _ => exact absurd ((hr.refb _).2 (by rw [hd]; simp)) (hfr _ (by omega) (by omega))
  have hmout : ∀ b, (¬ ∃ j, j < nR ∧ ρ j = b) → b ∉ dd → lkb ((renM ρ mR ++ (kills ps ++ kills dd)) ++ m) b = lkb m b := fun b hb hd => by
    rw [happ, lkb_renM_out hky (fun j hj e => hb ⟨j, hj, e⟩), lkb_kills_out (fun h => hb (hps b h)), lkb_kills_out hd]
  have hmdd : ∀ b, b ∈ dd → lkb ((renM ρ mR ++ (kills ps ++ kills dd)) ++ m) b = .dead := fun b hd => by
    have hnm : ¬ ∃ j, j < nR ∧ ρ j = b := by
      rintro ⟨j, hj, rfl⟩
      obtain ⟨t, sz, rs, hrow⟩ := hshr _ (hdsh _ hd)
      rcases Nat.lt_or_ge j ps.length with hj' | hj'
      · have := hdsh _ hd
        rw [hρ1 j _ (List.getElem?_eq_getElem hj')] at this
        exact apartB_spec hapart this (List.getElem_mem hj')
      · rw [hρ2 j hj'] at hrow
        exact absurd ((hr.refb _).2 (by rw [hrow]; simp)) (hfr _ (by omega) (by omega))
    rw [happ, lkb_renM_out hky (fun j hj e => hnm ⟨j, hj, e⟩), lkb_kills_out (fun h => hnm (hps b h)), lkb_kills_in hd]
  have L : Link (· < nR) ρ mR β' ((renM ρ mR ++ (kills ps ++ kills dd)) ++ m) β2 := ⟨hm2, fun j hj hl => by
    rcases Nat.lt_or_ge j ps.length with hj' | hj'
    · rw [hρ1 j _ (List.getElem?_eq_getElem hj'), hβ2old _ (hpA j _ (List.getElem?_eq_getElem hj')), hsame j hj' hl, hβc j _ (List.getElem?_eq_getElem hj')]
    · exact hβ2new j hj' hj⟩
  -- what the contract says is not shared with the caller's other boxes
  have hXb : ∀ g, XOf mA βc g → ∃ b ∈ ps, blk (β b) = some g := fun g ⟨k, hk, hg⟩ => by
    obtain ⟨b, hb⟩ := hmA k hk
    exact ⟨b, List.mem_of_getElem? hb, by rw [← hβc k b hb]; exact hg⟩
  have hW : Wider (Imm Zc mR β' w') (Imm Z.p ((renM ρ mR ++ (kills ps ++ kills dd)) ++ m) β2 w') (FlatS sv ∧ FlatM mR) := by
    rcases hflat with hs | hfl
    · left
      intro g hg
      refine ⟨hg.1, fun b hb hgb => ?_, hZp g hg.2.2⟩
      by_cases hnm : ∃ j, j < nR ∧ ρ j = b
      · obtain ⟨j, hj, rfl⟩ := hnm
        rw [hm2 j hj] at hb
        have hl := renB_dead.1 hb
        rw [L.val j hj hl] at hgb
        exact hg.2.1 j hl hgb
      · by_cases hd : b ∈ dd
        · exact absurd (hmdd b hd) hb
        rw [hmout b hnm hd] at hb
        rw [hβ2old b ((hr.refb b).2 hb)] at hgb
        rcases hg.2.2 with (h1 | ⟨b', hb', hg'⟩ | ⟨b', hb', hg'⟩) | h1
        · exact h1.2.1 b hb hgb
        · obtain ⟨t, sz, rs, hrow⟩ := hshr b' hb'
          have := hr.inj b b' g hb (by rw [hrow]; simp) hgb hg'
          subst this
          exact hd (hs b hb')
        · have := hr.inj b b' g hb (hplive b' hb') hgb hg'
          subst this
          exact hnm (hps b hb')
        · have := (hr.boxes b).lt hb hgb; omega
    · exact .inr hfl
  have hA' : ∀ j, j < nR → A (ρ j) ∨ (n ≤ ρ j ∧ ρ j < n + (nR - ps.length)) := fun j hj => by
    rcases Nat.lt_or_ge j ps.length with hj' | hj'
    · left; rw [hρ1 j _ (List.getElem?_eq_getElem hj')]; exact hpA j _ (List.getElem?_eq_getElem hj')
    · right; rw [hρ2 j hj']; omega
  refine hK' v β2 w' ?_ (L.s hrsv (hW.imp id fun h => h.1) hsv) (RefS_ren hA' hrsv)
  refine (hr.turn (C := fun b => (∃ j, j < nR ∧ ρ j = b) ∨ b ∈ dd) (fun b hb => .inl hb) ?_ ?_ ?_ ?_ ?_ ?_ ?_ hm'.ext.size hm'.ext.os hm'.ext.tape hm'.ext.output ?_).1
  · rintro b (⟨j, hj, rfl⟩ | hd)
    · rw [hm2 j hj]
      exact ⟨RefB_ren hA' (hm'.refb j).1, fun _ => hA' j hj⟩
    · rw [hmdd b hd]; exact ⟨trivial, fun h => absurd rfl h⟩
  · intro b hb
    rw [hmout b (fun h => hb (.inl h)) (fun h => hb (.inr h))]
    exact ⟨rfl, fun hl => hβ2old b ((hr.refb b).2 hl)⟩
  · rintro b hbC hAj hl
    rcases hbC with ⟨j, hj, rfl⟩ | hd
    case inr => exact absurd (hmdd b hd) hl
    rcases Nat.lt_or_ge j ps.length with hj' | hj'
    · have hpj := List.getElem?_eq_getElem hj'
      refine ⟨by rw [hρ1 j _ hpj]; exact hpv j _ hpj, hβ2old _ hAj, fun sz' e => ?_⟩
      rw [hm2 j hj, rowSz_ren] at e
      have e3 := kindsB_spec hkd j hj' _ e
      rw [hρ1 j _ hpj]
      rcases hbx.at_ j _ (Nat.zero_le _) hpj with ⟨t, cs, cs', _, h2, _⟩ | ⟨t, sz, rs, h1, h2⟩ | ⟨es, _, h2⟩
      · rw [h2] at e3; cases e3
      · rw [h2] at e3
        rw [h1]; exact e3
      · rw [h2] at e3; cases e3
    · rw [hρ2 j hj'] at hAj
      exact absurd hAj (hfr _ (by omega) (by omega))
  · intro g hg hC
    refine hm'.ext.block g hg fun hX => ?_
    obtain ⟨b, hb, hgb⟩ := hXb g hX
    exact hC b (.inl (hps b hb)) (hplive b hb) hgb
  · rintro b g hbC hl hg
    rcases hbC with ⟨j, hj, rfl⟩ | hd
    case inr => exact absurd (hmdd b hd) hl
    rw [hm2 j hj] at hl
    have hl := renB_dead.1 hl
    rw [L.val j hj hl] at hg
    rcases hm'.own j g hl hg with h1 | h1
    · exact .inl h1
    · obtain ⟨b, hb, hgb⟩ := hXb g h1
      exact .inr ⟨b, .inl (hps b hb), hplive b hb, hgb⟩
  · rintro b b' g hbC hbC' hl hl' hg hg'
    rcases hbC with ⟨j, hj, rfl⟩ | hd
    case inr => exact absurd (hmdd b hd) hl
    rcases hbC' with ⟨k, hk, rfl⟩ | hd
    case inr => exact absurd (hmdd b' hd) hl'
    rw [hm2 j hj] at hl
    rw [hm2 k hk] at hl'
    have hl := renB_dead.1 hl
    have hl' := renB_dead.1 hl'
    rw [L.val j hj hl] at hg
    rw [L.val k hk hl'] at hg'
    rw [hm'.inj j k g hl hl' hg hg']
  · rintro b g hbC hb hg
    rcases hbC with ⟨j, hj, rfl⟩ | hd
    case inr => rw [hmdd b hd] at hb; exact absurd rfl hb
    rw [hm2 j hj] at hb
    have hl : lkb mR j ≠ .dead := renB_dead.1 hb
    rw [L.val j hj hl] at hg
    exact hZp g (hm'.rown j g hl hg)
  · rintro _ b hbC
    rcases hbC with ⟨j, hj, rfl⟩ | hd
    case inr => rw [hmdd b hd]; trivial
    rw [hm2 j hj]
    by_cases hl : lkb mR j = .dead
    · rw [hl]; trivial
    · rw [L.val j hj hl]
      exact L.b (hm'.refb j).1 (hW.imp id fun h => h.2.lkb j) (hm'.boxes j)

theorem run_enter {c : Call} {fop : Operand} {g : Nat} {fst cap : Array Value} {a : Act} {w : World} (ho : o.op = .call c) (hc : c.callee = .value fop) (hfv : a.eval fop = .func (.func g) fst cap) (he : entered P g = true) :
    (execOp a.eval o).run P w = .ok (.enter g (fst ++ c.args.map a.eval ++ cap)) w := by
  unfold entered at he
  split at he
  · rename_i fn hfnn
    rw [Bool.and_eq_true] at he
    have h1 : (fn.name == "runtime.NumGoroutine") = false := by simpa [bne] using he.1
    have h2 : fn.body.isNone = false := by
      have := he.2
      cases hb : fn.body with
      | none => rw [hb] at this; cases this
      | some _ => rfl
    simp only [execOp, ho]
    simp only [resolve, hc, hfv, Deferred.ofValue, Sem.run_bind, Sem.run_pure, Result.andThen_ok, invoke, callFunc, run_program, hfnn, h1, h2]
    rfl
  · cases he
theorem ok_call {T : List (Nat × TI)} {c : Call} {fop : Operand} {f : Nat} {caps : List (Nat × Nat)} {K : KO} (ho : o.op = .call c) (hc : c.callee = .value fop) (hf : ev l fop = .one (.fn f caps)) (hb : Nat.blt f 1000000 = true)
    (h : callW P f m n (evTs T l c.argTypes.toList c.args.toList ++ caps.map fun p => .one (.vptr p.1 p.2)) K) : ∃ v upd n' ft, n ≤ n' ∧ OpOk P o l m n v upd n' ∧ K v upd n' ft := by
  refine ok_callG (fun {w0 X Z nt A β a w} hr => ?_) h
  have hcap := (hr.ev fop).1
  rw [hf] at hcap
  obtain ⟨cvs, hfv, hcv⟩ := hcap
  refine ⟨c.args.toList.map a.eval ++ cvs.toList, (evTs_ok hr T _ _).append (All2.map_left hcv), fun he => ?_⟩
  rw [run_enter ho hc (fst := #[]) (cap := cvs) (by rw [hfv]; unfold fnV; rw [hb]) he]
  simp
theorem ok_callM {T : List (Nat × TI)} {c : Call} {fop : Operand} {f : Nat} {caps : List (Nat × Nat)} {K : KO} (ho : o.op = .call c) (hc : c.callee = .value fop) (hf : ev l fop = .one (.fn f caps)) (hb : Nat.blt f 1000000 = false)
    (h : callW P (Nat.sub f 1000000) m n ((caps.map fun p => .one (.vptr p.1 p.2)) ++ evTs T l c.argTypes.toList c.args.toList) K) : ∃ v upd n' ft, n ≤ n' ∧ OpOk P o l m n v upd n' ∧ K v upd n' ft := by
  refine ok_callG (fun {w0 X Z nt A β a w} hr => ?_) h
  have hcap := (hr.ev fop).1
  rw [hf] at hcap
  obtain ⟨cvs, hfv, hcv⟩ := hcap
  refine ⟨cvs.toList ++ c.args.toList.map a.eval, (All2.map_left hcv).append (evTs_ok hr T _ _), fun he => ?_⟩
  rw [run_enter ho hc (g := Nat.sub f 1000000) (fst := cvs) (cap := #[]) (by rw [hfv]; unfold fnV; rw [hb]; rfl) he]
  simp
theorem opW_ok {T : List (Nat × TI)} (hT : TabOk P T) {K : KO} (h : opW T P o l m n K) : ∃ v upd n' ft, n ≤ n' ∧ OpOk P o l m n v upd n' ∧ K v upd n' ft := by
  unfold opW at h
  split at h
  · rename_i x ho; exact ⟨_, _, _, _, Nat.le_refl _, ok_move (.inl ho), h⟩
  · rename_i x ho; exact ⟨_, _, _, _, Nat.le_refl _, ok_move (.inr ho), h⟩
  · rename_i c x y ho
    split at h
    · rename_i b hc
      have hp := ok_pick (P := P) (m := m) (n := n) (T := T) (ty := o.type) ho hc
      have h' := ask_elim h
      cases b
      · exact ⟨_, _, _, _, Nat.le_refl _, hp, h'⟩
      · exact ⟨_, _, _, _, Nat.le_refl _, hp, h'⟩
    · exact h.elim
  · rename_i op t x y t' ho
    split at h
    · rename_i dx hx
      split at h
      · rename_i dy hy
        obtain ⟨d, h1, h2⟩ := ok_bin (m := m) (n := n) hT ho hx hy h
        exact ⟨_, _, _, _, Nat.le_refl _, h2, h1⟩
      · rename_i s hy
        split at h
        · split at h
          · rename_i ti hti
            split at h
            · rename_i e hk
              split at h
              · exact ⟨_, _, _, _, Nat.le_refl _, ok_nilcmp (hT t ti hti) hk ho hx hy, h⟩
              · exact h.elim
            · exact h.elim
          · exact h.elim
        · exact h.elim
      · exact h.elim
    · rename_i cs hx
      split at h
      · rename_i ds hy
        split at h
        · exact h.elim
        · rename_i hta
          split at h
          · obtain ⟨b, h1, h2⟩ := ok_eqAgg (m := m) (n := n) hT (.inl ⟨rfl, rfl⟩) ho hx hy hta h.1 h.2
            exact ⟨_, _, _, _, Nat.le_refl _, h2, h1⟩
          · obtain ⟨b, h1, h2⟩ := ok_eqAgg (m := m) (n := n) hT (.inr ⟨rfl, rfl⟩) ho hx hy hta h.1 h.2
            exact ⟨_, _, _, _, Nat.le_refl _, h2, h1⟩
          · exact h.elim
      · exact h.elim
    · exact h.elim
  · rename_i op t x ho
    split at h
    · rename_i b hx
      split at h
      · exact ⟨_, _, _, _, Nat.le_refl _, ok_not ho hx, h⟩
      · exact h.elim
    · rename_i k b hx
      split at h
      · exact ⟨_, _, _, _, Nat.le_refl _, ok_neg ho hx, h⟩
      · exact h.elim
    · exact h.elim
  · rename_i t x ho
    split at h
    · rename_i ti hti
      obtain ⟨v, ft, h1, h2⟩ := ok_load (n := n) (hT t ti hti) ho h
      exact ⟨_, _, _, _, Nat.le_refl _, h2, h1⟩
    · exact h.elim
  · rename_i t x y ho
    split at h
    · rename_i ti hti
      split at h
      · rename_i cs hcs
        obtain ⟨upd, ft, h1, h2⟩ := ok_store (n := n) (hT t ti hti) ho hcs h
        exact ⟨_, _, _, _, Nat.le_refl _, h2, h1⟩
      · exact h.elim
    · exact h.elim
  · rename_i t ho
    split at h
    · rename_i ti hti
      exact ⟨_, _, _, _, Nat.le_succ _, ok_alloc (hT t ti hti) ho, h⟩
    · exact h.elim
  · rename_i t x ho
    split at h
    · rename_i cs hcs
      exact ⟨_, _, _, _, Nat.le_succ _, ok_box ho hcs, h⟩
    · exact h.elim
  · rename_i t x i ho
    split at h
    · rename_i ti hti
      split at h
      · rename_i k j hj
        obtain ⟨v, ft, h1, h2⟩ := ok_index (n := n) hT (hT t ti hti) ho hj h
        exact ⟨_, _, _, _, Nat.le_refl _, h2, h1⟩
      · exact h.elim
    · exact h.elim
  · rename_i t x f ho
    split at h
    · rename_i ti hti
      obtain ⟨v, h1, h2⟩ := ok_field (n := n) hT (hT t ti hti) ho h
      exact ⟨_, _, _, _, Nat.le_refl _, h2, h1⟩
    · exact h.elim
  · rename_i t x i ho
    split at h
    · rename_i ti hti
      split at h
      · rename_i k j hj
        obtain ⟨v, h1, h2⟩ := ok_elem (m := m) (n := n) hT (hT t ti hti) ho hj h
        exact ⟨_, _, _, _, Nat.le_refl _, h2, h1⟩
      · exact h.elim
    · exact h.elim
  · rename_i t x lo hi mx ho
    split at h
    · exact h.elim
    · split at h
      · rename_i ti hti
        obtain ⟨lo', h, hlo⟩ := optI_ok (m := m) h
        obtain ⟨hi', h, hhi⟩ := optI_ok (m := m) h
        exact ok_slice hT (hT t ti hti) ho hlo hhi h
      · exact h.elim
  · rename_i t x ho
    split at h
    · rename_i ti hti
      split at h
      · rename_i hk
        split at h
        · rename_i s hx
          exact ⟨_, _, _, _, Nat.le_succ _, ok_range (hT t ti hti) hk ho hx, h⟩
        · exact h.elim
      · exact h.elim
    · exact h.elim
  · rename_i x str ho
    split at h
    · obtain ⟨v, upd, ft, h1, h2⟩ := ok_next (n := n) ho h
      exact ⟨_, _, _, _, Nat.le_refl _, h2, h1⟩
    · exact h.elim
  · rename_i fn first captured ho
    split at h
    · rename_i f
      split at h
      · exact h.elim
      · rename_i hbl
        split at h
        · rename_i hf
          split at h
          · rename_i caps hc
            exact ⟨_, _, _, _, Nat.le_refl _, ok_func hbl ho hf hc, h⟩
          · exact h.elim
        · rename_i x xs hf
          split at h
          · rename_i hcp
            split at h
            · rename_i caps hc
              exact ⟨_, _, _, _, Nat.le_refl _, ok_bound ho hcp (by rw [hf]; exact hc), h⟩
            · exact h.elim
          · exact h.elim
    · exact h.elim
  · rename_i t parts ho
    split at h
    · rename_i ti hti
      obtain ⟨v, h1, h2⟩ := ok_build (m := m) (n := n) hT (hT t ti hti) ho h
      exact ⟨_, _, _, _, Nat.le_refl _, h2, h1⟩
    · exact h.elim
  · rename_i t x f ho
    split at h
    · rename_i ti hti
      obtain ⟨v, h1, h2⟩ := ok_fieldV (m := m) (n := n) hT (hT t ti hti) ho h
      exact ⟨_, _, _, _, Nat.le_refl _, h2, h1⟩
    · exact h.elim
  · rename_i t len parts ho
    split at h
    · rename_i ti hti
      exact ok_buildSlice hT (hT t ti hti) ho h
    · exact h.elim
  · rename_i t x y ho
    split at h
    · rename_i ti hti
      split at h
      · rename_i k1 p hx
        split at h
        · rename_i k2 q hy
          exact ok_make hT (hT t ti hti) ho hx hy h
        · exact h.elim
      · exact h.elim
    · exact h.elim
  · rename_i ts td x ho
    split at h
    · rename_i tis hs
      split at h
      · rename_i tid hd
        obtain ⟨v, h1, h2⟩ := ok_conv (m := m) (n := n) (hT ts tis hs) (hT td tid hd) ho h
        exact ⟨_, _, _, _, Nat.le_refl _, h2, h1⟩
      · exact h.elim
    · exact h.elim
  · rename_i x i ho
    split at h
    · rename_i ts hx
      split at h
      · rename_i cs hi; exact ⟨_, _, _, _, Nat.le_refl _, ok_extract ho hx (.inl ⟨cs, hi, rfl⟩), h⟩
      · rename_i c hi; exact ⟨_, _, _, _, Nat.le_refl _, ok_extract ho hx (.inr ⟨c, hi, rfl⟩), h⟩
      · exact h.elim
    · exact h.elim
  · rename_i x ho
    split at h
    · rename_i b off hx
      split at h
      · rename_i tb cs hb
        have := ok_nilCheck (P := P) (n := n) ho (.inl ⟨b, off, tb, cs, hx, hb⟩)
        rw [hx] at this
        exact ⟨_, _, _, _, Nat.le_refl _, this, h⟩
      · exact h.elim
    · rename_i ds hx
      have := ok_nilCheck (P := P) (m := m) (n := n) ho (.inr (.inl ⟨ds, hx⟩))
      rw [hx] at this
      exact ⟨_, _, _, _, Nat.le_refl _, this, h⟩
    · rename_i b i off hx
      split at h
      · rename_i t sz rs hb
        have := ok_nilCheck (P := P) (m := m) (n := n) ho (.inr (.inr ⟨b, i, off, t, sz, rs, hx, hb⟩))
        rw [hx] at this
        exact ⟨_, _, _, _, Nat.le_refl _, this, h⟩
      · exact h.elim
    · exact h.elim
  · rename_i ho
    exact ok_lookup hT ho h
  · rename_i ho
    exact ok_insert hT (.inl ho) h
  · rename_i ho
    exact ok_insert hT (.inr ho) h
  · rename_i t x ho
    split at h
    · rename_i ti hti
      split at h
      · rename_i c e hk
        split at h
        · split at h
          · exact h.elim
          · split at h
            · rename_i sz rows hx
              split at h
              · exact ⟨_, _, _, _, Nat.le_refl _, ok_arrayAt (hT t ti hti) hk ho hx h.1, h.2⟩
              · exact h.elim
            · exact h.elim
        · exact h.elim
      · exact h.elim
    · exact h.elim
  · rename_i c ho
    split at h
    · rename_i hc
      split at h
      · rename_i x ha
        split at h
        · rename_i t ts ht
          split at h
          · rename_i ti hti
            obtain ⟨i, ft, h1, h2⟩ := ok_len (n := n) (hT t ti hti) ho hc ha ht h
            exact ⟨_, _, _, _, Nat.le_refl _, h2, h1⟩
          · exact h.elim
        · exact h.elim
      · exact h.elim
    · rename_i hc
      split at h
      · rename_i x y ha
        split at h
        · rename_i t t' ht
          split at h
          · exact h.elim
          · rename_i htt
            have e := Nat.eq_of_beq_eq_true htt
            subst e
            split at h
            · rename_i ti hti
              exact ok_append hT (hT t ti hti) ho hc ha ht h
            · exact h.elim
        · exact h.elim
      · exact h.elim
    · rename_i hc
      split at h
      · rename_i x y ha
        split at h
        · rename_i t t' ht
          split at h
          · rename_i ti hti
            exact ok_copy hT (hT t ti hti) ho hc ha ht h
          · exact h.elim
        · exact h.elim
      · exact h.elim
    · rename_i hc
      split at h
      · rename_i x y ha
        split at h
        · rename_i k p hx
          split at h
          · rename_i k' q hy
            exact ⟨_, _, _, _, Nat.le_refl _, ok_max ho hc ha hx hy, h⟩
          · exact h.elim
        · exact h.elim
      · rename_i x y z u ha
        obtain ⟨k, k2, k3, k4, p, q, r, s, hx, hy, hz, hu, h⟩ := int4_ok h
        exact ⟨_, _, _, _, Nat.le_refl _, ok_max4 ho hc ha hx hy hz hu, h⟩
      · exact h.elim
    · rename_i hc
      split at h
      · rename_i x y ha
        split at h
        · rename_i k p hx
          split at h
          · rename_i k' q hy
            exact ⟨_, _, _, _, Nat.le_refl _, ok_min ho hc ha hx hy, h⟩
          · exact h.elim
        · exact h.elim
      · rename_i x y z u ha
        obtain ⟨k, k2, k3, k4, p, q, r, s, hx, hy, hz, hu, h⟩ := int4_ok h
        exact ⟨_, _, _, _, Nat.le_refl _, ok_min4 ho hc ha hx hy hz hu, h⟩
      · exact h.elim
    · rename_i fop hc
      split at h
      · rename_i f caps hf
        split at h
        · rename_i hb
          exact ok_call ho hc hf hb h
        · rename_i hb
          exact ok_callM ho hc hf hb h
      · exact h.elim
    · exact h.elim
  · exact h.elim
end Eng
