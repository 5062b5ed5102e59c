/- The steps are sound: calls; all together. -/
import Derived.Test.YtejjkajknmhplaaEngC8
namespace Eng
open Go Go.RowKit

variable {P : Program} {o : Oper} {l : List (Nat × SV)} {m : List (Nat × Box)} {n : Nat}

/-- a cell as it is handed over -/
def CArg (m : List (Nat × Box)) (ps sh : List Nat) (c' c : CV) : Prop :=
  (∃ d, c = .dv d ∧ c' = .dv d) ∨ (∃ sz, c = .nil sz ∧ c' = .dv (.lst sz [])) ∨ (∃ b t sz rs, c = .row b ∧ b ∈ sh ∧ lkb m b = .rows t sz rs ∧ c' = .dv (.lst sz rs)) ∨
  (∃ b off j t cs, c = .vptr b off ∧ ps[j]? = some b ∧ lkb m b = .vars t cs ∧ c' = .vptr j off)
theorem CArg.mono {ps ps' sh sh' : List Nat} {c' c : CV} (hp : ∀ (j : Nat) (b : Nat), ps[j]? = some b → ps'[j]? = some b) (hs : ∀ b ∈ sh, b ∈ sh') (h : CArg m ps sh c' c) : CArg m ps' sh' c' c := by
  rcases h with h | h | ⟨b, t, sz, rs, h1, h2, h3, h4⟩ | ⟨b, off, j, t, cs, h1, h2, h3, h4⟩
  · exact .inl h
  · exact .inr (.inl h)
  · exact .inr (.inr (.inl ⟨b, t, sz, rs, h1, hs b h2, h3, h4⟩))
  · exact .inr (.inr (.inr ⟨b, off, j, t, cs, h1, hp j b h2, h3, h4⟩))
/-- what is handed over grows; no box twice; each a variable -/
structure Handed (m : List (Nat × Box)) (ps sh ps' sh' : List Nat) : Prop where
  pre : ∀ (j : Nat) (b : Nat), ps[j]? = some b → ps'[j]? = some b
  sub : ∀ b ∈ sh, b ∈ sh'
  nd : ps.Nodup → ps'.Nodup
  rows : (∀ b ∈ sh, ∃ t sz rs, lkb m b = .rows t sz rs) → ∀ b ∈ sh', ∃ t sz rs, lkb m b = .rows t sz rs
theorem Handed.refl (m : List (Nat × Box)) (ps sh : List Nat) : Handed m ps sh ps sh := ⟨fun _ _ h => h, fun _ h => h, fun h => h, fun h => h⟩
theorem Handed.trans {m : List (Nat × Box)} {p s p' s' p'' s'' : List Nat} (h : Handed m p s p' s') (k : Handed m p' s' p'' s'') : Handed m p s p'' s'' :=
  ⟨fun j b hj => k.pre j b (h.pre j b hj), fun b hb => k.sub b (h.sub b hb), fun hn => k.nd (h.nd hn), fun hr => k.rows (h.rows hr)⟩
theorem idxOf_some {b : Nat} : ∀ {ps : List Nat} {j i : Nat}, idxOf b ps j = some i → j ≤ i ∧ ps[i - j]? = some b := by
  intro ps
  induction ps with
  | nil => intro j i h; simp [idxOf] at h
  | cons p ps ih =>
    intro j i h
    simp only [idxOf] at h
    rcases hb : Nat.beq p b with _ | _
    · rw [hb] at h
      obtain ⟨h1, h2⟩ := ih h
      exact ⟨by omega, by rw [show i - j = (i - (j + 1)) + 1 by omega]; simpa using h2⟩
    · rw [hb] at h
      simp only [cond_true, Option.some.injEq] at h
      subst h
      exact ⟨Nat.le_refl _, by simp [Nat.eq_of_beq_eq_true hb]⟩
theorem idxOf_none {b : Nat} : ∀ {ps : List Nat} {j : Nat}, idxOf b ps j = none → b ∉ ps := by
  intro ps
  induction ps with
  | nil => intro j _ h; cases h
  | cons p ps ih =>
    intro j h hm
    simp only [idxOf] at h
    rcases hb : Nat.beq p b with _ | _
    · rw [hb] at h
      rcases List.mem_cons.1 hm with rfl | hm
      · simp at hb
      · exact ih h hm
    · rw [hb] at h; cases h
theorem cvW_ok {c : CV} {ps sh : List Nat} {k : CV → List Nat → List Nat → Prop} (h : cvW m c ps sh k) : ∃ c' ps' sh', k c' ps' sh' ∧ CArg m ps' sh' c' c ∧ Handed m ps sh ps' sh' := by
  unfold cvW at h
  split at h
  · exact ⟨_, _, _, h, .inl ⟨_, rfl, rfl⟩, .refl _ _ _⟩
  · exact ⟨_, _, _, h, .inr (.inl ⟨_, rfl, rfl⟩), .refl _ _ _⟩
  · rename_i b
    split at h
    · rename_i t sz rs hb
      refine ⟨_, _, _, h, .inr (.inr (.inl ⟨b, t, sz, rs, rfl, by simp, hb, rfl⟩)), fun _ _ h => h, fun _ h => by simp [h], fun h => h, fun hr b' hb' => ?_⟩
      rcases List.mem_cons.1 hb' with rfl | hb'
      · exact ⟨t, sz, rs, hb⟩
      · exact hr b' hb'
    · exact h.elim
  · rename_i b off
    split at h
    · rename_i t cs hb
      split at h
      · rename_i j hj
        obtain ⟨_, h2⟩ := idxOf_some hj
        exact ⟨_, _, _, h, .inr (.inr (.inr ⟨b, off, j, t, cs, rfl, by simpa using h2, hb, rfl⟩)), .refl _ _ _⟩
      · rename_i hj
        refine ⟨_, _, _, h, .inr (.inr (.inr ⟨b, off, ps.length, t, cs, rfl, by simp, hb, rfl⟩)), fun j b' hj' => ?_, fun _ h => h, fun hn => ?_, fun h => h⟩
        · rw [List.getElem?_append_left (List.getElem?_eq_some_iff.1 hj').1]; exact hj'
        · rw [List.nodup_append]
          exact ⟨hn, by simp, fun a ha b' hb' e => by simp at hb'; subst hb'; subst e; exact idxOf_none hj ha⟩
    · exact h.elim
  · exact h.elim
theorem cvsW_ok {cs : List CV} {ps sh : List Nat} {k : List CV → List Nat → List Nat → Prop} (h : cvsW m cs ps sh k) : ∃ cs' ps' sh', k cs' ps' sh' ∧ All2 (CArg m ps' sh') cs' cs ∧ Handed m ps sh ps' sh' := by
  induction cs generalizing ps sh k with
  | nil => exact ⟨_, _, _, h, trivial, .refl _ _ _⟩
  | cons c cs ih =>
    obtain ⟨c', p1, s1, h1, h2, h3⟩ := cvW_ok h
    obtain ⟨cs', p2, s2, h4, h5, h6⟩ := ih h1
    exact ⟨_, _, _, h4, ⟨h2.mono h6.pre h6.sub, h5⟩, h3.trans h6⟩
def SArg (m : List (Nat × Box)) (ps sh : List Nat) (v' v : SV) : Prop :=
  (∃ c c', v = .one c ∧ v' = .one c' ∧ CArg m ps sh c' c) ∨ (∃ cs cs', v = .agg cs ∧ v' = .agg cs' ∧ All2 (CArg m ps sh) cs' cs)
theorem SArg.mono {ps ps' sh sh' : List Nat} {v' v : SV} (hp : ∀ (j : Nat) (b : Nat), ps[j]? = some b → ps'[j]? = some b) (hs : ∀ b ∈ sh, b ∈ sh') (h : SArg m ps sh v' v) : SArg m ps' sh' v' v := by
  rcases h with ⟨c, c', h1, h2, h3⟩ | ⟨cs, cs', h1, h2, h3⟩
  · exact .inl ⟨c, c', h1, h2, h3.mono hp hs⟩
  · exact .inr ⟨cs, cs', h1, h2, h3.mono fun _ _ _ h => h.mono hp hs⟩
theorem svW_ok {v : SV} {ps sh : List Nat} {k : SV → List Nat → List Nat → Prop} (h : svW m v ps sh k) : ∃ v' ps' sh', k v' ps' sh' ∧ SArg m ps' sh' v' v ∧ Handed m ps sh ps' sh' := by
  unfold svW at h
  split at h
  · obtain ⟨c', p1, s1, h1, h2, h3⟩ := cvW_ok h
    exact ⟨_, _, _, h1, .inl ⟨_, _, rfl, rfl, h2⟩, h3⟩
  · obtain ⟨c', p1, s1, h1, h2, h3⟩ := cvsW_ok h
    exact ⟨_, _, _, h1, .inr ⟨_, _, rfl, rfl, h2⟩, h3⟩
  · exact h.elim
theorem svsW_ok {vs : List SV} {ps sh : List Nat} {k : List SV → List Nat → List Nat → Prop} (h : svsW m vs ps sh k) : ∃ vs' ps' sh', k vs' ps' sh' ∧ All2 (SArg m ps' sh') vs' vs ∧ Handed m ps sh ps' sh' := by
  induction vs generalizing ps sh k with
  | nil => exact ⟨_, _, _, h, trivial, .refl _ _ _⟩
  | cons c cs ih =>
    obtain ⟨c', p1, s1, h1, h2, h3⟩ := svW_ok h
    obtain ⟨cs', p2, s2, h4, h5, h6⟩ := ih h1
    exact ⟨_, _, _, h4, ⟨h2.mono h6.pre h6.sub, h5⟩, h3.trans h6⟩
/-- the boxes that are handed over -/
structure BArg (m : List (Nat × Box)) (ps : List Nat) (mA : List (Nat × Box)) (j : Nat) : Prop where
  at_ : ∀ (i b : Nat), ps[i]? = some b → ∃ t cs ds, lkb m b = .vars t cs ∧ lkb mA (j + i) = .vars t (ds.map .dv) ∧ ∀ (w : World) (N : Nat → Prop) (β : Nat → Value) (vs : List Value), All2 (CRd w N m β) cs vs → All2 (DRd w N) ds vs
  out : ∀ k, k < j ∨ j + ps.length ≤ k → lkb mA k = .dead
theorem bxsW_ok {ps : List Nat} {j : Nat} {k : List (Nat × Box) → Prop} (h : bxsW m ps j k) : ∃ mA, k mA ∧ BArg m ps mA j := by
  induction ps generalizing j k with
  | nil => exact ⟨[], h, ⟨fun i b hi => by simp at hi, fun _ _ => rfl⟩⟩
  | cons b ps ih =>
    simp only [bxsW] at h
    split at h
    · rename_i t cs hb
      obtain ⟨ds, h1, _, h3⟩ := toDp_ok (m := m) h
      obtain ⟨mA, h4, h5⟩ := ih h1
      refine ⟨_, h4, fun i b' hi => ?_, fun k hk => ?_⟩
      · cases i with
        | zero =>
          simp at hi; subst hi
          exact ⟨t, cs, ds, hb, by rw [lkb_cons, if_pos (by omega)], h3⟩
        | succ i =>
          obtain ⟨t', cs', ds', e1, e2, e3⟩ := h5.at_ i b' (by simpa using hi)
          exact ⟨t', cs', ds', e1, by rw [lkb_cons, if_neg (by omega), show j + (i + 1) = j + 1 + i by omega]; exact e2, e3⟩
      · simp only [List.length_cons] at hk
        rw [lkb_cons, if_neg (by omega)]
        exact h5.out k (by omega)
    · exact h.elim

theorem lkb_renM {ρ : Nat → Nat} {mR : List (Nat × Box)} {nR : Nat} (hk : keysB nR mR = true) (hinj : ∀ i j, i < nR → j < nR → ρ i = ρ j → i = j) (j : Nat) (hj : j < nR) :
    lkb (renM ρ mR ++ m) (ρ j) = renB ρ (lkb mR j) ∨ (lkb mR j = .dead ∧ lkb (renM ρ mR ++ m) (ρ j) = lkb m (ρ j)) := by
  induction mR with
  | nil => exact .inr ⟨rfl, rfl⟩
  | cons p mR ih =>
    obtain ⟨k, x⟩ := p
    simp only [keysB, Bool.and_eq_true] at hk
    have hk1 := blt_iff.1 hk.1
    show lkb ((ρ k, renB ρ x) :: (renM ρ mR ++ m)) (ρ j) = _ ∨ (_ ∧ lkb ((ρ k, renB ρ x) :: (renM ρ mR ++ m)) (ρ j) = _)
    rw [lkb_cons, lkb_cons]
    by_cases hkj : k = j
    · subst hkj; simp
    · rw [if_neg (fun e => hkj (hinj k j hk1 hj e)), if_neg hkj]
      exact ih hk.2
theorem lkb_renM_out {ρ : Nat → Nat} {mR : List (Nat × Box)} {nR : Nat} (hk : keysB nR mR = true) {b : Nat} (hb : ∀ j, j < nR → ρ j ≠ b) : lkb (renM ρ mR ++ m) b = lkb m b := by
  induction mR with
  | nil => rfl
  | cons p mR ih =>
    obtain ⟨k, x⟩ := p
    simp only [keysB, Bool.and_eq_true] at hk
    show lkb ((ρ k, renB ρ x) :: (renM ρ mR ++ m)) b = _
    rw [lkb_cons, if_neg (hb k (blt_iff.1 hk.1))]
    exact ih hk.2
theorem varsAll_spec {mR : List (Nat × Box)} : ∀ {n : Nat}, varsAll mR n = true → ∀ j, j < n → ∃ t cs, lkb mR j = .vars t cs := by
  intro n
  induction n with
  | zero => intro _ j hj; omega
  | succ n ih =>
    intro h j hj
    simp only [varsAll] at h
    split at h
    · rename_i t cs hv
      by_cases hjn : j = n
      · subst hjn; exact ⟨t, cs, hv⟩
      · exact ih h j (by omega)
    · cases h
theorem RefC_ren {A A' : Nat → Prop} {ρ : Nat → Nat} (h : ∀ b, A b → A' (ρ b)) {c : CV} (hc : RefC A c) : RefC A' (renC ρ c) := by
  cases c <;> simp only [RefC, renC] at hc ⊢ <;> first | trivial | exact h _ hc | skip
  intro p hp
  obtain ⟨q, hq, rfl⟩ := List.mem_map.1 hp
  exact h _ (hc q hq)
theorem RefCs_ren {A A' : Nat → Prop} {ρ : Nat → Nat} (h : ∀ b, A b → A' (ρ b)) {cs : List CV} (hc : RefCs A cs) : RefCs A' (cs.map (renC ρ)) := by
  intro c hcm
  obtain ⟨q, hq, rfl⟩ := List.mem_map.1 hcm
  exact RefC_ren h (hc q hq)
theorem RefS_ren {A A' : Nat → Prop} {ρ : Nat → Nat} (h : ∀ b, A b → A' (ρ b)) {c : SV} (hc : RefS A c) : RefS A' (renS ρ c) := by
  cases c <;> simp only [RefS, renS] at hc ⊢
  · exact RefC_ren h hc
  · exact RefCs_ren h hc
  · intro t ht
    obtain ⟨q, hq, rfl⟩ := List.mem_map.1 ht
    exact RefCs_ren h (hc q hq)
theorem RefB_ren {A A' : Nat → Prop} {ρ : Nat → Nat} (h : ∀ b, A b → A' (ρ b)) {c : Box} (hc : RefB A c) : RefB A' (renB ρ c) := by
  cases c <;> simp only [RefB, renB] at hc ⊢
  exact RefCs_ren h hc

theorem evTs_ok {w0 : World} {X : Nat → Prop} {Z : Zt} {nt : Nat} {A : Nat → Prop} {β : Nat → Value} {a : Act} {w : World} (hr : Rel w0 X Z nt A l m β a w) (T : List (Nat × TI)) : ∀ (ts : List Nat) (xs : List Operand), All2 (SRd w (Imm Z.p m β w) m β) (evTs T l ts xs) (xs.map a.eval) := by
  intro ts xs
  induction xs generalizing ts with
  | nil => cases ts <;> trivial
  | cons x xs ih => cases ts with
    | nil => exact ⟨(hr.ev x).1, ih []⟩
    | cons t ts => exact ⟨(hr.evT T t x).1, ih ts⟩

theorem All2.comp {α β γ : Type} {R : α → β → Prop} {S : β → γ → Prop} {U : α → γ → Prop} {l : List α} {r : List β} {s : List γ} (h : All2 R l r) (k : All2 S r s) (hu : ∀ a b c, R a b → S b c → U a c) : All2 U l s := by
  induction l generalizing r s with
  | nil => cases r with
    | nil => cases s with
      | nil => trivial
      | cons => exact k.elim
    | cons => exact h.elim
  | cons a l ih => cases r with
    | nil => exact h.elim
    | cons b r => cases s with
      | nil => exact k.elim
      | cons c s => exact ⟨hu a b c h.1 k.1, ih h.2 k.2⟩

theorem ok_call {T : List (Nat × TI)} {c : Call} {fop : Operand} {f : Nat} {caps : List (Nat × Nat)} {K : KO} (ho : o.op = .call c) (hc : c.callee = .value fop) (hf : ev l fop = .one (.fn f caps))
    (h : callW P f m n (evTs T l c.argTypes.toList c.args.toList ++ caps.map fun p => .one (.vptr p.1 p.2)) K) : ∃ v upd n' ft, n ≤ n' ∧ OpOk P o l m n v upd n' ∧ K v upd n' ft := by
  unfold callW at h
  obtain ⟨args, ps, sh, h, harg, hhand⟩ := svsW_ok h
  obtain ⟨mA, h, hbx⟩ := bxsW_ok h
  obtain ⟨sv, mR, nR, hfn, h⟩ := h
  split at h
  · exact h.elim
  rename_i hchk
  rw [Bool.and_eq_true] at hchk
  obtain ⟨hva, hky⟩ := hchk
  have hflat : (sh = [] ∨ (FlatS sv ∧ FlatM mR)) ∧ K (renS (ren ps n) sv) (renM (ren ps n) mR) (n + (nR - ps.length)) (ps ++ sh) := by
    split at h
    · exact ⟨.inl rfl, h⟩
    · exact ⟨.inr h.1, h.2⟩
  obtain ⟨hflat, hK⟩ := hflat
  refine ⟨_, _, _, _, Nat.le_add_right _ _, ?_, hK⟩
  clear h hK
  intro w0 X Z nt A β a w hr hfr K' Q hK'
  have hnd : ps.Nodup := hhand.nd List.nodup_nil
  have hshr : ∀ b ∈ sh, ∃ t sz rs, lkb m b = .rows t sz rs := hhand.rows (fun b hb => by cases hb)
  have hpv : ∀ (j b : Nat), ps[j]? = some b → ∃ t cs, lkb m b = .vars t cs := fun j b hj => by
    obtain ⟨t, cs, _, h1, _⟩ := hbx.at_ j b hj; exact ⟨t, cs, h1⟩
  have hpA : ∀ (j b : Nat), ps[j]? = some b → A b := fun j b hj => by
    obtain ⟨t, cs, h1⟩ := hpv j b hj
    exact (hr.refb b).2 (by rw [h1]; simp)
  -- the callee's view
  let βc : Nat → Value := fun j => match ps[j]? with | some b => β b | none => .nilIface
  let Zc : Nat → Prop := fun g => (Imm Z.p m β w g ∨ ∃ b ∈ sh, blk (β b) = some g) ∨ w.heap.size ≤ g
  have hβc : ∀ (j b : Nat), ps[j]? = some b → βc j = β b := fun j b hj => by show (match ps[j]? with | some b => β b | none => Value.nilIface) = _; rw [hj]
  have hmA : ∀ k, lkb mA k ≠ .dead → ∃ b, ps[k]? = some b := fun k hk => by
    rcases Nat.lt_or_ge k ps.length with hlt | hge
    · exact ⟨ps[k], List.getElem?_eq_getElem hlt⟩
    · exact absurd (hbx.out k (.inr (by omega))) hk
  have hImm : ∀ g, Imm Z.p m β w g → Imm Zc mA βc w g := fun g hg => ⟨hg.1, fun k hk hgk => by
    obtain ⟨b, hb⟩ := hmA k hk
    obtain ⟨t, cs, hv⟩ := hpv k b hb
    rw [hβc k b hb] at hgk
    exact hg.2.1 b (by rw [hv]; simp) hgk, .inl (.inl hg)⟩
  have hImmS : ∀ b ∈ sh, ∀ g, blk (β b) = some g → Imm Zc mA βc w g := fun b hb g hg => by
    obtain ⟨t, sz, rs, hrow⟩ := hshr b hb
    have hlt := (hr.boxes b).lt (by rw [hrow]; simp) hg
    refine ⟨hlt, fun k hk hgk => ?_, .inl (.inr ⟨b, hb, hg⟩)⟩
    obtain ⟨b', hb'⟩ := hmA k hk
    obtain ⟨t', cs', hv⟩ := hpv k b' hb'
    rw [hβc k b' hb'] at hgk
    have := hr.inj b b' g (by rw [hrow]; simp) (by rw [hv]; simp) hg hgk
    subst this
    rw [hrow] at hv; cases hv
  have hcarg : ∀ {c' c : CV} {u : Value}, CArg m ps sh c' c → CRd w (Imm Z.p m β w) m β c u → CRd w (Imm Zc mA βc w) mA βc c' u := by
    intro c' c u hca hu
    rcases hca with ⟨d, rfl, rfl⟩ | ⟨sz, rfl, rfl⟩ | ⟨b, t, sz, rs, rfl, hb, hrow, rfl⟩ | ⟨b, off, j, t, cs, rfl, hj, hv, rfl⟩
    · exact DRd.mono hImm (fun _ _ => rfl) hu
    · simp only [CRd] at hu; subst hu; exact DRd.nilS _ _ _
    · have e := hu.2 (by rw [hrow]; simp)
      have hbx' := hr.boxes b
      rw [hrow] at hbx'
      rw [e]
      exact rows_read hbx' hImm (hImmS b hb)
    · obtain ⟨g, e1, e2⟩ := hu.2 (by rw [hv]; simp)
      exact ⟨hu.1, fun _ => ⟨g, (hβc j b hj).trans e1, e2⟩⟩
  -- the arguments
  have hcap := (hr.ev fop).1
  rw [hf] at hcap
  obtain ⟨cvs, hfv, hcv⟩ := hcap
  have hfr' := (hr.ev fop).2
  rw [hf] at hfr'
  have hvals : All2 (SRd w (Imm Z.p m β w) m β) (evTs T l c.argTypes.toList c.args.toList ++ caps.map fun p => .one (.vptr p.1 p.2)) (c.args.toList.map a.eval ++ cvs.toList) := by
    refine (evTs_ok hr T _ _).append (All2.map_left hcv)
  have hargs : All2 (SRd w (Imm Zc mA βc w) mA βc) args (c.args.toList.map a.eval ++ cvs.toList) := by
    refine harg.comp hvals fun v' v u h1 h2 => ?_
    rcases h1 with ⟨c, c', rfl, rfl, h1⟩ | ⟨cs, cs', rfl, rfl, h1⟩
    · exact hcarg h1 h2
    · obtain ⟨us, e, h2⟩ := h2
      exact ⟨us, e, h1.comp h2 fun _ _ _ h1 h2 => hcarg h1 h2⟩
  have hmem : MemRel w (XOf mA βc) Zc (· < ps.length) mA βc w := by
    refine ⟨fun k => ?_, fun k => ?_, fun k k' g hk hk' hg hg' => ?_, fun k g hk hg => .inr ⟨k, hk, hg⟩, ⟨rfl, rfl, rfl, Nat.le_refl _, fun _ _ _ => rfl⟩, fun g hg => .inr hg, fun k t sz rs g hk _ => ?_⟩
    · rcases Nat.lt_or_ge k ps.length with hlt | hge
      · obtain ⟨t, cs, ds, _, h2, _⟩ := hbx.at_ k _ (List.getElem?_eq_getElem hlt)
        rw [Nat.zero_add] at h2
        rw [h2]
        exact ⟨fun c hc => by obtain ⟨d, _, rfl⟩ := List.mem_map.1 hc; trivial, fun _ => hlt⟩
      · rw [hbx.out k (.inr (by omega))]
        exact ⟨trivial, fun h => absurd rfl h⟩
    · rcases Nat.lt_or_ge k ps.length with hlt | hge
      · obtain ⟨t, cs, ds, h1, h2, h3⟩ := hbx.at_ k _ (List.getElem?_eq_getElem hlt)
        rw [Nat.zero_add] at h2
        rw [h2, hβc k _ (List.getElem?_eq_getElem hlt)]
        have hb := hr.boxes ps[k]
        rw [h1] at hb
        obtain ⟨g, arr, e1, e2, e3⟩ := hb
        exact ⟨g, arr, e1, e2, All2.map_left ((h3 _ _ _ _ e3).mono fun d _ v hv => DRd.mono hImm (fun _ _ => rfl) hv)⟩
      · rw [hbx.out k (.inr (by omega))]; trivial
    · obtain ⟨b, hb⟩ := hmA k hk
      obtain ⟨b', hb'⟩ := hmA k' hk'
      obtain ⟨t, cs, hv⟩ := hpv k b hb
      obtain ⟨t', cs', hv'⟩ := hpv k' b' hb'
      rw [hβc k b hb] at hg
      rw [hβc k' b' hb'] at hg'
      have := hr.inj b b' g (by rw [hv]; simp) (by rw [hv']; simp) hg hg'
      subst this
      have hk1 := (List.getElem?_eq_some_iff.1 hb)
      have hk2 := (List.getElem?_eq_some_iff.1 hb')
      obtain ⟨p1, q1⟩ := hk1
      obtain ⟨p2, q2⟩ := hk2
      exact (List.getElem_inj hnd).1 (q1.trans q2.symm)
    · obtain ⟨b, hb⟩ := hmA k (by rw [hk]; simp)
      obtain ⟨t', cs', ds', _, h2, _⟩ := hbx.at_ k b hb
      rw [Nat.zero_add] at h2
      rw [h2] at hk; cases hk
  have hcalls := hfn.2 w Zc _ βc hargs hmem
  have hrun : (execOp a.eval o).run P w = .ok (.enter f (c.args.map a.eval ++ cvs)) w := by
    have he := hfn.1
    unfold entered at he
    split at he
    · rename_i fn hfnn
      rw [Bool.and_eq_true] at he
      have h1 : (fn.name == "runtime.NumGoroutine") = false := by simpa [bne] using he.1
      have h2 : fn.body.isNone = false := by
        have := he.2
        cases hb : fn.body with
        | none => rw [hb] at this; cases this
        | some _ => rfl
      simp only [execOp, ho]
      simp only [resolve, hc, hfv, Deferred.ofValue, Sem.run_bind, Sem.run_pure, Result.andThen_ok, invoke, callFunc, run_program, hfnn, h1, h2, Array.empty_append]
      rfl
    · cases he
  unfold Oper.wp
  rw [hrun]
  show Calls P f (c.args.map a.eval ++ cvs) w _
  rw [show (c.args.toList.map a.eval ++ cvs.toList).toArray = c.args.map a.eval ++ cvs by simp] at hcalls
  refine hcalls.mono ?_
  rintro e w' ⟨v, β', rfl, hsv, hrsv, hm', hsame⟩
  -- names
  let ρ := ren ps n
  have hρ1 : ∀ (j b : Nat), ps[j]? = some b → ρ j = b := fun j b hj => by show ren ps n j = b; unfold ren; rw [hj]
  have hρ2 : ∀ j, ps.length ≤ j → ρ j = n + (j - ps.length) := fun j hj => by show ren ps n j = _; unfold ren; rw [List.getElem?_eq_none hj]
  have hinj : ∀ i j, i < nR → j < nR → ρ i = ρ j → i = j := by
    intro i j hi hj e
    rcases Nat.lt_or_ge i ps.length with hi' | hi' <;> rcases Nat.lt_or_ge j ps.length with hj' | hj'
    · rw [hρ1 i _ (List.getElem?_eq_getElem hi'), hρ1 j _ (List.getElem?_eq_getElem hj')] at e
      exact (List.getElem_inj hnd).1 e
    · rw [hρ1 i _ (List.getElem?_eq_getElem hi'), hρ2 j hj'] at e
      exact absurd (hpA i _ (List.getElem?_eq_getElem hi')) (hfr _ (by omega) (by omega))
    · rw [hρ2 i hi', hρ1 j _ (List.getElem?_eq_getElem hj')] at e
      exact absurd (hpA j _ (List.getElem?_eq_getElem hj')) (hfr _ (by omega) (by omega))
    · rw [hρ2 i hi', hρ2 j hj'] at e; omega
  have hlive : ∀ j, j < ps.length → lkb mR j ≠ .dead := fun j hj => by
    obtain ⟨t, cs, h⟩ := varsAll_spec hva j hj; rw [h]; simp
  let β2 : Nat → Value := fun b => if n ≤ b ∧ b < n + (nR - ps.length) then β' (b - n + ps.length) else β b
  have hβ2new : ∀ j, ps.length ≤ j → j < nR → β2 (ρ j) = β' j := fun j h1 h2 => by
    show (if _ then _ else _) = _
    rw [hρ2 j h1, if_pos (by omega)]
    congr 1; omega
  have hβ2old : ∀ b, A b → β2 b = β b := fun b hb => by
    show (if _ then _ else _) = _
    rw [if_neg]
    intro h; exact hfr b h.1 h.2 hb
  have hm2 : ∀ j, j < nR → lkb (renM ρ mR ++ m) (ρ j) = renB ρ (lkb mR j) := fun j hj => by
    rcases lkb_renM (m := m) hky hinj j hj with h | ⟨h1, h2⟩
    · exact h
    · rcases Nat.lt_or_ge j ps.length with hj' | hj'
      · exact absurd h1 (hlive j hj')
      · rw [h2, h1]
        rw [hρ2 j hj']
        cases hd : lkb m (n + (j - ps.length)) with
        | dead => rfl
        | _ => exact absurd ((hr.refb _).2 (by rw [hd]; simp)) (hfr _ (by omega) (by omega))
  have L : Link (· < nR) ρ mR β' (renM ρ mR ++ m) β2 := ⟨hm2, fun j hj hl => by
    rcases Nat.lt_or_ge j ps.length with hj' | hj'
    · rw [hρ1 j _ (List.getElem?_eq_getElem hj'), hβ2old _ (hpA j _ (List.getElem?_eq_getElem hj')), hsame j hj' hl, hβc j _ (List.getElem?_eq_getElem hj')]
    · exact hβ2new j hj' hj⟩
  -- what the contract says is not shared with the caller's other boxes
  have hXb : ∀ g, XOf mA βc g → ∃ j b, ps[j]? = some b ∧ blk (β b) = some g := fun g ⟨k, hk, hg⟩ => by
    obtain ⟨b, hb⟩ := hmA k hk
    exact ⟨k, b, hb, by rw [← hβc k b hb]; exact hg⟩
  have hnewblk : ∀ j, ps.length ≤ j → j < nR → lkb mR j ≠ .dead → ∀ g, blk (β' j) = some g → w.heap.size ≤ g := by
    intro j hj hjR hl g hg
    rcases hm'.own j g hl hg with h1 | h1
    · exact h1
    · obtain ⟨k, b, hb, hgb⟩ := hXb g h1
      have hk : k < ps.length := (List.getElem?_eq_some_iff.1 hb).1
      have e := hsame k hk (hlive k hk)
      rw [hβc k b hb] at e
      have := hm'.inj j k g hl (hlive k hk) hg (by rw [e]; exact hgb)
      omega
  have hW : Wider (Imm Zc mR β' w') (Imm Z.p (renM ρ mR ++ m) β2 w') (FlatS sv ∧ FlatM mR) := by
    rcases hflat with hs | hfl
    · left
      intro g hg
      have hZ : Z.p g := by
        rcases hg.2.2 with (h1 | ⟨b, hb, _⟩) | h1
        · exact h1.2.2
        · rw [hs] at hb; cases hb
        · exact hr.new g (Nat.le_trans hr.ext.size h1)
      refine ⟨hg.1, fun b hb hgb => ?_, hZ⟩
      by_cases hnm : ∃ j, j < nR ∧ ρ j = b
      · obtain ⟨j, hj, rfl⟩ := hnm
        rw [hm2 j hj] at hb
        have hl := renB_dead.1 hb
        rw [L.val j hj hl] at hgb
        exact hg.2.1 j hl hgb
      · rw [lkb_renM_out hky (fun j hj e => hnm ⟨j, hj, e⟩)] at hb
        rw [hβ2old b ((hr.refb b).2 hb)] at hgb
        rcases hg.2.2 with (h1 | ⟨b', hb', _⟩) | h1
        · exact h1.2.1 b hb hgb
        · rw [hs] at hb'; cases hb'
        · have := (hr.boxes b).lt hb hgb; omega
    · exact .inr hfl
  have hA' : ∀ j, j < nR → A (ρ j) ∨ (n ≤ ρ j ∧ ρ j < n + (nR - ps.length)) := fun j hj => by
    rcases Nat.lt_or_ge j ps.length with hj' | hj'
    · left; rw [hρ1 j _ (List.getElem?_eq_getElem hj')]; exact hpA j _ (List.getElem?_eq_getElem hj')
    · right; rw [hρ2 j hj']; omega
  refine hK' v β2 w' ?_ (L.s hrsv (hW.imp id fun h => h.1) hsv) (RefS_ren hA' hrsv)
  refine (hr.turn (C := fun b => ∃ j, j < nR ∧ ρ j = b) (fun b hb => .inl hb) ?_ ?_ ?_ ?_ ?_ ?_ ?_ hm'.ext.size hm'.ext.os hm'.ext.tape hm'.ext.output ?_).1
  · rintro _ ⟨j, hj, rfl⟩
    rw [hm2 j hj]
    exact ⟨RefB_ren hA' (hm'.refb j).1, fun _ => hA' j hj⟩
  · intro b hb
    rw [lkb_renM_out hky (fun j hj e => hb ⟨j, hj, e⟩)]
    exact ⟨rfl, fun hl => hβ2old b ((hr.refb b).2 hl)⟩
  · rintro _ ⟨j, hj, rfl⟩ hAj hl
    rcases Nat.lt_or_ge j ps.length with hj' | hj'
    · have hpj := List.getElem?_eq_getElem hj'
      obtain ⟨t, cs, hv⟩ := hpv j _ hpj
      rw [hρ1 j _ hpj] at *
      refine ⟨by rw [hv]; simp, hβ2old _ hAj, fun t' sz' rs' e => ?_⟩
      have h3 := hm2 j hj
      rw [hρ1 j _ hpj] at h3
      rw [h3] at e
      obtain ⟨t2, cs2, h4⟩ := varsAll_spec hva j hj'
      rw [h4] at e; cases e
    · rw [hρ2 j hj'] at hAj
      exact absurd hAj (hfr _ (by omega) (by omega))
  · intro g hg hC
    refine hm'.ext.block g hg fun hX => ?_
    obtain ⟨k, b, hb, hgb⟩ := hXb g hX
    have hk : k < ps.length := (List.getElem?_eq_some_iff.1 hb).1
    obtain ⟨t, cs, hv⟩ := hpv k b hb
    have hkR : k < nR := by
      have := (hm'.refb k).2 (hlive k hk); exact this
    exact hC b ⟨k, hkR, hρ1 k b hb⟩ (by rw [hv]; simp) hgb
  · rintro _ g ⟨j, hj, rfl⟩ hl hg
    rw [hm2 j hj] at hl
    have hl := renB_dead.1 hl
    rw [L.val j hj hl] at hg
    rcases Nat.lt_or_ge j ps.length with hj' | hj'
    · right
      have hpj := List.getElem?_eq_getElem hj'
      obtain ⟨t, cs, hv⟩ := hpv j _ hpj
      refine ⟨ps[j], ⟨j, hj, hρ1 j _ hpj⟩, by rw [hv]; simp, ?_⟩
      rw [hsame j hj' hl, hβc j _ hpj] at hg
      exact hg
    · exact .inl (hnewblk j hj' hj hl g hg)
  · rintro _ _ g ⟨j, hj, rfl⟩ ⟨k, hk, rfl⟩ hl hl' hg hg'
    rw [hm2 j hj] at hl
    rw [hm2 k hk] at hl'
    have hl := renB_dead.1 hl
    have hl' := renB_dead.1 hl'
    rw [L.val j hj hl] at hg
    rw [L.val k hk hl'] at hg'
    rw [hm'.inj j k g hl hl' hg hg']
  · rintro _ t sz rs g ⟨j, hj, rfl⟩ hb hg
    rw [hm2 j hj] at hb
    have hl : lkb mR j ≠ .dead := by intro e; rw [e] at hb; cases hb
    rw [L.val j hj hl] at hg
    rcases Nat.lt_or_ge j ps.length with hj' | hj'
    · obtain ⟨t2, cs2, h4⟩ := varsAll_spec hva j hj'
      rw [h4] at hb; cases hb
    · exact hr.new g (Nat.le_trans hr.ext.size (hnewblk j hj' hj hl g hg))
  · rintro _ _ ⟨j, hj, rfl⟩
    rw [hm2 j hj]
    by_cases hl : lkb mR j = .dead
    · rw [hl]; trivial
    · rw [L.val j hj hl]
      exact L.b (hm'.refb j).1 (hW.imp id fun h => h.2.lkb j) (hm'.boxes j)

theorem opW_ok {T : List (Nat × TI)} (hT : TabOk P T) {K : KO} (h : opW T P o l m n K) : ∃ v upd n' ft, n ≤ n' ∧ OpOk P o l m n v upd n' ∧ K v upd n' ft := by
  unfold opW at h
  split at h
  · rename_i x ho; exact ⟨_, _, _, _, Nat.le_refl _, ok_move (.inl ho), h⟩
  · rename_i x ho; exact ⟨_, _, _, _, Nat.le_refl _, ok_move (.inr ho), h⟩
  · rename_i c x y ho
    split at h
    · rename_i b hc
      have hp := ok_pick (P := P) (m := m) (n := n) (T := T) (ty := o.type) ho hc
      have h' := ask_elim h
      cases b
      · exact ⟨_, _, _, _, Nat.le_refl _, hp, h'⟩
      · exact ⟨_, _, _, _, Nat.le_refl _, hp, h'⟩
    · exact h.elim
  · rename_i op t x y t' ho
    split at h
    · rename_i dx hx
      split at h
      · rename_i dy hy
        obtain ⟨d, h1, h2⟩ := ok_bin (m := m) (n := n) hT ho hx hy h
        exact ⟨_, _, _, _, Nat.le_refl _, h2, h1⟩
      · rename_i s hy
        split at h
        · split at h
          · rename_i ti hti
            split at h
            · rename_i e hk
              split at h
              · exact ⟨_, _, _, _, Nat.le_refl _, ok_nilcmp (hT t ti hti) hk ho hx hy, h⟩
              · exact h.elim
            · exact h.elim
          · exact h.elim
        · exact h.elim
      · exact h.elim
    · rename_i cs hx
      split at h
      · rename_i ds hy
        split at h
        · exact h.elim
        · rename_i hta
          split at h
          · obtain ⟨b, h1, h2⟩ := ok_eqAgg (m := m) (n := n) hT (.inl ⟨rfl, rfl⟩) ho hx hy hta h.1 h.2
            exact ⟨_, _, _, _, Nat.le_refl _, h2, h1⟩
          · obtain ⟨b, h1, h2⟩ := ok_eqAgg (m := m) (n := n) hT (.inr ⟨rfl, rfl⟩) ho hx hy hta h.1 h.2
            exact ⟨_, _, _, _, Nat.le_refl _, h2, h1⟩
          · exact h.elim
      · exact h.elim
    · exact h.elim
  · rename_i op t x ho
    split at h
    · rename_i b hx
      split at h
      · exact ⟨_, _, _, _, Nat.le_refl _, ok_not ho hx, h⟩
      · exact h.elim
    · rename_i k b hx
      split at h
      · exact ⟨_, _, _, _, Nat.le_refl _, ok_neg ho hx, h⟩
      · exact h.elim
    · exact h.elim
  · rename_i t x ho
    split at h
    · rename_i ti hti
      obtain ⟨v, ft, h1, h2⟩ := ok_load (n := n) (hT t ti hti) ho h
      exact ⟨_, _, _, _, Nat.le_refl _, h2, h1⟩
    · exact h.elim
  · rename_i t x y ho
    split at h
    · rename_i ti hti
      split at h
      · rename_i cs hcs
        obtain ⟨upd, ft, h1, h2⟩ := ok_store (n := n) (hT t ti hti) ho hcs h
        exact ⟨_, _, _, _, Nat.le_refl _, h2, h1⟩
      · exact h.elim
    · exact h.elim
  · rename_i t ho
    split at h
    · rename_i ti hti
      exact ⟨_, _, _, _, Nat.le_succ _, ok_alloc (hT t ti hti) ho, h⟩
    · exact h.elim
  · rename_i t x ho
    split at h
    · rename_i cs hcs
      exact ⟨_, _, _, _, Nat.le_succ _, ok_box ho hcs, h⟩
    · exact h.elim
  · rename_i t x i ho
    split at h
    · rename_i ti hti
      split at h
      · rename_i k j hj
        obtain ⟨v, ft, h1, h2⟩ := ok_index (n := n) hT (hT t ti hti) ho hj h
        exact ⟨_, _, _, _, Nat.le_refl _, h2, h1⟩
      · exact h.elim
    · exact h.elim
  · rename_i t x f ho
    split at h
    · rename_i ti hti
      obtain ⟨v, h1, h2⟩ := ok_field (n := n) hT (hT t ti hti) ho h
      exact ⟨_, _, _, _, Nat.le_refl _, h2, h1⟩
    · exact h.elim
  · rename_i t parts ho
    split at h
    · rename_i ti hti
      obtain ⟨v, h1, h2⟩ := ok_build (m := m) (n := n) hT (hT t ti hti) ho h
      exact ⟨_, _, _, _, Nat.le_refl _, h2, h1⟩
    · exact h.elim
  · rename_i t x f ho
    split at h
    · rename_i ti hti
      obtain ⟨v, h1, h2⟩ := ok_fieldV (m := m) (n := n) hT (hT t ti hti) ho h
      exact ⟨_, _, _, _, Nat.le_refl _, h2, h1⟩
    · exact h.elim
  · rename_i t len parts ho
    split at h
    · rename_i ti hti
      exact ok_buildSlice hT (hT t ti hti) ho h
    · exact h.elim
  · rename_i t x y ho
    split at h
    · rename_i ti hti
      split at h
      · rename_i k1 p hx
        split at h
        · rename_i k2 q hy
          exact ok_make hT (hT t ti hti) ho hx hy h
        · exact h.elim
      · exact h.elim
    · exact h.elim
  · rename_i ts td x ho
    split at h
    · rename_i tis hs
      split at h
      · rename_i tid hd
        obtain ⟨v, h1, h2⟩ := ok_conv (m := m) (n := n) (hT ts tis hs) (hT td tid hd) ho h
        exact ⟨_, _, _, _, Nat.le_refl _, h2, h1⟩
      · exact h.elim
    · exact h.elim
  · rename_i x i ho
    split at h
    · rename_i ts hx
      split at h
      · rename_i cs hi; exact ⟨_, _, _, _, Nat.le_refl _, ok_extract ho hx (.inl ⟨cs, hi, rfl⟩), h⟩
      · rename_i c hi; exact ⟨_, _, _, _, Nat.le_refl _, ok_extract ho hx (.inr ⟨c, hi, rfl⟩), h⟩
      · exact h.elim
    · exact h.elim
  · rename_i x ho
    split at h
    · rename_i b off hx
      split at h
      · rename_i tb cs hb
        have := ok_nilCheck (P := P) (n := n) ho (.inl ⟨b, off, tb, cs, hx, hb⟩)
        rw [hx] at this
        exact ⟨_, _, _, _, Nat.le_refl _, this, h⟩
      · exact h.elim
    · rename_i ds hx
      have := ok_nilCheck (P := P) (m := m) (n := n) ho (.inr ⟨ds, hx⟩)
      rw [hx] at this
      exact ⟨_, _, _, _, Nat.le_refl _, this, h⟩
    · exact h.elim
  · rename_i c ho
    split at h
    · rename_i hc
      split at h
      · rename_i x ha
        split at h
        · rename_i t ts ht
          split at h
          · rename_i ti hti
            obtain ⟨i, ft, h1, h2⟩ := ok_len (n := n) (hT t ti hti) ho hc ha ht h
            exact ⟨_, _, _, _, Nat.le_refl _, h2, h1⟩
          · exact h.elim
        · exact h.elim
      · exact h.elim
    · rename_i hc
      split at h
      · rename_i x y ha
        split at h
        · rename_i t t' ht
          split at h
          · exact h.elim
          · rename_i htt
            have e := Nat.eq_of_beq_eq_true htt
            subst e
            split at h
            · rename_i ti hti
              exact ok_append hT (hT t ti hti) ho hc ha ht h
            · exact h.elim
        · exact h.elim
      · exact h.elim
    · rename_i hc
      split at h
      · rename_i x y ha
        split at h
        · rename_i k p hx
          split at h
          · rename_i k' q hy
            exact ⟨_, _, _, _, Nat.le_refl _, ok_max ho hc ha hx hy, h⟩
          · exact h.elim
        · exact h.elim
      · exact h.elim
    · rename_i hc
      split at h
      · rename_i x y ha
        split at h
        · rename_i k p hx
          split at h
          · rename_i k' q hy
            exact ⟨_, _, _, _, Nat.le_refl _, ok_min ho hc ha hx hy, h⟩
          · exact h.elim
        · exact h.elim
      · exact h.elim
    · rename_i fop hc
      split at h
      · rename_i f caps hf
        exact ok_call ho hc hf h
      · exact h.elim
    · exact h.elim
  · exact h.elim
end Eng
