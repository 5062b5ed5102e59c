/- The steps are sound: rows that the call makes; stores. -/
import Derived.Test.YthdbdokhncaijaaGreatEngC5
namespace Eng
open Go Go.RowKit

variable {P : Program} {o : Oper} {l : List (Nat × SV)} {m : List (Nat × Box)} {n : Nat}

theorem rows_read {w : World} {N N' : Nat → Prop} {β : Nat → Value} {t sz : Nat} {rs : List (List DV)} {v : Value} (h : BRd w N m β (.rows t sz rs) v) (hN : ∀ g, N g → N' g) (hb : ∀ g, blk v = some g → N' g) : DRd w N' (.lst sz rs) v := by
  obtain ⟨xs, ho, hl, hd⟩ := h
  rcases ho.2 with ⟨rfl, h0⟩ | ⟨g, cap, cur, rfl, _, hg, hn, _, hsz, htk⟩
  · have : rs = [] := List.eq_nil_of_length_eq_zero h0
    subst this
    exact DRd.nilS w N' sz
  · refine .lst sz rs (some ⟨g, 0, none⟩) cap (fun j => xs.getD j undef) hl hn (fun _ => ⟨_, rfl, hb g rfl⟩) (fun ad had j d hj => ?_) (fun j d hj => ?_)
    · injection had with had; subst had
      obtain ⟨u, h1, h2⟩ := hd.get hj
      rw [addr_mk, cell_of_row w g _ cur t (0, 0) hg]
      have : xs.getD j undef = u := by simp [List.getD, h1]
      rw [this]
      rw [← htk, List.getElem?_take] at h1
      split at h1
      · simpa using h1
      · cases h1
    · obtain ⟨u, h1, h2⟩ := hd.get hj
      have : xs.getD j undef = u := by simp [List.getD, h1]
      rw [this]
      exact h2.mono hN fun _ _ => rfl

/-- cells frozen into data -/
theorem toD_ok {ks : List Nat} {c : CV} {k : DV → List Nat → Prop} (h : toD m ks c k) : ∃ d ks', k d ks' ∧ (∀ b ∈ ks, b ∈ ks') ∧ (∀ b ∈ ks', b ∈ ks ∨ (∃ t sz rs, lkb m b = .rows t sz rs)) ∧ (∀ b ∈ ks', b ∈ ks ∨ c = .row b) ∧
    (∀ (m' : List (Nat × Box)) (k' : DV → List Nat → Prop), (∀ b, c = .row b → lkb m' b = lkb m b) → k' d ks' → toD m' ks c k') ∧
    ∀ (w w' : World) (N N' : Nat → Prop) (β : Nat → Value) (v : Value), CRd w N m β c v → (∀ g, N g → N' g) → (∀ g, N g → w'.heap[g]? = w.heap[g]?) → (∀ b ∈ ks', ∀ g, blk (β b) = some g → N' g ∧ w'.heap[g]? = w.heap[g]?) → (∀ b, BRd w N m β (lkb m b) (β b)) → DRd w' N' d v := by
  unfold toD at h
  split at h
  · exact ⟨_, _, h, fun _ h => h, fun _ h => .inl h, fun _ h => .inl h, fun _ _ _ hk => hk, fun w w' N N' β v hv hN hh _ _ => DRd.mono hN hh hv⟩
  · refine ⟨_, _, h, fun _ h => h, fun _ h => .inl h, fun _ h => .inl h, fun _ _ _ hk => hk, fun w w' N N' β v hv hN _ _ _ => ?_⟩
    simp only [CRd] at hv; subst hv; exact DRd.nilS _ _ _
  · rename_i b
    split at h
    · exact h.elim
    · rename_i hfresh
      split at h
      · rename_i t sz rs hb
        refine ⟨_, _, h, fun _ h => by simp [h], fun b' hb' => ?_, fun b' hb' => ?_, fun m' k' hm hk => ?_, fun w w' N N' β v hv hN hh hks hbx => ?_⟩
        · rcases List.mem_cons.1 hb' with rfl | hb'
          · exact .inr ⟨t, sz, rs, hb⟩
          · exact .inl hb'
        · rcases List.mem_cons.1 hb' with rfl | hb'
          · exact .inr rfl
          · exact .inl hb'
        · unfold toD; simp only
          rw [hfresh]; simp only
          rw [hm b rfl, hb]; exact hk
        · have e := hv.2 (by rw [hb]; simp)
          have h1 := hbx b
          rw [hb] at h1
          rw [e]
          have h2 : DRd w (fun g => N g ∨ blk (β b) = some g) (.lst sz rs) (β b) := rows_read h1 (fun g hg => .inl hg) (fun g hg => .inr hg)
          refine h2.mono (fun g hg => ?_) (fun g hg => ?_)
          · rcases hg with hg | hg
            · exact hN g hg
            · exact (hks b (by simp) g hg).1
          · rcases hg with hg | hg
            · exact hh g hg
            · exact (hks b (by simp) g hg).2
      · exact h.elim
  · exact h.elim
theorem toDs_ok {ks : List Nat} {cs : List CV} {k : List DV → List Nat → Prop} (h : toDs m ks cs k) : ∃ ds ks', k ds ks' ∧ ds.length = cs.length ∧ (∀ b ∈ ks, b ∈ ks') ∧ (∀ b ∈ ks', b ∈ ks ∨ (∃ t sz rs, lkb m b = .rows t sz rs)) ∧ (∀ b ∈ ks', b ∈ ks ∨ CV.row b ∈ cs) ∧
    (∀ (m' : List (Nat × Box)) (k' : List DV → List Nat → Prop), (∀ b, CV.row b ∈ cs → lkb m' b = lkb m b) → k' ds ks' → toDs m' ks cs k') ∧
    ∀ (w w' : World) (N N' : Nat → Prop) (β : Nat → Value) (vs : List Value), All2 (CRd w N m β) cs vs → (∀ g, N g → N' g) → (∀ g, N g → w'.heap[g]? = w.heap[g]?) → (∀ b ∈ ks', ∀ g, blk (β b) = some g → N' g ∧ w'.heap[g]? = w.heap[g]?) → (∀ b, BRd w N m β (lkb m b) (β b)) → All2 (DRd w' N') ds vs := by
  induction cs generalizing ks k with
  | nil => exact ⟨[], ks, h, rfl, fun _ h => h, fun _ h => .inl h, fun _ h => .inl h, fun _ _ _ hk => hk, fun w w' N N' β vs hv _ _ _ _ => by cases vs with
    | nil => trivial
    | cons => exact hv.elim⟩
  | cons c cs ih =>
    obtain ⟨d, k1, h1, h2, h3, h3', h4, h5⟩ := toD_ok h
    obtain ⟨ds, k2, q1, q2, q3, q4, q4', q5, q6⟩ := ih h1
    refine ⟨d :: ds, k2, q1, by simp [q2], fun b hb => q3 b (h2 b hb), fun b hb => ?_, fun b hb => ?_, fun m' k' hm hk => ?_, fun w w' N N' β vs hv hN hh hks hbx => ?_⟩
    · rcases q4 b hb with hb | hb
      · exact h3 b hb
      · exact .inr hb
    · rcases q4' b hb with hb | hb
      · rcases h3' b hb with hb | hb
        · exact .inl hb
        · exact .inr (by simp [hb])
      · exact .inr (by simp [hb])
    · exact h4 m' _ (fun b hb => hm b (by simp [hb])) (q5 m' _ (fun b hb => hm b (by simp [hb])) hk)
    · cases vs with
      | nil => exact hv.elim
      | cons v vs => exact ⟨h5 w w' N N' β v hv.1 hN hh (fun b hb => hks b (q3 b hb)) hbx, q6 w w' N N' β vs hv.2 hN hh hks hbx⟩

theorem lkb_kills_in {ks : List Nat} {b : Nat} (h : b ∈ ks) : lkb (kills ks ++ m) b = .dead := by
  induction ks with
  | nil => cases h
  | cons k ks ih =>
    show lkb ((k, .dead) :: (kills ks ++ m)) b = _
    rw [lkb_cons]; split
    · rfl
    · rename_i hne
      rcases List.mem_cons.1 h with rfl | h
      · exact absurd rfl hne
      · exact ih h
theorem lkb_kills_out {ks : List Nat} {b : Nat} (h : b ∉ ks) : lkb (kills ks ++ m) b = lkb m b := by
  induction ks with
  | nil => rfl
  | cons k ks ih =>
    show lkb ((k, .dead) :: (kills ks ++ m)) b = _
    rw [lkb_cons, if_neg (fun e => h (by simp [e]))]
    exact ih fun hb => h (by simp [hb])

/-- rows are let go: what they held is data from now on -/
theorem Rel.kill {w0 : World} {X : Nat → Prop} {Z : Zt} {nt : Nat} {A : Nat → Prop} {l : List (Nat × SV)} {m : List (Nat × Box)} {β : Nat → Value} {a : Act} {w : World} (h : Rel w0 X Z nt A l m β a w) (ks : List Nat) : Rel w0 X Z nt A l (kills ks ++ m) β a w := by
  have hd : ∀ b, b ∈ ks → lkb (kills ks ++ m) b = .dead := fun b hb => lkb_kills_in hb
  exact (h.turn (A' := A) (m' := kills ks ++ m) (β' := β) (w' := w) (C := fun b => b ∈ ks) (fun _ hb => hb)
    (fun b hC => by rw [hd b hC]; exact ⟨trivial, fun hh => absurd rfl hh⟩)
    (fun b hC => ⟨lkb_kills_out hC, fun _ => rfl⟩)
    (fun b hC _ hl => absurd (hd b hC) hl)
    (fun _ _ _ => rfl)
    (fun b _ hC hl _ => absurd (hd b hC) hl)
    (fun b _ _ hC _ hl _ _ _ => absurd (hd b hC) hl)
    (fun b _ hC hl _ => absurd (hd b hC) hl)
    (Nat.le_refl _) rfl rfl rfl
    (fun _ b hC => by rw [hd b hC]; trivial)).1

/-- A row is made or takes over; the rows 'ks' are let go. -/
theorem Rel.newRow {w0 : World} {X : Nat → Prop} {Z : Zt} {nt : Nat} {A : Nat → Prop} {β : Nat → Value} {a : Act} {w w' : World} (h : Rel w0 X Z nt A l m β a w) {e sz : Nat} {rs : List (List DV)} {ks : List Nat} {v : Value} (hn : ¬ A n)
    (hks : ∀ b ∈ ks, lkb m b ≠ .dead) (hv1 : v.oneCell' = true)
    (hv : ∀ g, blk v = some g → w.heap.size ≤ g ∨ ∃ b ∈ ks, blk (β b) = some g)
    (hw : ∀ g, g < w.heap.size → (∀ b ∈ ks, blk (β b) ≠ some g) → w'.heap[g]? = w.heap[g]?) (hsz : w.heap.size ≤ w'.heap.size) (hos : w'.os = w.os) (htape : w'.tape = w.tape) (hout : w'.output = w.output)
    (hd : ∀ (N' : Nat → Prop), (∀ g, Imm Z.p m β w g → N' g) → (∀ g, Imm Z.p m β w g → w'.heap[g]? = w.heap[g]?) → (∀ b ∈ ks, ∀ g, blk (β b) = some g → blk v ≠ some g → N' g) → BRd w' N' ((n, .rows e sz rs) :: kills ks ++ m) (fun k => if k = n then v else β k) (.rows e sz rs) v) :
    ∃ β', Rel w0 X Z nt (fun b => A b ∨ (n ≤ b ∧ b < n + 1)) l ((n, .rows e sz rs) :: kills ks ++ m) β' a w' ∧
      SRd w' (Imm Z.p ((n, .rows e sz rs) :: kills ks ++ m) β' w') ((n, .rows e sz rs) :: kills ks ++ m) β' (.one (.row n)) v := by
  have hkl : ∀ b ∈ ks, lkb m b ≠ .dead := hks
  have hkA : ∀ b ∈ ks, A b := fun b hb => (h.refb b).2 (hkl b hb)
  have hnk : n ∉ ks := fun hb => hn (hkA n hb)
  have hlk : ∀ b, lkb ((n, .rows e sz rs) :: kills ks ++ m) b = if b = n then .rows e sz rs else lkb (kills ks ++ m) b := fun b => by
    show lkb ((n, .rows e sz rs) :: (kills ks ++ m)) b = _
    rw [lkb_cons]
    by_cases hb : b = n
    · subst hb; simp
    · rw [if_neg hb, if_neg (fun e => hb e.symm)]
  have hlive : ∀ b, (b = n ∨ b ∈ ks) → lkb ((n, .rows e sz rs) :: kills ks ++ m) b ≠ .dead → b = n := fun b hC hl => by
    rcases hC with rfl | hC
    · rfl
    · rw [hlk] at hl
      split at hl
      · assumption
      · rw [lkb_kills_in hC] at hl; exact absurd rfl hl
  have hT := h.turn (A' := fun k => A k ∨ k = n) (m' := (n, .rows e sz rs) :: kills ks ++ m) (β' := fun k => if k = n then v else β k) (w' := w') (C := fun b => b = n ∨ b ∈ ks) (fun b hb => .inl hb)
    (fun b hC => by
      rw [hlk]; split
      · rename_i e'; exact ⟨trivial, fun _ => .inr e'⟩
      · rcases hC with e' | hC
        · exact absurd e' ‹_›
        · rw [lkb_kills_in hC]; exact ⟨trivial, fun hh => absurd rfl hh⟩)
    (fun b hC => by
      rw [hlk, if_neg (fun e => hC (.inl e)), lkb_kills_out (fun hb => hC (.inr hb))]
      exact ⟨rfl, fun _ => if_neg (fun e => hC (.inl e))⟩)
    (fun b hC hA hl => by have := hlive b hC hl; subst this; exact absurd hA hn)
    (fun g hg hC => hw g hg fun b hb => hC b (.inr hb) (hkl b hb))
    (fun b g hC hl hg => by
      have := hlive b hC hl; subst this
      simp only [if_true] at hg
      rcases hv g hg with h1 | ⟨b', hb', hg'⟩
      · exact .inl h1
      · exact .inr ⟨b', .inr hb', hkl b' hb', hg'⟩)
    (fun b b' g hC hC' hl hl' _ _ => (hlive b hC hl).trans (hlive b' hC' hl').symm)
    (fun b g hC hb hg => by
      have := hlive b hC hb; subst this
      simp only [if_true] at hg
      rcases hv g hg with h1 | ⟨b', hb', hg'⟩
      · exact h.new.ge g (Nat.le_trans h.ext.size h1)
      · exact h.rown b' g (hkl b' hb') hg')
    hsz hos htape hout
    (fun K b hC => by
      rcases hC with rfl | hC
      · rw [hlk, if_pos rfl]
        simp only [if_true]
        refine hd _ K.imm K.heap fun b' hb' g hg hne => ⟨?_, fun b'' hl'' hg'' => ?_, ?_⟩
        · exact Nat.lt_of_lt_of_le ((h.boxes b').lt (hkl b' hb') hg) hsz
        · rw [hlk] at hl''
          split at hl''
          · rename_i e'; subst e'; simp only [if_true] at hg''; exact hne hg''
          · rename_i hne'
            simp only [if_neg hne'] at hg''
            by_cases hk : b'' ∈ ks
            · rw [lkb_kills_in hk] at hl''; exact hl'' rfl
            · rw [lkb_kills_out hk] at hl''
              have := h.inj b'' b' g hl'' (hkl b' hb') hg'' hg
              subst this; exact hk hb'
        · exact h.rown b' g (hkl b' hb') hg
      · rw [hlk, if_neg (fun (e' : b = n) => hnk (e' ▸ hC)), lkb_kills_in hC]; trivial)
  rw [wideA] at hT
  exact ⟨_, hT.1, hv1, fun _ => by simp⟩

/-- the rows of a slice that is written out -/
theorem rowsW_ok {T : List (Nat × TI)} {e : Nat} {te : TI} {ps : List (Nat × Operand)} {j : Nat} {ks : List Nat} {k : List (List DV) → List Nat → Prop} (h : rowsW T e te l m j ps ks k) : ∃ rs ks', k rs ks' ∧ rs.length = ps.length ∧ (∀ r ∈ rs, r.length = te.size) ∧ (∀ b ∈ ks, b ∈ ks') ∧ (∀ b ∈ ks', b ∈ ks ∨ (∃ t sz rs, lkb m b = .rows t sz rs)) ∧
    (∀ b ∈ ks', b ∈ ks ∨ ∃ p ∈ ps, ∃ cs, cells (evT T e l p.2) = some cs ∧ CV.row b ∈ cs) ∧
    (∀ (l' : List (Nat × SV)) (m' : List (Nat × Box)) (k' : List (List DV) → List Nat → Prop), (∀ p ∈ ps, evT T e l' p.2 = evT T e l p.2) → (∀ p ∈ ps, ∀ cs b, cells (evT T e l p.2) = some cs → CV.row b ∈ cs → lkb m' b = lkb m b) → k' rs ks' → rowsW T e te l' m' j ps ks k') ∧
    ∀ (w0 : World) (X : Nat → Prop) (Z : Zt) (nt : Nat) (A : Nat → Prop) (β : Nat → Value) (a : Act) (w : World), Rel w0 X Z nt A l m β a w →
      (∀ (cs : Array Value), (j + ps.length) * te.size = cs.size → ∃ us : List Value, us.length = ps.length * te.size ∧ Instr.fill (fun i => some (i * te.size, te.size)) cs (ps.map fun p => (p.1, a.eval p.2)) = some (cs.toList.take (j * te.size) ++ us).toArray ∧
        ∀ (w' : World) (N' : Nat → Prop), (∀ g, Imm Z.p m β w g → N' g) → (∀ g, Imm Z.p m β w g → w'.heap[g]? = w.heap[g]?) → (∀ b ∈ ks', ∀ g, blk (β b) = some g → N' g ∧ w'.heap[g]? = w.heap[g]?) → All2 (DRd w' N') rs.flatten us) := by
  induction ps generalizing j ks k with
  | nil =>
    refine ⟨[], ks, h, rfl, by simp, fun _ h => h, fun _ h => .inl h, fun _ h => .inl h, fun _ _ _ _ _ hk => hk, fun w0 X Z nt A β a w hr cs hcs => ⟨[], by simp, ?_, fun _ _ _ _ _ => trivial⟩⟩
    simp only [List.map_nil, Instr.fill, List.append_nil]
    rw [List.take_of_length_le (by simp at hcs ⊢; omega)]
  | cons p ps ih =>
    obtain ⟨i, x⟩ := p
    simp only [rowsW] at h
    split at h
    · exact h.elim
    · rename_i hij
      have e := Nat.eq_of_beq_eq_true hij
      subst e
      split at h
      · exact h.elim
      · rename_i cs hcs
        split at h
        · exact h.elim
        · rename_i hlen
          have hlen' := Nat.eq_of_beq_eq_true hlen
          obtain ⟨ds, k1, h1, hdl, hs1, hk1, hk1', hdet, hval⟩ := toDs_ok h
          obtain ⟨rs, k2, h2, hrl, hrs, hs2, hk2, hk2', hdet2, hval2⟩ := ih h1
          refine ⟨ds :: rs, k2, h2, by simp [hrl], fun r hr => ?_, fun b hb => hs2 b (hs1 b hb), fun b hb => ?_, fun b hb => ?_, fun l' m' k' hl hm hk => ?_, fun w0 X Z nt A β a w hr arr harr => ?_⟩
          · rcases List.mem_cons.1 hr with rfl | hr
            · omega
            · exact hrs r hr
          · rcases hk2 b hb with hb | hb
            · exact hk1 b hb
            · exact .inr hb
          · rcases hk2' b hb with hb | ⟨p, hp, q⟩
            · rcases hk1' b hb with hb | hb
              · exact .inl hb
              · exact .inr ⟨(i, x), by simp, cs, hcs, hb⟩
            · exact .inr ⟨p, by simp [hp], q⟩
          · simp only [rowsW]
            rw [hij]; simp only
            rw [hl (i, x) (by simp), hcs]; simp only
            rw [hlen]; simp only
            exact hdet m' _ (fun b hb => hm (i, x) (by simp) cs b hcs hb) (hdet2 l' m' _ (fun p hp => hl p (by simp [hp])) (fun p hp => hm p (by simp [hp])) hk)
          · obtain ⟨q1, q2⟩ := hr.evT T e x
            obtain ⟨q3, q4⟩ := cells_ok hcs q1 q2
            have q5 := q3.length
            have hsz : (a.eval x).cells.size = te.size := by rw [← hlen', q5]; simp
            simp only [List.length_cons] at harr
            have harr' : i * te.size + te.size ≤ arr.size := by
              rw [← harr, ← Nat.succ_mul]; exact Nat.mul_le_mul_right _ (by omega)
            have hstep := fill_step (place := fun i => some (i * te.size, te.size)) (cs := arr) (i := i) (off := i * te.size) (v := a.eval x) (rest := ps.map fun p => (p.1, a.eval p.2)) (by rw [hsz]) (by rw [hsz]; exact harr')
            have hns : (arr.toList.take (i * te.size) ++ (a.eval x).cells.toList ++ arr.toList.drop (i * te.size + (a.eval x).cells.size)).toArray.size = arr.size := by
              simp [hsz]; omega
            obtain ⟨us, e1, e2, e3⟩ := hval2 w0 X Z nt A β a w hr (arr.toList.take (i * te.size) ++ (a.eval x).cells.toList ++ arr.toList.drop (i * te.size + (a.eval x).cells.size)).toArray (by rw [hns, ← harr]; congr 1; omega)
            refine ⟨(a.eval x).cells.toList ++ us, ?_, ?_, fun w' N' hN hh hks => ?_⟩
            · simp [hsz, e1, Nat.succ_mul]; omega
            · rw [List.map_cons, hstep, e2]
              congr 2
              have hl1 : (arr.toList.take (i * te.size) ++ (a.eval x).cells.toList).length = (i + 1) * te.size := by
                rw [List.length_append, List.length_take]; simp [hsz, Nat.succ_mul]; omega
              rw [← hl1, List.take_left]
              simp [List.append_assoc]
            · rw [List.flatten_cons]
              exact (hval w w' _ N' β _ q3 hN hh (fun b hb => hks b (hs2 b hb)) hr.boxes).append (e3 w' N' hN hh hks)

theorem ok_buildSlice {T : List (Nat × TI)} (hT : TabOk P T) {t len : Nat} {ti : TI} (hti : ti.Ok P t) {parts : Array (Nat × Operand)} {K : KO} (ho : o.op = .buildSlice t len parts) (h : buildSliceW T ti len l m n parts.toList K) :
    ∃ v upd n' ft, n ≤ n' ∧ OpOk P o l m n v upd n' ∧ K v upd n' ft := by
  unfold buildSliceW at h
  split at h
  · rename_i e hk
    have hu := kind_slice hti hk
    split at h
    · exact h.elim
    · rename_i te hte
      have hte := hT e te hte
      split at h
      · exact h.elim
      · rename_i hchk
        simp only [Bool.and_eq_true] at hchk
        obtain ⟨⟨hpl, hbig⟩, hpos⟩ := hchk
        have hpl := Nat.eq_of_beq_eq_true hpl
        have hbig := Nat.le_of_ble_eq_true hbig
        have hpos := blt_iff.1 hpos
        obtain ⟨rs, ks, hK, hrl, hrs, _, hks, _, _, hval⟩ := rowsW_ok h
        have hks : ∀ b ∈ ks, ∃ t sz rs, lkb m b = .rows t sz rs := fun b hb => (hks b hb).resolve_left (by simp)
        refine ⟨_, _, _, _, Nat.le_succ _, ?_, hK⟩
        intro w0 X Z nt A β a w hr hn K' Q hK'
        obtain ⟨z, hz1, hz2, hz3⟩ := run_zero hte w
        let arr0 : Array Value := (Array.range (len * te.size)).map (z.cells[· % z.cells.size]!)
        obtain ⟨us, hul, hfill, hall⟩ := hval w0 X Z nt A β a w hr arr0 (by simp [arr0, hpl])
        simp only [Nat.zero_mul, List.take_zero, List.nil_append] at hfill
        have hrun : (execOp a.eval o).run P w = .ok (.value (.slice (some ⟨w.heap.size, 0, none⟩) len len)) (w.alloc (.cells us.toArray e)) := by
          simp only [execOp, ho]
          refine run_v ?_
          have hparts : (parts.map fun p => (p.1, a.eval p.2)).toList = parts.toList.map fun p => (p.1, a.eval p.2) := by simp
          rcases Nat.eq_zero_or_pos (len * te.size) with h0 | h0
          · have hl0 : len = 0 := by
              rcases Nat.mul_eq_zero.1 h0 with h | h
              · exact h
              · omega
            have hp0 : parts.toList = [] := List.eq_nil_of_length_eq_zero (by omega)
            have hus : us = [] := List.eq_nil_of_length_eq_zero (by rw [hul, hp0]; simp)
            subst hus
            simp only [Instr.buildSlice, Sem.run_bind, run_underlying hu, Result.andThen_ok, run_sizeOf' hte, h0, hparts, hp0, List.map_nil, Instr.fill]
            simp [go_sem, hl0]
          · simp only [Instr.buildSlice, Sem.run_bind, run_underlying hu, Result.andThen_ok, run_sizeOf' hte]
            rw [if_neg (by omega), if_neg (by omega)]
            simp only [Sem.run_bind, hz1, Result.andThen_ok, pure_bind]
            have hfill' := hfill
            simp only [arr0] at hfill'
            rw [hparts, hfill']
            simp [go_sem]
        unfold Oper.wp
        rw [hrun]
        have hlen : len = rs.length := by omega
        obtain ⟨β', h7, h8⟩ := hr.newRow (n := n) (e := e) (sz := te.size) (rs := rs) (ks := ks) (v := .slice (some ⟨w.heap.size, 0, none⟩) len len) (w' := w.alloc (.cells us.toArray e)) (hn n (Nat.le_refl _) (by omega)) (fun b hb => by obtain ⟨t, sz, rs, h⟩ := hks b hb; rw [h]; simp) rfl
          (fun g hg => by simp only [blk, Option.some.injEq] at hg; exact .inl (by omega)) (fun g hg _ => Below.heap_alloc w _ g hg) (by simp) rfl rfl rfl
          (fun N' hN hh hkN => by
            refine ⟨us, ⟨by rw [hul, ← hlen, hpl], .inr ⟨w.heap.size, len, us.toArray, by rw [← hlen], Nat.zero_le _, heap_alloc_new w _, by omega, ?_, by simp [hul, hpl], ?_⟩⟩, hrs, hall _ N' hN hh fun b hb g hg => ⟨hkN b hb g hg ?_, ?_⟩⟩
            · have : len ≤ len * te.size := Nat.le_mul_of_pos_right _ hpos
              simp only [maxLen]; omega
            · rw [List.take_of_length_le (by simp [hul, hpl, ← hlen])]
            · obtain ⟨t2, sz2, rs2, h2⟩ := hks b hb
              have := (hr.boxes b).lt (by rw [h2]; simp) hg
              simp only [blk, Option.some.injEq, ne_eq]; omega
            · obtain ⟨t2, sz2, rs2, h2⟩ := hks b hb
              exact Below.heap_alloc w _ g ((hr.boxes b).lt (by rw [h2]; simp) hg))
        exact hK' _ β' _ h7 h8 (.inr ⟨Nat.le_refl _, Nat.lt_succ_self _⟩)
  · exact h.elim
/-- what was data, or a row that is let go, is data when the rows are dead -/
theorem kill_imm {w0 : World} {X : Nat → Prop} {Z : Zt} {nt : Nat} {A : Nat → Prop} {β : Nat → Value} {a : Act} {w : World} (hr : Rel w0 X Z nt A l m β a w) (ks : List Nat) :
    (∀ g, Imm Z.p m β w g → Imm Z.p (kills ks ++ m) β w g) ∧ ∀ b ∈ ks, lkb m b ≠ .dead → ∀ g, blk (β b) = some g → Imm Z.p (kills ks ++ m) β w g := by
  have live : ∀ b, lkb (kills ks ++ m) b ≠ .dead → lkb m b ≠ .dead ∧ b ∉ ks := fun b hb => by
    by_cases hk : b ∈ ks
    · exact absurd (lkb_kills_in hk) hb
    · exact ⟨by rwa [lkb_kills_out hk] at hb, hk⟩
  refine ⟨fun g hg => ⟨hg.1, fun b hb => hg.2.1 b (live b hb).1, hg.2.2⟩, fun b hb hl g hg => ⟨(hr.boxes b).lt hl hg, fun b' hb' hg' => ?_, hr.rown b g hl hg⟩⟩
  obtain ⟨h1, h2⟩ := live b' hb'
  have := hr.inj b' b g h1 hl hg' hg
  subst this; exact h2 hb

/-- cells are stored into a row's cells; the rows among them are let go -/
theorem ok_storeRows {ty : Nat} {T : List (Nat × TI)} {x y : Operand} {cs : List CV} {ks : List Nat} {ds r : List DV} {b i off tb sz : Nat} {rs : List (List DV)} (hx : ev l x = .one (.rptr b i off)) (hb : lkb m b = .rows tb sz rs) (hcs : cells (evT T ty l y) = some cs) (hdl : ds.length = cs.length)
    (hkr : ∀ b ∈ ks, ∃ t sz rs, lkb m b = .rows t sz rs)
    (hds : ∀ (w w' : World) (N N' : Nat → Prop) (β : Nat → Value) (vs : List Value), All2 (CRd w N m β) cs vs → (∀ g, N g → N' g) → (∀ g, N g → w'.heap[g]? = w.heap[g]?) → (∀ b ∈ ks, ∀ g, blk (β b) = some g → N' g ∧ w'.heap[g]? = w.heap[g]?) → (∀ b, BRd w N m β (lkb m b) (β b)) → All2 (DRd w' N') ds vs)
    (hbk : b ∉ ks) (hri : rs[i]? = some r) (hle : off + ds.length ≤ r.length)
    (run : ∀ (w : World) (a : Act) (g off tb : Nat) (cur : Array Value), a.eval x = .pointer (some ⟨g, off, none⟩) → w.heap[g]? = some (.cells cur tb (0, 0)) → (a.eval y).cells.toList.length = cs.length → off + cs.length ≤ cur.size →
        (∀ v ∈ (a.eval y).cells.toList, v.oneCell' = true) →
        (execOp a.eval o).run P w = .ok .skip (w.setRow g (cur.toList.take off ++ (a.eval y).cells.toList ++ cur.toList.drop (off + (a.eval y).cells.toList.length)).toArray)) :
    OpOk P o l m n .bot ((b, .rows tb sz (rs.set i (r.take off ++ ds ++ r.drop (off + ds.length)))) :: kills ks) n := by
  intro w0 X Z nt A β a w hr _ K' Q hK'
  have hr2 := hr.kill ks
  obtain ⟨im1, im2⟩ := kill_imm hr ks
  have hb2 : lkb (kills ks ++ m) b = .rows tb sz rs := (lkb_kills_out hbk).trans hb
  obtain ⟨h1, _⟩ := hr.ev x
  rw [hx] at h1
  obtain ⟨g, n', c, e1, e2⟩ := h1.2 sz (by rw [hb]; rfl)
  have hbx := hr2.boxes b
  rw [hb2] at hbx
  obtain ⟨xs, how, hrl, hall⟩ := hbx
  have hi' : i < rs.length := (List.getElem?_eq_some_iff.1 hri).1
  rcases how.2 with ⟨_, h0⟩ | ⟨g', cap, cur, e3, hz, hg, hn, hm, hsz, htk⟩
  · omega
  rw [e1] at e3
  simp only [Value.slice.injEq, Option.some.injEq, Addr.mk.injEq, and_true] at e3
  obtain ⟨rfl, rfl, rfl⟩ := e3
  obtain ⟨h3, h4⟩ := hr.evT T ty y
  obtain ⟨h5, h6⟩ := cells_ok hcs h3 h4
  have h7 := hds w w _ (Imm Z.p (kills ks ++ m) β w) β _ h5 im1 (fun _ _ => rfl) (fun b hb g hg => ⟨im2 b hb (by obtain ⟨t, sz, rs, h⟩ := hkr b hb; rw [h]; simp) g hg, rfl⟩) hr.boxes
  have hl1 := h5.length
  obtain ⟨hfl, hbd⟩ := flatten_put hrl hri hle
  have hxl : xs.length = rs.flatten.length := hall.length.symm
  have hcl : rs.length * sz ≤ cur.size := by rw [hsz]; exact Nat.mul_le_mul_right _ hn
  have hxc : xs.length = rs.length * sz := how.1
  have hrun := run w a g (i * sz + off) tb cur e2 hg hl1.symm (by omega) (fun v hv => by
    obtain ⟨i, hi⟩ := List.getElem?_of_mem hv
    have : i < cs.length := by rw [hl1]; exact (List.getElem?_eq_some_iff.1 hi).1
    obtain ⟨u, hu, hc⟩ := h5.get (List.getElem?_eq_getElem this)
    rw [hi] at hu; injection hu with hu; subst hu
    exact hc.oneCell)
  unfold Oper.wp
  rw [hrun]
  refine hK' undef β _ ?_ trivial trivial
  refine Rel.wide ?_ (fun b hb => .inl hb)
  refine hr2.setBox (b := b) (g := g) (by rw [hb2]; simp) (by simp) (by rw [e1]; rfl) trivial (fun sz' e => by rw [hb2]; exact e) (fun k hk => setRow_other _ _ _ _ hk) (by simp) rfl rfl rfl (fun Kp => ?_)
  have hvl : (a.eval y).cells.toList.length = ds.length := by omega
  refine ⟨xs.take (i * sz + off) ++ (a.eval y).cells.toList ++ xs.drop (i * sz + off + ds.length), ⟨?_, .inr ⟨g, _, _, ?_, hz, setRow_heap _ _ _ _ _ _ hg, by simpa using hn, hm, ?_, ?_⟩⟩, ?_, ?_⟩
  · simp [hxc, hvl]; omega
  · rw [e1]; simp
  · simp [← hsz, hvl]; omega
  · simp only [List.length_set, hvl]
    rw [← htk]
    have q1 : (cur.toList.take (rs.length * sz)).take (i * sz + off) = cur.toList.take (i * sz + off) := by rw [List.take_take, Nat.min_eq_left (by omega)]
    rw [q1, List.drop_take]
    have q2 : (cur.toList.take (i * sz + off) ++ (a.eval y).cells.toList).length = i * sz + off + ds.length := by simp [hvl]; omega
    rw [List.take_append, q2, List.take_of_length_le (by rw [q2]; omega)]
  · intro r' hr'
    obtain ⟨j, hj⟩ := List.getElem?_of_mem hr'
    rw [List.getElem?_set] at hj
    split at hj
    · rename_i e
      subst e
      injection hj with hj; subst hj
      have := hrl r (List.mem_of_getElem? hri)
      simp; omega
    · exact hrl r' (List.mem_of_getElem? hj)
  · rw [hfl]
    have ho' := hall.mono (R' := DRd _ _) (fun d _ v hv => Kp.d hv)
    have hn' := h7.mono (R' := DRd _ _) (fun d _ v hv => Kp.d hv)
    exact ((ho'.take _).append hn').append (ho'.drop _)

theorem ok_store {t ty : Nat} {ti : TI} (hti : ti.Ok P t) {T : List (Nat × TI)} {x y : Operand} {cs : List CV} {K : List (Nat × Box) → List Nat → Prop} (ho : o.op = .store t x y) (hcs : cells (evT T ty l y) = some cs)
    (h : storeW m ti (ev l x) cs K) : ∃ upd ft, K upd ft ∧ OpOk P o l m n .bot upd n := by
  unfold storeW at h
  split at h
  · exact h.elim
  · rename_i hlen
    have hlen := Nat.eq_of_beq_eq_true hlen
    -- the run, once the block is known
    have run : ∀ (w : World) (a : Act) (g off tb : Nat) (cur : Array Value), a.eval x = .pointer (some ⟨g, off, none⟩) → w.heap[g]? = some (.cells cur tb (0, 0)) → (a.eval y).cells.toList.length = cs.length → off + cs.length ≤ cur.size →
        (∀ v ∈ (a.eval y).cells.toList, v.oneCell' = true) →
        (execOp a.eval o).run P w = .ok .skip (w.setRow g (cur.toList.take off ++ (a.eval y).cells.toList ++ cur.toList.drop (off + (a.eval y).cells.toList.length)).toArray) := by
      intro w a g off tb cur he hg hl hb h1
      have hs := run_storeCells_at (P := P) g off tb (a.eval y).cells.toList 0 cur w hg (by omega) h1
      simp only [execOp, ho, he]
      have hsz : (a.eval y).cells.size = ti.size := by simpa [hlen] using hl
      simp only [Instr.storeAt, Instr.sureAddr, storeVar, Sem.run_bind, Sem.run_pure, Result.andThen_ok, run_sizeOf' hti, hsz, ne_eq, not_true, if_false, pure_bind]
      simpa using congrArg (fun r : Result Unit => r.andThen fun _ w' => .ok Next.skip w') hs
    split at h
    · rename_i b off hx
      split at h
      · rename_i tb old hb
        obtain ⟨hK, hle⟩ := putL_ok h
        refine ⟨_, _, hK, fun w0 X Z nt A β a w hr _ K' Q hK' => ?_⟩
        obtain ⟨h1, _⟩ := hr.ev x
        rw [hx] at h1
        obtain ⟨g, e1, e2⟩ := h1.2 (by rw [hb]; simp)
        have hbx := hr.boxes b
        rw [hb] at hbx
        obtain ⟨g', arr, e3, hg, hall⟩ := hbx
        rw [e1] at e3
        simp only [Value.pointer.injEq, Option.some.injEq, Addr.mk.injEq, and_true] at e3
        subst e3
        obtain ⟨h3, h4⟩ := hr.evT T ty y
        obtain ⟨h5, h6⟩ := cells_ok hcs h3 h4
        have hrb := (hr.refb b).1
        rw [hb] at hrb
        have hl1 := h5.length
        have hl2 := hall.length
        have hrun := run w a g off tb arr e2 hg hl1.symm (by simp at hl2; omega) (fun v hv => by
          obtain ⟨i, hi⟩ := List.getElem?_of_mem hv
          have : i < cs.length := by rw [hl1]; exact (List.getElem?_eq_some_iff.1 hi).1
          obtain ⟨u, hu, hc⟩ := h5.get (List.getElem?_eq_getElem this)
          rw [hi] at hu; injection hu with hu; subst hu
          exact hc.oneCell)
        unfold Oper.wp
        rw [hrun]
        refine hK' undef β _ ?_ trivial trivial
        refine Rel.wide ?_ (fun b hb => .inl hb)
        refine hr.setBox (b := b) (g := g) (by rw [hb]; simp) (by simp) (by rw [e1]; rfl) ?_ (fun _ e => by cases e) (fun k hk => setRow_other _ _ _ _ hk) (by simp) rfl rfl rfl (fun Kp => ?_)
        · intro c hc
          rcases List.mem_append.1 hc with hc | hc
          · rcases List.mem_append.1 hc with hc | hc
            · exact hrb c (List.mem_of_mem_take hc)
            · exact h6 c hc
          · exact hrb c (List.mem_of_mem_drop hc)
        · refine ⟨g, _, e1, setRow_heap _ _ _ _ _ _ hg, ?_⟩
          have ho' := Kp.cs hrb hall
          have hn' := Kp.cs h6 h5
          have hd := ho'.drop (off + cs.length)
          rw [show List.drop (off + cs.length) arr.toList = List.drop (off + (a.eval y).cells.toList.length) arr.toList by rw [hl1]] at hd
          exact ((ho'.take off).append hn').append hd
      · exact h.elim
    · rename_i b i off hx
      split at h
      · rename_i tb sz rs hb
        obtain ⟨ds, ks, h, hdl, _, hkr, _, _, hds⟩ := toDs_ok h
        have hkr : ∀ b ∈ ks, ∃ t sz rs, lkb m b = .rows t sz rs := fun b hb => (hkr b hb).resolve_left (by simp)
        split at h
        · obtain ⟨r, hri, h⟩ := h
          obtain ⟨hK, hle⟩ := putL_ok h
          exact ⟨_, _, hK, ok_storeRows hx hb hcs hdl hkr hds (by simp) hri hle run⟩
        · rename_i k ks
          split at h
          · exact h.elim
          · rename_i hall
            obtain ⟨r, hri, h⟩ := h
            obtain ⟨hK, hle⟩ := putL_ok h
            refine ⟨_, _, hK, ok_storeRows hx hb hcs hdl hkr hds (fun hm => ?_) hri hle run⟩
            have := List.all_eq_true.1 hall b hm
            rw [Nat.beq_refl] at this
            cases this
      · rename_i tb sz rs last hb
        obtain ⟨hi, h⟩ := h
        subst hi
        obtain ⟨hK, hle⟩ := putL_ok h
        refine ⟨_, _, hK, fun w0 X Z nt A β a w hr _ K' Q hK' => ?_⟩
        obtain ⟨h1, _⟩ := hr.ev x
        rw [hx] at h1
        obtain ⟨g, n', c, e1, e2⟩ := h1.2 sz (by rw [hb]; rfl)
        have hbx := hr.boxes b
        rw [hb] at hbx
        obtain ⟨xs, ys, how, hrl, hll, hall, hlast⟩ := hbx
        rcases how.2 with ⟨_, h0⟩ | ⟨g', cap, cur, e3, hz, hg, hn, hm, hsz, htk⟩
        · omega
        rw [e1] at e3
        simp only [Value.slice.injEq, Option.some.injEq, Addr.mk.injEq, and_true] at e3
        obtain ⟨rfl, rfl, rfl⟩ := e3
        obtain ⟨h3, h4⟩ := hr.evT T ty y
        obtain ⟨h5, h6⟩ := cells_ok hcs h3 h4
        have hrb := (hr.refb b).1
        rw [hb] at hrb
        have hl1 := h5.length
        have hl2 := hlast.length
        have hxl : xs.length = rs.length * sz := by rw [← hall.length]; exact flatten_len hrl
        have hcl : (rs.length + 1) * sz ≤ cur.size := by rw [hsz]; exact Nat.mul_le_mul_right _ hn
        rw [Nat.succ_mul] at hcl
        have htk' : cur.toList.take (rs.length * sz + sz) = xs ++ ys := by rw [← Nat.succ_mul]; exact htk
        have hrun := run w a g (rs.length * sz + off) tb cur e2 hg hl1.symm (by omega) (fun v hv => by
          obtain ⟨i, hi⟩ := List.getElem?_of_mem hv
          have : i < cs.length := by rw [hl1]; exact (List.getElem?_eq_some_iff.1 hi).1
          obtain ⟨u, hu, hc⟩ := h5.get (List.getElem?_eq_getElem this)
          rw [hi] at hu; injection hu with hu; subst hu
          exact hc.oneCell)
        unfold Oper.wp
        rw [hrun]
        refine hK' undef β _ ?_ trivial trivial
        refine Rel.wide ?_ (fun b hb => .inl hb)
        refine hr.setBox (b := b) (g := g) (by rw [hb]; simp) (by simp) (by rw [e1]; rfl) ?_ (fun sz' e => by rw [hb]; exact e) (fun k hk => setRow_other _ _ _ _ hk) (by simp) rfl rfl rfl (fun Kp => ?_)
        · intro c hc
          rcases List.mem_append.1 hc with hc | hc
          · rcases List.mem_append.1 hc with hc | hc
            · exact hrb c (List.mem_of_mem_take hc)
            · exact h6 c hc
          · exact hrb c (List.mem_of_mem_drop hc)
        · have hvl : (a.eval y).cells.toList.length = cs.length := hl1.symm
          refine ⟨xs, ys.take off ++ (a.eval y).cells.toList ++ ys.drop (off + cs.length), ⟨?_, .inr ⟨g, _, _, ?_, hz, setRow_heap _ _ _ _ _ _ hg, hn, hm, ?_, ?_⟩⟩, hrl, ?_, hall.mono fun d _ v hv => Kp.d hv, ?_⟩
          · simp only [List.length_append, List.length_take, List.length_drop, hvl, hxl, Nat.succ_mul]; omega
          · rw [e1]
          · simp [← hsz, hvl]; omega
          · show List.take ((rs.length + 1) * sz) (cur.toList.take (rs.length * sz + off) ++ (a.eval y).cells.toList ++ cur.toList.drop (rs.length * sz + off + (a.eval y).cells.toList.length)) = _
            have q1 : cur.toList.take (rs.length * sz + off) = xs ++ ys.take off := by
              have : cur.toList.take (rs.length * sz + off) = (cur.toList.take (rs.length * sz + sz)).take (rs.length * sz + off) := by rw [List.take_take, Nat.min_eq_left (by omega)]
              rw [this, htk', List.take_append, List.take_of_length_le (by omega), hxl, show rs.length * sz + off - rs.length * sz = off by omega]
            have q2 : (cur.toList.take (rs.length * sz + off) ++ (a.eval y).cells.toList).length = rs.length * sz + off + cs.length := by simp [hvl]; omega
            rw [List.take_append, q2, List.take_of_length_le (by rw [q2, Nat.succ_mul]; omega), hvl, ← List.drop_take, Nat.succ_mul, q1]
            have q3 : (cur.toList.take (rs.length * sz + sz)).drop (rs.length * sz + off + cs.length) = ys.drop (off + cs.length) := by
              rw [htk', List.drop_append, List.drop_eq_nil_of_le (by omega), hxl, List.nil_append, show rs.length * sz + off + cs.length - rs.length * sz = off + cs.length by omega]
            rw [List.drop_take] at q3
            rw [List.drop_take, q3]
            simp [List.append_assoc]
          · simp only [List.length_append, List.length_take, List.length_drop]; omega
          · have ho' := Kp.cs hrb hlast
            have hn' := Kp.cs h6 h5
            exact ((ho'.take off).append hn').append (ho'.drop _)
      · exact h.elim
    · exact h.elim
end Eng
