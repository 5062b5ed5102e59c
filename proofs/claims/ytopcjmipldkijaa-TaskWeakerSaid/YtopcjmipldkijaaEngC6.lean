/- The steps are sound: rows that the call makes. -/
import Derived.Test.YtopcjmipldkijaaEngC5
namespace Eng
open Go Go.RowKit

variable {P : Program} {o : Oper} {l : List (Nat × SV)} {m : List (Nat × Box)} {n : Nat}

theorem rows_read {w : World} {N N' : Nat → Prop} {β : Nat → Value} {t sz : Nat} {rs : List (List DV)} {v : Value} (h : BRd w N m β (.rows t sz rs) v) (hN : ∀ g, N g → N' g) (hb : ∀ g, blk v = some g → N' g) : DRd w N' (.lst sz rs) v := by
  obtain ⟨xs, ho, hl, hd⟩ := h
  rcases ho.2 with ⟨rfl, h0⟩ | ⟨g, cap, cur, rfl, _, hg, hn, _, hsz, htk⟩
  · have : rs = [] := List.eq_nil_of_length_eq_zero h0
    subst this
    exact DRd.nilS w N' sz
  · refine .lst sz rs (some ⟨g, 0, none⟩) cap (fun j => xs.getD j undef) hl hn (fun _ => ⟨_, rfl, hb g rfl⟩) (fun ad had j d hj => ?_) (fun j d hj => ?_)
    · injection had with had; subst had
      obtain ⟨u, h1, h2⟩ := hd.get hj
      rw [addr_mk, cell_of_row w g _ cur t (0, 0) hg]
      have : xs.getD j undef = u := by simp [List.getD, h1]
      rw [this]
      rw [← htk, List.getElem?_take] at h1
      split at h1
      · simpa using h1
      · cases h1
    · obtain ⟨u, h1, h2⟩ := hd.get hj
      have : xs.getD j undef = u := by simp [List.getD, h1]
      rw [this]
      exact h2.mono hN fun _ _ => rfl

/-- cells frozen into data -/
theorem toD_ok {ks : List Nat} {c : CV} {k : DV → List Nat → Prop} (h : toD m ks c k) : ∃ d ks', k d ks' ∧ (∀ b ∈ ks, b ∈ ks') ∧ (∀ b ∈ ks', b ∈ ks ∨ (∃ t sz rs, lkb m b = .rows t sz rs)) ∧ (∀ b ∈ ks', b ∈ ks ∨ c = .row b) ∧
    (∀ (m' : List (Nat × Box)) (k' : DV → List Nat → Prop), (∀ b, c = .row b → lkb m' b = lkb m b) → k' d ks' → toD m' ks c k') ∧
    ∀ (w w' : World) (N N' : Nat → Prop) (β : Nat → Value) (v : Value), CRd w N m β c v → (∀ g, N g → N' g) → (∀ g, N g → w'.heap[g]? = w.heap[g]?) → (∀ b ∈ ks', ∀ g, blk (β b) = some g → N' g ∧ w'.heap[g]? = w.heap[g]?) → (∀ b, BRd w N m β (lkb m b) (β b)) → DRd w' N' d v := by
  unfold toD at h
  split at h
  · exact ⟨_, _, h, fun _ h => h, fun _ h => .inl h, fun _ h => .inl h, fun _ _ _ hk => hk, fun w w' N N' β v hv hN hh _ _ => DRd.mono hN hh hv⟩
  · refine ⟨_, _, h, fun _ h => h, fun _ h => .inl h, fun _ h => .inl h, fun _ _ _ hk => hk, fun w w' N N' β v hv hN _ _ _ => ?_⟩
    simp only [CRd] at hv; subst hv; exact DRd.nilS _ _ _
  · rename_i b
    split at h
    · exact h.elim
    · rename_i hfresh
      split at h
      · rename_i t sz rs hb
        refine ⟨_, _, h, fun _ h => by simp [h], fun b' hb' => ?_, fun b' hb' => ?_, fun m' k' hm hk => ?_, fun w w' N N' β v hv hN hh hks hbx => ?_⟩
        · rcases List.mem_cons.1 hb' with rfl | hb'
          · exact .inr ⟨t, sz, rs, hb⟩
          · exact .inl hb'
        · rcases List.mem_cons.1 hb' with rfl | hb'
          · exact .inr rfl
          · exact .inl hb'
        · unfold toD; simp only
          rw [hfresh]; simp only
          rw [hm b rfl, hb]; exact hk
        · have e := hv.2 (by rw [hb]; simp)
          have h1 := hbx b
          rw [hb] at h1
          rw [e]
          have h2 : DRd w (fun g => N g ∨ blk (β b) = some g) (.lst sz rs) (β b) := rows_read h1 (fun g hg => .inl hg) (fun g hg => .inr hg)
          refine h2.mono (fun g hg => ?_) (fun g hg => ?_)
          · rcases hg with hg | hg
            · exact hN g hg
            · exact (hks b (by simp) g hg).1
          · rcases hg with hg | hg
            · exact hh g hg
            · exact (hks b (by simp) g hg).2
      · exact h.elim
  · exact h.elim
theorem toDs_ok {ks : List Nat} {cs : List CV} {k : List DV → List Nat → Prop} (h : toDs m ks cs k) : ∃ ds ks', k ds ks' ∧ ds.length = cs.length ∧ (∀ b ∈ ks, b ∈ ks') ∧ (∀ b ∈ ks', b ∈ ks ∨ (∃ t sz rs, lkb m b = .rows t sz rs)) ∧ (∀ b ∈ ks', b ∈ ks ∨ CV.row b ∈ cs) ∧
    (∀ (m' : List (Nat × Box)) (k' : List DV → List Nat → Prop), (∀ b, CV.row b ∈ cs → lkb m' b = lkb m b) → k' ds ks' → toDs m' ks cs k') ∧
    ∀ (w w' : World) (N N' : Nat → Prop) (β : Nat → Value) (vs : List Value), All2 (CRd w N m β) cs vs → (∀ g, N g → N' g) → (∀ g, N g → w'.heap[g]? = w.heap[g]?) → (∀ b ∈ ks', ∀ g, blk (β b) = some g → N' g ∧ w'.heap[g]? = w.heap[g]?) → (∀ b, BRd w N m β (lkb m b) (β b)) → All2 (DRd w' N') ds vs := by
  induction cs generalizing ks k with
  | nil => exact ⟨[], ks, h, rfl, fun _ h => h, fun _ h => .inl h, fun _ h => .inl h, fun _ _ _ hk => hk, fun w w' N N' β vs hv _ _ _ _ => by cases vs with
    | nil => trivial
    | cons => exact hv.elim⟩
  | cons c cs ih =>
    obtain ⟨d, k1, h1, h2, h3, h3', h4, h5⟩ := toD_ok h
    obtain ⟨ds, k2, q1, q2, q3, q4, q4', q5, q6⟩ := ih h1
    refine ⟨d :: ds, k2, q1, by simp [q2], fun b hb => q3 b (h2 b hb), fun b hb => ?_, fun b hb => ?_, fun m' k' hm hk => ?_, fun w w' N N' β vs hv hN hh hks hbx => ?_⟩
    · rcases q4 b hb with hb | hb
      · exact h3 b hb
      · exact .inr hb
    · rcases q4' b hb with hb | hb
      · rcases h3' b hb with hb | hb
        · exact .inl hb
        · exact .inr (by simp [hb])
      · exact .inr (by simp [hb])
    · exact h4 m' _ (fun b hb => hm b (by simp [hb])) (q5 m' _ (fun b hb => hm b (by simp [hb])) hk)
    · cases vs with
      | nil => exact hv.elim
      | cons v vs => exact ⟨h5 w w' N N' β v hv.1 hN hh (fun b hb => hks b (q3 b hb)) hbx, q6 w w' N N' β vs hv.2 hN hh hks hbx⟩

theorem lkb_kills_in {ks : List Nat} {b : Nat} (h : b ∈ ks) : lkb (kills ks ++ m) b = .dead := by
  induction ks with
  | nil => cases h
  | cons k ks ih =>
    show lkb ((k, .dead) :: (kills ks ++ m)) b = _
    rw [lkb_cons]; split
    · rfl
    · rename_i hne
      rcases List.mem_cons.1 h with rfl | h
      · exact absurd rfl hne
      · exact ih h
theorem lkb_kills_out {ks : List Nat} {b : Nat} (h : b ∉ ks) : lkb (kills ks ++ m) b = lkb m b := by
  induction ks with
  | nil => rfl
  | cons k ks ih =>
    show lkb ((k, .dead) :: (kills ks ++ m)) b = _
    rw [lkb_cons, if_neg (fun e => h (by simp [e]))]
    exact ih fun hb => h (by simp [hb])

/-- A row is made or takes over; the rows 'ks' are let go. -/
theorem Rel.newRow {w0 : World} {X : Nat → Prop} {Z : Zt} {nt : Nat} {A : Nat → Prop} {β : Nat → Value} {a : Act} {w w' : World} (h : Rel w0 X Z nt A l m β a w) {e sz : Nat} {rs : List (List DV)} {ks : List Nat} {v : Value} (hn : ¬ A n)
    (hks : ∀ b ∈ ks, lkb m b ≠ .dead) (hv1 : v.oneCell' = true)
    (hv : ∀ g, blk v = some g → w.heap.size ≤ g ∨ ∃ b ∈ ks, blk (β b) = some g)
    (hw : ∀ g, g < w.heap.size → (∀ b ∈ ks, blk (β b) ≠ some g) → w'.heap[g]? = w.heap[g]?) (hsz : w.heap.size ≤ w'.heap.size) (hos : w'.os = w.os) (htape : w'.tape = w.tape) (hout : w'.output = w.output)
    (hd : ∀ (N' : Nat → Prop), (∀ g, Imm Z.p m β w g → N' g) → (∀ g, Imm Z.p m β w g → w'.heap[g]? = w.heap[g]?) → (∀ b ∈ ks, ∀ g, blk (β b) = some g → blk v ≠ some g → N' g) → BRd w' N' ((n, .rows e sz rs) :: kills ks ++ m) (fun k => if k = n then v else β k) (.rows e sz rs) v) :
    ∃ β', Rel w0 X Z nt (fun b => A b ∨ (n ≤ b ∧ b < n + 1)) l ((n, .rows e sz rs) :: kills ks ++ m) β' a w' ∧
      SRd w' (Imm Z.p ((n, .rows e sz rs) :: kills ks ++ m) β' w') ((n, .rows e sz rs) :: kills ks ++ m) β' (.one (.row n)) v := by
  have hkl : ∀ b ∈ ks, lkb m b ≠ .dead := hks
  have hkA : ∀ b ∈ ks, A b := fun b hb => (h.refb b).2 (hkl b hb)
  have hnk : n ∉ ks := fun hb => hn (hkA n hb)
  have hlk : ∀ b, lkb ((n, .rows e sz rs) :: kills ks ++ m) b = if b = n then .rows e sz rs else lkb (kills ks ++ m) b := fun b => by
    show lkb ((n, .rows e sz rs) :: (kills ks ++ m)) b = _
    rw [lkb_cons]
    by_cases hb : b = n
    · subst hb; simp
    · rw [if_neg hb, if_neg (fun e => hb e.symm)]
  have hlive : ∀ b, (b = n ∨ b ∈ ks) → lkb ((n, .rows e sz rs) :: kills ks ++ m) b ≠ .dead → b = n := fun b hC hl => by
    rcases hC with rfl | hC
    · rfl
    · rw [hlk] at hl
      split at hl
      · assumption
      · rw [lkb_kills_in hC] at hl; exact absurd rfl hl
  have hT := h.turn (A' := fun k => A k ∨ k = n) (m' := (n, .rows e sz rs) :: kills ks ++ m) (β' := fun k => if k = n then v else β k) (w' := w') (C := fun b => b = n ∨ b ∈ ks) (fun b hb => .inl hb)
    (fun b hC => by
      rw [hlk]; split
      · rename_i e'; exact ⟨trivial, fun _ => .inr e'⟩
      · rcases hC with e' | hC
        · exact absurd e' ‹_›
        · rw [lkb_kills_in hC]; exact ⟨trivial, fun hh => absurd rfl hh⟩)
    (fun b hC => by
      rw [hlk, if_neg (fun e => hC (.inl e)), lkb_kills_out (fun hb => hC (.inr hb))]
      exact ⟨rfl, fun _ => if_neg (fun e => hC (.inl e))⟩)
    (fun b hC hA hl => by have := hlive b hC hl; subst this; exact absurd hA hn)
    (fun g hg hC => hw g hg fun b hb => hC b (.inr hb) (hkl b hb))
    (fun b g hC hl hg => by
      have := hlive b hC hl; subst this
      simp only [if_true] at hg
      rcases hv g hg with h1 | ⟨b', hb', hg'⟩
      · exact .inl h1
      · exact .inr ⟨b', .inr hb', hkl b' hb', hg'⟩)
    (fun b b' g hC hC' hl hl' _ _ => (hlive b hC hl).trans (hlive b' hC' hl').symm)
    (fun b g hC hb hg => by
      have := hlive b hC hb; subst this
      simp only [if_true] at hg
      rcases hv g hg with h1 | ⟨b', hb', hg'⟩
      · exact h.new.ge g (Nat.le_trans h.ext.size h1)
      · exact h.rown b' g (hkl b' hb') hg')
    hsz hos htape hout
    (fun K b hC => by
      rcases hC with rfl | hC
      · rw [hlk, if_pos rfl]
        simp only [if_true]
        refine hd _ K.imm K.heap fun b' hb' g hg hne => ⟨?_, fun b'' hl'' hg'' => ?_, ?_⟩
        · exact Nat.lt_of_lt_of_le ((h.boxes b').lt (hkl b' hb') hg) hsz
        · rw [hlk] at hl''
          split at hl''
          · rename_i e'; subst e'; simp only [if_true] at hg''; exact hne hg''
          · rename_i hne'
            simp only [if_neg hne'] at hg''
            by_cases hk : b'' ∈ ks
            · rw [lkb_kills_in hk] at hl''; exact hl'' rfl
            · rw [lkb_kills_out hk] at hl''
              have := h.inj b'' b' g hl'' (hkl b' hb') hg'' hg
              subst this; exact hk hb'
        · exact h.rown b' g (hkl b' hb') hg
      · rw [hlk, if_neg (fun (e' : b = n) => hnk (e' ▸ hC)), lkb_kills_in hC]; trivial)
  rw [wideA] at hT
  exact ⟨_, hT.1, hv1, fun _ => by simp⟩

/-- the rows of a slice that is written out -/
theorem rowsW_ok {T : List (Nat × TI)} {e : Nat} {te : TI} {ps : List (Nat × Operand)} {j : Nat} {ks : List Nat} {k : List (List DV) → List Nat → Prop} (h : rowsW T e te l m j ps ks k) : ∃ rs ks', k rs ks' ∧ rs.length = ps.length ∧ (∀ r ∈ rs, r.length = te.size) ∧ (∀ b ∈ ks, b ∈ ks') ∧ (∀ b ∈ ks', b ∈ ks ∨ (∃ t sz rs, lkb m b = .rows t sz rs)) ∧
    (∀ b ∈ ks', b ∈ ks ∨ ∃ p ∈ ps, ∃ cs, cells (evT T e l p.2) = some cs ∧ CV.row b ∈ cs) ∧
    (∀ (l' : List (Nat × SV)) (m' : List (Nat × Box)) (k' : List (List DV) → List Nat → Prop), (∀ p ∈ ps, evT T e l' p.2 = evT T e l p.2) → (∀ p ∈ ps, ∀ cs b, cells (evT T e l p.2) = some cs → CV.row b ∈ cs → lkb m' b = lkb m b) → k' rs ks' → rowsW T e te l' m' j ps ks k') ∧
    ∀ (w0 : World) (X : Nat → Prop) (Z : Zt) (nt : Nat) (A : Nat → Prop) (β : Nat → Value) (a : Act) (w : World), Rel w0 X Z nt A l m β a w →
      (∀ (cs : Array Value), (j + ps.length) * te.size = cs.size → ∃ us : List Value, us.length = ps.length * te.size ∧ Instr.fill (fun i => some (i * te.size, te.size)) cs (ps.map fun p => (p.1, a.eval p.2)) = some (cs.toList.take (j * te.size) ++ us).toArray ∧
        ∀ (w' : World) (N' : Nat → Prop), (∀ g, Imm Z.p m β w g → N' g) → (∀ g, Imm Z.p m β w g → w'.heap[g]? = w.heap[g]?) → (∀ b ∈ ks', ∀ g, blk (β b) = some g → N' g ∧ w'.heap[g]? = w.heap[g]?) → All2 (DRd w' N') rs.flatten us) := by
  induction ps generalizing j ks k with
  | nil =>
    refine ⟨[], ks, h, rfl, by simp, fun _ h => h, fun _ h => .inl h, fun _ h => .inl h, fun _ _ _ _ _ hk => hk, fun w0 X Z nt A β a w hr cs hcs => ⟨[], by simp, ?_, fun _ _ _ _ _ => trivial⟩⟩
    simp only [List.map_nil, Instr.fill, List.append_nil]
    rw [List.take_of_length_le (by simp at hcs ⊢; omega)]
  | cons p ps ih =>
    obtain ⟨i, x⟩ := p
    simp only [rowsW] at h
    split at h
    · exact h.elim
    · rename_i hij
      have e := Nat.eq_of_beq_eq_true hij
      subst e
      split at h
      · exact h.elim
      · rename_i cs hcs
        split at h
        · exact h.elim
        · rename_i hlen
          have hlen' := Nat.eq_of_beq_eq_true hlen
          obtain ⟨ds, k1, h1, hdl, hs1, hk1, hk1', hdet, hval⟩ := toDs_ok h
          obtain ⟨rs, k2, h2, hrl, hrs, hs2, hk2, hk2', hdet2, hval2⟩ := ih h1
          refine ⟨ds :: rs, k2, h2, by simp [hrl], fun r hr => ?_, fun b hb => hs2 b (hs1 b hb), fun b hb => ?_, fun b hb => ?_, fun l' m' k' hl hm hk => ?_, fun w0 X Z nt A β a w hr arr harr => ?_⟩
          · rcases List.mem_cons.1 hr with rfl | hr
            · omega
            · exact hrs r hr
          · rcases hk2 b hb with hb | hb
            · exact hk1 b hb
            · exact .inr hb
          · rcases hk2' b hb with hb | ⟨p, hp, q⟩
            · rcases hk1' b hb with hb | hb
              · exact .inl hb
              · exact .inr ⟨(i, x), by simp, cs, hcs, hb⟩
            · exact .inr ⟨p, by simp [hp], q⟩
          · simp only [rowsW]
            rw [hij]; simp only
            rw [hl (i, x) (by simp), hcs]; simp only
            rw [hlen]; simp only
            exact hdet m' _ (fun b hb => hm (i, x) (by simp) cs b hcs hb) (hdet2 l' m' _ (fun p hp => hl p (by simp [hp])) (fun p hp => hm p (by simp [hp])) hk)
          · obtain ⟨q1, q2⟩ := hr.evT T e x
            obtain ⟨q3, q4⟩ := cells_ok hcs q1 q2
            have q5 := q3.length
            have hsz : (a.eval x).cells.size = te.size := by rw [← hlen', q5]; simp
            simp only [List.length_cons] at harr
            have harr' : i * te.size + te.size ≤ arr.size := by
              rw [← harr, ← Nat.succ_mul]; exact Nat.mul_le_mul_right _ (by omega)
            have hstep := fill_step (place := fun i => some (i * te.size, te.size)) (cs := arr) (i := i) (off := i * te.size) (v := a.eval x) (rest := ps.map fun p => (p.1, a.eval p.2)) (by rw [hsz]) (by rw [hsz]; exact harr')
            have hns : (arr.toList.take (i * te.size) ++ (a.eval x).cells.toList ++ arr.toList.drop (i * te.size + (a.eval x).cells.size)).toArray.size = arr.size := by
              simp [hsz]; omega
            obtain ⟨us, e1, e2, e3⟩ := hval2 w0 X Z nt A β a w hr (arr.toList.take (i * te.size) ++ (a.eval x).cells.toList ++ arr.toList.drop (i * te.size + (a.eval x).cells.size)).toArray (by rw [hns, ← harr]; congr 1; omega)
            refine ⟨(a.eval x).cells.toList ++ us, ?_, ?_, fun w' N' hN hh hks => ?_⟩
            · simp [hsz, e1, Nat.succ_mul]; omega
            · rw [List.map_cons, hstep, e2]
              congr 2
              have hl1 : (arr.toList.take (i * te.size) ++ (a.eval x).cells.toList).length = (i + 1) * te.size := by
                rw [List.length_append, List.length_take]; simp [hsz, Nat.succ_mul]; omega
              rw [← hl1, List.take_left]
              simp [List.append_assoc]
            · rw [List.flatten_cons]
              exact (hval w w' _ N' β _ q3 hN hh (fun b hb => hks b (hs2 b hb)) hr.boxes).append (e3 w' N' hN hh hks)

theorem ok_buildSlice {T : List (Nat × TI)} (hT : TabOk P T) {t len : Nat} {ti : TI} (hti : ti.Ok P t) {parts : Array (Nat × Operand)} {K : KO} (ho : o.op = .buildSlice t len parts) (h : buildSliceW T ti len l m n parts.toList K) :
    ∃ v upd n' ft, n ≤ n' ∧ OpOk P o l m n v upd n' ∧ K v upd n' ft := by
  unfold buildSliceW at h
  split at h
  · rename_i e hk
    have hu := kind_slice hti hk
    split at h
    · exact h.elim
    · rename_i te hte
      have hte := hT e te hte
      split at h
      · exact h.elim
      · rename_i hchk
        simp only [Bool.and_eq_true] at hchk
        obtain ⟨⟨hpl, hbig⟩, hpos⟩ := hchk
        have hpl := Nat.eq_of_beq_eq_true hpl
        have hbig := Nat.le_of_ble_eq_true hbig
        have hpos := blt_iff.1 hpos
        obtain ⟨rs, ks, hK, hrl, hrs, _, hks, _, _, hval⟩ := rowsW_ok h
        have hks : ∀ b ∈ ks, ∃ t sz rs, lkb m b = .rows t sz rs := fun b hb => (hks b hb).resolve_left (by simp)
        refine ⟨_, _, _, _, Nat.le_succ _, ?_, hK⟩
        intro w0 X Z nt A β a w hr hn K' Q hK'
        obtain ⟨z, hz1, hz2, hz3⟩ := run_zero hte w
        let arr0 : Array Value := (Array.range (len * te.size)).map (z.cells[· % z.cells.size]!)
        obtain ⟨us, hul, hfill, hall⟩ := hval w0 X Z nt A β a w hr arr0 (by simp [arr0, hpl])
        simp only [Nat.zero_mul, List.take_zero, List.nil_append] at hfill
        have hrun : (execOp a.eval o).run P w = .ok (.value (.slice (some ⟨w.heap.size, 0, none⟩) len len)) (w.alloc (.cells us.toArray e)) := by
          simp only [execOp, ho]
          refine run_v ?_
          have hparts : (parts.map fun p => (p.1, a.eval p.2)).toList = parts.toList.map fun p => (p.1, a.eval p.2) := by simp
          rcases Nat.eq_zero_or_pos (len * te.size) with h0 | h0
          · have hl0 : len = 0 := by
              rcases Nat.mul_eq_zero.1 h0 with h | h
              · exact h
              · omega
            have hp0 : parts.toList = [] := List.eq_nil_of_length_eq_zero (by omega)
            have hus : us = [] := List.eq_nil_of_length_eq_zero (by rw [hul, hp0]; simp)
            subst hus
            simp only [Instr.buildSlice, Sem.run_bind, run_underlying hu, Result.andThen_ok, run_sizeOf' hte, h0, hparts, hp0, List.map_nil, Instr.fill]
            simp [go_sem, hl0]
          · simp only [Instr.buildSlice, Sem.run_bind, run_underlying hu, Result.andThen_ok, run_sizeOf' hte]
            rw [if_neg (by omega), if_neg (by omega)]
            simp only [Sem.run_bind, hz1, Result.andThen_ok, Sem.run_pure, pure_bind]
            have hfill' := hfill
            simp only [arr0] at hfill'
            rw [hparts, hfill']
            simp [go_sem]
        unfold Oper.wp
        rw [hrun]
        have hlen : len = rs.length := by omega
        obtain ⟨β', h7, h8⟩ := hr.newRow (n := n) (e := e) (sz := te.size) (rs := rs) (ks := ks) (v := .slice (some ⟨w.heap.size, 0, none⟩) len len) (w' := w.alloc (.cells us.toArray e)) (hn n (Nat.le_refl _) (by omega)) (fun b hb => by obtain ⟨t, sz, rs, h⟩ := hks b hb; rw [h]; simp) rfl
          (fun g hg => by simp only [blk, Option.some.injEq] at hg; exact .inl (by omega)) (fun g hg _ => Below.heap_alloc w _ g hg) (by simp) rfl rfl rfl
          (fun N' hN hh hkN => by
            refine ⟨us, ⟨by rw [hul, ← hlen, hpl], .inr ⟨w.heap.size, len, us.toArray, by rw [← hlen], Nat.zero_le _, heap_alloc_new w _, by omega, ?_, by simp [hul, hpl], ?_⟩⟩, hrs, hall _ N' hN hh fun b hb g hg => ⟨hkN b hb g hg ?_, ?_⟩⟩
            · have : len ≤ len * te.size := Nat.le_mul_of_pos_right _ hpos
              simp only [maxLen]; omega
            · rw [List.take_of_length_le (by simp [hul, hpl, ← hlen])]
            · obtain ⟨t2, sz2, rs2, h2⟩ := hks b hb
              have := (hr.boxes b).lt (by rw [h2]; simp) hg
              simp only [blk, Option.some.injEq, ne_eq]; omega
            · obtain ⟨t2, sz2, rs2, h2⟩ := hks b hb
              exact Below.heap_alloc w _ g ((hr.boxes b).lt (by rw [h2]; simp) hg))
        exact hK' _ β' _ h7 h8 (.inr ⟨Nat.le_refl _, Nat.lt_succ_self _⟩)
  · exact h.elim
end Eng
