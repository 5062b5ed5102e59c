/- The steps are sound: values that are built, slices that are made. -/
import Derived.Test.YthdbdokhncaijaaGreatEngC3
namespace Eng
open Go Go.RowKit

variable {P : Program} {o : Oper} {l : List (Nat × SV)} {m : List (Nat × Box)} {n : Nat}

theorem foldl_set (vs : List Value) : ∀ (j off : Nat) (cs : Array Value), off + j + vs.length ≤ cs.size →
    (vs.zipIdx j).foldl (fun cs (p : Value × Nat) => cs.setIfInBounds (off + p.2) p.1) cs = (cs.toList.take (off + j) ++ vs ++ cs.toList.drop (off + j + vs.length)).toArray := by
  induction vs with
  | nil => intro j off cs _; simp
  | cons v vs ih =>
    intro j off cs h
    rw [List.zipIdx_cons, List.foldl_cons, ih (j + 1) off _ (by simp at h ⊢; omega)]
    simp only [List.length_cons] at h
    congr 1
    rw [Array.toList_setIfInBounds, ← Nat.add_assoc]
    have hj : off + j < cs.toList.length := by simp; omega
    have e : cs.toList.set (off + j) v = (cs.toList.take (off + j) ++ [v]) ++ cs.toList.drop (off + j + 1) := by
      rw [List.set_eq_take_append_cons_drop, if_pos hj]; simp
    have hl : (cs.toList.take (off + j) ++ [v]).length = off + j + 1 := by rw [List.length_append, List.length_take]; simp; simp at hj; omega
    rw [e, List.take_left' hl]
    have hd : List.drop (off + j + 1 + vs.length) ((cs.toList.take (off + j) ++ [v]) ++ cs.toList.drop (off + j + 1)) = cs.toList.drop (off + j + 1 + vs.length) := by
      rw [← hl, List.drop_length_add_append, hl, List.drop_drop]
    rw [hd, List.length_cons, show off + j + (vs.length + 1) = off + j + 1 + vs.length by omega]
    simp [List.append_assoc]
theorem fill_step {place : Nat → Option (Nat × Nat)} {cs : Array Value} {i off : Nat} {v : Value} {rest : List (Nat × Value)} (hp : place i = some (off, v.cells.size)) (hb : off + v.cells.size ≤ cs.size) :
    Instr.fill place cs ((i, v) :: rest) = Instr.fill place (cs.toList.take off ++ v.cells.toList ++ cs.toList.drop (off + v.cells.size)).toArray rest := by
  simp only [Instr.fill, hp]
  rw [if_neg (by simp; omega)]
  congr 1
  have := foldl_set v.cells.toList 0 off cs (by simpa using hb)
  simp only [Nat.add_zero] at this
  rw [← Array.foldl_toList, Array.toList_zipIdx]
  simpa using this

theorem cells_size {v : SV} {cs : List CV} {w : World} {N : Nat → Prop} {β : Nat → Value} {A : Nat → Prop} {u : Value} (h : cells v = some cs) (hv : SRd w N m β v u) (hr : RefS A v) : u.cells.size = cs.length := by
  have := (cells_ok h hv hr).1.length
  simpa using this.symm

/-- parts laid into cells: what comes out does not hang on memory -/
theorem partsW_ok {T : List (Nat × TI)} {place : Nat → Option (Nat × Nat)} {ps : List (Nat × Operand)} {cs : List CV} {k : List CV → Prop} (h : partsW T place l ps cs k) : ∃ cs', k cs' ∧
    (∀ (l' : List (Nat × SV)) (k' : List CV → Prop), (∀ p ∈ ps, ev l' p.2 = ev l p.2) → k' cs' → partsW T place l' ps cs k') ∧
    ∀ (w0 : World) (X : Nat → Prop) (Z : Zt) (nt : Nat) (A : Nat → Prop) (β : Nat → Value) (a : Act) (w : World), Rel w0 X Z nt A l m β a w → ∀ (cp : Nat → Option (Nat × Nat)), (∀ i off ft te, place i = some (off, ft) → lkt T ft = some te → cp i = some (off, te.size)) →
      ∀ vs : List Value, All2 (CRd w (Imm Z.p m β w) m β) cs vs → RefCs A cs →
        ∃ vs', Instr.fill cp vs.toArray (ps.map fun p => (p.1, a.eval p.2)) = some vs'.toArray ∧ All2 (CRd w (Imm Z.p m β w) m β) cs' vs' ∧ RefCs A cs' := by
  induction ps generalizing cs k with
  | nil => exact ⟨cs, h, fun _ _ _ hk => hk, fun w0 X Z nt A β a w hr cp hcp vs hv hrf => ⟨vs, rfl, hv, hrf⟩⟩
  | cons p ps ih =>
    obtain ⟨i, x⟩ := p
    simp only [partsW] at h
    split at h
    · exact h.elim
    · rename_i off ft hp
      split at h
      · exact h.elim
      · rename_i te hte
        split at h
        · exact h.elim
        · rename_i vs hvs
          split at h
          · exact h.elim
          · rename_i hlen
            have hlen' := Nat.eq_of_beq_eq_true hlen
            obtain ⟨h, hle⟩ := putL_ok h
            obtain ⟨cs', h1, h2, h3⟩ := ih h
            refine ⟨cs', h1, fun l' k' hl hk => ?_, fun w0 X Z nt A β a w hr cp hcp us hus hrf => ?_⟩
            · simp only [partsW]
              rw [hp]; simp only
              rw [hte]; simp only
              have : evT T ft l' x = evT T ft l x := by
                unfold evT; split
                · rfl
                · exact hl (i, x) (by simp)
              rw [this, hvs]; simp only
              rw [hlen]; simp only
              have mk : ∀ {old new : List CV} {off : Nat} {k : List CV → Prop}, off + new.length ≤ old.length → k (old.take off ++ new ++ old.drop (off + new.length)) → putL old off new k := by
                intro old
                induction old with
                | nil => intro new off k hl h; cases off with
                  | zero => cases new with
                    | nil => simpa [putL] using h
                    | cons v vs => simp at hl
                  | succ off => simp at hl
                | cons c cs ih => intro new off k hl h; cases off with
                  | zero => cases new with
                    | nil => simpa [putL] using h
                    | cons v vs => exact ih (by simpa using hl) (by simpa using h)
                  | succ off => exact ih (by simp at hl; omega) (by simpa [Nat.succ_add] using h)
              exact mk hle (h2 l' k' (fun p hp => hl p (by simp [hp])) hk)
            · obtain ⟨q1, q2⟩ := hr.evT T ft x
              obtain ⟨q3, q4⟩ := cells_ok hvs q1 q2
              have q5 := q3.length
              have hsz : (a.eval x).cells.size = te.size := by rw [← hlen', q5]; simp
              have hul := hus.length
              have q6 : off + (a.eval x).cells.size ≤ us.toArray.size := by rw [hsz, ← hlen']; simp; omega
              have hstep := fill_step (place := cp) (cs := us.toArray) (i := i) (off := off) (v := a.eval x) (rest := ps.map fun p => (p.1, a.eval p.2)) (by rw [hsz]; exact hcp i off ft te hp hte) q6
              have hall := ((hus.take off).append q3).append (hus.drop (off + vs.length))
              obtain ⟨vs', e1, e2, e3⟩ := h3 w0 X Z nt A β a w hr cp hcp _ hall (fun c hc => by
                rcases List.mem_append.1 hc with hc | hc
                · rcases List.mem_append.1 hc with hc | hc
                  · exact hrf c (List.mem_of_mem_take hc)
                  · exact q4 c hc
                · exact hrf c (List.mem_of_mem_drop hc))
              refine ⟨vs', ?_, e2, e3⟩
              rw [List.map_cons, hstep]
              rw [show off + (a.eval x).cells.size = off + vs.length by rw [hsz, hlen']]
              simpa using e1

theorem run_zero {t : Nat} {ti : TI} (hti : ti.Ok P t) (w : World) : ∃ z, (zeroValue t).run P w = .ok z w ∧ zBs ti.zero z.cells.toList = true ∧ z.cells.size = ti.size := by
  obtain ⟨i, z, h1, _, _, h4, h5, h6⟩ := hti.info
  exact ⟨z, by simp [zeroValue, typeInfo, h1, h4], h5, h6⟩

theorem run_places {F : Array Field} (hF : ∀ f ∈ F.toList, (P.info? f.type).isSome = true) (w : World) :
    ∃ pl : Array (Nat × Nat), (F.mapM (m := Sem) fun f => do pure (f.offset, ← Go.sizeOf f.type)).run P w = .ok pl w ∧ ∀ (i : Nat) (f : Field) (inf : TypeInfo), F[i]? = some f → P.info? f.type = some inf → pl[i]? = some (f.offset, inf.size) := by
  have key : ∀ (fs : List Field), (∀ f ∈ fs, (P.info? f.type).isSome = true) → ∃ pl : List (Nat × Nat), (fs.mapM (m := Sem) fun f => do pure (f.offset, ← Go.sizeOf f.type)).run P w = .ok pl w ∧ ∀ (i : Nat) (f : Field) (inf : TypeInfo), fs[i]? = some f → P.info? f.type = some inf → pl[i]? = some (f.offset, inf.size) := by
    intro fs
    induction fs with
    | nil => intro _; exact ⟨[], rfl, by simp⟩
    | cons f fs ih =>
      intro h
      obtain ⟨pl, h1, h2⟩ := ih fun g hg => h g (by simp [hg])
      obtain ⟨inf, hinf⟩ := Option.isSome_iff_exists.1 (h f (by simp))
      refine ⟨(f.offset, inf.size) :: pl, ?_, fun i g inf' hi hg => ?_⟩
      · rw [List.mapM_cons, Sem.run_bind]
        have : (do pure (f.offset, ← Go.sizeOf f.type) : Sem (Nat × Nat)).run P w = .ok (f.offset, inf.size) w := by simp [Go.sizeOf, typeInfo, hinf]
        rw [this]
        simp only [Result.andThen_ok]
        rw [Sem.run_bind, h1]; rfl
      · cases i with
        | zero => simp at hi; subst hi; rw [hinf] at hg; injection hg with hg; subst hg; rfl
        | succ i => simpa using h2 i g inf' (by simpa using hi) hg
  obtain ⟨pl, h1, h2⟩ := key F.toList hF
  refine ⟨pl.toArray, ?_, fun i f inf hi hf => ?_⟩
  · rw [Array.mapM_eq_mapM_toList, map_eq_pure_bind, Sem.run_bind, h1]; rfl
  · simpa using h2 i f inf (by simpa using hi) hf

theorem ok_build {T : List (Nat × TI)} (hT : TabOk P T) {t : Nat} {ti : TI} (hti : ti.Ok P t) {parts : Array (Nat × Operand)} {K : SV → Prop} (ho : o.op = .build t parts) (h : buildW T ti l parts.toList K) : ∃ v, K v ∧ OpOk P o l m n v [] n := by
  unfold buildW at h
  split at h
  · exact h.elim
  · rename_i hagg
    obtain ⟨cs', hK, _, hrun⟩ := partsW_ok (m := m) h
    refine ⟨_, hK, ok_value fun w0 X Z nt A β a w hr => ?_⟩
    obtain ⟨z, hz1, hz2, hz3⟩ := run_zero hti w
    obtain ⟨hz4, hz5⟩ := zBs_ok hz2 w (Imm Z.p m β w) m β A
    have hparts : (parts.map fun p => (p.1, a.eval p.2)).toList = parts.toList.map fun p => (p.1, a.eval p.2) := by simp
    cases hk : ti.kind with
    | struct fs =>
      obtain ⟨F, hu, hF, hFi⟩ := kind_struct hti hk
      obtain ⟨pl, hp1, hp2⟩ := run_places hFi w
      obtain ⟨vs', e1, e2, e3⟩ := hrun w0 X Z nt A β a w hr (pl[·]?) (fun i off ft te hp hte => by
        simp only [placeOf, hk] at hp
        rw [← hF, List.getElem?_map, Option.map_eq_some_iff] at hp
        obtain ⟨f, hf, e⟩ := hp
        simp only [Prod.mk.injEq] at e
        obtain ⟨rfl, rfl⟩ := e
        obtain ⟨inf, _, hi1, hi2, _⟩ := (hT _ te hte).info
        rw [← hi2]
        exact hp2 i f inf (by simpa using hf) hi1) z.cells.toList hz4 hz5
      refine ⟨.agg vs'.toArray, ?_, ⟨_, rfl, by simpa using e2⟩, e3⟩
      simp only [execOp, ho]
      refine run_v ?_
      simp only [Array.toArray_toList] at e1
      simp only [Instr.build, Sem.run_bind, hz1, Result.andThen_ok, run_underlying hu, hp1]
      simp only [hparts, e1]
      rfl
    | arr k e =>
      have hu := kind_arr hti hk
      have hes : ∃ s, (Go.sizeOf e).run P w = .ok s w ∧ ∀ te, lkt T e = some te → te.size = s := by
        obtain ⟨inf, hinf⟩ := kind_arr_info hti hk
        refine ⟨inf.size, by simp [Go.sizeOf, typeInfo, hinf], fun te hte => ?_⟩
        obtain ⟨i', _, h1, h2, _⟩ := (hT e te hte).info
        rw [hinf] at h1; injection h1 with h1; subst h1; exact h2.symm
      obtain ⟨s, hs1, hs2⟩ := hes
      obtain ⟨vs', e1, e2, e3⟩ := hrun w0 X Z nt A β a w hr (fun i => some (i * s, s)) (fun i off ft te hp hte => by
        simp only [placeOf, hk] at hp
        split at hp
        · rename_i te' hte'
          simp only [Option.some.injEq, Prod.mk.injEq] at hp
          obtain ⟨rfl, rfl⟩ := hp
          rw [hte] at hte'; injection hte' with hte'; subst hte'
          rw [hs2 _ hte]
        · cases hp) z.cells.toList hz4 hz5
      refine ⟨.agg vs'.toArray, ?_, ⟨_, rfl, by simpa using e2⟩, e3⟩
      simp only [execOp, ho]
      refine run_v ?_
      simp only [Array.toArray_toList] at e1
      simp only [Instr.build, Sem.run_bind, hz1, Result.andThen_ok, run_underlying hu, hs1]
      simp only [hparts, e1]
      rfl
    | _ => rw [hk] at hagg; cases hagg

theorem ok_fieldV {T : List (Nat × TI)} (hT : TabOk P T) {t f : Nat} {ti : TI} (hti : ti.Ok P t) {x : Operand} {K : SV → Prop} (ho : o.op = .field t x f) (h : fieldW T ti f (ev l x) K) : ∃ v, K v ∧ OpOk P o l m n v [] n := by
  unfold fieldW at h
  split at h
  · rename_i fs hk
    obtain ⟨F, hu, hF, _⟩ := kind_struct hti hk
    split at h
    · exact h.elim
    · rename_i off ft hf
      split at h
      · exact h.elim
      · rename_i te hte
        have hte := hT ft te hte
        split at h
        · rename_i cs hx
          obtain ⟨v, hK, hv⟩ := ldC_ok h
          rw [← hF, List.getElem?_map, Option.map_eq_some_iff] at hf
          obtain ⟨fd, hfd, e⟩ := hf
          simp only [Prod.mk.injEq] at e
          obtain ⟨rfl, rfl⟩ := e
          have hfd' : F[f]? = some fd := by simpa using hfd
          refine ⟨v, hK, ok_value fun w0 X Z nt A β a w hr => ?_⟩
          obtain ⟨h1, h2⟩ := hr.ev x
          rw [hx] at h1 h2
          obtain ⟨us, e, hall⟩ := h1
          have hall' := hall.drop fd.offset
          have run : ∀ u, (part fd.type us fd.offset).run P w = .ok u w → (execOp a.eval o).run P w = .ok (.value u) w := by
            intro u hp
            simp only [execOp, ho, e]
            refine run_v ?_
            simp [Instr.field, Sem.run_bind, run_underlying hu, hfd', asAgg, hp]
          rcases hv with ⟨ha, rfl, hl⟩ | ⟨ha, c, rest, hc, rfl⟩
          · refine ⟨.agg (us.extract fd.offset (fd.offset + te.size)), run _ ?_, ⟨_, rfl, ?_⟩, fun c hc => h2 c (List.mem_of_mem_drop (List.mem_of_mem_take hc))⟩
            · simp [part, Sem.run_bind, run_isAgg hte, ha, run_sizeOf' hte]
            · have := hall'.take te.size
              simpa [Array.toList_extract, List.extract_eq_take_drop] using this
          · rw [hc] at hall'
            cases hd : us.toList.drop fd.offset with
            | nil => rw [hd] at hall'; exact hall'.elim
            | cons u rest' =>
              rw [hd] at hall'
              refine ⟨u, run u ?_, hall'.1, h2 c (List.mem_of_mem_drop (i := fd.offset) (by rw [hc]; simp))⟩
              have hu1 : us[fd.offset]? = some u := by
                have : (us.toList.drop fd.offset)[0]? = some u := by rw [hd]; rfl
                rw [List.getElem?_drop] at this
                simpa using this
              simp [part, Sem.run_bind, run_isAgg hte, ha, hu1]
        · exact h.elim
  · exact h.elim

theorem ok_conv {ts td : Nat} {tis tid : TI} (hs : tis.Ok P ts) (hd : tid.Ok P td) {x : Operand} {K : SV → Prop} (ho : o.op = .convert ts td x) (h : convW tis tid (ev l x) K) : ∃ v, K v ∧ OpOk P o l m n v [] n := by
  have hus : ∃ d, P.underlying ts = some d := by
    have := hs.kind
    generalize tis.kind = k at this
    cases k <;> simp only [TK.okB] at this <;> split at this <;> first | (cases this; done) | exact ⟨_, ‹_›⟩
  obtain ⟨d, hus⟩ := hus
  unfold convW at h
  split at h
  · rename_i k hk
    have hu := kind_int hd hk
    split at h
    · rename_i k' b hx
      refine ⟨_, h, ok_value fun w0 X Z nt A β a w hr => ⟨.int k (k.wrap b), ?_, .int _ _, trivial⟩⟩
      have h1 := (hr.ev x).1
      rw [hx] at h1
      have e := DRd.int_inv h1
      simp only [execOp, ho, e]
      refine run_v ?_
      simp [Go.convert, Sem.run_bind, run_underlying hus, run_underlying hu, Conv.intToInt]
    · exact h.elim
  · rename_i hk
    have hu := kind_str hd hk
    split at h
    · rename_i hk'
      have hu' := kind_str hs hk'
      split at h
      · rename_i b hx
        refine ⟨_, h, ok_value fun w0 X Z nt A β a w hr => ⟨.string b, ?_, .str _, trivial⟩⟩
        have h1 := (hr.ev x).1
        rw [hx] at h1
        have e := DRd.str_inv h1
        simp only [execOp, ho, e]
        refine run_v ?_
        simp [Go.convert, Sem.run_bind, run_underlying hu', run_underlying hu]
      · exact h.elim
    · rename_i k hk'
      have hu' := kind_int hs hk'
      split at h
      · rename_i k' b hx
        refine ⟨_, h, ok_value fun w0 X Z nt A β a w hr => ⟨.string (Utf8.encode b), ?_, .str _, trivial⟩⟩
        have h1 := (hr.ev x).1
        rw [hx] at h1
        have e := DRd.int_inv h1
        simp only [execOp, ho, e]
        refine run_v ?_
        simp [Go.convert, Sem.run_bind, run_underlying hu', run_underlying hu, Conv.intToString]
      · exact h.elim
    · exact h.elim
  · exact h.elim
theorem ok_arrayAt {t c e sz : Nat} {ti : TI} {x : Operand} {rows : List (List DV)} (ht : ti.Ok P t) (hk : ti.kind = .arr c e) (ho : o.op = .sliceToArrayPointer t x) (hx : ev l x = .one (.dv (.lst sz rows))) (hc : 0 < c ∧ c ≤ rows.length) : OpOk P o l m n (.one (.iptr rows.flatten)) [] n := by
  refine ok_value fun w0 X Z nt A β a w hr => ?_
  have hu := kind_arr ht hk
  have h1 := (hr.ev x).1
  rw [hx] at h1
  generalize hv : a.eval x = v at h1
  cases h1 with
  | lst sz rows Ad cap us hsz hcap hA hcc hd =>
    obtain ⟨ad, rfl, hN⟩ := hA (by rintro rfl; simp at hc; omega)
    refine ⟨.pointer (some ad), ?_, ⟨ad, rfl, hN, fun j d hj => ⟨us j, hcc ad rfl j d hj, hd j d hj⟩⟩, trivial⟩
    simp only [execOp, ho, hv]
    refine run_v ?_
    have : ¬ rows.length < c := by omega
    simp [Instr.arrayAt, run_underlying hu, this]
end Eng
