/- The steps are sound: append, make, comparison with nil. -/
import Derived.Test.YtafglmjadbplcaaGreatDoorEngC6
namespace Eng
open Go Go.RowKit

variable {P : Program} {o : Oper} {l : List (Nat × SV)} {m : List (Nat × Box)} {n : Nat}

theorem flat_len {sz : Nat} {rs : List (List DV)} (h : ∀ r ∈ rs, r.length = sz) : rs.flatten.length = rs.length * sz := by
  induction rs with
  | nil => simp
  | cons r rs ih =>
    rw [List.flatten_cons, List.length_append, ih fun r hr => h r (by simp [hr]), h r (by simp), List.length_cons, Nat.succ_mul]; omega

theorem DRd.lst_inv' {w : World} {N : Nat → Prop} {sz : Nat} {rs : List (List DV)} {v : Value} (h : DRd w N (.lst sz rs) v) : ∃ (A : Option Addr) (cap : Nat) (us : Nat → Value), v = .slice A rs.length cap ∧ (∀ r ∈ rs, r.length = sz) ∧ (rs ≠ [] → ∃ ad, A = some ad ∧ N ad.block) ∧
    (∀ ad, A = some ad → ∀ j d, rs.flatten[j]? = some d → w.cell? (ad.add j) = some (us j)) ∧ ∀ j d, rs.flatten[j]? = some d → DRd w N d (us j) := by
  cases h with
  | lst _ _ A cap us h1 h2 h3 h4 h5 => exact ⟨A, cap, us, rfl, h1, h3, h4, h5⟩

theorem run_eq_nil {t e : TypeId} {A : Option Addr} {n c : Nat} {w : World} (ht : P.underlying t = some (.slice e)) (d : Nat) : (Op.equalIn (d + 1) t (.slice A n c) (.slice none 0 0)).run P w = .ok A.isNone w := by
  cases A <;> simp [Op.equalIn, run_underlying ht]

theorem ok_nilcmp {t t' : TypeId} {e : Nat} {ti : TI} (hti : ti.Ok P t) (hk : ti.kind = .slice e) {x y : Operand} {sz s : Nat} {rs : List (List DV)} (ho : o.op = .binOp .eql t x y t') (hx : ev l x = .one (.dv (.lst sz rs))) (hy : ev l y = .one (.nil s)) :
    OpOk P o l m n (.one (.anyb (rs = []))) [] n := by
  have hu := kind_slice hti hk
  refine ok_value fun w0 X Z nt A β a w hr => ?_
  have h1 := (hr.ev x).1
  have h2 := (hr.ev y).1
  rw [hx] at h1
  rw [hy] at h2
  simp only [SRd, CRd] at h1 h2
  have hg := run_eqGuard (P := P) (op := .eql) (t := t) (X := x) (Y := y) (v := .slice none 0 0) (w' := w) h1
  obtain ⟨A0, cap, us, e1, h3, h4, h5, h6⟩ := h1.lst_inv'
  rw [e1] at hg
  refine ⟨.bool A0.isNone, ?_, ⟨_, rfl, fun hb => ?_⟩, trivial⟩
  · simp only [execOp, ho, h2, e1]
    refine run_v ?_
    rw [Sem.run_bind, hg]
    simp only [Result.andThen_ok]
    have : (Op.equal t (.slice A0 rs.length cap) (.slice none 0 0)).run P w = .ok A0.isNone w := run_eq_nil hu 9999
    simp [Go.binOp, Sem.run_bind, this]
  · rcases rs with _ | ⟨r, rs⟩
    · rfl
    · obtain ⟨ad, e, _⟩ := h4 (by simp)
      rw [e] at hb; cases hb

theorem run_append_of_nil' (w : World) (base : Nat) (t ty e : TypeId) (i : TypeInfo) (size : Nat) (ht : P.underlying t = some (.slice e)) (hi : P.info? e = some i)
    (v : Value) (n : Nat) (xs : List Value) (hown : w.ownsRow base e size v n xs) (c : Nat) : (Builtin.append_ #[t, t] ty #[v, .slice none 0 c]).run P w = .ok v w := by
  rcases hown.2 with ⟨rfl, rfl⟩ | ⟨g, cap, cur, rfl, _, _, hnc, _⟩
  · simp [Builtin.append_, run_underlying ht, Go.sizeOf, typeInfo, hi, Builtin.lenOf, Builtin.firstCells]
  · simp [Builtin.append_, run_underlying ht, Go.sizeOf, typeInfo, hi, Builtin.lenOf, Builtin.firstCells, hnc, storeCells]

/-- what append reads -/
structure Src (w : World) (N : Nat → Prop) (sz : Nat) (rs : List (List DV)) (v : Value) (xs : List Value) : Prop where
  val : ∃ A cap, v = .slice A rs.length cap ∧ (A = none → rs = []) ∧ ∀ ad, A = some ad → ∀ j u, xs[j]? = some u → w.cell? (ad.add j) = some u
  len : xs.length = rs.length * sz
  rows : ∀ r ∈ rs, r.length = sz
  one : ∀ u ∈ xs, u.oneCell' = true
  rd : All2 (DRd w N) rs.flatten xs

theorem All2.of_get {α β : Type} {R : α → β → Prop} {f : Nat → β} : ∀ {l : List α} {k : Nat}, (∀ j a, l[j]? = some a → R a (f (k + j))) → All2 R l ((List.range' k l.length).map f) := by
  intro l
  induction l with
  | nil => intro k _; trivial
  | cons a l ih =>
    intro k h
    refine ⟨h 0 a rfl, ih fun j b hj => ?_⟩
    have := h (j + 1) b (by simpa using hj)
    rwa [show k + 1 + j = k + (j + 1) by omega]
theorem All2.one {w : World} {N : Nat → Prop} : ∀ {ds : List DV} {us : List Value}, All2 (DRd w N) ds us → ∀ u ∈ us, u.oneCell' = true := by
  intro ds
  induction ds with
  | nil => intro us h; cases us with
    | nil => intro u hu; cases hu
    | cons => exact h.elim
  | cons d ds ih => intro us h; cases us with
    | nil => exact h.elim
    | cons u us =>
      intro v hv
      rcases List.mem_cons.1 hv with rfl | hv
      · exact DRd.oneCell h.1
      · exact ih h.2 v hv

theorem srcW_ok {sz : Nat} {x : SV} {k : List (List DV) → List Nat → Prop} (h : srcW m sz x k) : ∃ rs ft, k rs ft ∧
    (∀ (m' : List (Nat × Box)) (k' : List (List DV) → List Nat → Prop), (∀ b, x = .one (.row b) → lkb m' b = lkb m b) → k' rs ft → srcW m' sz x k') ∧
    ∀ (w : World) (N : Nat → Prop) (β : Nat → Value) (v : Value), SRd w N m β x v → (∀ b, BRd w N m β (lkb m b) (β b)) → ∃ xs, Src w N sz rs v xs := by
  unfold srcW at h
  split at h
  · refine ⟨_, _, h, fun _ _ _ hk => hk, fun w N β v hv _ => ⟨[], ⟨none, 0, ?_, fun _ => rfl, fun ad e => by cases e⟩, by simp, by simp, by simp, trivial⟩⟩
    exact hv
  · rename_i s rs
    split at h
    · rename_i hs
      have e := Nat.eq_of_beq_eq_true hs
      subst e
      refine ⟨_, _, h, fun m' k' _ hk => by unfold srcW; simp only; rw [hs]; exact hk, fun w N β v hv _ => ?_⟩
      obtain ⟨A, cap, us, e1, h1, h2, h3, h4⟩ := DRd.lst_inv' hv
      have hall : All2 (DRd w N) rs.flatten ((List.range' 0 rs.flatten.length).map us) := All2.of_get fun j d hj => by rw [Nat.zero_add]; exact h4 j d hj
      refine ⟨_, ⟨A, cap, e1, fun hA => ?_, fun ad hA j u hj => ?_⟩, by simp [flat_len h1], h1, hall.one, hall⟩
      · rcases rs with _ | ⟨r, rs⟩
        · rfl
        · obtain ⟨ad, e, _⟩ := h2 (by simp)
          rw [e] at hA; cases hA
      · have hj' : j < rs.flatten.length := by have := (List.getElem?_eq_some_iff.1 hj).1; simpa using this
        have := h3 ad hA j _ (List.getElem?_eq_getElem hj')
        rw [this]
        rw [List.getElem?_map, List.getElem?_range' hj'] at hj
        simpa using hj
    · exact h.elim
  · rename_i b
    split at h
    · rename_i t s rs hb
      split at h
      · rename_i hs
        have e := Nat.eq_of_beq_eq_true hs
        subst e
        refine ⟨_, _, h, fun m' k' hm hk => by unfold srcW; simp only; rw [hm b rfl, hb]; simp only; rw [hs]; exact hk, fun w N β v hv hbx => ?_⟩
        have e := hv.2 (by rw [hb]; simp)
        have h1 := hbx b
        rw [hb] at h1
        obtain ⟨xs, ho, hl, ha⟩ := h1
        subst e
        refine ⟨xs, ?_, ho.1, hl, ha.one, ha⟩
        rcases ho.2 with ⟨e, h0⟩ | ⟨g, cap, cur, e, _, hg, hn, _, hsz, htk⟩
        · refine ⟨none, 0, by rw [e, h0], fun _ => List.eq_nil_of_length_eq_zero h0, fun ad e => (by cases e)⟩
        · refine ⟨some ⟨g, 0, none⟩, cap, e, fun e' => (by cases e'), fun ad had j u hj => ?_⟩
          exact ho.cells (g := g) (by rw [e]; rfl) j u hj |> fun h => by injection had with had; subst had; exact h
      · exact h.elim
    · exact h.elim
  · exact h.elim

theorem blk_own {v : Value} (h : ∃ A n c, v = .slice A n c) : blk v = v.ownBlock := by
  obtain ⟨A, n, c, rfl⟩ := h
  cases A <;> rfl

theorem run_app (w : World) {t ty e : TypeId} {te : TI} (ht : P.underlying t = some (.slice e)) (hte : te.Ok P e) (hpos : 0 < te.size) {v : Value} {k : Nat} {xs : List Value} (hown : w.ownsRow 0 e te.size v k xs)
    {N : Nat → Prop} {rs : List (List DV)} {y : Value} {news : List Value} (hs : Src w N te.size rs y news) (h63 : k + rs.length ≤ 9223372036854775807) (hby : (k + rs.length) * te.bytes ≤ 140737488355328) :
    ∃ v' w', (Builtin.append_ #[t, t] ty #[v, y]).run P w = .ok v' w' ∧ w'.ownsRow 0 e te.size v' (k + rs.length) (xs ++ news) ∧ w.grownBy w' v.ownBlock ∧ (v'.ownBlock = v.ownBlock ∨ v'.ownBlock = some w.heap.size) := by
  obtain ⟨i, z, hi, hi2, hi3, hz, _, hzs⟩ := hte.info
  obtain ⟨A, cap, rfl, hA, hc⟩ := hs.val
  cases A with
  | none =>
    have := hA rfl
    subst this
    have hn : news = [] := List.eq_nil_of_length_eq_zero (by rw [hs.len]; simp)
    subst hn
    exact ⟨v, w, run_append_of_nil' w 0 t ty e i te.size ht hi v k xs hown cap, by simpa using hown, ⟨rfl, rfl, rfl, Nat.le_refl _, fun _ _ _ => rfl⟩, .inl rfl⟩
  | some ad =>
    obtain ⟨v', w', h1, h2, h3, _, h5⟩ := run_append_own_at (P := P) w 0 t ty e i z te.size te.bytes ht hi hz hi2 hi3 hzs hpos v k xs hown ad rs.length cap news hs.len (hc ad rfl) hs.one (by simp only [maxLen]; omega) hby (Nat.zero_le _)
    exact ⟨v', w', h1, h2, h3, h5⟩

theorem ok_append {T : List (Nat × TI)} (hT : TabOk P T) {t : Nat} {ti : TI} (hti : ti.Ok P t) {c : Call} {x y : Operand} {K : KO} (ho : o.op = .call c) (hc : c.callee = .builtin .append) (ha : c.args.toList = [x, y]) (ht : c.argTypes.toList = [t, t])
    (h : appendW T ti (evT T t l x) (evT T t l y) m n K) : ∃ v upd n' ft, n ≤ n' ∧ OpOk P o l m n v upd n' ∧ K v upd n' ft := by
  have ha' : c.args = #[x, y] := by rw [← Array.toArray_toList (xs := c.args), ha]
  have ht' : c.argTypes = #[t, t] := by rw [← Array.toArray_toList (xs := c.argTypes), ht]
  unfold appendW at h
  split at h
  · rename_i e hk
    have hu := kind_slice hti hk
    split at h
    · exact h.elim
    · rename_i te hte
      have hte := hT e te hte
      split at h
      · exact h.elim
      · rename_i hpos
        have hpos := blt_iff.1 hpos
        obtain ⟨news, ft, h, _, hsrc⟩ := srcW_ok h
        have hrun : ∀ {a : Act} {w w' : World} {v : Value}, (Builtin.append_ #[t, t] o.type #[a.eval x, a.eval y]).run P w = .ok v w' → (execOp a.eval o).run P w = .ok (.value v) w' := by
          intro a w w' v hv
          simp only [execOp, ho]
          simp [resolve, hc, ha', ht', invoke, builtin, Sem.run_bind, hv]
        split at h
        · rename_i s hx
          refine ⟨_, _, _, _, Nat.le_succ _, ?_, h.2⟩
          intro w0 X Z nt A β a w hr hn K' Q hK'
          have hvx := (hr.evT T t x).1
          rw [hx] at hvx
          simp only [SRd, CRd] at hvx
          obtain ⟨xs, hs⟩ := hsrc w _ β _ (hr.evT T t y).1 hr.boxes
          obtain ⟨v', w', h1, h2, h3, h4⟩ := run_app (ty := o.type) w hu hte hpos (World.ownsRow_nil w 0 e te.size) hs (by omega) (by rw [Nat.zero_add]; exact h.1.2)
          simp only [Nat.zero_add, List.nil_append] at h2
          unfold Oper.wp
          rw [hrun (by rw [hvx]; exact h1)]
          have hbv : blk v' = v'.ownBlock := blk_own (by rcases h2.2 with ⟨e, _⟩ | ⟨g, cap, cur, e, _⟩ <;> exact ⟨_, _, _, e⟩)
          obtain ⟨β', h7, h8⟩ := hr.newRow (n := n) (e := e) (sz := te.size) (rs := news) (ks := []) (v := v') (w' := w') (hn n (Nat.le_refl _) (by omega)) (by simp) (by rcases h2.2 with ⟨e, _⟩ | ⟨g, cap, cur, e, _⟩ <;> (rw [e]; rfl))
            (fun g hg => by
              rw [hbv] at hg
              rcases h4 with h4 | h4
              · rw [h4] at hg; simp [Value.ownBlock] at hg
              · rw [h4] at hg; injection hg with hg; exact .inl (by omega))
            (fun g hg _ => h3.block g hg (by simp [Value.ownBlock])) h3.size h3.os h3.tape h3.output
            (fun N' hN hh _ => ⟨xs, h2, hs.rows, hs.rd.mono fun d _ v hv => hv.mono hN hh⟩)
          exact hK' _ β' _ h7 h8 (.inr ⟨Nat.le_refl _, Nat.lt_succ_self _⟩)
        · rename_i b hx
          split at h
          · rename_i tb s rs hb
            split at h
            · exact h.elim
            · rename_i hchk
              rw [Bool.and_eq_true] at hchk
              have e1 := Nat.eq_of_beq_eq_true hchk.1
              have e2 := Nat.eq_of_beq_eq_true hchk.2
              subst e1 e2
              refine ⟨_, _, _, _, Nat.le_succ _, ?_, h.2⟩
              intro w0 X Z nt A β a w hr hn K' Q hK'
              have hvx := (hr.evT T t x).1
              rw [hx] at hvx
              have hvx := hvx.2 (by rw [hb]; simp)
              obtain ⟨xs, hs⟩ := hsrc w _ β _ (hr.evT T t y).1 hr.boxes
              have hbx := hr.boxes b
              rw [hb] at hbx
              obtain ⟨ys, ho', hl', ha'⟩ := hbx
              have hlen := h.1
              rw [List.length_append] at hlen
              obtain ⟨v', w', h1, h2, h3, h4⟩ := run_app (ty := o.type) w hu hte hpos ho' hs hlen.1 hlen.2
              unfold Oper.wp
              rw [hrun (by rw [hvx]; exact h1)]
              have hbv : blk v' = v'.ownBlock := blk_own (by rcases h2.2 with ⟨e, _⟩ | ⟨g, cap, cur, e, _⟩ <;> exact ⟨_, _, _, e⟩)
              have hbβ : blk (β b) = (β b).ownBlock := blk_own (by rcases ho'.2 with ⟨e, _⟩ | ⟨g, cap, cur, e, _⟩ <;> exact ⟨_, _, _, e⟩)
              obtain ⟨β', h7, h8⟩ := hr.newRow (n := n) (e := tb) (sz := te.size) (rs := rs ++ news) (ks := [b]) (v := v') (w' := w') (hn n (Nat.le_refl _) (by omega)) (by simp [hb]) (by rcases h2.2 with ⟨e, _⟩ | ⟨g, cap, cur, e, _⟩ <;> (rw [e]; rfl))
                (fun g hg => by
                  rw [hbv] at hg
                  rcases h4 with h4 | h4
                  · rw [h4, ← hbβ] at hg; exact .inr ⟨b, by simp, hg⟩
                  · rw [h4] at hg; injection hg with hg; exact .inl (by omega))
                (fun g hg hne => h3.block g hg (by rw [← hbβ]; exact fun e => hne b (by simp) e.symm)) h3.size h3.os h3.tape h3.output
                (fun N' hN hh _ => ⟨ys ++ xs, by rw [List.length_append]; exact h2, fun r hr => (List.mem_append.1 hr).elim (hl' r) (hs.rows r), by
                  rw [List.flatten_append]
                  exact (ha'.mono fun d _ v hv => hv.mono hN hh).append (hs.rd.mono fun d _ v hv => hv.mono hN hh)⟩)
              exact hK' _ β' _ h7 h8 (.inr ⟨Nat.le_refl _, Nat.lt_succ_self _⟩)
          · exact h.elim
        · exact h.elim
  · exact h.elim

theorem toDp_zero {cs : List CV} {vs : List Value} (hz : zBs cs vs = true) {k : List DV → Prop} (h : toDp cs k) : ∃ ds, k ds ∧ ds.length = cs.length ∧ (∀ k' : List DV → Prop, k' ds → toDp cs k') ∧ ∀ (w : World) (N : Nat → Prop), All2 (DRd w N) ds vs := by
  induction cs generalizing vs k with
  | nil => cases vs with
    | nil => exact ⟨[], h, rfl, fun _ h => h, fun _ _ => trivial⟩
    | cons => simp [zBs] at hz
  | cons c cs ih => cases vs with
    | nil => simp [zBs] at hz
    | cons v vs =>
      simp only [zBs, Bool.and_eq_true] at hz
      cases c with
      | dv d =>
        obtain ⟨ds, h1, h2, h3, h4⟩ := ih hz.2 h
        exact ⟨d :: ds, h1, by simp [h2], fun k' hk => h3 _ hk, fun w N => ⟨(zB_ok hz.1 w N [] (fun _ => undef) (fun _ => True)).1, h4 w N⟩⟩
      | nil sz =>
        obtain ⟨ds, h1, h2, h3, h4⟩ := ih hz.2 h
        refine ⟨_, h1, by simp [h2], fun k' hk => h3 _ hk, fun w N => ⟨?_, h4 w N⟩⟩
        have := (zB_ok hz.1 w N [] (fun _ => undef) (fun _ => True)).1
        simp only [CRd] at this
        rw [this]; exact DRd.nilS _ _ _
      | _ => exact h.elim

theorem made_take (z : Array Value) (hz : 0 < z.size) (k j : Nat) (h : j ≤ k) : (madeCells z (k * z.size)).toList.take (j * z.size) = (List.replicate j z.toList).flatten := by
  apply List.ext_getElem?
  intro i
  rw [List.getElem?_take]
  have hkj : j * z.size ≤ k * z.size := Nat.mul_le_mul_right _ h
  have hl : ((List.replicate j z.toList).flatten).length = j * z.size := by simp
  by_cases hi : i < j * z.size
  · rw [if_pos hi]
    have h1 : (List.replicate j z.toList).flatten[i]? = z.toList[i % z.size]? := by
      clear hl hkj h
      induction j generalizing i with
      | zero => simp at hi
      | succ j ih =>
        rw [List.replicate_succ, List.flatten_cons]
        by_cases hlt : i < z.size
        · rw [List.getElem?_append_left (by simpa using hlt), Nat.mod_eq_of_lt hlt]
        · rw [List.getElem?_append_right (by simpa using hlt)]
          rw [Nat.succ_mul] at hi
          rw [Array.length_toList, ih (i - z.size) (by omega), ← Nat.mod_eq_sub_mod (by omega)]
    rw [h1]
    have hm := Nat.mod_lt i hz
    simp [madeCells, Nat.lt_of_lt_of_le hi hkj, hm]
  · rw [if_neg hi, List.getElem?_eq_none (by omega)]

theorem All2.rep {w : World} {N : Nat → Prop} {ds : List DV} {us : List Value} (h : All2 (DRd w N) ds us) (k : Nat) : All2 (DRd w N) (List.replicate k ds).flatten (List.replicate k us).flatten := by
  induction k with
  | zero => trivial
  | succ k ih => rw [List.replicate_succ, List.replicate_succ, List.flatten_cons, List.flatten_cons]; exact h.append ih

theorem ok_make {T : List (Nat × TI)} (hT : TabOk P T) {t : Nat} {ti : TI} (hti : ti.Ok P t) {x y : Operand} {k1 k2 : IntKind} {p q : Int} {K : KO} (ho : o.op = .makeSlice t x y) (hx : ev l x = .one (.dv (.int k1 p))) (hy : ev l y = .one (.dv (.int k2 q)))
    (h : makeW T ti p q n K) : ∃ v upd n' ft, n ≤ n' ∧ OpOk P o l m n v upd n' ∧ K v upd n' ft := by
  unfold makeW at h
  split at h
  · rename_i e hk
    have hu := kind_slice hti hk
    split at h
    · exact h.elim
    · rename_i te hte
      have hte := hT e te hte
      split at h
      · exact h.elim
      · rename_i hpos
        have hpos := blt_iff.1 hpos
        obtain ⟨i, z, hi, hi2, hi3, hz, hzB, hzs⟩ := hte.info
        obtain ⟨ds, ⟨⟨g1, g2, g3, g4⟩, hK⟩, hdl, _, hdr⟩ := toDp_zero hzB h
        refine ⟨_, _, _, _, Nat.le_succ _, ?_, hK⟩
        intro w0 X Z nt A β a w hr hn K' Q hK'
        have h1 := (hr.ev x).1
        have h2 := (hr.ev y).1
        rw [hx] at h1
        rw [hy] at h2
        have e1 := DRd.int_inv h1
        have e2 := DRd.int_inv h2
        have hrun := run_make (P := P) w t e i z hu hi hz k1 k2 p q g1 g2 (by rw [hi3]; exact g3) g4
        have hdz : ds.length = te.size := by
          have := (hdr w (fun _ => True)).length
          rw [this]; simpa using hzs
        unfold Oper.wp
        rw [show (execOp a.eval o).run P w = .ok (.value (.slice (some ⟨w.heap.size, 0, none⟩) p.toNat q.toNat)) (w.alloc (.cells (madeCells z.cells (q.toNat * i.size)) e)) by
          simp only [execOp, ho, e1, e2]; exact run_v hrun]
        obtain ⟨β', h7, h8⟩ := hr.newRow (n := n) (e := e) (sz := te.size) (rs := List.replicate p.toNat ds) (ks := []) (v := .slice (some ⟨w.heap.size, 0, none⟩) p.toNat q.toNat) (w' := w.alloc (.cells (madeCells z.cells (q.toNat * i.size)) e)) (hn n (Nat.le_refl _) (by omega)) (by simp) rfl
          (fun g hg => by simp only [blk, Option.some.injEq] at hg; exact .inl (by omega)) (fun g hg _ => Below.heap_alloc w _ g hg) (by simp) rfl rfl rfl
          (fun N' hN hh hkN => by
            refine ⟨(List.replicate p.toNat z.cells.toList).flatten, ⟨by simp [hzs], .inr ⟨w.heap.size, q.toNat, _, by simp, Nat.zero_le _, heap_alloc_new w _, by simp; omega, by simp only [maxLen]; omega, by rw [size_madeCells, hi2], ?_⟩⟩, fun r hr => ?_, (hdr _ N').rep _⟩
            · rw [hi2, ← hzs, List.length_replicate]
              exact made_take _ (by omega) _ _ (by omega)
            · rw [List.eq_of_mem_replicate hr, hdz])
        exact hK' _ β' _ h7 h8 (.inr ⟨Nat.le_refl _, Nat.lt_succ_self _⟩)
  · exact h.elim
end Eng
