/- The steps are sound: structs and arrays compared. -/
import Derived.Test.YthdbdokhncaijaaGreatEngC7
import Derived.Laws.StructEq
import Derived.ChangeKeysEq
namespace Eng
open Go Go.RowKit

variable {P : Program} {o : Oper} {l : List (Nat × SV)} {m : List (Nat × Box)} {n : Nat}

/-- a value of these cells -/
def mkV (ti : TI) (xs : List Value) : Value := match ti.kind.agg with
  | true => .agg xs.toArray
  | false => xs.headD undef

theorem run_part {t off : Nat} {ti : TI} (h : ti.Ok P t) {xs : List Value} (hne : ti.kind.agg = false → ((xs.drop off).take ti.size) ≠ []) (w : World) : (part t xs.toArray off).run P w = .ok (mkV ti ((xs.drop off).take ti.size)) w := by
  unfold part
  simp only [Sem.run_bind, run_isAgg h, Result.andThen_ok]
  cases ha : ti.kind.agg with
  | true =>
    simp only [if_true, Sem.run_bind, run_sizeOf' h, Result.andThen_ok, mkV, ha]
    simp
  | false =>
    have := hne ha
    simp only [Bool.false_eq_true, if_false, mkV, ha]
    cases hd : xs.drop off with
    | nil => rw [hd] at this; simp at this
    | cons x rest =>
      have h2 : xs.toArray[off]? = some x := by
        have : xs[off]? = some x := by rw [← List.head?_drop, hd]; rfl
        simpa using this
      rw [h2]
      cases hs : ti.size with
      | zero => rw [hs] at this; simp at this
      | succ k => simp

theorem eqFs_det {T : List (Nat × TI)} {E : Nat → List CV → List CV → (Bool → Prop) → Prop} (hE : ∀ {t : Nat} {cs ds : List CV} {k : Bool → Prop}, E t cs ds k → ∃ r, k r ∧ ∀ k' : Bool → Prop, k' r → E t cs ds k') {cs ds : List CV} : ∀ {fs : List (Nat × Nat)} {k : Bool → Prop}, eqFs T E cs ds fs k → ∃ r, k r ∧ ∀ k' : Bool → Prop, k' r → eqFs T E cs ds fs k' := by
  intro fs
  induction fs with
  | nil => intro k h; exact ⟨true, h, fun _ h => h⟩
  | cons f fs ih =>
    obtain ⟨off, ft⟩ := f
    intro k h
    simp only [eqFs] at h ⊢
    split at h
    · exact h.elim
    · obtain ⟨r, h1, h2⟩ := hE h
      obtain ⟨r', h3, h4⟩ := ih h1
      exact ⟨r && r', h3, fun k' hk => h2 _ (h4 _ hk)⟩
theorem eqK_det {T : List (Nat × TI)} : ∀ {n t : Nat} {cs ds : List CV} {k : Bool → Prop}, eqK T n t cs ds k → ∃ r, k r ∧ ∀ k' : Bool → Prop, k' r → eqK T n t cs ds k' := by
  intro n
  induction n with
  | zero => intro t cs ds k h; exact h.elim
  | succ n ih =>
    intro t cs ds k h
    simp only [eqK] at h ⊢
    split at h
    · exact h.elim
    · split at h
      · split at h
        · split at h
          · split at h
            · exact ⟨_, h, fun _ h => h⟩
            · exact h.elim
          · exact h.elim
        · exact h.elim
      · split at h
        · split at h
          · exact ⟨_, h, fun _ h => h⟩
          · exact h.elim
        · exact h.elim
      · split at h
        · split at h
          · exact ⟨_, h, fun _ h => h⟩
          · exact h.elim
        · exact h.elim
      · exact eqFs_det (E := eqK T n) (fun h => ih h) h
      · split at h
        · exact h.elim
        · exact eqFs_det (E := eqK T n) (fun h => ih h) h
      · exact h.elim

theorem All2.dt {α β : Type} {R : α → β → Prop} {l : List α} {r : List β} (h : All2 R l r) (i k : Nat) : All2 R ((l.drop i).take k) ((r.drop i).take k) := by
  have hd : ∀ {l : List α} {r : List β} (i : Nat), All2 R l r → All2 R (l.drop i) (r.drop i) := by
    intro l
    induction l with
    | nil => intro r i h; cases r with
      | nil => simpa using h
      | cons => exact h.elim
    | cons a l ih => intro r i h; cases r with
      | nil => exact h.elim
      | cons b r => cases i with
        | zero => exact h
        | succ i => exact ih i h.2
  have ht : ∀ {l : List α} {r : List β} (i : Nat), All2 R l r → All2 R (l.take i) (r.take i) := by
    intro l
    induction l with
    | nil => intro r i h; cases r with
      | nil => simpa using h
      | cons => exact h.elim
    | cons a l ih => intro r i h; cases r with
      | nil => exact h.elim
      | cons b r => cases i with
        | zero => trivial
        | succ i => exact ⟨h.1, ih i h.2⟩
  exact ht k (hd i h)

theorem str_beq (a b : ByteArray) : (a.toList == b.toList) = decide (a = b) := by
  rw [ByteArray.toList_eq, ByteArray.toList_eq]
  by_cases hab : a = b
  · subst hab; simp
  · rw [decide_eq_false hab, beq_eq_false_iff_ne]
    intro h
    apply hab
    have := Array.toList_inj.1 h
    cases a; cases b; simp_all

theorem eqK_ok {T : List (Nat × TI)} (hT : TabOk P T) {w : World} {N : Nat → Prop} {β : Nat → Value} : ∀ {n t : Nat} {ti : TI} {cs ds : List CV} {k : Bool → Prop} {xs ys : List Value} {d : Nat}, lkt T t = some ti → cmpB P n t = true → n ≤ d → eqK T n t cs ds k → All2 (CRd w N m β) cs xs → All2 (CRd w N m β) ds ys →
    ∃ r, k r ∧ (Op.equalIn d t (mkV ti xs) (mkV ti ys)).run P w = .ok r w ∧ (ti.kind.agg = false → xs ≠ [] ∧ ys ≠ []) := by
  intro n
  induction n with
  | zero => intro t ti cs ds k xs ys d _ _ _ h; exact h.elim
  | succ n ih =>
    intro t ti cs ds k xs ys d hti hc hd h hx hy
    have hok := hT t ti hti
    obtain ⟨d, rfl⟩ : ∃ e, d = e + 1 := ⟨d - 1, by omega⟩
    simp only [eqK, hti] at h
    have one : ∀ {c e : CV}, cs = [c] → ds = [e] → ∃ x y, xs = [x] ∧ ys = [y] ∧ CRd w N m β c x ∧ CRd w N m β e y := fun {c e} hc he => by
      subst hc he
      match xs, ys, hx, hy with
      | [x], [y], hx, hy => exact ⟨x, y, rfl, rfl, hx.1, hy.1⟩
    have flds : ∀ {fs : List (Nat × Nat)} {k : Bool → Prop} {G : List Field}, (∀ f ∈ G, f.name ≠ "_" ∧ cmpB P n f.type = true) → G.map (fun f => (f.offset, f.type)) = fs → eqFs T (eqK T n) cs ds fs k →
        ∃ r, k r ∧ (Op.eqFields d xs.toArray ys.toArray G).run P w = .ok r w := by
      intro fs
      induction fs with
      | nil => intro k G hG hm h; cases G with
        | nil => exact ⟨true, h, by simp [Op.eqFields]⟩
        | cons => simp at hm
      | cons f fs ihf =>
        obtain ⟨off, ft⟩ := f
        intro k G hG hm h
        cases G with
        | nil => simp at hm
        | cons g G =>
          simp only [List.map_cons, List.cons.injEq, Prod.mk.injEq] at hm
          obtain ⟨⟨rfl, rfl⟩, hm⟩ := hm
          simp only [eqFs] at h
          split at h
          · exact h.elim
          · rename_i te hte
            obtain ⟨r, h1, h2, h3⟩ := ih (d := d) hte (hG g (by simp)).2 (by omega) h (hx.dt g.offset te.size) (hy.dt g.offset te.size)
            obtain ⟨r', h4, h5⟩ := ihf (fun f hf => hG f (by simp [hf])) hm h1
            refine ⟨r && r', h4, ?_⟩
            have hgn := (hG g (by simp)).1
            simp only [Op.eqFields, hgn, ne_eq, not_false_eq_true, if_true, Sem.run_bind, run_part (hT _ te hte) (fun ha => (h3 ha).1), run_part (hT _ te hte) (fun ha => (h3 ha).2), h2, Result.andThen_ok]
            cases r
            · simp
            · simpa using h5
    have items : ∀ {e : Nat} {te : TI} {is : List Nat} {k : Bool → Prop}, lkt T e = some te → cmpB P n e = true → eqFs T (eqK T n) cs ds (is.map fun i => (i * te.size, e)) k →
        ∃ r, k r ∧ (Op.eqItems d e te.size xs.toArray ys.toArray is).run P w = .ok r w := by
      intro e te is
      induction is with
      | nil => intro k _ _ h; exact ⟨true, h, by simp [Op.eqItems]⟩
      | cons i is ihf =>
        intro k hte hce h
        simp only [List.map_cons, eqFs, hte] at h
        obtain ⟨r, h1, h2, h3⟩ := ih (d := d) hte hce (by omega) h (hx.dt (i * te.size) te.size) (hy.dt (i * te.size) te.size)
        obtain ⟨r', h4, h5⟩ := ihf hte hce h1
        refine ⟨r && r', h4, ?_⟩
        simp only [Op.eqItems, Sem.run_bind, run_part (hT _ te hte) (fun ha => (h3 ha).1), run_part (hT _ te hte) (fun ha => (h3 ha).2), h2, Result.andThen_ok]
        cases r
        · simp
        · simpa using h5
    cases hk : ti.kind with
    | one => rw [hk] at h; exact h.elim
    | slice e => rw [hk] at h; exact h.elim
    | int kk =>
      rw [hk] at h
      simp only at h
      split at h
      · rename_i k1 a
        split at h
        · rename_i k2 b
          split at h
          · rename_i hkk
            rw [decide_eq_true_eq] at hkk
            subst hkk
            obtain ⟨x, y, rfl, rfl, h1, h2⟩ := one rfl rfl
            have e1 := DRd.int_inv h1
            have e2 := DRd.int_inv h2
            subst e1 e2
            refine ⟨_, h, ?_, fun _ => by simp⟩
            simp only [mkV, hk, TK.agg, List.headD_cons]
            rw [run_equalIn_int w d t _ _ a b (kind_int hok hk)]
            rw [show (a == b) = decide (a = b) by by_cases hab : a = b <;> simp [hab]]
          · exact h.elim
        · exact h.elim
      · exact h.elim
    | bool =>
      rw [hk] at h
      simp only at h
      split at h
      · rename_i a
        split at h
        · rename_i b
          obtain ⟨x, y, rfl, rfl, h1, h2⟩ := one rfl rfl
          have e1 := DRd.bool_inv h1
          have e2 := DRd.bool_inv h2
          subst e1 e2
          refine ⟨_, h, ?_, fun _ => by simp⟩
          simp only [mkV, hk, TK.agg, List.headD_cons]
          refine run_equalIn_bool ?_ d
          have h1 := hok.kind
          rw [hk] at h1
          simp only [TK.okB] at h1
          split at h1
          · assumption
          · cases h1
        · exact h.elim
      · exact h.elim
    | str =>
      rw [hk] at h
      simp only at h
      split at h
      · rename_i a
        split at h
        · rename_i b
          obtain ⟨x, y, rfl, rfl, h1, h2⟩ := one rfl rfl
          have e1 := DRd.str_inv h1
          have e2 := DRd.str_inv h2
          subst e1 e2
          refine ⟨_, h, ?_, fun _ => by simp⟩
          simp only [mkV, hk, TK.agg, List.headD_cons]
          rw [run_equalIn_string w d t a b (kind_str hok hk), str_beq]
        · exact h.elim
      · exact h.elim
    | struct fs =>
      rw [hk] at h
      simp only at h
      obtain ⟨F, hu, hF, _⟩ := kind_struct hok hk
      simp only [cmpB, hu, Bool.and_eq_true, Bool.not_eq_true'] at hc
      have hfo : P.fieldsOf t = F := by simp [Program.fieldsOf, hu]
      obtain ⟨r, h1, h2⟩ := flds (G := F.toList) (fun f hf => by
        have := List.all_eq_true.1 hc.2 f hf
        simp only [Bool.and_eq_true, bne_iff_ne, ne_eq] at this
        exact this) hF h
      refine ⟨r, h1, ?_, fun ha => by cases ha⟩
      simp only [mkV, hk, TK.agg]
      rw [run_equalIn_struct w d t _ _ (by rw [hfo]; exact hu) hc.1, hfo]
      exact h2
    | arr c e =>
      rw [hk] at h
      simp only at h
      have hu := kind_arr hok hk
      obtain ⟨ie, hie⟩ := kind_arr_info hok hk
      simp only [cmpB, hu] at hc
      split at h
      · exact h.elim
      · rename_i te hte
        obtain ⟨r, h1, h2⟩ := items hte hc h
        refine ⟨r, h1, ?_, fun ha => by cases ha⟩
        simp only [mkV, hk, TK.agg]
        rw [run_equalIn_array (w := w) d _ _ hu hie]
        have : P.cellsOf e = te.size := by
          obtain ⟨i, z, h1, h2, _⟩ := (hT e te hte).info
          simp [Program.cellsOf, h1, h2]
        rw [this]
        exact h2

theorem ok_eqAgg {T : List (Nat × TI)} (hT : TabOk P T) {op : BinOp} {t t' : TypeId} {x y : Operand} {cs ds : List CV} {K : Bool → Prop} {g : Bool → Bool} (hop : (op = .eql ∧ g = fun b => b) ∨ (op = .neq ∧ g = fun b => !b)) (ho : o.op = .binOp op t x y t') (hx : ev l x = .agg cs) (hy : ev l y = .agg ds)
    (hta : aggT T t = true) (hc : cmpB P 8 t = true ∧ P.eqGuardType P.depth t = false) (h : eqK T 8 t cs ds K) : ∃ b, K b ∧ OpOk P o l m n (.one (.dv (.bool (g b)))) [] n := by
  obtain ⟨r, hK, hdet⟩ := eqK_det h
  refine ⟨r, hK, ok_value fun w0 X Z nt A β a w hr => ?_⟩
  have h1 := (hr.ev x).1
  have h2 := (hr.ev y).1
  rw [hx] at h1
  rw [hy] at h2
  obtain ⟨xs, e1, h1⟩ := h1
  obtain ⟨ys, e2, h2⟩ := h2
  have h' := hdet (· = r) rfl
  cases hti : lkt T t with
  | none => simp [eqK, hti] at h
  | some ti =>
    obtain ⟨r', hr', hrun, hne⟩ := eqK_ok hT (d := 10000) hti hc.1 (by omega) h' h1 h2
    subst hr'
    have hagg : ti.kind.agg = true → (Op.equalIn 10000 t (.agg xs) (.agg ys)).run P w = .ok r' w := fun ha => by
      simpa [mkV, ha] using hrun
    have hg := run_eqGuard_agg (P := P) w op t x y xs ys hc.2
    have hag : ti.kind.agg = true := by simpa [aggT, hti] using hta
    refine ⟨.bool (g r'), ?_, .bool _, trivial⟩
    simp only [execOp, ho, e1, e2]
    refine run_v ?_
    rw [Sem.run_bind, hg]
    simp only [Result.andThen_ok]
    rcases hop with ⟨rfl, rfl⟩ | ⟨rfl, rfl⟩
    · rw [run_eql_struct, hagg hag]; rfl
    · rw [run_neq_struct, hagg hag]; rfl
end Eng
