/- The steps are sound: memory. -/
import Derived.Test.YthdbdokhncaijaaGreatEngC
namespace Eng
open Go Go.RowKit

variable {P : Program} {o : Oper} {l : List (Nat × SV)} {m : List (Nat × Box)} {n : Nat}

theorem run_isAgg {t : Nat} {ti : TI} (h : ti.Ok P t) (w : World) : (isAgg t).run P w = .ok ti.kind.agg w := by
  have hk := h.kind
  unfold isAgg
  generalize ti.kind = k at hk
  cases k <;> simp only [TK.okB] at hk <;> split at hk <;> first | (cases hk; done) | (rename_i hu; simp [run_underlying hu, TK.agg]) | skip
theorem run_sizeOf' {t : Nat} {ti : TI} (h : ti.Ok P t) (w : World) : (Go.sizeOf t).run P w = .ok ti.size w := by
  obtain ⟨i, z, h1, h2, _⟩ := h.info
  simp [Go.sizeOf, typeInfo, h1, h2]

/-- what a load yields of the cells that lie there -/
def Ld (ti : TI) (cs : List CV) (v : SV) : Prop :=
  (ti.kind.agg = true ∧ v = .agg (cs.take ti.size) ∧ ti.size ≤ cs.length) ∨ (ti.kind.agg = false ∧ ∃ c rest, cs = c :: rest ∧ v = .one c)
theorem takeC_ok {n : Nat} {cs : List CV} {k : List CV → Prop} (h : takeC n cs k) : k (cs.take n) ∧ n ≤ cs.length := by
  induction n generalizing cs k with
  | zero => exact ⟨by simpa [takeC] using h, by simp⟩
  | succ n ih => cases cs with
    | nil => simp [takeC] at h
    | cons c cs =>
      obtain ⟨h1, h2⟩ := ih h
      exact ⟨by simpa using h1, by simpa using h2⟩
theorem takeD_ok {n : Nat} {ds : List DV} {k : List CV → Prop} (h : takeD n ds k) : k ((ds.map CV.dv).take n) ∧ n ≤ ds.length := by
  induction n generalizing ds k with
  | zero => exact ⟨by simpa [takeD] using h, by simp⟩
  | succ n ih => cases ds with
    | nil => simp [takeD] at h
    | cons c cs =>
      obtain ⟨h1, h2⟩ := ih h
      exact ⟨by simpa using h1, by simpa using h2⟩
theorem ldC_ok {ti : TI} {cs : List CV} {k : SV → Prop} (h : ldC ti cs k) : ∃ v, k v ∧ Ld ti cs v := by
  unfold ldC at h
  split at h
  · rename_i ha
    obtain ⟨h1, h2⟩ := takeC_ok h
    exact ⟨_, h1, .inl ⟨ha, rfl, h2⟩⟩
  · rename_i ha
    split at h
    · exact ⟨_, h, .inr ⟨ha, _, _, rfl, rfl⟩⟩
    · exact h.elim
theorem ldD_ok {ti : TI} {cs : List DV} {k : SV → Prop} (h : ldD ti cs k) : ∃ v, k v ∧ Ld ti (cs.map .dv) v := by
  unfold ldD at h
  split at h
  · rename_i ha
    obtain ⟨h1, h2⟩ := takeD_ok h
    exact ⟨_, h1, .inl ⟨ha, rfl, by simpa using h2⟩⟩
  · rename_i ha
    split at h
    · exact ⟨_, h, .inr ⟨ha, _, _, rfl, rfl⟩⟩
    · exact h.elim

theorem run_ld {t : Nat} {ti : TI} (hti : ti.Ok P t) {cs : List CV} {v : SV} (h : Ld ti cs v) {w : World} {N : Nat → Prop} {β : Nat → Value} {A : Nat → Prop} {ad : Addr}
    (hc : ∀ j c, cs[j]? = some c → ∃ u, w.cell? (ad.add j) = some u ∧ CRd w N m β c u) (hr : RefCs A cs) :
    ∃ u, (Instr.loadAt t (.pointer (some ad))).run P w = .ok u w ∧ SRd w N m β v u ∧ RefS A v := by
  rcases h with ⟨ha, rfl, hl⟩ | ⟨ha, c, rest, rfl, rfl⟩
  · -- the cells, one by one
    have hex : ∀ (k : Nat) (cs : List CV) (off : Nat), k ≤ cs.length → (∀ j c, cs[j]? = some c → ∃ u, w.cell? (ad.add (off + j)) = some u ∧ CRd w N m β c u) →
        ∃ us : List Value, us.length = k ∧ (∀ j u, us[j]? = some u → w.cell? (ad.add (off + j)) = some u) ∧ All2 (CRd w N m β) (cs.take k) us := by
      intro k
      induction k with
      | zero => intro cs off _ _; exact ⟨[], rfl, by simp, by simp [All2]⟩
      | succ k ih =>
        intro cs off hk hc
        cases cs with
        | nil => simp at hk
        | cons c cs =>
          obtain ⟨u, h1, h2⟩ := hc 0 c rfl
          obtain ⟨us, e1, e2, e3⟩ := ih cs (off + 1) (by simpa using hk) (fun j c hj => by
            have := hc (j + 1) c (by simpa using hj)
            rwa [show off + 1 + j = off + (j + 1) by omega])
          refine ⟨u :: us, by simp [e1], fun j x hj => ?_, ⟨h2, e3⟩⟩
          cases j with
          | zero => simp at hj; subst hj; simpa using h1
          | succ j =>
            have := e2 j x (by simpa using hj)
            rwa [show off + (j + 1) = off + 1 + j by omega]
    obtain ⟨us, e1, e2, e3⟩ := hex ti.size cs 0 hl (fun j c hj => by simpa using hc j c hj)
    refine ⟨.agg us.toArray, ?_, ⟨_, rfl, by simpa using e3⟩, fun c hc => hr c (List.mem_of_mem_take hc)⟩
    have hl := run_loadCells_list (P := P) w ad us (fun j v hj => by simpa using e2 j v hj)
    rw [e1] at hl
    simp [Instr.loadAt, Instr.sureAddr, loadVar, Sem.run_bind, run_isAgg hti, ha, run_sizeOf' hti, hl]
  · obtain ⟨u, h1, h2⟩ := hc 0 c rfl
    refine ⟨u, ?_, h2, hr c (by simp)⟩
    have h1' : w.cell? ad = some u := by simpa [Addr.add] using h1
    simp [Instr.loadAt, Instr.sureAddr, loadVar, Sem.run_bind, run_isAgg hti, ha, go_sem, h1']

theorem cell_vars {w : World} {N : Nat → Prop} {β : Nat → Value} {g : Nat} {t : Nat} {cs : List CV} {arr : Array Value} (hg : w.heap[g]? = some (.cells arr t (0, 0))) (h : All2 (CRd w N m β) cs arr.toList) (off : Nat) :
    ∀ j c, (cs.drop off)[j]? = some c → ∃ u, w.cell? ((⟨g, off, none⟩ : Addr).add j) = some u ∧ CRd w N m β c u := by
  intro j c hj
  rw [List.getElem?_drop] at hj
  obtain ⟨u, h1, h2⟩ := h.get hj
  refine ⟨u, ?_, h2⟩
  rw [addr_mk, cell_of_row w g (off + j) arr t (0, 0) hg]
  simpa using h1
theorem flatten_get {rs : List (List DV)} {sz i : Nat} {r : List DV} (hl : ∀ r ∈ rs, r.length = sz) (hi : rs[i]? = some r) {j : Nat} {d : DV} (hj : r[j]? = some d) : rs.flatten[i * sz + j]? = some d := by
  induction rs generalizing i with
  | nil => simp at hi
  | cons r0 rs ih =>
    have h0 := hl r0 (by simp)
    cases i with
    | zero =>
      simp at hi; subst hi
      have : j < r0.length := (List.getElem?_eq_some_iff.1 hj).1
      simp [List.getElem?_append_left this, hj]
    | succ i =>
      simp at hi
      have := ih (fun r hr => hl r (by simp [hr])) hi
      rw [List.flatten_cons, List.getElem?_append_right (by rw [h0, Nat.succ_mul]; omega)]
      rw [show (i + 1) * sz + j - r0.length = i * sz + j by rw [h0, Nat.succ_mul]; omega]
      exact this
theorem cell_rows {w : World} {N : Nat → Prop} {β : Nat → Value} {t sz : Nat} {rs : List (List DV)} {v : Value} (h : BRd w N m β (.rows t sz rs) v) {i : Nat} {r : List DV} (hi : rs[i]? = some r) (off : Nat) :
    ∃ g n c, v = .slice (some ⟨g, 0, none⟩) n c ∧ ∀ j d, ((r.drop off).map CV.dv)[j]? = some d → ∃ u, w.cell? ((⟨g, i * sz + off, none⟩ : Addr).add j) = some u ∧ CRd w N m β d u := by
  obtain ⟨xs, ho, hl, hd⟩ := h
  have hi' : i < rs.length := (List.getElem?_eq_some_iff.1 hi).1
  rcases ho.2 with ⟨_, h0⟩ | ⟨g, cap, cur, e, _, hg, hn, _, hsz, htk⟩
  · omega
  · refine ⟨g, _, _, e, fun j d hj => ?_⟩
    rw [List.getElem?_map, List.getElem?_drop] at hj
    simp only [Option.map_eq_some_iff] at hj
    obtain ⟨d', hd', rfl⟩ := hj
    obtain ⟨u, h1, h2⟩ := hd.get (flatten_get hl hi hd')
    refine ⟨u, ?_, h2⟩
    rw [addr_mk, cell_of_row w g _ cur t (0, 0) hg]
    rw [← htk, List.getElem?_take] at h1
    split at h1
    · rw [Nat.add_assoc]; simpa using h1
    · cases h1

theorem cell_orow {w : World} {N : Nat → Prop} {β : Nat → Value} {t sz : Nat} {rs : List (List DV)} {last : List CV} {v : Value} (h : BRd w N m β (.orow t sz rs last) v) (off : Nat) :
    ∃ g n c, v = .slice (some ⟨g, 0, none⟩) n c ∧ ∀ j d, (last.drop off)[j]? = some d → ∃ u, w.cell? ((⟨g, rs.length * sz + off, none⟩ : Addr).add j) = some u ∧ CRd w N m β d u := by
  obtain ⟨xs, ys, ho, hl, hll, hd, hc⟩ := h
  have hxl : xs.length = rs.length * sz := by
    rw [← hd.length]
    clear hd ho hc
    induction rs with
    | nil => simp
    | cons r rs ih => rw [List.flatten_cons, List.length_append, ih fun r hr => hl r (by simp [hr]), hl r (by simp), List.length_cons, Nat.succ_mul]; omega
  rcases ho.2 with ⟨_, h0⟩ | ⟨g, cap, cur, e, _, hg, hn, _, hsz, htk⟩
  · omega
  · refine ⟨g, _, _, e, fun j d hj => ?_⟩
    rw [List.getElem?_drop] at hj
    obtain ⟨u, h1, h2⟩ := hc.get hj
    refine ⟨u, ?_, h2⟩
    rw [addr_mk, cell_of_row w g _ cur t (0, 0) hg]
    have h3 : (xs ++ ys)[rs.length * sz + (off + j)]? = some u := by
      rw [List.getElem?_append_right (by omega), hxl]
      rw [show rs.length * sz + (off + j) - rs.length * sz = off + j by omega]; exact h1
    rw [← htk, List.getElem?_take] at h3
    split at h3
    · rw [Nat.add_assoc]; simpa using h3
    · cases h3
theorem ok_load {t : Nat} {ti : TI} (hti : ti.Ok P t) {x : Operand} {K : SV → List Nat → Prop} (ho : o.op = .load t x) (h : loadW m ti (ev l x) K) : ∃ v ft, K v ft ∧ OpOk P o l m n v [] n := by
  unfold loadW at h
  split at h
  · rename_i ds hx
    obtain ⟨v, hK, hv⟩ := ldD_ok h
    refine ⟨v, _, hK, ok_value fun w0 X Z nt A β a w hr => ?_⟩
    obtain ⟨h1, _⟩ := hr.ev x
    rw [hx] at h1
    obtain ⟨ad, e, hb, hc⟩ := h1
    obtain ⟨u, h2, h3, h4⟩ := run_ld (A := A) (β := β) hti hv (w := w) (ad := ad) (fun j c hj => by
      rw [List.getElem?_map] at hj
      simp only [Option.map_eq_some_iff] at hj
      obtain ⟨d, hd, rfl⟩ := hj
      exact hc j d hd) (fun c hc => by obtain ⟨d, _, rfl⟩ := List.mem_map.1 hc; trivial)
    exact ⟨u, by simp only [execOp, ho, e]; exact run_v h2, h3, h4⟩
  · rename_i b off hx
    split at h
    · rename_i tb cs hb
      obtain ⟨v, hK, hv⟩ := ldC_ok h
      refine ⟨v, _, hK, ok_value fun w0 X Z nt A β a w hr => ?_⟩
      obtain ⟨h1, _⟩ := hr.ev x
      rw [hx] at h1
      obtain ⟨g, e1, e2⟩ := h1.2 (by rw [hb]; simp)
      have hbx := hr.boxes b
      rw [hb] at hbx
      obtain ⟨g', arr, e3, hg, hall⟩ := hbx
      rw [e1] at e3
      simp only [Value.pointer.injEq, Option.some.injEq, Addr.mk.injEq, and_true] at e3
      subst e3
      have hrb := (hr.refb b).1
      rw [hb] at hrb
      obtain ⟨u, h2, h3, h4⟩ := run_ld (A := A) hti hv (cell_vars hg hall off) (fun c hc => hrb c (List.mem_of_mem_drop hc))
      exact ⟨u, by simp only [execOp, ho, e2]; exact run_v h2, h3, h4⟩
    · exact h.elim
  · rename_i b i off hx
    split at h
    · rename_i tb sz rs hb
      obtain ⟨r, hri, h⟩ := h
      obtain ⟨v, hK, hv⟩ := ldD_ok h
      refine ⟨v, _, hK, ok_value fun w0 X Z nt A β a w hr => ?_⟩
      obtain ⟨h1, _⟩ := hr.ev x
      rw [hx] at h1
      obtain ⟨g, n, c, e1, e2⟩ := h1.2 sz (by rw [hb]; rfl)
      have hbx := hr.boxes b
      rw [hb] at hbx
      obtain ⟨g', n', c', e3, hc⟩ := cell_rows hbx hri off
      rw [e1] at e3
      simp only [Value.slice.injEq, Option.some.injEq, Addr.mk.injEq, and_true] at e3
      obtain ⟨rfl, _, _⟩ := e3
      obtain ⟨u, h2, h3, h4⟩ := run_ld (A := A) hti hv hc (fun c hc => by obtain ⟨d, _, rfl⟩ := List.mem_map.1 hc; trivial)
      exact ⟨u, by simp only [execOp, ho, e2]; exact run_v h2, h3, h4⟩
    · rename_i tb sz rs last hb
      obtain ⟨hi, h⟩ := h
      subst hi
      obtain ⟨v, hK, hv⟩ := ldC_ok h
      refine ⟨v, _, hK, ok_value fun w0 X Z nt A β a w hr => ?_⟩
      obtain ⟨h1, _⟩ := hr.ev x
      rw [hx] at h1
      obtain ⟨g, n, c, e1, e2⟩ := h1.2 sz (by rw [hb]; rfl)
      have hbx := hr.boxes b
      rw [hb] at hbx
      obtain ⟨g', n', c', e3, hc⟩ := cell_orow hbx off
      rw [e1] at e3
      simp only [Value.slice.injEq, Option.some.injEq, Addr.mk.injEq, and_true] at e3
      obtain ⟨rfl, _, _⟩ := e3
      have hrb := (hr.refb b).1
      rw [hb] at hrb
      obtain ⟨u, h2, h3, h4⟩ := run_ld (A := A) hti hv hc (fun c hc => hrb c (List.mem_of_mem_drop hc))
      exact ⟨u, by simp only [execOp, ho, e2]; exact run_v h2, h3, h4⟩
    · exact h.elim
  · exact h.elim

/-- One box turns in its place. -/
theorem Rel.setBox {w0 : World} {X : Nat → Prop} {Z : Zt} {nt : Nat} {A : Nat → Prop} {β : Nat → Value} {a : Act} {w w' : World} (h : Rel w0 X Z nt A l m β a w) {b g : Nat} {x : Box}
    (hb : lkb m b ≠ .dead) (_ : x ≠ .dead) (hg : blk (β b) = some g) (hrf : RefB A x) (hty : ∀ sz, rowSz x = some sz → rowSz (lkb m b) = some sz)
    (hw : ∀ k, k ≠ g → w'.heap[k]? = w.heap[k]?) (hsz : w'.heap.size = w.heap.size) (hos : w'.os = w.os) (htape : w'.tape = w.tape) (hout : w'.output = w.output)
    (hbox : Keep A w w' (Imm Z.p m β w) (Imm Z.p ((b, x) :: m) β w') m ((b, x) :: m) β β → BRd w' (Imm Z.p ((b, x) :: m) β w') ((b, x) :: m) β x (β b)) :
    Rel w0 X Z nt A l ((b, x) :: m) β a w' := by
  refine (h.turn (A' := A) (m' := (b, x) :: m) (β' := β) (w' := w') (· = b) (fun _ h => h) ?_ ?_ ?_ ?_ ?_ ?_ ?_ (by omega) hos htape hout ?_).1
  · rintro _ rfl; rw [lkb_cons, if_pos rfl]; exact ⟨hrf, fun _ => (h.refb _).2 hb⟩
  · intro c hc; rw [lkb_cons, if_neg (fun e => hc e.symm)]; exact ⟨rfl, fun _ => rfl⟩
  · rintro _ rfl _ _; rw [lkb_cons, if_pos rfl]; exact ⟨hb, rfl, fun sz e => hty sz e⟩
  · intro k _ hk; exact hw k (fun e => hk b rfl hb (by rw [e]; exact hg))
  · rintro _ k rfl _ hk; exact .inr ⟨_, rfl, hb, hk⟩
  · rintro _ _ _ rfl rfl _ _ _ _; rfl
  · rintro _ k rfl _ hk
    exact h.rown _ _ hb hk
  · rintro K _ rfl; rw [lkb_cons, if_pos rfl]; exact hbox K

/-- A box is made. -/
theorem Rel.newBox {w0 : World} {X : Nat → Prop} {Z : Zt} {nt : Nat} {A : Nat → Prop} {β : Nat → Value} {a : Act} {w w' : World} (h : Rel w0 X Z nt A l m β a w) {b : Nat} {x : Box} {v : Value}
    (hA : ¬ A b) (hrf : RefB (fun k => A k ∨ k = b) x) (hv : ∀ g, blk v = some g → w.heap.size ≤ g)
    (hw : ∀ k, k < w.heap.size → w'.heap[k]? = w.heap[k]?) (hsz : w.heap.size ≤ w'.heap.size) (hos : w'.os = w.os) (htape : w'.tape = w.tape) (hout : w'.output = w.output)
    (hbox : Keep A w w' (Imm Z.p m β w) (Imm Z.p ((b, x) :: m) (fun k => if k = b then v else β k) w') m ((b, x) :: m) β (fun k => if k = b then v else β k) →
      BRd w' (Imm Z.p ((b, x) :: m) (fun k => if k = b then v else β k) w') ((b, x) :: m) (fun k => if k = b then v else β k) x v) :
    Rel w0 X Z nt (fun k => A k ∨ k = b) l ((b, x) :: m) (fun k => if k = b then v else β k) a w' ∧
      Keep A w w' (Imm Z.p m β w) (Imm Z.p ((b, x) :: m) (fun k => if k = b then v else β k) w') m ((b, x) :: m) β (fun k => if k = b then v else β k) := by
  have hdead : lkb m b = .dead := by
    by_cases hd : lkb m b = .dead
    · exact hd
    · exact absurd ((h.refb b).2 hd) hA
  refine h.turn (· = b) (fun _ h => .inl h) ?_ ?_ ?_ ?_ ?_ ?_ ?_ hsz hos htape hout ?_
  · rintro _ rfl; rw [lkb_cons, if_pos rfl]; exact ⟨hrf, fun _ => .inr rfl⟩
  · intro c hc; rw [lkb_cons, if_neg (fun e => hc e.symm)]; exact ⟨rfl, fun _ => if_neg hc⟩
  · rintro _ rfl hA'; exact absurd hA' hA
  · intro k hk _; exact hw k hk
  · rintro _ k rfl _ hk; simp only [if_true] at hk; exact .inl (hv k hk)
  · rintro _ _ _ rfl rfl _ _ _ _; rfl
  · rintro _ k rfl _ hk
    simp only [if_true] at hk
    exact h.new.ge k (Nat.le_trans h.ext.size (hv k hk))
  · rintro K _ rfl; rw [lkb_cons, if_pos rfl]; simp only [if_true]; exact hbox K

theorem RefCs.nil {A : Nat → Prop} : RefCs A [] := fun _ h => by cases h
theorem wideA {A : Nat → Prop} {n : Nat} : (fun k => A k ∨ k = n) = (fun b => A b ∨ (n ≤ b ∧ b < n + 1)) := by
  funext k; apply propext; constructor
  · rintro (h | rfl)
    · exact .inl h
    · exact .inr ⟨Nat.le_refl _, Nat.lt_succ_self _⟩
  · rintro (h | h)
    · exact .inl h
    · exact .inr (by omega)

/-- A variable is made that holds the cells 'cs'. -/
theorem Rel.newVars {w0 : World} {X : Nat → Prop} {Z : Zt} {nt : Nat} {A : Nat → Prop} {β : Nat → Value} {a : Act} {w : World} (h : Rel w0 X Z nt A l m β a w) {t : Nat} {cs : List CV} {vs : List Value}
    (hn : ¬ A n) (hr : RefCs A cs) (hv : All2 (CRd w (Imm Z.p m β w) m β) cs vs) :
    ∃ β', Rel w0 X Z nt (fun b => A b ∨ (n ≤ b ∧ b < n + 1)) l ((n, .vars t cs) :: m) β' a (w.alloc (.cells vs.toArray t)) ∧
      SRd (w.alloc (.cells vs.toArray t)) (Imm Z.p ((n, .vars t cs) :: m) β' (w.alloc (.cells vs.toArray t))) ((n, .vars t cs) :: m) β' (.one (.vptr n 0)) (.pointer (some ⟨w.heap.size, 0, none⟩)) := by
  have := h.newBox (b := n) (x := .vars t cs) (v := .pointer (some ⟨w.heap.size, 0, none⟩)) (w' := w.alloc (.cells vs.toArray t)) hn (RefCs.mono (fun _ h => .inl h) hr)
    (fun g hg => by simp only [blk, Option.some.injEq] at hg; omega) (fun k hk => Below.heap_alloc w _ k hk) (by simp) rfl rfl rfl
    (fun K => ⟨w.heap.size, vs.toArray, rfl, heap_alloc_new w _, by simpa using K.cs hr hv⟩)
  rw [wideA] at this
  exact ⟨_, this.1, rfl, fun _ => ⟨w.heap.size, by simp, rfl⟩⟩

theorem ok_alloc {t : Nat} {ti : TI} (hti : ti.Ok P t) (ho : o.op = .alloc t) : OpOk P o l m n (.one (.vptr n 0)) [(n, .vars t ti.zero)] (n + 1) := by
  intro w0 X Z nt A β a w hr hn K Q hK
  obtain ⟨i, z, h1, h2, h3, h4, h5, h6⟩ := hti.info
  obtain ⟨hz1, hz2⟩ := zBs_ok h5 w (Imm Z.p m β w) m β A
  obtain ⟨β', h7, h8⟩ := hr.newVars (n := n) (t := t) (hn n (Nat.le_refl _) (by omega)) hz2 hz1
  unfold Oper.wp
  have : (execOp a.eval o).run P w = .ok (.value (.pointer (some ⟨w.heap.size, 0, none⟩))) (w.alloc (.cells z.cells t)) := by
    simp only [execOp, ho]
    refine run_v ?_
    simp [Instr.alloc, zeroValue, typeInfo, h1, h4, newVar, go_sem]
  rw [this]
  refine hK _ β' _ ?_ ?_ (.inr ⟨Nat.le_refl _, Nat.lt_succ_self _⟩)
  · simpa using h7
  · simpa using h8

theorem cells_ok {v : SV} {cs : List CV} (h : cells v = some cs) {w : World} {N : Nat → Prop} {β : Nat → Value} {A : Nat → Prop} {u : Value} (hv : SRd w N m β v u) (hr : RefS A v) :
    All2 (CRd w N m β) cs u.cells.toList ∧ RefCs A cs := by
  cases v with
  | bot => cases h
  | one c =>
    simp only [cells, Option.some.injEq] at h
    subst h
    have h1 := CRd.oneCell hv
    have : u.cells = #[u] := by cases u <;> first | rfl | cases h1
    rw [this]
    exact ⟨⟨hv, trivial⟩, fun c hc => by simp at hc; subst hc; exact hr⟩
  | agg cs' =>
    simp only [cells, Option.some.injEq] at h
    subst h
    obtain ⟨vs, rfl, hall⟩ := hv
    exact ⟨hall, hr⟩
  | tup ts => cases h

theorem ok_box {T : List (Nat × TI)} {t ty : Nat} {x : Operand} {cs : List CV} (ho : o.op = .box t x) (hx : cells (evT T ty l x) = some cs) : OpOk P o l m n (.one (.vptr n 0)) [(n, .vars t cs)] (n + 1) := by
  intro w0 X Z nt A β a w hr hn K Q hK
  obtain ⟨h1, h2⟩ := hr.evT T ty x
  obtain ⟨h3, h4⟩ := cells_ok hx h1 h2
  obtain ⟨β', h7, h8⟩ := hr.newVars (n := n) (t := t) (hn n (Nat.le_refl _) (by omega)) h4 h3
  unfold Oper.wp
  have : (execOp a.eval o).run P w = .ok (.value (.pointer (some ⟨w.heap.size, 0, none⟩))) (w.alloc (.cells (a.eval x).cells t)) := by
    simp only [execOp, ho]
    refine run_v ?_
    simp [Instr.box, newVar, go_sem]
  rw [this]
  refine hK _ β' _ ?_ ?_ (.inr ⟨Nat.le_refl _, Nat.lt_succ_self _⟩)
  · simpa using h7
  · simpa using h8
end Eng
