/- The steps are sound: stores, addresses, lengths; all together. -/
import Derived.Test.YtopcjmipldkijaaEngC2
namespace Eng
open Go Go.RowKit

variable {P : Program} {o : Oper} {l : List (Nat × SV)} {m : List (Nat × Box)} {n : Nat}

theorem putL_ok {α : Type} {old new : List α} {off : Nat} {k : List α → Prop} (h : putL old off new k) : k (old.take off ++ new ++ old.drop (off + new.length)) ∧ off + new.length ≤ old.length := by
  induction old generalizing off new k with
  | nil => cases off with
    | zero => cases new with
      | nil => exact ⟨by simpa [putL] using h, by simp⟩
      | cons v vs => simp [putL] at h
    | succ off => simp [putL] at h
  | cons c cs ih => cases off with
    | zero => cases new with
      | nil => exact ⟨by simpa [putL] using h, by simp⟩
      | cons v vs =>
        simp only [putL] at h
        obtain ⟨h1, h2⟩ := ih h
        exact ⟨by simpa using h1, by simpa using h2⟩
    | succ off =>
      simp only [putL] at h
      obtain ⟨h1, h2⟩ := ih h
      exact ⟨by simpa [Nat.succ_add] using h1, by simp; omega⟩

theorem toDp_ok {cs : List CV} {k : List DV → Prop} (h : toDp cs k) : ∃ ds, k ds ∧ ds.length = cs.length ∧
    ∀ (w : World) (N : Nat → Prop) (β : Nat → Value) (vs : List Value), All2 (CRd w N m β) cs vs → All2 (DRd w N) ds vs := by
  induction cs generalizing k with
  | nil => exact ⟨[], h, rfl, fun w N β vs hv => by cases vs with
    | nil => trivial
    | cons => exact hv.elim⟩
  | cons c cs ih =>
    cases c with
    | dv d =>
      obtain ⟨ds, h1, h2, h3⟩ := ih h
      exact ⟨d :: ds, h1, by simp [h2], fun w N β vs hv => by cases vs with
        | nil => exact hv.elim
        | cons v vs => exact ⟨hv.1, h3 w N β vs hv.2⟩⟩
    | nil sz =>
      obtain ⟨ds, h1, h2, h3⟩ := ih h
      exact ⟨.lst sz [] :: ds, h1, by simp [h2], fun w N β vs hv => by cases vs with
        | nil => exact hv.elim
        | cons v vs =>
          have := hv.1
          simp only [CRd] at this
          subst this
          exact ⟨DRd.nilS w N sz, h3 w N β vs hv.2⟩⟩
    | _ => exact h.elim

theorem flatten_len {rs : List (List DV)} {sz : Nat} (hl : ∀ r ∈ rs, r.length = sz) : rs.flatten.length = rs.length * sz := by
  induction rs with
  | nil => simp
  | cons r rs ih => rw [List.flatten_cons, List.length_append, ih fun r hr => hl r (by simp [hr]), hl r (by simp), List.length_cons, Nat.succ_mul]; omega
theorem flatten_set {rs : List (List DV)} {sz i : Nat} {r new : List DV} (hl : ∀ r ∈ rs, r.length = sz) (hi : rs[i]? = some r) :
    (rs.set i new).flatten = rs.flatten.take (i * sz) ++ new ++ rs.flatten.drop (i * sz + sz) := by
  induction rs generalizing i with
  | nil => simp at hi
  | cons r0 rs ih =>
    have h0 := hl r0 (by simp)
    cases i with
    | zero =>
      simp at hi; subst hi
      simp [← h0]
    | succ i =>
      simp at hi
      rw [List.set_cons_succ, List.flatten_cons, ih (fun r hr => hl r (by simp [hr])) hi, List.flatten_cons]
      rw [show (i + 1) * sz = r0.length + i * sz by rw [h0, Nat.succ_mul]; omega, List.take_length_add_append, Nat.add_assoc, List.drop_length_add_append]
      simp [List.append_assoc]
theorem getRow {rs : List (List DV)} {sz i : Nat} {r : List DV} (hl : ∀ r ∈ rs, r.length = sz) (hi : rs[i]? = some r) : r = (rs.flatten.drop (i * sz)).take sz := by
  induction rs generalizing i with
  | nil => simp at hi
  | cons r0 rs ih =>
    have h0 := hl r0 (by simp)
    cases i with
    | zero => simp at hi; subst hi; simp [← h0]
    | succ i =>
      simp at hi
      rw [List.flatten_cons, show (i + 1) * sz = r0.length + i * sz by rw [h0, Nat.succ_mul]; omega, List.drop_length_add_append]
      exact ih (fun r hr => hl r (by simp [hr])) hi
theorem flatten_put {rs : List (List DV)} {sz i off : Nat} {r ds : List DV} (hl : ∀ r ∈ rs, r.length = sz) (hi : rs[i]? = some r) (ho : off + ds.length ≤ r.length) :
    (rs.set i (r.take off ++ ds ++ r.drop (off + ds.length))).flatten = rs.flatten.take (i * sz + off) ++ ds ++ rs.flatten.drop (i * sz + off + ds.length) ∧ i * sz + off + ds.length ≤ rs.flatten.length := by
  have hr := hl r (List.mem_of_getElem? hi)
  have hlen := flatten_len hl
  have hi' : i < rs.length := (List.getElem?_eq_some_iff.1 hi).1
  have hb : i * sz + sz ≤ rs.flatten.length := by
    rw [hlen]
    calc i * sz + sz = (i + 1) * sz := by rw [Nat.succ_mul]
      _ ≤ rs.length * sz := Nat.mul_le_mul_right _ hi'
  refine ⟨?_, by omega⟩
  rw [flatten_set hl hi]
  have e := getRow hl hi
  generalize rs.flatten = F at *
  have e1 : r.take off = (F.drop (i * sz)).take off := by rw [e, List.take_take, Nat.min_eq_left (by omega)]
  have e2 : r.drop (off + ds.length) = (F.drop (i * sz + off + ds.length)).take (sz - (off + ds.length)) := by
    rw [e, List.drop_take, List.drop_drop, Nat.add_assoc]
  rw [e1, e2]
  have e3 : F.take (i * sz + off) = F.take (i * sz) ++ (F.drop (i * sz)).take off := by rw [List.take_add]
  have e4 : F.drop (i * sz + off + ds.length) = (F.drop (i * sz + off + ds.length)).take (sz - (off + ds.length)) ++ F.drop (i * sz + sz) := by
    have := List.take_append_drop (sz - (off + ds.length)) (F.drop (i * sz + off + ds.length))
    rw [List.drop_drop, show i * sz + off + ds.length + (sz - (off + ds.length)) = i * sz + sz by omega] at this
    exact this.symm
  rw [e3]
  conv => rhs; rw [e4]
  simp only [List.append_assoc]

theorem ok_store {t ty : Nat} {ti : TI} (hti : ti.Ok P t) {T : List (Nat × TI)} {x y : Operand} {cs : List CV} {K : List (Nat × Box) → List Nat → Prop} (ho : o.op = .store t x y) (hcs : cells (evT T ty l y) = some cs)
    (h : storeW m ti (ev l x) cs K) : ∃ upd ft, K upd ft ∧ OpOk P o l m n .bot upd n := by
  unfold storeW at h
  split at h
  · exact h.elim
  · rename_i hlen
    have hlen := Nat.eq_of_beq_eq_true hlen
    -- the run, once the block is known
    have run : ∀ (w : World) (a : Act) (g off tb : Nat) (cur : Array Value), a.eval x = .pointer (some ⟨g, off, none⟩) → w.heap[g]? = some (.cells cur tb (0, 0)) → (a.eval y).cells.toList.length = cs.length → off + cs.length ≤ cur.size →
        (∀ v ∈ (a.eval y).cells.toList, v.oneCell' = true) →
        (execOp a.eval o).run P w = .ok .skip (w.setRow g (cur.toList.take off ++ (a.eval y).cells.toList ++ cur.toList.drop (off + (a.eval y).cells.toList.length)).toArray) := by
      intro w a g off tb cur he hg hl hb h1
      have hs := run_storeCells_at (P := P) g off tb (a.eval y).cells.toList 0 cur w hg (by omega) h1
      simp only [execOp, ho, he]
      have hsz : (a.eval y).cells.size = ti.size := by simpa [hlen] using hl
      simp only [Instr.storeAt, Instr.sureAddr, storeVar, Sem.run_bind, Sem.run_pure, Result.andThen_ok, run_sizeOf' hti, hsz, ne_eq, not_true, if_false, pure_bind]
      simpa using congrArg (fun r : Result Unit => r.andThen fun _ w' => .ok Next.skip w') hs
    split at h
    · rename_i b off hx
      split at h
      · rename_i tb old hb
        obtain ⟨hK, hle⟩ := putL_ok h
        refine ⟨_, _, hK, fun w0 X Z nt A β a w hr _ K' Q hK' => ?_⟩
        obtain ⟨h1, _⟩ := hr.ev x
        rw [hx] at h1
        obtain ⟨g, e1, e2⟩ := h1.2 (by rw [hb]; simp)
        have hbx := hr.boxes b
        rw [hb] at hbx
        obtain ⟨g', arr, e3, hg, hall⟩ := hbx
        rw [e1] at e3
        simp only [Value.pointer.injEq, Option.some.injEq, Addr.mk.injEq, and_true] at e3
        subst e3
        obtain ⟨h3, h4⟩ := hr.evT T ty y
        obtain ⟨h5, h6⟩ := cells_ok hcs h3 h4
        have hrb := (hr.refb b).1
        rw [hb] at hrb
        have hl1 := h5.length
        have hl2 := hall.length
        have hrun := run w a g off tb arr e2 hg hl1.symm (by simp at hl2; omega) (fun v hv => by
          obtain ⟨i, hi⟩ := List.getElem?_of_mem hv
          have : i < cs.length := by rw [hl1]; exact (List.getElem?_eq_some_iff.1 hi).1
          obtain ⟨u, hu, hc⟩ := h5.get (List.getElem?_eq_getElem this)
          rw [hi] at hu; injection hu with hu; subst hu
          exact hc.oneCell)
        unfold Oper.wp
        rw [hrun]
        refine hK' undef β _ ?_ trivial trivial
        refine Rel.wide ?_ (fun b hb => .inl hb)
        refine hr.setBox (b := b) (g := g) (by rw [hb]; simp) (by simp) (by rw [e1]; rfl) ?_ (fun _ e => by cases e) (fun k hk => setRow_other _ _ _ _ hk) (by simp) rfl rfl rfl (fun Kp => ?_)
        · intro c hc
          rcases List.mem_append.1 hc with hc | hc
          · rcases List.mem_append.1 hc with hc | hc
            · exact hrb c (List.mem_of_mem_take hc)
            · exact h6 c hc
          · exact hrb c (List.mem_of_mem_drop hc)
        · refine ⟨g, _, e1, setRow_heap _ _ _ _ _ _ hg, ?_⟩
          have ho' := Kp.cs hrb hall
          have hn' := Kp.cs h6 h5
          have hd := ho'.drop (off + cs.length)
          rw [show List.drop (off + cs.length) arr.toList = List.drop (off + (a.eval y).cells.toList.length) arr.toList by rw [hl1]] at hd
          exact ((ho'.take off).append hn').append hd
      · exact h.elim
    · rename_i b i off hx
      split at h
      · rename_i tb sz rs hb
        obtain ⟨ds, h, hdl, hds⟩ := toDp_ok (m := m) h
        obtain ⟨r, hri, h⟩ := h
        obtain ⟨hK, hle⟩ := putL_ok h
        refine ⟨_, _, hK, fun w0 X Z nt A β a w hr _ K' Q hK' => ?_⟩
        obtain ⟨h1, _⟩ := hr.ev x
        rw [hx] at h1
        obtain ⟨g, n', c, e1, e2⟩ := h1.2 sz (by rw [hb]; rfl)
        have hbx := hr.boxes b
        rw [hb] at hbx
        obtain ⟨xs, how, hrl, hall⟩ := hbx
        have hi' : i < rs.length := (List.getElem?_eq_some_iff.1 hri).1
        rcases how.2 with ⟨_, h0⟩ | ⟨g', cap, cur, e3, hz, hg, hn, hm, hsz, htk⟩
        · omega
        rw [e1] at e3
        simp only [Value.slice.injEq, Option.some.injEq, Addr.mk.injEq, and_true] at e3
        obtain ⟨rfl, rfl, rfl⟩ := e3
        obtain ⟨h3, h4⟩ := hr.evT T ty y
        obtain ⟨h5, h6⟩ := cells_ok hcs h3 h4
        have h7 := hds _ _ _ _ h5
        have hl1 := h5.length
        obtain ⟨hfl, hbd⟩ := flatten_put hrl hri hle
        have hxl : xs.length = rs.flatten.length := hall.length.symm
        have hcl : rs.length * sz ≤ cur.size := by rw [hsz]; exact Nat.mul_le_mul_right _ hn
        have hxc : xs.length = rs.length * sz := how.1
        have hrun := run w a g (i * sz + off) tb cur e2 hg hl1.symm (by omega) (fun v hv => by
          obtain ⟨i, hi⟩ := List.getElem?_of_mem hv
          have : i < cs.length := by rw [hl1]; exact (List.getElem?_eq_some_iff.1 hi).1
          obtain ⟨u, hu, hc⟩ := h5.get (List.getElem?_eq_getElem this)
          rw [hi] at hu; injection hu with hu; subst hu
          exact hc.oneCell)
        unfold Oper.wp
        rw [hrun]
        refine hK' undef β _ ?_ trivial trivial
        refine Rel.wide ?_ (fun b hb => .inl hb)
        refine hr.setBox (b := b) (g := g) (by rw [hb]; simp) (by simp) (by rw [e1]; rfl) trivial (fun sz' e => by rw [hb]; exact e) (fun k hk => setRow_other _ _ _ _ hk) (by simp) rfl rfl rfl (fun Kp => ?_)
        have hvl : (a.eval y).cells.toList.length = ds.length := by omega
        refine ⟨xs.take (i * sz + off) ++ (a.eval y).cells.toList ++ xs.drop (i * sz + off + ds.length), ⟨?_, .inr ⟨g, _, _, ?_, hz, setRow_heap _ _ _ _ _ _ hg, by simpa using hn, hm, ?_, ?_⟩⟩, ?_, ?_⟩
        · simp [hxc, hvl]; omega
        · rw [e1]; simp
        · simp [← hsz, hvl]; omega
        · simp only [List.length_set, hvl]
          rw [← htk]
          have q1 : (cur.toList.take (rs.length * sz)).take (i * sz + off) = cur.toList.take (i * sz + off) := by rw [List.take_take, Nat.min_eq_left (by omega)]
          rw [q1, List.drop_take]
          have q2 : (cur.toList.take (i * sz + off) ++ (a.eval y).cells.toList).length = i * sz + off + ds.length := by simp [hvl]; omega
          rw [List.take_append, q2, List.take_of_length_le (by rw [q2]; omega)]
        · intro r' hr'
          obtain ⟨j, hj⟩ := List.getElem?_of_mem hr'
          rw [List.getElem?_set] at hj
          split at hj
          · rename_i e
            subst e
            injection hj with hj; subst hj
            have := hrl r (List.mem_of_getElem? hri)
            simp; omega
          · exact hrl r' (List.mem_of_getElem? hj)
        · rw [hfl]
          have ho' := hall.mono (R' := DRd _ _) (fun d _ v hv => Kp.d hv)
          have hn' := h7.mono (R' := DRd _ _) (fun d _ v hv => Kp.d hv)
          exact ((ho'.take _).append hn').append (ho'.drop _)
      · rename_i tb sz rs last hb
        obtain ⟨hi, h⟩ := h
        subst hi
        obtain ⟨hK, hle⟩ := putL_ok h
        refine ⟨_, _, hK, fun w0 X Z nt A β a w hr _ K' Q hK' => ?_⟩
        obtain ⟨h1, _⟩ := hr.ev x
        rw [hx] at h1
        obtain ⟨g, n', c, e1, e2⟩ := h1.2 sz (by rw [hb]; rfl)
        have hbx := hr.boxes b
        rw [hb] at hbx
        obtain ⟨xs, ys, how, hrl, hll, hall, hlast⟩ := hbx
        rcases how.2 with ⟨_, h0⟩ | ⟨g', cap, cur, e3, hz, hg, hn, hm, hsz, htk⟩
        · omega
        rw [e1] at e3
        simp only [Value.slice.injEq, Option.some.injEq, Addr.mk.injEq, and_true] at e3
        obtain ⟨rfl, rfl, rfl⟩ := e3
        obtain ⟨h3, h4⟩ := hr.evT T ty y
        obtain ⟨h5, h6⟩ := cells_ok hcs h3 h4
        have hrb := (hr.refb b).1
        rw [hb] at hrb
        have hl1 := h5.length
        have hl2 := hlast.length
        have hxl : xs.length = rs.length * sz := by rw [← hall.length]; exact flatten_len hrl
        have hcl : (rs.length + 1) * sz ≤ cur.size := by rw [hsz]; exact Nat.mul_le_mul_right _ hn
        rw [Nat.succ_mul] at hcl
        have htk' : cur.toList.take (rs.length * sz + sz) = xs ++ ys := by rw [← Nat.succ_mul]; exact htk
        have hrun := run w a g (rs.length * sz + off) tb cur e2 hg hl1.symm (by omega) (fun v hv => by
          obtain ⟨i, hi⟩ := List.getElem?_of_mem hv
          have : i < cs.length := by rw [hl1]; exact (List.getElem?_eq_some_iff.1 hi).1
          obtain ⟨u, hu, hc⟩ := h5.get (List.getElem?_eq_getElem this)
          rw [hi] at hu; injection hu with hu; subst hu
          exact hc.oneCell)
        unfold Oper.wp
        rw [hrun]
        refine hK' undef β _ ?_ trivial trivial
        refine Rel.wide ?_ (fun b hb => .inl hb)
        refine hr.setBox (b := b) (g := g) (by rw [hb]; simp) (by simp) (by rw [e1]; rfl) ?_ (fun sz' e => by rw [hb]; exact e) (fun k hk => setRow_other _ _ _ _ hk) (by simp) rfl rfl rfl (fun Kp => ?_)
        · intro c hc
          rcases List.mem_append.1 hc with hc | hc
          · rcases List.mem_append.1 hc with hc | hc
            · exact hrb c (List.mem_of_mem_take hc)
            · exact h6 c hc
          · exact hrb c (List.mem_of_mem_drop hc)
        · have hvl : (a.eval y).cells.toList.length = cs.length := hl1.symm
          refine ⟨xs, ys.take off ++ (a.eval y).cells.toList ++ ys.drop (off + cs.length), ⟨?_, .inr ⟨g, _, _, ?_, hz, setRow_heap _ _ _ _ _ _ hg, hn, hm, ?_, ?_⟩⟩, hrl, ?_, hall.mono fun d _ v hv => Kp.d hv, ?_⟩
          · simp only [List.length_append, List.length_take, List.length_drop, hvl, hxl, Nat.succ_mul]; omega
          · rw [e1]
          · simp [← hsz, hvl]; omega
          · show List.take ((rs.length + 1) * sz) (cur.toList.take (rs.length * sz + off) ++ (a.eval y).cells.toList ++ cur.toList.drop (rs.length * sz + off + (a.eval y).cells.toList.length)) = _
            have q1 : cur.toList.take (rs.length * sz + off) = xs ++ ys.take off := by
              have : cur.toList.take (rs.length * sz + off) = (cur.toList.take (rs.length * sz + sz)).take (rs.length * sz + off) := by rw [List.take_take, Nat.min_eq_left (by omega)]
              rw [this, htk', List.take_append, List.take_of_length_le (by omega), hxl, show rs.length * sz + off - rs.length * sz = off by omega]
            have q2 : (cur.toList.take (rs.length * sz + off) ++ (a.eval y).cells.toList).length = rs.length * sz + off + cs.length := by simp [hvl]; omega
            rw [List.take_append, q2, List.take_of_length_le (by rw [q2, Nat.succ_mul]; omega), hvl, ← List.drop_take, Nat.succ_mul, q1]
            have q3 : (cur.toList.take (rs.length * sz + sz)).drop (rs.length * sz + off + cs.length) = ys.drop (off + cs.length) := by
              rw [htk', List.drop_append, List.drop_eq_nil_of_le (by omega), hxl, List.nil_append, show rs.length * sz + off + cs.length - rs.length * sz = off + cs.length by omega]
            rw [List.drop_take] at q3
            rw [List.drop_take, q3]
            simp [List.append_assoc]
          · simp only [List.length_append, List.length_take, List.length_drop]; omega
          · have ho' := Kp.cs hrb hlast
            have hn' := Kp.cs h6 h5
            exact ((ho'.take off).append hn').append (ho'.drop _)
      · exact h.elim
    · exact h.elim

theorem kind_slice {t e : Nat} {ti : TI} (h : ti.Ok P t) (hk : ti.kind = .slice e) : P.underlying t = some (.slice e) := by
  have h1 := h.kind
  rw [hk] at h1
  simp only [TK.okB] at h1
  split at h1
  · rename_i e' hu; rw [Nat.eq_of_beq_eq_true h1]; exact hu
  · cases h1
theorem kind_str {t : Nat} {ti : TI} (h : ti.Ok P t) (hk : ti.kind = .str) : P.underlying t = some .string := by
  have h1 := h.kind
  rw [hk] at h1
  simp only [TK.okB] at h1
  split at h1
  · assumption
  · cases h1
theorem kind_int {t : Nat} {ti : TI} {k : IntKind} (h : ti.Ok P t) (hk : ti.kind = .int k) : P.underlying t = some (.int k) := by
  have h1 := h.kind
  rw [hk] at h1
  simp only [TK.okB] at h1
  split at h1
  · rename_i k' hu; rw [decide_eq_true_eq] at h1; rw [h1]; exact hu
  · cases h1
theorem kind_arr {t n e : Nat} {ti : TI} (h : ti.Ok P t) (hk : ti.kind = .arr n e) : P.underlying t = some (.array n e) := by
  have h1 := h.kind
  rw [hk] at h1
  simp only [TK.okB] at h1
  split at h1
  · rename_i n' e' hu
    rw [Bool.and_eq_true, Bool.and_eq_true] at h1
    rw [Nat.eq_of_beq_eq_true h1.1.1, Nat.eq_of_beq_eq_true h1.1.2]; exact hu
  · cases h1
theorem kind_arr_info {t n e : Nat} {ti : TI} (h : ti.Ok P t) (hk : ti.kind = .arr n e) : ∃ i, P.info? e = some i := by
  have h1 := h.kind
  rw [hk] at h1
  simp only [TK.okB] at h1
  split at h1
  · rename_i n' e' hu
    rw [Bool.and_eq_true, Bool.and_eq_true] at h1
    rw [Nat.eq_of_beq_eq_true h1.1.2]; exact Option.isSome_iff_exists.1 h1.2
  · cases h1
theorem kind_struct {t : Nat} {fs : List (Nat × Nat)} {ti : TI} (h : ti.Ok P t) (hk : ti.kind = .struct fs) : ∃ F, P.underlying t = some (.struct F) ∧ F.toList.map (fun f => (f.offset, f.type)) = fs ∧ ∀ f ∈ F.toList, (P.info? f.type).isSome = true := by
  have h1 := h.kind
  rw [hk] at h1
  simp only [TK.okB] at h1
  split at h1
  · rename_i F hu
    rw [Bool.and_eq_true] at h1
    exact ⟨F, hu, by simpa using h1.1, List.all_eq_true.1 h1.2⟩
  · cases h1

theorem DRd.lst_inv {w : World} {N : Nat → Prop} {sz : Nat} {rows : List (List DV)} {v : Value} (h : DRd w N (.lst sz rows) v) : ∃ A cap, v = .slice A rows.length cap ∧ rows.length ≤ cap ∧ (∀ r ∈ rows, r.length = sz) ∧
    (rows ≠ [] → ∃ ad, A = some ad ∧ N ad.block) ∧ ∀ ad, A = some ad → ∀ j d, rows.flatten[j]? = some d → ∃ u, w.cell? (ad.add j) = some u ∧ DRd w N d u := by
  cases h with
  | lst sz rows A cap us hsz hcap hA hc hd => exact ⟨A, cap, rfl, hcap, hsz, hA, fun ad had j d hj => ⟨us j, hc ad had j d hj, hd j d hj⟩⟩

theorem ok_index {T : List (Nat × TI)} (hT : TabOk P T) {t : Nat} {ti : TI} (hti : ti.Ok P t) {x y : Operand} {k : IntKind} {i : Int} {K : SV → List Nat → Prop} (ho : o.op = .indexAddr t x y) (hy : ev l y = .one (.dv (.int k i)))
    (h : indexW T m ti (ev l x) i K) : ∃ v ft, K v ft ∧ OpOk P o l m n v [] n := by
  unfold indexW at h
  split at h
  · rename_i c e hk
    have hu := kind_arr hti hk
    split at h
    · exact h.elim
    · rename_i te hte
      have hte := hT e te hte
      split at h
      · exact h.elim
      · have run : ∀ (a : Act) (w : World) (ad : Addr), a.eval y = .int k i → a.eval x = .pointer (some ad) → 0 ≤ i → i < c →
            (execOp a.eval o).run P w = .ok (.value (.pointer (some (ad.add (i.toNat * te.size))))) w := by
          intro a w ad h1 h2 h3 h4
          simp only [execOp, ho, h1, h2]
          refine run_v ?_
          simp [Instr.indexAt, Instr.sureAddr, asIntOf, Sem.run_bind, run_underlying hu, h3, h4, run_sizeOf' hte]
        split at h
        · rename_i ds hx
          obtain ⟨⟨h0, hlt⟩, hK⟩ := h
          refine ⟨_, _, hK, ok_value fun w0 X Z nt A β a w hr => ?_⟩
          obtain ⟨h1, _⟩ := hr.ev x
          rw [hx] at h1
          obtain ⟨ad, e1, hN, hc⟩ := h1
          have h2 := (hr.ev y).1
          rw [hy] at h2
          refine ⟨_, run a w ad (DRd.int_inv h2) e1 h0 hlt, ⟨_, rfl, by rw [addr_block]; exact hN, fun j d hj => ?_⟩, trivial⟩
          rw [List.getElem?_drop] at hj
          rw [addr_add]
          exact hc _ d hj
        · rename_i b off hx
          split at h
          · rename_i tb cs hb
            obtain ⟨⟨h0, hlt⟩, hK⟩ := h
            refine ⟨_, _, hK, ok_value fun w0 X Z nt A β a w hr => ?_⟩
            obtain ⟨h1, hrf⟩ := hr.ev x
            rw [hx] at h1 hrf
            obtain ⟨g, e1, e2⟩ := h1.2 (by rw [hb]; simp)
            have h2 := (hr.ev y).1
            rw [hy] at h2
            exact ⟨_, run a w _ (DRd.int_inv h2) e2 h0 hlt, ⟨rfl, fun _ => ⟨g, e1, by rw [addr_mk]⟩⟩, hrf⟩
          · exact h.elim
        · rename_i b r off hx
          split at h
          · rename_i tb sz rs hb
            obtain ⟨⟨h0, hlt⟩, hK⟩ := h
            refine ⟨_, _, hK, ok_value fun w0 X Z nt A β a w hr => ?_⟩
            obtain ⟨h1, hrf⟩ := hr.ev x
            rw [hx] at h1 hrf
            obtain ⟨g, k', c', e1, e2⟩ := h1.2 sz (by rw [hb]; rfl)
            have h2 := (hr.ev y).1
            rw [hy] at h2
            refine ⟨_, run a w _ (DRd.int_inv h2) e2 h0 hlt, ⟨rfl, fun sz' hb' => ?_⟩, hrf⟩
            rw [hb] at hb'
            simp only [rowSz, Option.some.injEq] at hb'
            subst hb'
            exact ⟨g, _, _, e1, by rw [addr_mk, Nat.add_assoc]⟩
          · exact h.elim
        · exact h.elim
  · rename_i e hk
    have hu := kind_slice hti hk
    split at h
    · exact h.elim
    · rename_i te hte
      have hte := hT e te hte
      have run : ∀ (a : Act) (w : World) (ad : Addr) (len c : Nat), a.eval y = .int k i → a.eval x = .slice (some ad) len c → 0 ≤ i → i < len →
          (execOp a.eval o).run P w = .ok (.value (.pointer (some (ad.add (i.toNat * te.size))))) w := by
        intro a w ad len c h1 h2 h3 h4
        simp only [execOp, ho, h1, h2]
        refine run_v ?_
        simp [Instr.indexAt, asIntOf, Sem.run_bind, run_underlying hu, h3, h4, run_sizeOf' hte]
      split at h
      · rename_i sz rows hx
        split at h
        · exact h.elim
        · rename_i hsz
          have hsz := Nat.eq_of_beq_eq_true hsz
          obtain ⟨h0, r, hri, hK⟩ := h
          refine ⟨_, _, hK, ok_value fun w0 X Z nt A β a w hr => ?_⟩
          obtain ⟨h1, _⟩ := hr.ev x
          rw [hx] at h1
          obtain ⟨Ao, cap, e1, hcap, hl, hA, hc⟩ := DRd.lst_inv h1
          have hi' : i.toNat < rows.length := (List.getElem?_eq_some_iff.1 hri).1
          obtain ⟨ad, rfl, hN⟩ := hA (by rintro rfl; simp at hi')
          have h2 := (hr.ev y).1
          rw [hy] at h2
          refine ⟨_, run a w ad _ _ (DRd.int_inv h2) e1 h0 (by omega), ⟨_, rfl, by rw [addr_block]; exact hN, fun j d hj => ?_⟩, trivial⟩
          rw [addr_add, ← hsz]
          exact hc ad rfl _ d (flatten_get hl hri hj)
      · rename_i b hx
        split at h
        · rename_i tb sz rs hb
          split at h
          · exact h.elim
          · rename_i hsz
            have hsz := Nat.eq_of_beq_eq_true hsz
            obtain ⟨⟨h0, hlt⟩, hK⟩ := h
            refine ⟨_, _, hK, ok_value fun w0 X Z nt A β a w hr => ?_⟩
            obtain ⟨h1, hrf⟩ := hr.ev x
            rw [hx] at h1 hrf
            have e1 := h1.2 (by rw [hb]; simp)
            have hbx := hr.boxes b
            rw [hb] at hbx
            obtain ⟨xs, how, hrl, hall⟩ := hbx
            rcases how.2 with ⟨_, hn0⟩ | ⟨g, cap, cur, e3, hz, hg, hn, hm, hsz', htk⟩
            · omega
            have h2 := (hr.ev y).1
            rw [hy] at h2
            refine ⟨_, run a w _ _ _ (DRd.int_inv h2) (e1.trans e3) h0 hlt, ⟨rfl, fun sz' hb' => ?_⟩, hrf⟩
            rw [hb] at hb'
            simp only [rowSz, Option.some.injEq] at hb'
            subst hb'
            exact ⟨g, _, _, e3, by rw [addr_mk, hsz]; simp⟩
        · rename_i tb sz rs last hb
          split at h
          · exact h.elim
          · rename_i hsz
            have hsz := Nat.eq_of_beq_eq_true hsz
            obtain ⟨⟨h0, hlt⟩, hK⟩ := h
            refine ⟨_, _, hK, ok_value fun w0 X Z nt A β a w hr => ?_⟩
            obtain ⟨h1, hrf⟩ := hr.ev x
            rw [hx] at h1 hrf
            have e1 := h1.2 (by rw [hb]; simp)
            have hbx := hr.boxes b
            rw [hb] at hbx
            obtain ⟨xs, ys, how, _⟩ := hbx
            rcases how.2 with ⟨_, hn0⟩ | ⟨g, cap, cur, e3, hz, hg, hn, hm, hsz', htk⟩
            · omega
            have h2 := (hr.ev y).1
            rw [hy] at h2
            refine ⟨_, run a w _ _ _ (DRd.int_inv h2) (e1.trans e3) h0 (by omega), ⟨rfl, fun sz' hb' => ?_⟩, hrf⟩
            rw [hb] at hb'
            simp only [rowSz, Option.some.injEq] at hb'
            subst hb'
            exact ⟨g, _, _, e3, by rw [addr_mk, hsz]; simp⟩
        · exact h.elim
      · exact h.elim
  · exact h.elim

theorem ok_field {T : List (Nat × TI)} (hT : TabOk P T) {t f : Nat} {ti : TI} (hti : ti.Ok P t) {x : Operand} {K : SV → Prop} (ho : o.op = .fieldAddr t x f) (h : fieldAtW T m ti f (ev l x) K) : ∃ v, K v ∧ OpOk P o l m n v [] n := by
  unfold fieldAtW at h
  split at h
  · rename_i fs hk
    obtain ⟨F, hu, hF, _⟩ := kind_struct hti hk
    split at h
    · exact h.elim
    · rename_i off ft hf
      split at h
      · exact h.elim
      · rename_i te hte
        have hte := hT ft te hte
        split at h
        · exact h.elim
        · rename_i hsz
          have hsz : te.size ≠ 0 := by intro e; rw [e] at hsz; cases hsz
          rw [← hF, List.getElem?_map, Option.map_eq_some_iff] at hf
          obtain ⟨fd, hfd, e⟩ := hf
          simp only [Prod.mk.injEq] at e
          obtain ⟨rfl, rfl⟩ := e
          have hfd' : F[f]? = some fd := by simpa using hfd
          have run : ∀ (a : Act) (w : World) (ad : Addr), a.eval x = .pointer (some ad) → (execOp a.eval o).run P w = .ok (.value (.pointer (some (ad.add fd.offset)))) w := by
            intro a w ad h1
            simp only [execOp, ho, h1]
            refine run_v ?_
            simp [Instr.fieldAt, Instr.sureAddr, fieldPlace, Sem.run_bind, run_underlying hu, hfd', run_sizeOf' hte, hsz]
          split at h
          · rename_i ds hx
            refine ⟨_, h, ok_value fun w0 X Z nt A β a w hr => ?_⟩
            obtain ⟨h1, _⟩ := hr.ev x
            rw [hx] at h1
            obtain ⟨ad, e1, hN, hc⟩ := h1
            refine ⟨_, run a w ad e1, ⟨_, rfl, by rw [addr_block]; exact hN, fun j d hj => ?_⟩, trivial⟩
            rw [List.getElem?_drop] at hj
            rw [addr_add]
            exact hc _ d hj
          · rename_i b off hx
            split at h
            · rename_i tb cs hb
              refine ⟨_, h, ok_value fun w0 X Z nt A β a w hr => ?_⟩
              obtain ⟨h1, hrf⟩ := hr.ev x
              rw [hx] at h1 hrf
              obtain ⟨g, e1, e2⟩ := h1.2 (by rw [hb]; simp)
              exact ⟨_, run a w _ e2, ⟨rfl, fun _ => ⟨g, e1, by rw [addr_mk]⟩⟩, hrf⟩
            · exact h.elim
          · rename_i b i off hx
            split at h
            · rename_i tb sz rs hb
              refine ⟨_, h, ok_value fun w0 X Z nt A β a w hr => ?_⟩
              obtain ⟨h1, hrf⟩ := hr.ev x
              rw [hx] at h1 hrf
              obtain ⟨g, k, c, e1, e2⟩ := h1.2 sz (by rw [hb]; rfl)
              refine ⟨_, run a w _ e2, ⟨rfl, fun sz' hb' => ?_⟩, hrf⟩
              rw [hb] at hb'
              simp only [rowSz, Option.some.injEq] at hb'
              subst hb'
              exact ⟨g, _, _, e1, by rw [addr_mk, Nat.add_assoc]⟩
            · rename_i tb sz rs last hb
              refine ⟨_, h, ok_value fun w0 X Z nt A β a w hr => ?_⟩
              obtain ⟨h1, hrf⟩ := hr.ev x
              rw [hx] at h1 hrf
              obtain ⟨g, k, c, e1, e2⟩ := h1.2 sz (by rw [hb]; rfl)
              refine ⟨_, run a w _ e2, ⟨rfl, fun sz' hb' => ?_⟩, hrf⟩
              rw [hb] at hb'
              simp only [rowSz, Option.some.injEq] at hb'
              subst hb'
              exact ⟨g, _, _, e1, by rw [addr_mk, Nat.add_assoc]⟩
            · exact h.elim
          · exact h.elim
  · exact h.elim

theorem ok_len {t : Nat} {ts : List TypeId} {ti : TI} (hti : ti.Ok P t) {c : Call} {x : Operand} {K : Int → List Nat → Prop} (ho : o.op = .call c) (hc : c.callee = .builtin .len) (ha : c.args.toList = [x]) (ht : c.argTypes.toList = t :: ts)
    (h : lenW m ti (ev l x) K) : ∃ i ft, K i ft ∧ OpOk P o l m n (.one (.dv (.int .i64 i))) [] n := by
  have ha' : c.args = #[x] := by rw [← Array.toArray_toList (xs := c.args), ha]
  have ht' : c.argTypes = (t :: ts).toArray := by rw [← Array.toArray_toList (xs := c.argTypes), ht]
  have run : ∀ (a : Act) (w : World) (i : Int), (Builtin.len_ (t :: ts).toArray o.type #[a.eval x]).run P w = .ok (.int .i64 i) w → (execOp a.eval o).run P w = .ok (.value (.int .i64 i)) w := by
    intro a w i h
    simp only [execOp, ho]
    simp [resolve, hc, ha', ht', invoke, builtin, Sem.run_bind, h]
  unfold lenW at h
  split at h
  · rename_i e hk
    have hu := kind_slice hti hk
    have run' : ∀ (a : Act) (w : World) (A : Option Addr) (n c : Nat), a.eval x = .slice A n c → (Builtin.len_ (t :: ts).toArray o.type #[a.eval x]).run P w = .ok (.int .i64 n) w := by
      intro a w A n c he
      simp [Builtin.len_, he, run_underlying hu, goInt]
    split at h
    · rename_i sz rows hx
      refine ⟨_, _, h, ok_value fun w0 X Z nt A β a w hr => ?_⟩
      obtain ⟨h1, _⟩ := hr.ev x
      rw [hx] at h1
      obtain ⟨Ao, cap, e1, _⟩ := DRd.lst_inv h1
      exact ⟨_, run a w _ (run' a w _ _ _ e1), .int _ _, trivial⟩
    · rename_i sz hx
      refine ⟨_, _, h, ok_value fun w0 X Z nt A β a w hr => ?_⟩
      obtain ⟨h1, _⟩ := hr.ev x
      rw [hx] at h1
      exact ⟨_, run a w _ (run' a w _ _ _ h1), .int _ _, trivial⟩
    · rename_i b hx
      split at h
      · rename_i tb sz rs hb
        refine ⟨_, _, h, ok_value fun w0 X Z nt A β a w hr => ?_⟩
        obtain ⟨h1, _⟩ := hr.ev x
        rw [hx] at h1
        have e1 := h1.2 (by rw [hb]; simp)
        have hbx := hr.boxes b
        rw [hb] at hbx
        obtain ⟨xs, how, hrl, hall⟩ := hbx
        rcases how.2 with ⟨e3, hn0⟩ | ⟨g, cap, cur, e3, hz, hg, hn, hm, hsz', htk⟩
        · exact ⟨_, run a w _ (run' a w _ _ _ (e1.trans e3)), by rw [hn0]; exact .int _ _, trivial⟩
        · exact ⟨_, run a w _ (run' a w _ _ _ (e1.trans e3)), .int _ _, trivial⟩
      · rename_i tb sz rs last hb
        refine ⟨_, _, h, ok_value fun w0 X Z nt A β a w hr => ?_⟩
        obtain ⟨h1, _⟩ := hr.ev x
        rw [hx] at h1
        have e1 := h1.2 (by rw [hb]; simp)
        have hbx := hr.boxes b
        rw [hb] at hbx
        obtain ⟨xs, ys, how, _⟩ := hbx
        rcases how.2 with ⟨e3, hn0⟩ | ⟨g, cap, cur, e3, hz, hg, hn, hm, hsz', htk⟩
        · omega
        · exact ⟨_, run a w _ (run' a w _ _ _ (e1.trans e3)), .int _ _, trivial⟩
      · exact h.elim
    · exact h.elim
  · rename_i hk
    have hu := kind_str hti hk
    split at h
    · rename_i s hx
      refine ⟨_, _, h, ok_value fun w0 X Z nt A β a w hr => ?_⟩
      obtain ⟨h1, _⟩ := hr.ev x
      rw [hx] at h1
      have e1 := DRd.str_inv h1
      exact ⟨_, run a w s.size (by simp [Builtin.len_, e1, run_underlying hu, goInt]), .int _ _, trivial⟩
    · exact h.elim
  · rename_i k e hk
    have hu := kind_arr hti hk
    refine ⟨_, _, h, ok_value fun w0 X Z nt A β a w hr => ?_⟩
    exact ⟨_, run a w k (by simp [Builtin.len_, run_underlying hu, goInt]), .int _ _, trivial⟩
  · exact h.elim

theorem ok_max {c : Call} {x y : Operand} {k k' : IntKind} {p q : Int} (ho : o.op = .call c) (hc : c.callee = .builtin .max) (ha : c.args.toList = [x, y]) (hx : ev l x = .one (.dv (.int k p))) (hy : ev l y = .one (.dv (.int k' q))) :
    OpOk P o l m n (.one (.dv (.int k (max p q)))) [] n := by
  have ha' : c.args = #[x, y] := by rw [← Array.toArray_toList (xs := c.args), ha]
  refine ok_value fun w0 X Z nt A β a w hr => ⟨.int k (max p q), ?_, .int _ _, trivial⟩
  have h1 := (hr.ev x).1
  have h2 := (hr.ev y).1
  rw [hx] at h1
  rw [hy] at h2
  have e1 := DRd.int_inv h1
  have e2 := DRd.int_inv h2
  have e3 : (if q > p then q else p) = max p q := by simp only [Int.max_def]; split <;> split <;> omega
  simp only [execOp, ho]
  simp [resolve, hc, ha', invoke, builtin, Sem.run_bind, Builtin.max_, Builtin.max2, e1, e2, e3]
theorem ok_min {c : Call} {x y : Operand} {k k' : IntKind} {p q : Int} (ho : o.op = .call c) (hc : c.callee = .builtin .min) (ha : c.args.toList = [x, y]) (hx : ev l x = .one (.dv (.int k p))) (hy : ev l y = .one (.dv (.int k' q))) :
    OpOk P o l m n (.one (.dv (.int k (min p q)))) [] n := by
  have ha' : c.args = #[x, y] := by rw [← Array.toArray_toList (xs := c.args), ha]
  refine ok_value fun w0 X Z nt A β a w hr => ⟨.int k (min p q), ?_, .int _ _, trivial⟩
  have h1 := (hr.ev x).1
  have h2 := (hr.ev y).1
  rw [hx] at h1
  rw [hy] at h2
  have e1 := DRd.int_inv h1
  have e2 := DRd.int_inv h2
  have e3 : (if q < p then q else p) = min p q := by simp only [Int.min_def]; split <;> split <;> omega
  simp only [execOp, ho]
  simp [resolve, hc, ha', invoke, builtin, Sem.run_bind, Builtin.min_, Builtin.min2, e1, e2, e3]

theorem ok_nilCheck {x : Operand} (ho : o.op = .nilCheck x) (hx : (∃ b off tb cs, ev l x = .one (.vptr b off) ∧ lkb m b = .vars tb cs) ∨ (∃ ds, ev l x = .one (.iptr ds)) ∨ ∃ b i off t sz rs, ev l x = .one (.rptr b i off) ∧ lkb m b = .rows t sz rs) : OpOk P o l m n (ev l x) [] n := by
  refine ok_value fun w0 X Z nt A β a w hr => ?_
  obtain ⟨h1, h2⟩ := hr.ev x
  have : ∃ ad, a.eval x = .pointer (some ad) := by
    rcases hx with ⟨b, off, tb, cs, hx, hb⟩ | ⟨ds, hx⟩ | ⟨b, i, off, t, sz, rs, hx, hb⟩
    · rw [hx] at h1
      obtain ⟨g, e1, e2⟩ := h1.2 (by rw [hb]; simp)
      exact ⟨_, e2⟩
    · rw [hx] at h1
      obtain ⟨ad, e, _⟩ := h1
      exact ⟨ad, e⟩
    · rw [hx] at h1
      obtain ⟨g, n, c, _, e⟩ := h1.2 sz (by rw [hb]; rfl)
      exact ⟨_, e⟩
  obtain ⟨ad, e⟩ := this
  refine ⟨a.eval x, ?_, h1, h2⟩
  simp [execOp, ho, e]

end Eng
