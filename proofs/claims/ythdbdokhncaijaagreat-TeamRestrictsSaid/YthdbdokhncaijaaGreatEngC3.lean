/- The steps are sound: addresses, lengths. -/
import Derived.Test.YthdbdokhncaijaaGreatEngC2
namespace Eng
open Go Go.RowKit

variable {P : Program} {o : Oper} {l : List (Nat × SV)} {m : List (Nat × Box)} {n : Nat}

theorem putL_ok {α : Type} {old new : List α} {off : Nat} {k : List α → Prop} (h : putL old off new k) : k (old.take off ++ new ++ old.drop (off + new.length)) ∧ off + new.length ≤ old.length := by
  induction old generalizing off new k with
  | nil => cases off with
    | zero => cases new with
      | nil => exact ⟨by simpa [putL] using h, by simp⟩
      | cons v vs => simp [putL] at h
    | succ off => simp [putL] at h
  | cons c cs ih => cases off with
    | zero => cases new with
      | nil => exact ⟨by simpa [putL] using h, by simp⟩
      | cons v vs =>
        simp only [putL] at h
        obtain ⟨h1, h2⟩ := ih h
        exact ⟨by simpa using h1, by simpa using h2⟩
    | succ off =>
      simp only [putL] at h
      obtain ⟨h1, h2⟩ := ih h
      exact ⟨by simpa [Nat.succ_add] using h1, by simp; omega⟩

theorem toDp_ok {cs : List CV} {k : List DV → Prop} (h : toDp cs k) : ∃ ds, k ds ∧ ds.length = cs.length ∧
    ∀ (w : World) (N : Nat → Prop) (β : Nat → Value) (vs : List Value), All2 (CRd w N m β) cs vs → All2 (DRd w N) ds vs := by
  induction cs generalizing k with
  | nil => exact ⟨[], h, rfl, fun w N β vs hv => by cases vs with
    | nil => trivial
    | cons => exact hv.elim⟩
  | cons c cs ih =>
    cases c with
    | dv d =>
      obtain ⟨ds, h1, h2, h3⟩ := ih h
      exact ⟨d :: ds, h1, by simp [h2], fun w N β vs hv => by cases vs with
        | nil => exact hv.elim
        | cons v vs => exact ⟨hv.1, h3 w N β vs hv.2⟩⟩
    | nil sz =>
      obtain ⟨ds, h1, h2, h3⟩ := ih h
      exact ⟨.lst sz [] :: ds, h1, by simp [h2], fun w N β vs hv => by cases vs with
        | nil => exact hv.elim
        | cons v vs =>
          have := hv.1
          simp only [CRd] at this
          subst this
          exact ⟨DRd.nilS w N sz, h3 w N β vs hv.2⟩⟩
    | _ => exact h.elim

theorem flatten_len {rs : List (List DV)} {sz : Nat} (hl : ∀ r ∈ rs, r.length = sz) : rs.flatten.length = rs.length * sz := by
  induction rs with
  | nil => simp
  | cons r rs ih => rw [List.flatten_cons, List.length_append, ih fun r hr => hl r (by simp [hr]), hl r (by simp), List.length_cons, Nat.succ_mul]; omega
theorem flatten_set {rs : List (List DV)} {sz i : Nat} {r new : List DV} (hl : ∀ r ∈ rs, r.length = sz) (hi : rs[i]? = some r) :
    (rs.set i new).flatten = rs.flatten.take (i * sz) ++ new ++ rs.flatten.drop (i * sz + sz) := by
  induction rs generalizing i with
  | nil => simp at hi
  | cons r0 rs ih =>
    have h0 := hl r0 (by simp)
    cases i with
    | zero =>
      simp at hi; subst hi
      simp [← h0]
    | succ i =>
      simp at hi
      rw [List.set_cons_succ, List.flatten_cons, ih (fun r hr => hl r (by simp [hr])) hi, List.flatten_cons]
      rw [show (i + 1) * sz = r0.length + i * sz by rw [h0, Nat.succ_mul]; omega, List.take_length_add_append, Nat.add_assoc, List.drop_length_add_append]
      simp [List.append_assoc]
theorem getRow {rs : List (List DV)} {sz i : Nat} {r : List DV} (hl : ∀ r ∈ rs, r.length = sz) (hi : rs[i]? = some r) : r = (rs.flatten.drop (i * sz)).take sz := by
  induction rs generalizing i with
  | nil => simp at hi
  | cons r0 rs ih =>
    have h0 := hl r0 (by simp)
    cases i with
    | zero => simp at hi; subst hi; simp [← h0]
    | succ i =>
      simp at hi
      rw [List.flatten_cons, show (i + 1) * sz = r0.length + i * sz by rw [h0, Nat.succ_mul]; omega, List.drop_length_add_append]
      exact ih (fun r hr => hl r (by simp [hr])) hi
theorem flatten_put {rs : List (List DV)} {sz i off : Nat} {r ds : List DV} (hl : ∀ r ∈ rs, r.length = sz) (hi : rs[i]? = some r) (ho : off + ds.length ≤ r.length) :
    (rs.set i (r.take off ++ ds ++ r.drop (off + ds.length))).flatten = rs.flatten.take (i * sz + off) ++ ds ++ rs.flatten.drop (i * sz + off + ds.length) ∧ i * sz + off + ds.length ≤ rs.flatten.length := by
  have hr := hl r (List.mem_of_getElem? hi)
  have hlen := flatten_len hl
  have hi' : i < rs.length := (List.getElem?_eq_some_iff.1 hi).1
  have hb : i * sz + sz ≤ rs.flatten.length := by
    rw [hlen]
    calc i * sz + sz = (i + 1) * sz := by rw [Nat.succ_mul]
      _ ≤ rs.length * sz := Nat.mul_le_mul_right _ hi'
  refine ⟨?_, by omega⟩
  rw [flatten_set hl hi]
  have e := getRow hl hi
  generalize rs.flatten = F at *
  have e1 : r.take off = (F.drop (i * sz)).take off := by rw [e, List.take_take, Nat.min_eq_left (by omega)]
  have e2 : r.drop (off + ds.length) = (F.drop (i * sz + off + ds.length)).take (sz - (off + ds.length)) := by
    rw [e, List.drop_take, List.drop_drop, Nat.add_assoc]
  rw [e1, e2]
  have e3 : F.take (i * sz + off) = F.take (i * sz) ++ (F.drop (i * sz)).take off := by rw [List.take_add]
  have e4 : F.drop (i * sz + off + ds.length) = (F.drop (i * sz + off + ds.length)).take (sz - (off + ds.length)) ++ F.drop (i * sz + sz) := by
    have := List.take_append_drop (sz - (off + ds.length)) (F.drop (i * sz + off + ds.length))
    rw [List.drop_drop, show i * sz + off + ds.length + (sz - (off + ds.length)) = i * sz + sz by omega] at this
    exact this.symm
  rw [e3]
  conv => rhs; rw [e4]
  simp only [List.append_assoc]

theorem kind_slice {t e : Nat} {ti : TI} (h : ti.Ok P t) (hk : ti.kind = .slice e) : P.underlying t = some (.slice e) := by
  have h1 := h.kind
  rw [hk] at h1
  simp only [TK.okB] at h1
  split at h1
  · rename_i e' hu; rw [Nat.eq_of_beq_eq_true h1]; exact hu
  · cases h1
theorem kind_str {t : Nat} {ti : TI} (h : ti.Ok P t) (hk : ti.kind = .str) : P.underlying t = some .string := by
  have h1 := h.kind
  rw [hk] at h1
  simp only [TK.okB] at h1
  split at h1
  · assumption
  · cases h1
theorem kind_int {t : Nat} {ti : TI} {k : IntKind} (h : ti.Ok P t) (hk : ti.kind = .int k) : P.underlying t = some (.int k) := by
  have h1 := h.kind
  rw [hk] at h1
  simp only [TK.okB] at h1
  split at h1
  · rename_i k' hu; rw [decide_eq_true_eq] at h1; rw [h1]; exact hu
  · cases h1
theorem kind_arr {t n e : Nat} {ti : TI} (h : ti.Ok P t) (hk : ti.kind = .arr n e) : P.underlying t = some (.array n e) := by
  have h1 := h.kind
  rw [hk] at h1
  simp only [TK.okB] at h1
  split at h1
  · rename_i n' e' hu
    rw [Bool.and_eq_true, Bool.and_eq_true] at h1
    rw [Nat.eq_of_beq_eq_true h1.1.1, Nat.eq_of_beq_eq_true h1.1.2]; exact hu
  · cases h1
theorem kind_arr_info {t n e : Nat} {ti : TI} (h : ti.Ok P t) (hk : ti.kind = .arr n e) : ∃ i, P.info? e = some i := by
  have h1 := h.kind
  rw [hk] at h1
  simp only [TK.okB] at h1
  split at h1
  · rename_i n' e' hu
    rw [Bool.and_eq_true, Bool.and_eq_true] at h1
    rw [Nat.eq_of_beq_eq_true h1.1.2]; exact Option.isSome_iff_exists.1 h1.2
  · cases h1
theorem kind_struct {t : Nat} {fs : List (Nat × Nat)} {ti : TI} (h : ti.Ok P t) (hk : ti.kind = .struct fs) : ∃ F, P.underlying t = some (.struct F) ∧ F.toList.map (fun f => (f.offset, f.type)) = fs ∧ ∀ f ∈ F.toList, (P.info? f.type).isSome = true := by
  have h1 := h.kind
  rw [hk] at h1
  simp only [TK.okB] at h1
  split at h1
  · rename_i F hu
    rw [Bool.and_eq_true] at h1
    exact ⟨F, hu, by simpa using h1.1, List.all_eq_true.1 h1.2⟩
  · cases h1

theorem DRd.lst_inv {w : World} {N : Nat → Prop} {sz : Nat} {rows : List (List DV)} {v : Value} (h : DRd w N (.lst sz rows) v) : ∃ A cap, v = .slice A rows.length cap ∧ rows.length ≤ cap ∧ (∀ r ∈ rows, r.length = sz) ∧
    (rows ≠ [] → ∃ ad, A = some ad ∧ N ad.block) ∧ ∀ ad, A = some ad → ∀ j d, rows.flatten[j]? = some d → ∃ u, w.cell? (ad.add j) = some u ∧ DRd w N d u := by
  cases h with
  | lst sz rows A cap us hsz hcap hA hc hd => exact ⟨A, cap, rfl, hcap, hsz, hA, fun ad had j d hj => ⟨us j, hc ad had j d hj, hd j d hj⟩⟩

theorem ok_index {T : List (Nat × TI)} (hT : TabOk P T) {t : Nat} {ti : TI} (hti : ti.Ok P t) {x y : Operand} {k : IntKind} {i : Int} {K : SV → List Nat → Prop} (ho : o.op = .indexAddr t x y) (hy : ev l y = .one (.dv (.int k i)))
    (h : indexW T m ti (ev l x) i K) : ∃ v ft, K v ft ∧ OpOk P o l m n v [] n := by
  unfold indexW at h
  split at h
  · rename_i c e hk
    have hu := kind_arr hti hk
    split at h
    · exact h.elim
    · rename_i te hte
      have hte := hT e te hte
      split at h
      · exact h.elim
      · have run : ∀ (a : Act) (w : World) (ad : Addr), a.eval y = .int k i → a.eval x = .pointer (some ad) → 0 ≤ i → i < c →
            (execOp a.eval o).run P w = .ok (.value (.pointer (some (ad.add (i.toNat * te.size))))) w := by
          intro a w ad h1 h2 h3 h4
          simp only [execOp, ho, h1, h2]
          refine run_v ?_
          simp [Instr.indexAt, Instr.sureAddr, asIntOf, Sem.run_bind, run_underlying hu, h3, h4, run_sizeOf' hte]
        split at h
        · rename_i ds hx
          obtain ⟨⟨h0, hlt⟩, hK⟩ := h
          refine ⟨_, _, hK, ok_value fun w0 X Z nt A β a w hr => ?_⟩
          obtain ⟨h1, _⟩ := hr.ev x
          rw [hx] at h1
          obtain ⟨ad, e1, hN, hc⟩ := h1
          have h2 := (hr.ev y).1
          rw [hy] at h2
          refine ⟨_, run a w ad (DRd.int_inv h2) e1 h0 hlt, ⟨_, rfl, by rw [addr_block]; exact hN, fun j d hj => ?_⟩, trivial⟩
          rw [List.getElem?_drop] at hj
          rw [addr_add]
          exact hc _ d hj
        · rename_i b off hx
          split at h
          · rename_i tb cs hb
            obtain ⟨⟨h0, hlt⟩, hK⟩ := h
            refine ⟨_, _, hK, ok_value fun w0 X Z nt A β a w hr => ?_⟩
            obtain ⟨h1, hrf⟩ := hr.ev x
            rw [hx] at h1 hrf
            obtain ⟨g, e1, e2⟩ := h1.2 (by rw [hb]; simp)
            have h2 := (hr.ev y).1
            rw [hy] at h2
            exact ⟨_, run a w _ (DRd.int_inv h2) e2 h0 hlt, ⟨rfl, fun _ => ⟨g, e1, by rw [addr_mk]⟩⟩, hrf⟩
          · exact h.elim
        · rename_i b r off hx
          split at h
          · rename_i tb sz rs hb
            obtain ⟨⟨h0, hlt⟩, hK⟩ := h
            refine ⟨_, _, hK, ok_value fun w0 X Z nt A β a w hr => ?_⟩
            obtain ⟨h1, hrf⟩ := hr.ev x
            rw [hx] at h1 hrf
            obtain ⟨g, k', c', e1, e2⟩ := h1.2 sz (by rw [hb]; rfl)
            have h2 := (hr.ev y).1
            rw [hy] at h2
            refine ⟨_, run a w _ (DRd.int_inv h2) e2 h0 hlt, ⟨rfl, fun sz' hb' => ?_⟩, hrf⟩
            rw [hb] at hb'
            simp only [rowSz, Option.some.injEq] at hb'
            subst hb'
            exact ⟨g, _, _, e1, by rw [addr_mk, Nat.add_assoc]⟩
          · exact h.elim
        · exact h.elim
  · rename_i e hk
    have hu := kind_slice hti hk
    split at h
    · exact h.elim
    · rename_i te hte
      have hte := hT e te hte
      have run : ∀ (a : Act) (w : World) (ad : Addr) (len c : Nat), a.eval y = .int k i → a.eval x = .slice (some ad) len c → 0 ≤ i → i < len →
          (execOp a.eval o).run P w = .ok (.value (.pointer (some (ad.add (i.toNat * te.size))))) w := by
        intro a w ad len c h1 h2 h3 h4
        simp only [execOp, ho, h1, h2]
        refine run_v ?_
        simp [Instr.indexAt, asIntOf, Sem.run_bind, run_underlying hu, h3, h4, run_sizeOf' hte]
      split at h
      · rename_i sz rows hx
        split at h
        · exact h.elim
        · rename_i hsz
          have hsz := Nat.eq_of_beq_eq_true hsz
          obtain ⟨h0, r, hri, hK⟩ := h
          refine ⟨_, _, hK, ok_value fun w0 X Z nt A β a w hr => ?_⟩
          obtain ⟨h1, _⟩ := hr.ev x
          rw [hx] at h1
          obtain ⟨Ao, cap, e1, hcap, hl, hA, hc⟩ := DRd.lst_inv h1
          have hi' : i.toNat < rows.length := (List.getElem?_eq_some_iff.1 hri).1
          obtain ⟨ad, rfl, hN⟩ := hA (by rintro rfl; simp at hi')
          have h2 := (hr.ev y).1
          rw [hy] at h2
          refine ⟨_, run a w ad _ _ (DRd.int_inv h2) e1 h0 (by omega), ⟨_, rfl, by rw [addr_block]; exact hN, fun j d hj => ?_⟩, trivial⟩
          rw [addr_add, ← hsz]
          exact hc ad rfl _ d (flatten_get hl hri hj)
      · rename_i b hx
        split at h
        · rename_i tb sz rs hb
          split at h
          · exact h.elim
          · rename_i hsz
            have hsz := Nat.eq_of_beq_eq_true hsz
            obtain ⟨⟨h0, hlt⟩, hK⟩ := h
            refine ⟨_, _, hK, ok_value fun w0 X Z nt A β a w hr => ?_⟩
            obtain ⟨h1, hrf⟩ := hr.ev x
            rw [hx] at h1 hrf
            have e1 := h1.2 (by rw [hb]; simp)
            have hbx := hr.boxes b
            rw [hb] at hbx
            obtain ⟨xs, how, hrl, hall⟩ := hbx
            rcases how.2 with ⟨_, hn0⟩ | ⟨g, cap, cur, e3, hz, hg, hn, hm, hsz', htk⟩
            · omega
            have h2 := (hr.ev y).1
            rw [hy] at h2
            refine ⟨_, run a w _ _ _ (DRd.int_inv h2) (e1.trans e3) h0 hlt, ⟨rfl, fun sz' hb' => ?_⟩, hrf⟩
            rw [hb] at hb'
            simp only [rowSz, Option.some.injEq] at hb'
            subst hb'
            exact ⟨g, _, _, e3, by rw [addr_mk, hsz]; simp⟩
        · rename_i tb sz rs last hb
          split at h
          · exact h.elim
          · rename_i hsz
            have hsz := Nat.eq_of_beq_eq_true hsz
            obtain ⟨⟨h0, hlt⟩, hK⟩ := h
            refine ⟨_, _, hK, ok_value fun w0 X Z nt A β a w hr => ?_⟩
            obtain ⟨h1, hrf⟩ := hr.ev x
            rw [hx] at h1 hrf
            have e1 := h1.2 (by rw [hb]; simp)
            have hbx := hr.boxes b
            rw [hb] at hbx
            obtain ⟨xs, ys, how, _⟩ := hbx
            rcases how.2 with ⟨_, hn0⟩ | ⟨g, cap, cur, e3, hz, hg, hn, hm, hsz', htk⟩
            · omega
            have h2 := (hr.ev y).1
            rw [hy] at h2
            refine ⟨_, run a w _ _ _ (DRd.int_inv h2) (e1.trans e3) h0 (by omega), ⟨rfl, fun sz' hb' => ?_⟩, hrf⟩
            rw [hb] at hb'
            simp only [rowSz, Option.some.injEq] at hb'
            subst hb'
            exact ⟨g, _, _, e3, by rw [addr_mk, hsz]; simp⟩
        · exact h.elim
      · exact h.elim
  · exact h.elim

theorem ok_field {T : List (Nat × TI)} (hT : TabOk P T) {t f : Nat} {ti : TI} (hti : ti.Ok P t) {x : Operand} {K : SV → Prop} (ho : o.op = .fieldAddr t x f) (h : fieldAtW T m ti f (ev l x) K) : ∃ v, K v ∧ OpOk P o l m n v [] n := by
  unfold fieldAtW at h
  split at h
  · rename_i fs hk
    obtain ⟨F, hu, hF, _⟩ := kind_struct hti hk
    split at h
    · exact h.elim
    · rename_i off ft hf
      split at h
      · exact h.elim
      · rename_i te hte
        have hte := hT ft te hte
        split at h
        · exact h.elim
        · rename_i hsz
          have hsz : te.size ≠ 0 := by intro e; rw [e] at hsz; cases hsz
          rw [← hF, List.getElem?_map, Option.map_eq_some_iff] at hf
          obtain ⟨fd, hfd, e⟩ := hf
          simp only [Prod.mk.injEq] at e
          obtain ⟨rfl, rfl⟩ := e
          have hfd' : F[f]? = some fd := by simpa using hfd
          have run : ∀ (a : Act) (w : World) (ad : Addr), a.eval x = .pointer (some ad) → (execOp a.eval o).run P w = .ok (.value (.pointer (some (ad.add fd.offset)))) w := by
            intro a w ad h1
            simp only [execOp, ho, h1]
            refine run_v ?_
            simp [Instr.fieldAt, Instr.sureAddr, fieldPlace, Sem.run_bind, run_underlying hu, hfd', run_sizeOf' hte, hsz]
          split at h
          · rename_i ds hx
            refine ⟨_, h, ok_value fun w0 X Z nt A β a w hr => ?_⟩
            obtain ⟨h1, _⟩ := hr.ev x
            rw [hx] at h1
            obtain ⟨ad, e1, hN, hc⟩ := h1
            refine ⟨_, run a w ad e1, ⟨_, rfl, by rw [addr_block]; exact hN, fun j d hj => ?_⟩, trivial⟩
            rw [List.getElem?_drop] at hj
            rw [addr_add]
            exact hc _ d hj
          · rename_i b off hx
            split at h
            · rename_i tb cs hb
              refine ⟨_, h, ok_value fun w0 X Z nt A β a w hr => ?_⟩
              obtain ⟨h1, hrf⟩ := hr.ev x
              rw [hx] at h1 hrf
              obtain ⟨g, e1, e2⟩ := h1.2 (by rw [hb]; simp)
              exact ⟨_, run a w _ e2, ⟨rfl, fun _ => ⟨g, e1, by rw [addr_mk]⟩⟩, hrf⟩
            · exact h.elim
          · rename_i b i off hx
            split at h
            · rename_i tb sz rs hb
              refine ⟨_, h, ok_value fun w0 X Z nt A β a w hr => ?_⟩
              obtain ⟨h1, hrf⟩ := hr.ev x
              rw [hx] at h1 hrf
              obtain ⟨g, k, c, e1, e2⟩ := h1.2 sz (by rw [hb]; rfl)
              refine ⟨_, run a w _ e2, ⟨rfl, fun sz' hb' => ?_⟩, hrf⟩
              rw [hb] at hb'
              simp only [rowSz, Option.some.injEq] at hb'
              subst hb'
              exact ⟨g, _, _, e1, by rw [addr_mk, Nat.add_assoc]⟩
            · rename_i tb sz rs last hb
              refine ⟨_, h, ok_value fun w0 X Z nt A β a w hr => ?_⟩
              obtain ⟨h1, hrf⟩ := hr.ev x
              rw [hx] at h1 hrf
              obtain ⟨g, k, c, e1, e2⟩ := h1.2 sz (by rw [hb]; rfl)
              refine ⟨_, run a w _ e2, ⟨rfl, fun sz' hb' => ?_⟩, hrf⟩
              rw [hb] at hb'
              simp only [rowSz, Option.some.injEq] at hb'
              subst hb'
              exact ⟨g, _, _, e1, by rw [addr_mk, Nat.add_assoc]⟩
            · exact h.elim
          · exact h.elim
  · exact h.elim

theorem ok_len {t : Nat} {ts : List TypeId} {ti : TI} (hti : ti.Ok P t) {c : Call} {x : Operand} {K : Int → List Nat → Prop} (ho : o.op = .call c) (hc : c.callee = .builtin .len) (ha : c.args.toList = [x]) (ht : c.argTypes.toList = t :: ts)
    (h : lenW m ti (ev l x) K) : ∃ i ft, K i ft ∧ OpOk P o l m n (.one (.dv (.int .i64 i))) [] n := by
  have ha' : c.args = #[x] := by rw [← Array.toArray_toList (xs := c.args), ha]
  have ht' : c.argTypes = (t :: ts).toArray := by rw [← Array.toArray_toList (xs := c.argTypes), ht]
  have run : ∀ (a : Act) (w : World) (i : Int), (Builtin.len_ (t :: ts).toArray o.type #[a.eval x]).run P w = .ok (.int .i64 i) w → (execOp a.eval o).run P w = .ok (.value (.int .i64 i)) w := by
    intro a w i h
    simp only [execOp, ho]
    simp [resolve, hc, ha', ht', invoke, builtin, h]
  unfold lenW at h
  split at h
  · rename_i e hk
    have hu := kind_slice hti hk
    have run' : ∀ (a : Act) (w : World) (A : Option Addr) (n c : Nat), a.eval x = .slice A n c → (Builtin.len_ (t :: ts).toArray o.type #[a.eval x]).run P w = .ok (.int .i64 n) w := by
      intro a w A n c he
      simp [Builtin.len_, he, run_underlying hu, goInt]
    split at h
    · rename_i sz rows hx
      refine ⟨_, _, h, ok_value fun w0 X Z nt A β a w hr => ?_⟩
      obtain ⟨h1, _⟩ := hr.ev x
      rw [hx] at h1
      obtain ⟨Ao, cap, e1, _⟩ := DRd.lst_inv h1
      exact ⟨_, run a w _ (run' a w _ _ _ e1), .int _ _, trivial⟩
    · rename_i sz hx
      refine ⟨_, _, h, ok_value fun w0 X Z nt A β a w hr => ?_⟩
      obtain ⟨h1, _⟩ := hr.ev x
      rw [hx] at h1
      exact ⟨_, run a w _ (run' a w _ _ _ h1), .int _ _, trivial⟩
    · rename_i b hx
      split at h
      · rename_i tb sz rs hb
        refine ⟨_, _, h, ok_value fun w0 X Z nt A β a w hr => ?_⟩
        obtain ⟨h1, _⟩ := hr.ev x
        rw [hx] at h1
        have e1 := h1.2 (by rw [hb]; simp)
        have hbx := hr.boxes b
        rw [hb] at hbx
        obtain ⟨xs, how, hrl, hall⟩ := hbx
        rcases how.2 with ⟨e3, hn0⟩ | ⟨g, cap, cur, e3, hz, hg, hn, hm, hsz', htk⟩
        · exact ⟨_, run a w _ (run' a w _ _ _ (e1.trans e3)), by rw [hn0]; exact .int _ _, trivial⟩
        · exact ⟨_, run a w _ (run' a w _ _ _ (e1.trans e3)), .int _ _, trivial⟩
      · rename_i tb sz rs last hb
        refine ⟨_, _, h, ok_value fun w0 X Z nt A β a w hr => ?_⟩
        obtain ⟨h1, _⟩ := hr.ev x
        rw [hx] at h1
        have e1 := h1.2 (by rw [hb]; simp)
        have hbx := hr.boxes b
        rw [hb] at hbx
        obtain ⟨xs, ys, how, _⟩ := hbx
        rcases how.2 with ⟨e3, hn0⟩ | ⟨g, cap, cur, e3, hz, hg, hn, hm, hsz', htk⟩
        · omega
        · exact ⟨_, run a w _ (run' a w _ _ _ (e1.trans e3)), .int _ _, trivial⟩
      · exact h.elim
    · exact h.elim
  · rename_i hk
    have hu := kind_str hti hk
    split at h
    · rename_i s hx
      refine ⟨_, _, h, ok_value fun w0 X Z nt A β a w hr => ?_⟩
      obtain ⟨h1, _⟩ := hr.ev x
      rw [hx] at h1
      have e1 := DRd.str_inv h1
      exact ⟨_, run a w s.size (by simp [Builtin.len_, e1, run_underlying hu, goInt]), .int _ _, trivial⟩
    · exact h.elim
  · rename_i k e hk
    have hu := kind_arr hti hk
    refine ⟨_, _, h, ok_value fun w0 X Z nt A β a w hr => ?_⟩
    exact ⟨_, run a w k (by simp [Builtin.len_, run_underlying hu, goInt]), .int _ _, trivial⟩
  · exact h.elim

theorem ok_max {c : Call} {x y : Operand} {k k' : IntKind} {p q : Int} (ho : o.op = .call c) (hc : c.callee = .builtin .max) (ha : c.args.toList = [x, y]) (hx : ev l x = .one (.dv (.int k p))) (hy : ev l y = .one (.dv (.int k' q))) :
    OpOk P o l m n (.one (.dv (.int k (max p q)))) [] n := by
  have ha' : c.args = #[x, y] := by rw [← Array.toArray_toList (xs := c.args), ha]
  refine ok_value fun w0 X Z nt A β a w hr => ⟨.int k (max p q), ?_, .int _ _, trivial⟩
  have h1 := (hr.ev x).1
  have h2 := (hr.ev y).1
  rw [hx] at h1
  rw [hy] at h2
  have e1 := DRd.int_inv h1
  have e2 := DRd.int_inv h2
  have e3 : (if q > p then q else p) = max p q := by simp only [Int.max_def]; split <;> split <;> omega
  simp only [execOp, ho]
  simp [resolve, hc, ha', invoke, builtin, Builtin.max_, Builtin.max2, e1, e2, e3]
theorem ok_min {c : Call} {x y : Operand} {k k' : IntKind} {p q : Int} (ho : o.op = .call c) (hc : c.callee = .builtin .min) (ha : c.args.toList = [x, y]) (hx : ev l x = .one (.dv (.int k p))) (hy : ev l y = .one (.dv (.int k' q))) :
    OpOk P o l m n (.one (.dv (.int k (min p q)))) [] n := by
  have ha' : c.args = #[x, y] := by rw [← Array.toArray_toList (xs := c.args), ha]
  refine ok_value fun w0 X Z nt A β a w hr => ⟨.int k (min p q), ?_, .int _ _, trivial⟩
  have h1 := (hr.ev x).1
  have h2 := (hr.ev y).1
  rw [hx] at h1
  rw [hy] at h2
  have e1 := DRd.int_inv h1
  have e2 := DRd.int_inv h2
  have e3 : (if q < p then q else p) = min p q := by simp only [Int.min_def]; split <;> split <;> omega
  simp only [execOp, ho]
  simp [resolve, hc, ha', invoke, builtin, Builtin.min_, Builtin.min2, e1, e2, e3]

theorem ok_max4 {c : Call} {x y z u : Operand} {k k2 k3 k4 : IntKind} {p q r s : Int} (ho : o.op = .call c) (hc : c.callee = .builtin .max) (ha : c.args.toList = [x, y, z, u]) (hx : ev l x = .one (.dv (.int k p))) (hy : ev l y = .one (.dv (.int k2 q))) (hz : ev l z = .one (.dv (.int k3 r))) (hu : ev l u = .one (.dv (.int k4 s))) :
    OpOk P o l m n (.one (.dv (.int k (max (max (max p q) r) s)))) [] n := by
  have ha' : c.args = #[x, y, z, u] := by rw [← Array.toArray_toList (xs := c.args), ha]
  refine ok_value fun w0 X Z nt A β a w hr => ⟨.int k (max (max (max p q) r) s), ?_, .int _ _, trivial⟩
  have h1 := (hr.ev x).1
  have h2 := (hr.ev y).1
  have h3 := (hr.ev z).1
  have h4 := (hr.ev u).1
  rw [hx] at h1
  rw [hy] at h2
  rw [hz] at h3
  rw [hu] at h4
  have e1 := DRd.int_inv h1
  have e2 := DRd.int_inv h2
  have e4 := DRd.int_inv h3
  have e5 := DRd.int_inv h4
  have e3 : ∀ p q : Int, (if q > p then q else p) = max p q := fun p q => by simp only [Int.max_def]; split <;> split <;> omega
  simp only [execOp, ho]
  simp [resolve, hc, ha', invoke, builtin, Builtin.max_, Builtin.max2, e1, e2, e3, e4, e5]
theorem ok_min4 {c : Call} {x y z u : Operand} {k k2 k3 k4 : IntKind} {p q r s : Int} (ho : o.op = .call c) (hc : c.callee = .builtin .min) (ha : c.args.toList = [x, y, z, u]) (hx : ev l x = .one (.dv (.int k p))) (hy : ev l y = .one (.dv (.int k2 q))) (hz : ev l z = .one (.dv (.int k3 r))) (hu : ev l u = .one (.dv (.int k4 s))) :
    OpOk P o l m n (.one (.dv (.int k (min (min (min p q) r) s)))) [] n := by
  have ha' : c.args = #[x, y, z, u] := by rw [← Array.toArray_toList (xs := c.args), ha]
  refine ok_value fun w0 X Z nt A β a w hr => ⟨.int k (min (min (min p q) r) s), ?_, .int _ _, trivial⟩
  have h1 := (hr.ev x).1
  have h2 := (hr.ev y).1
  have h3 := (hr.ev z).1
  have h4 := (hr.ev u).1
  rw [hx] at h1
  rw [hy] at h2
  rw [hz] at h3
  rw [hu] at h4
  have e1 := DRd.int_inv h1
  have e2 := DRd.int_inv h2
  have e4 := DRd.int_inv h3
  have e5 := DRd.int_inv h4
  have e3 : ∀ p q : Int, (if q < p then q else p) = min p q := fun p q => by simp only [Int.min_def]; split <;> split <;> omega
  simp only [execOp, ho]
  simp [resolve, hc, ha', invoke, builtin, Builtin.min_, Builtin.min2, e1, e2, e3, e4, e5]

theorem ok_nilCheck {x : Operand} (ho : o.op = .nilCheck x) (hx : (∃ b off tb cs, ev l x = .one (.vptr b off) ∧ lkb m b = .vars tb cs) ∨ (∃ ds, ev l x = .one (.iptr ds)) ∨ ∃ b i off t sz rs, ev l x = .one (.rptr b i off) ∧ lkb m b = .rows t sz rs) : OpOk P o l m n (ev l x) [] n := by
  refine ok_value fun w0 X Z nt A β a w hr => ?_
  obtain ⟨h1, h2⟩ := hr.ev x
  have : ∃ ad, a.eval x = .pointer (some ad) := by
    rcases hx with ⟨b, off, tb, cs, hx, hb⟩ | ⟨ds, hx⟩ | ⟨b, i, off, t, sz, rs, hx, hb⟩
    · rw [hx] at h1
      obtain ⟨g, e1, e2⟩ := h1.2 (by rw [hb]; simp)
      exact ⟨_, e2⟩
    · rw [hx] at h1
      obtain ⟨ad, e, _⟩ := h1
      exact ⟨ad, e⟩
    · rw [hx] at h1
      obtain ⟨g, n, c, _, e⟩ := h1.2 sz (by rw [hb]; rfl)
      exact ⟨_, e⟩
  obtain ⟨ad, e⟩ := this
  refine ⟨a.eval x, ?_, h1, h2⟩
  simp [execOp, ho, e]

end Eng
