/- The steps are sound: append, make, comparison with nil. -/
import Derived.Test.YthdbdokhncaijaaGreatEngC6
namespace Eng
open Go Go.RowKit

variable {P : Program} {o : Oper} {l : List (Nat × SV)} {m : List (Nat × Box)} {n : Nat}

theorem flat_len {sz : Nat} {rs : List (List DV)} (h : ∀ r ∈ rs, r.length = sz) : rs.flatten.length = rs.length * sz := by
  induction rs with
  | nil => simp
  | cons r rs ih =>
    rw [List.flatten_cons, List.length_append, ih fun r hr => h r (by simp [hr]), h r (by simp), List.length_cons, Nat.succ_mul]; omega

theorem DRd.lst_inv' {w : World} {N : Nat → Prop} {sz : Nat} {rs : List (List DV)} {v : Value} (h : DRd w N (.lst sz rs) v) : ∃ (A : Option Addr) (cap : Nat) (us : Nat → Value), v = .slice A rs.length cap ∧ (∀ r ∈ rs, r.length = sz) ∧ (rs ≠ [] → ∃ ad, A = some ad ∧ N ad.block) ∧
    (∀ ad, A = some ad → ∀ j d, rs.flatten[j]? = some d → w.cell? (ad.add j) = some (us j)) ∧ ∀ j d, rs.flatten[j]? = some d → DRd w N d (us j) := by
  cases h with
  | lst _ _ A cap us h1 h2 h3 h4 h5 => exact ⟨A, cap, us, rfl, h1, h3, h4, h5⟩

theorem run_eq_nil {t e : TypeId} {A : Option Addr} {n c : Nat} {w : World} (ht : P.underlying t = some (.slice e)) (d : Nat) : (Op.equalIn (d + 1) t (.slice A n c) (.slice none 0 0)).run P w = .ok A.isNone w := by
  cases A <;> simp [Op.equalIn, run_underlying ht]

theorem ok_nilcmp {t t' : TypeId} {e : Nat} {ti : TI} (hti : ti.Ok P t) (hk : ti.kind = .slice e) {x y : Operand} {sz s : Nat} {rs : List (List DV)} (ho : o.op = .binOp .eql t x y t') (hx : ev l x = .one (.dv (.lst sz rs))) (hy : ev l y = .one (.nil s)) :
    OpOk P o l m n (.one (.anyb (rs = []))) [] n := by
  have hu := kind_slice hti hk
  refine ok_value fun w0 X Z nt A β a w hr => ?_
  have h1 := (hr.ev x).1
  have h2 := (hr.ev y).1
  rw [hx] at h1
  rw [hy] at h2
  simp only [SRd, CRd] at h1 h2
  have hg := run_eqGuard (P := P) (op := .eql) (t := t) (X := x) (Y := y) (v := .slice none 0 0) (w' := w) h1
  obtain ⟨A0, cap, us, e1, h3, h4, h5, h6⟩ := h1.lst_inv'
  rw [e1] at hg
  refine ⟨.bool A0.isNone, ?_, ⟨_, rfl, fun hb => ?_⟩, trivial⟩
  · simp only [execOp, ho, h2, e1]
    refine run_v ?_
    rw [Sem.run_bind, hg]
    simp only [Result.andThen_ok]
    have : (Op.equal t (.slice A0 rs.length cap) (.slice none 0 0)).run P w = .ok A0.isNone w := run_eq_nil hu 9999
    simp [Go.binOp, this]
  · rcases rs with _ | ⟨r, rs⟩
    · rfl
    · obtain ⟨ad, e, _⟩ := h4 (by simp)
      rw [e] at hb; cases hb

theorem run_append_of_nil' (w : World) (base : Nat) (t ty e : TypeId) (i : TypeInfo) (size : Nat) (ht : P.underlying t = some (.slice e)) (hi : P.info? e = some i)
    (v : Value) (n : Nat) (xs : List Value) (hown : w.ownsRow base e size v n xs) (c : Nat) : (Builtin.append_ #[t, t] ty #[v, .slice none 0 c]).run P w = .ok v w := by
  rcases hown.2 with ⟨rfl, rfl⟩ | ⟨g, cap, cur, rfl, _, _, hnc, _⟩
  · simp [Builtin.append_, run_underlying ht, Go.sizeOf, typeInfo, hi, Builtin.lenOf, Builtin.firstCells]
  · simp [Builtin.append_, run_underlying ht, Go.sizeOf, typeInfo, hi, Builtin.lenOf, Builtin.firstCells, hnc, storeCells]

/-- what append reads -/
structure Src (w : World) (N : Nat → Prop) (sz : Nat) (rs : List (List DV)) (v : Value) (xs : List Value) : Prop where
  val : ∃ A cap, v = .slice A rs.length cap ∧ (A = none → rs = []) ∧ ∀ ad, A = some ad → ∀ j u, xs[j]? = some u → w.cell? (ad.add j) = some u
  len : xs.length = rs.length * sz
  rows : ∀ r ∈ rs, r.length = sz
  one : ∀ u ∈ xs, u.oneCell' = true
  rd : All2 (DRd w N) rs.flatten xs

theorem All2.of_get {α β : Type} {R : α → β → Prop} {f : Nat → β} : ∀ {l : List α} {k : Nat}, (∀ j a, l[j]? = some a → R a (f (k + j))) → All2 R l ((List.range' k l.length).map f) := by
  intro l
  induction l with
  | nil => intro k _; trivial
  | cons a l ih =>
    intro k h
    refine ⟨h 0 a rfl, ih fun j b hj => ?_⟩
    have := h (j + 1) b (by simpa using hj)
    rwa [show k + 1 + j = k + (j + 1) by omega]
theorem All2.one {w : World} {N : Nat → Prop} : ∀ {ds : List DV} {us : List Value}, All2 (DRd w N) ds us → ∀ u ∈ us, u.oneCell' = true := by
  intro ds
  induction ds with
  | nil => intro us h; cases us with
    | nil => intro u hu; cases hu
    | cons => exact h.elim
  | cons d ds ih => intro us h; cases us with
    | nil => exact h.elim
    | cons u us =>
      intro v hv
      rcases List.mem_cons.1 hv with rfl | hv
      · exact DRd.oneCell h.1
      · exact ih h.2 v hv

theorem srcW_ok {sz : Nat} {x : SV} {k : List (List DV) → List Nat → Prop} (h : srcW m sz x k) : ∃ rs ft, k rs ft ∧
    (∀ (m' : List (Nat × Box)) (k' : List (List DV) → List Nat → Prop), (∀ b, (x = .one (.row b) ∨ ∃ k, x = .one (.rpx b k)) → lkb m' b = lkb m b) → k' rs ft → srcW m' sz x k') ∧
    ∀ (w : World) (N : Nat → Prop) (β : Nat → Value) (v : Value), SRd w N m β x v → (∀ b, BRd w N m β (lkb m b) (β b)) → ∃ xs, Src w N sz rs v xs := by
  unfold srcW at h
  split at h
  · refine ⟨_, _, h, fun _ _ _ hk => hk, fun w N β v hv _ => ⟨[], ⟨none, 0, ?_, fun _ => rfl, fun ad e => by cases e⟩, by simp, by simp, by simp, trivial⟩⟩
    exact hv
  · rename_i s rs
    split at h
    · rename_i hs
      have e := Nat.eq_of_beq_eq_true hs
      subst e
      refine ⟨_, _, h, fun m' k' _ hk => by unfold srcW; simp only; rw [hs]; exact hk, fun w N β v hv _ => ?_⟩
      obtain ⟨A, cap, us, e1, h1, h2, h3, h4⟩ := DRd.lst_inv' hv
      have hall : All2 (DRd w N) rs.flatten ((List.range' 0 rs.flatten.length).map us) := All2.of_get fun j d hj => by rw [Nat.zero_add]; exact h4 j d hj
      refine ⟨_, ⟨A, cap, e1, fun hA => ?_, fun ad hA j u hj => ?_⟩, by simp [flat_len h1], h1, hall.one, hall⟩
      · rcases rs with _ | ⟨r, rs⟩
        · rfl
        · obtain ⟨ad, e, _⟩ := h2 (by simp)
          rw [e] at hA; cases hA
      · have hj' : j < rs.flatten.length := by have := (List.getElem?_eq_some_iff.1 hj).1; simpa using this
        have := h3 ad hA j _ (List.getElem?_eq_getElem hj')
        rw [this]
        rw [List.getElem?_map, List.getElem?_range' hj'] at hj
        simpa using hj
    · exact h.elim
  · rename_i b
    split at h
    · rename_i t s rs hb
      split at h
      · rename_i hs
        have e := Nat.eq_of_beq_eq_true hs
        subst e
        refine ⟨_, _, h, fun m' k' hm hk => by unfold srcW; simp only; rw [hm b (.inl rfl), hb]; simp only; rw [hs]; exact hk, fun w N β v hv hbx => ?_⟩
        have e := hv.2 (by rw [hb]; simp)
        have h1 := hbx b
        rw [hb] at h1
        obtain ⟨xs, ho, hl, ha⟩ := h1
        subst e
        refine ⟨xs, ?_, ho.1, hl, ha.one, ha⟩
        rcases ho.2 with ⟨e, h0⟩ | ⟨g, cap, cur, e, _, hg, hn, _, hsz, htk⟩
        · refine ⟨none, 0, by rw [e, h0], fun _ => List.eq_nil_of_length_eq_zero h0, fun ad e => (by cases e)⟩
        · refine ⟨some ⟨g, 0, none⟩, cap, e, fun e' => (by cases e'), fun ad had j u hj => ?_⟩
          exact ho.cells (g := g) (by rw [e]; rfl) j u hj |> fun h => by injection had with had; subst had; exact h
      · exact h.elim
    · exact h.elim
  · rename_i b q
    split at h
    · rename_i t s rs hb
      split at h
      · rename_i hs
        have e := Nat.eq_of_beq_eq_true hs
        subst e
        obtain ⟨⟨hq, hne⟩, h⟩ := h
        refine ⟨_, _, h, fun m' k' hm hk => by unfold srcW; simp only; rw [hm b (.inr ⟨q, rfl⟩), hb]; simp only; rw [hs]; exact ⟨⟨hq, hne⟩, hk⟩, fun w N β v hv hbx => ?_⟩
        obtain ⟨A, n', c, e1, e2⟩ := hv.2 s (by rw [hb]; rfl)
        have h1 := hbx b
        rw [hb] at h1
        obtain ⟨xs, ho, hl, ha⟩ := h1
        have hql : (rs.take q).length = q := by rw [List.length_take, Nat.min_eq_left hq]
        have hfl : (rs.take q).flatten = rs.flatten.take (q * s) := by
          have e0 : rs.flatten = (rs.take q).flatten ++ (rs.drop q).flatten := by rw [← List.flatten_append, List.take_append_drop]
          have hl0 : (rs.take q).flatten.length = q * s := by rw [flat_len fun r hr' => hl r (List.mem_of_mem_take hr'), hql]
          rw [e0, ← hl0, List.take_left]
        have ha' := ha.take (q * s)
        rw [← hfl] at ha'
        rcases ho.2 with ⟨e, h0⟩ | ⟨g, cap, cur, e, _, hg, hn, _, hsz, htk⟩
        · omega
        · rw [e] at e1
          injection e1 with e3 e4 e5
          subst e3 e4 e5
          refine ⟨xs.take (q * s), ⟨some ⟨g, 0, none⟩, cap, by rw [e2, hql], fun e' => (by cases e'), fun ad had j u hj => ?_⟩, ?_, fun r hr => hl r (List.mem_of_mem_take hr), ha'.one, ha'⟩
          · injection had with had
            subst had
            rw [List.getElem?_take] at hj
            split at hj
            · exact ho.cells (g := g) (by rw [e]; rfl) j u hj
            · cases hj
          · rw [List.length_take, ho.1, hql]
            exact Nat.min_eq_left (Nat.mul_le_mul_right _ hq)
      · exact h.elim
    · exact h.elim
  · exact h.elim

theorem blk_own {v : Value} (h : ∃ A n c, v = .slice A n c) : blk v = v.ownBlock := by
  obtain ⟨A, n, c, rfl⟩ := h
  cases A <;> rfl

theorem run_app (w : World) {t ty e : TypeId} {te : TI} (ht : P.underlying t = some (.slice e)) (hte : te.Ok P e) (hpos : 0 < te.size) {v : Value} {k : Nat} {xs : List Value} (hown : w.ownsRow 0 e te.size v k xs)
    {N : Nat → Prop} {rs : List (List DV)} {y : Value} {news : List Value} (hs : Src w N te.size rs y news) (h63 : k + rs.length ≤ 9223372036854775807) (hby : (k + rs.length) * te.bytes ≤ 140737488355328) :
    ∃ v' w', (Builtin.append_ #[t, t] ty #[v, y]).run P w = .ok v' w' ∧ w'.ownsRow 0 e te.size v' (k + rs.length) (xs ++ news) ∧ w.grownBy w' v.ownBlock ∧ (v'.ownBlock = v.ownBlock ∨ v'.ownBlock = some w.heap.size) := by
  obtain ⟨i, z, hi, hi2, hi3, hz, _, hzs⟩ := hte.info
  obtain ⟨A, cap, rfl, hA, hc⟩ := hs.val
  cases A with
  | none =>
    have := hA rfl
    subst this
    have hn : news = [] := List.eq_nil_of_length_eq_zero (by rw [hs.len]; simp)
    subst hn
    exact ⟨v, w, run_append_of_nil' w 0 t ty e i te.size ht hi v k xs hown cap, by simpa using hown, ⟨rfl, rfl, rfl, Nat.le_refl _, fun _ _ _ => rfl⟩, .inl rfl⟩
  | some ad =>
    obtain ⟨v', w', h1, h2, h3, _, h5⟩ := run_append_own_at (P := P) w 0 t ty e i z te.size te.bytes ht hi hz hi2 hi3 hzs hpos v k xs hown ad rs.length cap news hs.len (hc ad rfl) hs.one (by simp only [maxLen]; omega) hby (Nat.zero_le _)
    exact ⟨v', w', h1, h2, h3, h5⟩

/-- an append to the rows of a row from i on -/
theorem run_append_view (w : World) {t ty e : TypeId} {te : TI} (ht : P.underlying t = some (.slice e)) (hte : te.Ok P e) {g cap len i : Nat} {cur : Array Value} (hg : w.heap[g]? = some (.cells cur e (0, 0))) (hi : i < len) (hlc : len ≤ cap) (hcs : cur.size = cap * te.size)
    {N : Nat → Prop} {rs : List (List DV)} {y : Value} {news : List Value} (hs : Src w N te.size rs y news) (h63 : len - i + rs.length ≤ 9223372036854775807) (hby : (len - i + rs.length) * te.bytes ≤ 140737488355328) :
    ∃ ad c' w', (Builtin.append_ #[t, t] ty #[.slice (some ⟨g, i * te.size, none⟩) (len - i) (cap - i), y]).run P w = .ok (.slice (some ad) (len - i + rs.length) c') w' ∧ len - i + rs.length ≤ c' ∧
      (∀ j u, ((cur.toList.take (len * te.size)).drop (i * te.size) ++ news)[j]? = some u → w'.cell? (ad.add j) = some u) ∧ w.grownBy w' (some g) ∧ ((ad.block = g ∧ g < w'.heap.size) ∨ (ad.block = w.heap.size ∧ w.heap.size < w'.heap.size)) := by
  obtain ⟨ti, z, hi1, hi2, hi3, hz, _, hzs⟩ := hte.info
  obtain ⟨A, cap', rfl, hA, hc⟩ := hs.val
  have hsz : te.size * 0 = 0 := rfl
  have hlg : g < w.heap.size := (Array.getElem?_eq_some_iff.1 hg).1
  have hcurl : cur.toList.length = cap * te.size := by rw [Array.length_toList, hcs]
  have hls : len * te.size ≤ cap * te.size := Nat.mul_le_mul_right _ hlc
  have hil : i * te.size ≤ len * te.size := Nat.mul_le_mul_right _ (Nat.le_of_lt hi)
  have hadd : i * te.size + (len - i) * te.size = len * te.size := by rw [← Nat.add_mul]; congr 1; omega
  have hol : ((cur.toList.take (len * te.size)).drop (i * te.size)).length = (len - i) * te.size := by
    rw [List.length_drop, List.length_take, hcurl]; omega
  have hcell : ∀ j u, (cur.toList.drop (i * te.size))[j]? = some u → w.cell? ((⟨g, i * te.size, none⟩ : Addr).add j) = some u := by
    intro j u hj
    rw [addr_mk]
    rw [List.getElem?_drop] at hj
    simp [World.cell?, hg]
    simpa using hj
  have holds : ∀ j u, ((cur.toList.take (len * te.size)).drop (i * te.size))[j]? = some u → w.cell? ((⟨g, i * te.size, none⟩ : Addr).add j) = some u := by
    intro j u hj
    refine hcell j u ?_
    rw [List.getElem?_drop] at hj ⊢
    rw [List.getElem?_take] at hj
    split at hj
    · exact hj
    · cases hj
  cases A with
  | none =>
    have := hA rfl
    subst this
    have hn : news = [] := List.eq_nil_of_length_eq_zero (by rw [hs.len]; simp)
    subst hn
    refine ⟨⟨g, i * te.size, none⟩, cap - i, w, ?_, by simp; omega, fun j u hj => holds j u (by simpa using hj), ⟨rfl, rfl, rfl, Nat.le_refl _, fun _ _ _ => rfl⟩, .inl ⟨rfl, hlg⟩⟩
    have : len - i ≤ cap - i := by omega
    simp [Builtin.append_, run_underlying ht, Go.sizeOf, typeInfo, hi1, Builtin.lenOf, Builtin.firstCells, this, storeCells]
  | some a =>
    have hnews := hc a rfl
    by_cases hroom : len - i + rs.length ≤ cap - i
    · have hfit : len * te.size + news.length ≤ cur.size := by
        rw [hs.len, hcs, ← Nat.add_mul]; exact Nat.mul_le_mul_right _ (by omega)
      have hf := run_firstCells_some (P := P) w ti.size rs.length a rs.length cap' news (by rw [hs.len, hi2]) hnews
      have hst := run_storeCells_at P g (len * te.size) e news 0 cur w hg (by simpa using hfit) hs.one
      simp only [Nat.add_zero] at hst
      rw [hi2] at hf
      have ead : (⟨g, i * te.size, none⟩ : Addr).add ((len - i) * te.size) = ⟨g, len * te.size, none⟩ := by rw [addr_mk, hadd]
      have e1 : ((len - i : Nat) : Int) = (len - i : Nat) := rfl
      refine ⟨⟨g, i * te.size, none⟩, cap - i, w.setRow g (cur.toList.take (len * te.size) ++ news ++ cur.toList.drop (len * te.size + news.length)).toArray, ?_, hroom, ?_, ⟨rfl, rfl, rfl, Nat.le_of_eq (by simp [World.setRow]), fun k _ hk => setRow_other w g k _ (fun e => hk (by simp [e]))⟩, .inl ⟨rfl, by simpa [World.setRow] using hlg⟩⟩
      · simp [Builtin.append_, run_underlying ht, Go.sizeOf, typeInfo, hi1, hi2, Builtin.lenOf, hroom, hf, ead, hst]
      · intro j u hj
        have hg' := setRow_heap w g cur (cur.toList.take (len * te.size) ++ news ++ cur.toList.drop (len * te.size + news.length)).toArray e (0, 0) hg
        rw [addr_mk]
        simp only [World.cell?, hg']
        have hd : (cur.toList.take (len * te.size) ++ news).drop (i * te.size) = (cur.toList.take (len * te.size)).drop (i * te.size) ++ news := by
          rw [List.drop_append_of_le_length (by rw [List.length_take, hcurl]; omega)]
        rw [← hd, List.getElem?_drop] at hj
        simp
        rw [← List.append_assoc, List.getElem?_append_left (List.getElem?_eq_some_iff.1 hj).1]
        simpa using hj
    · have hr := run_append_grow (P := P) w t ty e ti z ht hi1 hz ⟨g, i * te.size, none⟩ (len - i) (cap - i) ((cur.toList.take (len * te.size)).drop (i * te.size)) (by rw [hol, hi2]) holds a rs.length cap' news (by rw [hs.len, hi2]) hnews (by omega) (by omega) (by rw [hi3]; exact growslice_fits (by omega) hby)
      refine ⟨_, _, _, hr, grownCap_ge w _ _ _, ?_, ⟨rfl, rfl, rfl, by simp, fun k hk _ => Below.heap_alloc w.drew _ k hk⟩, .inr ⟨rfl, by simp⟩⟩
      intro j u hj
      rw [addr_mk, Nat.zero_add]
      have hnew := heap_alloc_new w.drew (.cells (((cur.toList.take (len * te.size)).drop (i * te.size)).toArray ++ news.toArray ++ Builtin.zeroCells z.cells (grownCap w (len - i + rs.length) (cap - i) e - (len - i + rs.length))) e)
      have hnew' : (w.drew.alloc (.cells (((cur.toList.take (len * te.size)).drop (i * te.size)).toArray ++ news.toArray ++ Builtin.zeroCells z.cells (grownCap w (len - i + rs.length) (cap - i) e - (len - i + rs.length))) e)).heap[w.heap.size]? = _ := hnew
      simp only [World.cell?, hnew']
      have hj' := (List.getElem?_eq_some_iff.1 hj).1
      rw [← Array.getElem?_toList]
      simp only [Array.toList_append]
      rw [List.getElem?_append_left (by simpa using hj')]
      simpa using hj

theorem ok_append {T : List (Nat × TI)} (hT : TabOk P T) {t : Nat} {ti : TI} (hti : ti.Ok P t) {c : Call} {x y : Operand} {K : KO} (ho : o.op = .call c) (hc : c.callee = .builtin .append) (ha : c.args.toList = [x, y]) (ht : c.argTypes.toList = [t, t])
    (h : appendW T ti (evT T t l x) (evT T t l y) m n K) : ∃ v upd n' ft, n ≤ n' ∧ OpOk P o l m n v upd n' ∧ K v upd n' ft := by
  have ha' : c.args = #[x, y] := by rw [← Array.toArray_toList (xs := c.args), ha]
  have ht' : c.argTypes = #[t, t] := by rw [← Array.toArray_toList (xs := c.argTypes), ht]
  unfold appendW at h
  split at h
  · rename_i e hk
    have hu := kind_slice hti hk
    split at h
    · exact h.elim
    · rename_i te hte
      have hte := hT e te hte
      split at h
      · exact h.elim
      · rename_i hpos
        have hpos := blt_iff.1 hpos
        obtain ⟨news, ft, h9, _, hsrc⟩ := srcW_ok h
        clear h
        have h := h9
        clear h9
        have hrun : ∀ {a : Act} {w w' : World} {v : Value}, (Builtin.append_ #[t, t] o.type #[a.eval x, a.eval y]).run P w = .ok v w' → (execOp a.eval o).run P w = .ok (.value v) w' := by
          intro a w w' v hv
          simp only [execOp, ho]
          simp [resolve, hc, ha', ht', invoke, builtin, hv]
        split at h
        · rename_i s hx
          refine ⟨_, _, _, _, Nat.le_succ _, ?_, h.2⟩
          intro w0 X Z nt A β a w hr hn K' Q hK'
          have hvx := (hr.evT T t x).1
          rw [hx] at hvx
          simp only [SRd, CRd] at hvx
          obtain ⟨xs, hs⟩ := hsrc w _ β _ (hr.evT T t y).1 hr.boxes
          obtain ⟨v', w', h1, h2, h3, h4⟩ := run_app (ty := o.type) w hu hte hpos (World.ownsRow_nil w 0 e te.size) hs (by omega) (by rw [Nat.zero_add]; exact h.1.2)
          simp only [Nat.zero_add, List.nil_append] at h2
          unfold Oper.wp
          rw [hrun (by rw [hvx]; exact h1)]
          have hbv : blk v' = v'.ownBlock := blk_own (by rcases h2.2 with ⟨e, _⟩ | ⟨g, cap, cur, e, _⟩ <;> exact ⟨_, _, _, e⟩)
          obtain ⟨β', h7, h8⟩ := hr.newRow (n := n) (e := e) (sz := te.size) (rs := news) (ks := []) (v := v') (w' := w') (hn n (Nat.le_refl _) (by omega)) (by simp) (by rcases h2.2 with ⟨e, _⟩ | ⟨g, cap, cur, e, _⟩ <;> (rw [e]; rfl))
            (fun g hg => by
              rw [hbv] at hg
              rcases h4 with h4 | h4
              · rw [h4] at hg; simp [Value.ownBlock] at hg
              · rw [h4] at hg; injection hg with hg; exact .inl (by omega))
            (fun g hg _ => h3.block g hg (by simp [Value.ownBlock])) h3.size h3.os h3.tape h3.output
            (fun N' hN hh _ => ⟨xs, h2, hs.rows, hs.rd.mono fun d _ v hv => hv.mono hN hh⟩)
          exact hK' _ β' _ h7 h8 (.inr ⟨Nat.le_refl _, Nat.lt_succ_self _⟩)
        · rename_i b hx
          split at h
          · rename_i tb s rs hb
            split at h
            · exact h.elim
            · rename_i hchk
              rw [Bool.and_eq_true] at hchk
              have e1 := Nat.eq_of_beq_eq_true hchk.1
              have e2 := Nat.eq_of_beq_eq_true hchk.2
              subst e1 e2
              refine ⟨_, _, _, _, Nat.le_succ _, ?_, h.2⟩
              intro w0 X Z nt A β a w hr hn K' Q hK'
              have hvx := (hr.evT T t x).1
              rw [hx] at hvx
              have hvx := hvx.2 (by rw [hb]; simp)
              obtain ⟨xs, hs⟩ := hsrc w _ β _ (hr.evT T t y).1 hr.boxes
              have hbx := hr.boxes b
              rw [hb] at hbx
              obtain ⟨ys, ho', hl', ha'⟩ := hbx
              have hlen := h.1
              rw [List.length_append] at hlen
              obtain ⟨v', w', h1, h2, h3, h4⟩ := run_app (ty := o.type) w hu hte hpos ho' hs hlen.1 hlen.2
              unfold Oper.wp
              rw [hrun (by rw [hvx]; exact h1)]
              have hbv : blk v' = v'.ownBlock := blk_own (by rcases h2.2 with ⟨e, _⟩ | ⟨g, cap, cur, e, _⟩ <;> exact ⟨_, _, _, e⟩)
              have hbβ : blk (β b) = (β b).ownBlock := blk_own (by rcases ho'.2 with ⟨e, _⟩ | ⟨g, cap, cur, e, _⟩ <;> exact ⟨_, _, _, e⟩)
              obtain ⟨β', h7, h8⟩ := hr.newRow (n := n) (e := tb) (sz := te.size) (rs := rs ++ news) (ks := [b]) (v := v') (w' := w') (hn n (Nat.le_refl _) (by omega)) (by simp [hb]) (by rcases h2.2 with ⟨e, _⟩ | ⟨g, cap, cur, e, _⟩ <;> (rw [e]; rfl))
                (fun g hg => by
                  rw [hbv] at hg
                  rcases h4 with h4 | h4
                  · rw [h4, ← hbβ] at hg; exact .inr ⟨b, by simp, hg⟩
                  · rw [h4] at hg; injection hg with hg; exact .inl (by omega))
                (fun g hg hne => h3.block g hg (by rw [← hbβ]; exact fun e => hne b (by simp) e.symm)) h3.size h3.os h3.tape h3.output
                (fun N' hN hh _ => ⟨ys ++ xs, by rw [List.length_append]; exact h2, fun r hr => (List.mem_append.1 hr).elim (hl' r) (hs.rows r), by
                  rw [List.flatten_append]
                  exact (ha'.mono fun d _ v hv => hv.mono hN hh).append (hs.rd.mono fun d _ v hv => hv.mono hN hh)⟩)
              exact hK' _ β' _ h7 h8 (.inr ⟨Nat.le_refl _, Nat.lt_succ_self _⟩)
          · exact h.elim
        · rename_i b i hx
          split at h
          · rename_i tb s rs hb
            split at h
            · exact h.elim
            · rename_i hchk
              rw [Bool.and_eq_true] at hchk
              have e1 := Nat.eq_of_beq_eq_true hchk.1
              have e2 := Nat.eq_of_beq_eq_true hchk.2
              subst e1 e2
              obtain ⟨⟨hi, h63, hby⟩, h⟩ := h
              refine ⟨_, _, _, _, Nat.le_refl _, ?_, h⟩
              intro w0 X Z nt A β a w hr hn K' Q hK'
              have hvx := (hr.evT T t x).1
              rw [hx] at hvx
              obtain ⟨A', n', c', e3, e4⟩ := hvx.2 te.size (by rw [hb]; rfl)
              obtain ⟨xs, hs⟩ := hsrc w _ β _ (hr.evT T t y).1 hr.boxes
              have hbx := hr.boxes b
              rw [hb] at hbx
              obtain ⟨ys, ho', hl', ha'⟩ := hbx
              rcases ho'.2 with ⟨_, h0⟩ | ⟨g, cap, cur, e5, _, hg, hlc, hcm, hcs, htk⟩
              · omega
              rw [e5] at e3
              injection e3 with e6 e7 e8
              subst e6 e7 e8
              have hci : ¬ cap = i := by omega
              rw [if_neg hci] at e4
              simp only [Option.map_some, addr_mk, Nat.zero_add] at e4
              have hdl : (rs.drop i ++ news).length = rs.length - i + news.length := by simp
              rw [hdl] at h63 hby
              obtain ⟨ad, c', w', q1, q2, q3, q4, q5⟩ := run_append_view (P := P) (ty := o.type) w hu hte hg hi hlc hcs hs h63 hby
              unfold Oper.wp
              rw [hrun (by rw [e4]; exact q1)]
              have hblk : blk (β b) = some g := by rw [e5]; rfl
              have hlive : lkb m b ≠ .dead := by rw [hb]; simp
              obtain ⟨h7, Kp⟩ := hr.turn (A' := A) (m' := (b, .dead) :: m) (β' := β) (w' := w') (fun b' => b' = b) (fun _ h => h)
                (fun b' e => by subst e; rw [lkb_cons, if_pos rfl]; exact ⟨trivial, fun h => absurd rfl h⟩)
                (fun b' e => by rw [lkb_cons, if_neg (fun e' => e e'.symm)]; exact ⟨rfl, fun _ => rfl⟩)
                (fun b' e _ hd => by subst e; rw [lkb_cons, if_pos rfl] at hd; exact absurd rfl hd)
                (fun g' hg' hne => q4.block g' hg' fun e => hne b rfl hlive (by rw [hblk]; exact e.symm))
                (fun b' g' e hd => by subst e; rw [lkb_cons, if_pos rfl] at hd; exact absurd rfl hd)
                (fun b' _ g' e _ hd => by subst e; rw [lkb_cons, if_pos rfl] at hd; exact absurd rfl hd)
                (fun b' g' e hd => by subst e; rw [lkb_cons, if_pos rfl] at hd; exact absurd rfl hd)
                q4.size q4.os q4.tape q4.output
                (fun _ b' e => by subst e; rw [lkb_cons, if_pos rfl]; trivial)
              have hN : Imm Z.p ((b, .dead) :: m) β w' ad.block := by
                rcases q5 with ⟨q5, q6⟩ | ⟨q5, q6⟩
                · rw [q5]
                  refine ⟨q6, fun b' hd hb' => ?_, hr.rown b g hlive hblk⟩
                  rw [lkb_cons] at hd
                  split at hd
                  · exact absurd rfl hd
                  · rename_i hne
                    exact hne (hr.inj b b' g hlive hd hblk hb')
                · rw [q5]
                  refine ⟨q6, fun b' hd hb' => ?_, hr.new.ge _ hr.ext.size⟩
                  rw [lkb_cons] at hd
                  split at hd
                  · exact absurd rfl hd
                  · have := (hr.boxes b').lt hd hb'
                    omega
              refine hK' _ β _ (Rel.wide h7 fun b hb => .inl hb) ?_ trivial
              have hfl : (rs.drop i).flatten = rs.flatten.drop (i * te.size) := by
                have e0 : rs.flatten = (rs.take i).flatten ++ (rs.drop i).flatten := by rw [← List.flatten_append, List.take_append_drop]
                have hl0 : (rs.take i).flatten.length = i * te.size := by rw [flat_len fun r hr' => hl' r (List.mem_of_mem_take hr'), List.length_take, Nat.min_eq_left (Nat.le_of_lt hi)]
                rw [e0, ← hl0, List.drop_left]
              have hall : All2 (DRd w' (Imm Z.p ((b, .dead) :: m) β w')) (rs.drop i ++ news).flatten ((cur.toList.take (rs.length * te.size)).drop (i * te.size) ++ xs) := by
                rw [List.flatten_append, hfl, htk]
                exact ((ha'.mono fun d _ v hv => Kp.d hv).drop _).append (hs.rd.mono fun d _ v hv => Kp.d hv)
              show DRd _ _ (.lst te.size (rs.drop i ++ news)) _
              rw [← hdl]
              have hget : ∀ (j : Nat) (d : DV), (rs.drop i ++ news).flatten[j]? = some d → ∃ u, ((cur.toList.take (rs.length * te.size)).drop (i * te.size) ++ xs)[j]? = some u ∧ DRd w' (Imm Z.p ((b, .dead) :: m) β w') d u := fun j d hj => hall.get hj
              refine .lst te.size _ (some ad) c' (fun j => (((cur.toList.take (rs.length * te.size)).drop (i * te.size) ++ xs)[j]?).getD undef) ?_ (by rw [hdl]; exact q2) (fun _ => ⟨ad, rfl, hN⟩) ?_ ?_
              · intro r hr'
                exact (List.mem_append.1 hr').elim (fun h => hl' r (List.mem_of_mem_drop h)) (hs.rows r)
              · intro ad' had j d hj
                injection had with had
                subst had
                obtain ⟨u, hu1, hu2⟩ := hget j d hj
                rw [hu1]
                exact q3 j u hu1
              · intro j d hj
                obtain ⟨u, hu1, hu2⟩ := hget j d hj
                rw [hu1]
                exact hu2
          · exact h.elim
        · exact h.elim
  · exact h.elim

theorem toDp_zero {cs : List CV} {vs : List Value} (hz : zBs cs vs = true) {k : List DV → Prop} (h : toDp cs k) : ∃ ds, k ds ∧ ds.length = cs.length ∧ (∀ k' : List DV → Prop, k' ds → toDp cs k') ∧ ∀ (w : World) (N : Nat → Prop), All2 (DRd w N) ds vs := by
  induction cs generalizing vs k with
  | nil => cases vs with
    | nil => exact ⟨[], h, rfl, fun _ h => h, fun _ _ => trivial⟩
    | cons => simp [zBs] at hz
  | cons c cs ih => cases vs with
    | nil => simp [zBs] at hz
    | cons v vs =>
      simp only [zBs, Bool.and_eq_true] at hz
      cases c with
      | dv d =>
        obtain ⟨ds, h1, h2, h3, h4⟩ := ih hz.2 h
        exact ⟨d :: ds, h1, by simp [h2], fun k' hk => h3 _ hk, fun w N => ⟨(zB_ok hz.1 w N [] (fun _ => undef) (fun _ => True)).1, h4 w N⟩⟩
      | nil sz =>
        obtain ⟨ds, h1, h2, h3, h4⟩ := ih hz.2 h
        refine ⟨_, h1, by simp [h2], fun k' hk => h3 _ hk, fun w N => ⟨?_, h4 w N⟩⟩
        have := (zB_ok hz.1 w N [] (fun _ => undef) (fun _ => True)).1
        simp only [CRd] at this
        rw [this]; exact DRd.nilS _ _ _
      | _ => exact h.elim

theorem made_take (z : Array Value) (hz : 0 < z.size) (k j : Nat) (h : j ≤ k) : (madeCells z (k * z.size)).toList.take (j * z.size) = (List.replicate j z.toList).flatten := by
  apply List.ext_getElem?
  intro i
  rw [List.getElem?_take]
  have hkj : j * z.size ≤ k * z.size := Nat.mul_le_mul_right _ h
  have hl : ((List.replicate j z.toList).flatten).length = j * z.size := by simp
  by_cases hi : i < j * z.size
  · rw [if_pos hi]
    have h1 : (List.replicate j z.toList).flatten[i]? = z.toList[i % z.size]? := by
      clear hl hkj h
      induction j generalizing i with
      | zero => simp at hi
      | succ j ih =>
        rw [List.replicate_succ, List.flatten_cons]
        by_cases hlt : i < z.size
        · rw [List.getElem?_append_left (by simpa using hlt), Nat.mod_eq_of_lt hlt]
        · rw [List.getElem?_append_right (by simpa using hlt)]
          rw [Nat.succ_mul] at hi
          rw [Array.length_toList, ih (i - z.size) (by omega), ← Nat.mod_eq_sub_mod (by omega)]
    rw [h1]
    have hm := Nat.mod_lt i hz
    simp [madeCells, Nat.lt_of_lt_of_le hi hkj, hm]
  · rw [if_neg hi, List.getElem?_eq_none (by omega)]

theorem All2.rep {w : World} {N : Nat → Prop} {ds : List DV} {us : List Value} (h : All2 (DRd w N) ds us) (k : Nat) : All2 (DRd w N) (List.replicate k ds).flatten (List.replicate k us).flatten := by
  induction k with
  | zero => trivial
  | succ k ih => rw [List.replicate_succ, List.replicate_succ, List.flatten_cons, List.flatten_cons]; exact h.append ih

theorem ok_make {T : List (Nat × TI)} (hT : TabOk P T) {t : Nat} {ti : TI} (hti : ti.Ok P t) {x y : Operand} {k1 k2 : IntKind} {p q : Int} {K : KO} (ho : o.op = .makeSlice t x y) (hx : ev l x = .one (.dv (.int k1 p))) (hy : ev l y = .one (.dv (.int k2 q)))
    (h : makeW T ti p q n K) : ∃ v upd n' ft, n ≤ n' ∧ OpOk P o l m n v upd n' ∧ K v upd n' ft := by
  unfold makeW at h
  split at h
  · rename_i e hk
    have hu := kind_slice hti hk
    split at h
    · exact h.elim
    · rename_i te hte
      have hte := hT e te hte
      split at h
      · exact h.elim
      · rename_i hpos
        have hpos := blt_iff.1 hpos
        obtain ⟨i, z, hi, hi2, hi3, hz, hzB, hzs⟩ := hte.info
        obtain ⟨ds, ⟨⟨g1, g2, g3, g4⟩, hK⟩, hdl, _, hdr⟩ := toDp_zero hzB h
        refine ⟨_, _, _, _, Nat.le_succ _, ?_, hK⟩
        intro w0 X Z nt A β a w hr hn K' Q hK'
        have h1 := (hr.ev x).1
        have h2 := (hr.ev y).1
        rw [hx] at h1
        rw [hy] at h2
        have e1 := DRd.int_inv h1
        have e2 := DRd.int_inv h2
        have hrun := run_make (P := P) w t e i z hu hi hz k1 k2 p q g1 g2 (by rw [hi3]; exact g3) g4
        have hdz : ds.length = te.size := by
          have := (hdr w (fun _ => True)).length
          rw [this]; simpa using hzs
        unfold Oper.wp
        rw [show (execOp a.eval o).run P w = .ok (.value (.slice (some ⟨w.heap.size, 0, none⟩) p.toNat q.toNat)) (w.alloc (.cells (madeCells z.cells (q.toNat * i.size)) e)) by
          simp only [execOp, ho, e1, e2]; exact run_v hrun]
        obtain ⟨β', h7, h8⟩ := hr.newRow (n := n) (e := e) (sz := te.size) (rs := List.replicate p.toNat ds) (ks := []) (v := .slice (some ⟨w.heap.size, 0, none⟩) p.toNat q.toNat) (w' := w.alloc (.cells (madeCells z.cells (q.toNat * i.size)) e)) (hn n (Nat.le_refl _) (by omega)) (by simp) rfl
          (fun g hg => by simp only [blk, Option.some.injEq] at hg; exact .inl (by omega)) (fun g hg _ => Below.heap_alloc w _ g hg) (by simp) rfl rfl rfl
          (fun N' hN hh hkN => by
            refine ⟨(List.replicate p.toNat z.cells.toList).flatten, ⟨by simp [hzs], .inr ⟨w.heap.size, q.toNat, _, by simp, Nat.zero_le _, heap_alloc_new w _, by simp; omega, by simp only [maxLen]; omega, by rw [size_madeCells, hi2], ?_⟩⟩, fun r hr => ?_, (hdr _ N').rep _⟩
            · rw [hi2, ← hzs, List.length_replicate]
              exact made_take _ (by omega) _ _ (by omega)
            · rw [List.eq_of_mem_replicate hr, hdz])
        exact hK' _ β' _ h7 h8 (.inr ⟨Nat.le_refl _, Nat.lt_succ_self _⟩)
  · exact h.elim
end Eng
