/- Operations that only regions without a drawn order may use: copy. -/
import Derived.Test.YtafglmjadbplcaaDoorEngC4
import Derived.Laws.CopyRow
import Derived.Lib.AppendStr
open Go
namespace Eng
section
variable {P : Program} {o : Oper} {l : List (Nat × SV)} {m : List (Nat × Box)} {n : Nat}

/-- what copy writes: the box, and the row at which it begins -/
def dstOf : SV → Option (Nat × Nat)
  | .one (.row b) => some (b, 0)
  | .one (.rsl b x) => some (b, x)
  | _ => none
def copied (rs : List (List DV)) (x : Nat) (news : List (List DV)) : List (List DV) :=
  rs.take x ++ news.take (rs.length - x) ++ rs.drop (x + news.length)
def copyW (T : List (Nat × TI)) (ti : TI) (x y : SV) (m : List (Nat × Box)) (n : Nat) (K : KO) : Prop :=
  match ti.kind with
  | .slice e => match lkt T e with
    | none => False
    | some te => match dstOf x with
      | none => False
      | some (b, a) => match lkb m b with
        | .rows t s rs => match Nat.beq s te.size && Nat.beq t e with
          | false => False
          | true => srcW m te.size y fun news ft => (0 < rs.length ∧ a ≤ rs.length) ∧ K (.one (.dv (.int .i64 (min news.length (rs.length - a) : Nat)))) [(b, .rows t s (copied rs a news))] n (b :: ft)
        | _ => False
  | _ => False

theorem run_copy' {w w' : World} {dT sT ty elem : TypeId} {te : TI} {N : Nat → Prop} {news : List (List DV)} {y : Value} {xs : List Value} {base : Option Addr} {dLen dCap : Nat}
    (hu : P.underlying dT = some (.slice elem)) (hte : te.Ok P elem) (hs : Src w N te.size news y xs)
    (h0 : base = none → w' = w) (h1 : ∀ a, base = some a → (storeCells a (xs.take (min news.length dLen * te.size)) 0).run P w = .ok () w') :
    (Builtin.copy_ #[dT, sT] ty #[.slice base dLen dCap, y]).run P w = .ok (goInt (min news.length dLen : Nat)) w' := by
  obtain ⟨A, cap, rfl, hA, hc⟩ := hs.val
  have hz := run_sizeOf' hte w
  have hf : (Builtin.firstCells te.size (min news.length dLen) (.slice A news.length cap)).run P w = .ok (xs.take (min news.length dLen * te.size)).toArray w := by
    cases A with
    | none =>
      have := hA rfl
      subst this
      have hn : xs = [] := List.eq_nil_of_length_eq_zero (by rw [hs.len]; simp)
      subst hn
      simp [Builtin.firstCells]
    | some ad =>
      have hl := run_loadCells_list (P := P) w ad (xs.take (min news.length dLen * te.size)) (fun j v hj => by
        rw [List.getElem?_take] at hj
        split at hj
        · exact hc ad rfl j v hj
        · cases hj)
      have hlen : (xs.take (min news.length dLen * te.size)).length = min news.length dLen * te.size := by
        rw [List.length_take, hs.len]
        exact Nat.min_eq_left (Nat.mul_le_mul_right _ (Nat.min_le_left _ _))
      rw [hlen] at hl
      exact hl
  have hlo : (Builtin.lenOf (.slice A news.length cap)).run P w = .ok news.length w := by simp [Builtin.lenOf]
  cases base with
  | none =>
    have := h0 rfl
    subst this
    simp [Builtin.copy_, run_underlying hu, hlo, hz, hf]
  | some a => simp [Builtin.copy_, run_underlying hu, hlo, hz, hf, h1 a rfl]

theorem flat_take {rs : List (List DV)} {sz : Nat} (h : ∀ r ∈ rs, r.length = sz) : ∀ j, (rs.take j).flatten = rs.flatten.take (j * sz) ∧ (rs.drop j).flatten = rs.flatten.drop (j * sz) := by
  induction rs with
  | nil => intro j; simp
  | cons r rs ih =>
    intro j
    have hr : r.length = sz := h r (by simp)
    cases j with
    | zero => simp
    | succ j =>
      obtain ⟨h1, h2⟩ := ih (fun r' hr' => h r' (by simp [hr'])) j
      have e : (j + 1) * sz = r.length + j * sz := by rw [hr, Nat.succ_mul]; omega
      rw [List.take_succ_cons, List.drop_succ_cons, List.flatten_cons, List.flatten_cons, h1, h2, e, List.take_length_add_append, List.drop_length_add_append]
      exact ⟨rfl, rfl⟩

theorem dst_val {T : List (Nat × TI)} {w0 : World} {X : Nat → Prop} {Z : Zt} {nt : Nat} {A : Nat → Prop} {β : Nat → Value} {a : Act} {w : World} (hr : Rel w0 X Z nt A l m β a w) {t : Nat} {x : Operand} {b k tb sz : Nat} {rs : List (List DV)}
    (hx : dstOf (evT T t l x) = some (b, k)) (hb : lkb m b = .rows tb sz rs) {g len cap : Nat} (e : β b = .slice (some ⟨g, 0, none⟩) len cap) :
    a.eval x = .slice (if cap = k then some ⟨g, 0, none⟩ else some ⟨g, k * sz, none⟩) (len - k) (cap - k) := by
  have h1 := (hr.evT T t x).1
  unfold dstOf at hx
  split at hx
  · rename_i b' hx'
    injection hx with hx; injection hx with e1 e2; subst e1 e2
    rw [hx'] at h1
    have h1 := h1.2 (by rw [hb]; simp)
    rw [h1, e]
    simp
  · rename_i b' k' hx'
    injection hx with hx; injection hx with e1 e2; subst e1 e2
    rw [hx'] at h1
    obtain ⟨A', n', c', e1, e2⟩ := h1.2 sz (by rw [hb]; rfl)
    rw [e] at e1
    injection e1 with e1 e3 e4
    subst e1 e3 e4
    rw [e2]
    simp [addr_mk]
  · cases hx

theorem ok_copy {T : List (Nat × TI)} (hT : TabOk P T) {t t' : Nat} {ti : TI} (hti : ti.Ok P t) {c : Call} {x y : Operand} {K : KO} (ho : o.op = .call c) (hc : c.callee = .builtin .copy) (ha : c.args.toList = [x, y]) (ht : c.argTypes.toList = [t, t'])
    (h : copyW T ti (evT T t l x) (evT T t' l y) m n K) : ∃ v upd n' ft, n ≤ n' ∧ OpOk P o l m n v upd n' ∧ K v upd n' ft := by
  have ha' : c.args = #[x, y] := by rw [← Array.toArray_toList (xs := c.args), ha]
  have ht' : c.argTypes = #[t, t'] := by rw [← Array.toArray_toList (xs := c.argTypes), ht]
  unfold copyW at h
  split at h
  · rename_i e hk
    have hu := kind_slice hti hk
    split at h
    · exact h.elim
    · rename_i te hte
      have hte := hT e te hte
      split at h
      · exact h.elim
      · rename_i b k hdst
        split at h
        · rename_i tb s rs hb
          split at h
          · exact h.elim
          · rename_i hchk
            rw [Bool.and_eq_true] at hchk
            have e1 := Nat.eq_of_beq_eq_true hchk.1
            have e2 := Nat.eq_of_beq_eq_true hchk.2
            subst e1 e2
            obtain ⟨news, ft, h, _, hsrc⟩ := srcW_ok h
            obtain ⟨⟨hpos, hkl⟩, h⟩ := h
            refine ⟨_, _, _, _, Nat.le_refl _, ?_, h⟩
            intro w0 X Z nt A β a w hr hn K' Q hK'
            obtain ⟨xs, hs⟩ := hsrc w _ β _ (hr.evT T t' y).1 hr.boxes
            have hbx := hr.boxes b
            rw [hb] at hbx
            obtain ⟨ys, ho', hl', hys⟩ := hbx
            rcases ho'.2 with ⟨_, h0⟩ | ⟨g, cap, cur, eβ, _, hg, hlc, hcm, hcs, htk⟩
            · omega
            have hval := dst_val hr hdst hb eβ
            -- the cells that are copied
            obtain ⟨vs, hvs⟩ : ∃ vs, vs = xs.take (min news.length (rs.length - k) * te.size) := ⟨_, rfl⟩
            have hvl : vs.length = min news.length (rs.length - k) * te.size := by
              rw [hvs, List.length_take, hs.len]
              exact Nat.min_eq_left (Nat.mul_le_mul_right _ (Nat.min_le_left _ _))
            have hfit : k * te.size + vs.length ≤ rs.length * te.size := by
              rw [hvl, ← Nat.add_mul]
              exact Nat.mul_le_mul_right _ (by omega)
            have hcap : rs.length * te.size ≤ cur.size := by rw [hcs]; exact Nat.mul_le_mul_right _ hlc
            have hone : ∀ v ∈ vs, v.oneCell' = true := fun v hv => hs.one v (by rw [hvs] at hv; exact List.mem_of_mem_take hv)
            have hrun := run_copy' (P := P) (w := w) (w' := w.setRow g (cur.toList.take (k * te.size) ++ vs ++ cur.toList.drop (k * te.size + vs.length)).toArray) (dT := t) (sT := t') (ty := o.type) (base := if cap = k then some ⟨g, 0, none⟩ else some ⟨g, k * te.size, none⟩) (dLen := rs.length - k) (dCap := cap - k) hu hte hs
              (fun e => by split at e <;> cases e) (fun ad had => by
                rw [← hvs]
                split at had
                · rename_i hck
                  have hv0 : vs = [] := List.eq_nil_of_length_eq_zero (by rw [hvl, show rs.length - k = 0 by omega]; simp)
                  rw [hv0]
                  simp only [List.append_nil, List.length_nil, Nat.add_zero, List.take_append_drop, storeCells]
                  rw [setRow_self w g cur tb (0, 0) hg]
                  rfl
                · injection had with had
                  subst had
                  have := run_storeCells_at (P := P) g (k * te.size) tb vs 0 cur w hg (by omega) hone
                  simpa using this)
            unfold Oper.wp
            have hex : (execOp a.eval o).run P w = .ok (.value (goInt (min news.length (rs.length - k) : Nat))) (w.setRow g (cur.toList.take (k * te.size) ++ vs ++ cur.toList.drop (k * te.size + vs.length)).toArray) := by
              simp only [execOp, ho]
              rw [← hval] at hrun
              simp [resolve, hc, ha', ht', invoke, builtin, Sem.run_bind, hrun]
            rw [hex]
            refine hK' _ β _ (Rel.wide ?_ (fun b hb => .inl hb)) (.int _ _) trivial
            refine hr.setBox (b := b) (g := g) (by rw [hb]; simp) (by simp) (by rw [eβ]; rfl) trivial (fun _ e => by rw [hb]; exact e) (fun k hk => setRow_other _ _ _ _ hk) (by simp) rfl rfl rfl (fun Kp => ?_)
            have hcl : (copied rs k news).length = rs.length := by
              unfold copied
              simp only [List.length_append, List.length_take, List.length_drop]
              omega
            have hlen2 : (cur.toList.take (k * te.size) ++ vs ++ cur.toList.drop (k * te.size + vs.length)).length = cur.size := by
              simp only [List.length_append, List.length_take, List.length_drop, Array.length_toList]
              omega
            refine ⟨ys.take (k * te.size) ++ vs ++ ys.drop (k * te.size + vs.length), ⟨?_, .inr ⟨g, cap, _, ?_, Nat.zero_le _, setRow_heap _ _ _ _ _ _ hg, ?_, hcm, ?_, ?_⟩⟩, ?_, ?_⟩
            · simp only [List.length_append, List.length_take, List.length_drop, ho'.1, hcl]
              omega
            · rw [eβ, hcl]
            · omega
            · rw [← hcs, ← hlen2, List.size_toArray]
            · rw [hcl, ← htk]
              simp only [List.toList_toArray]
              rw [List.take_take, Nat.min_eq_left (by omega), List.drop_take]
              rw [List.take_append, List.take_append]
              simp only [List.length_append, List.length_take, Array.length_toList]
              rw [List.take_take, Nat.min_eq_right (by omega), Nat.min_eq_left (by omega), List.take_of_length_le (l := vs) (by omega)]
            · intro r hr'
              unfold copied at hr'
              rcases List.mem_append.1 hr' with hr' | hr'
              · rcases List.mem_append.1 hr' with hr' | hr'
                · exact hl' r (List.mem_of_mem_take hr')
                · exact hs.rows r (List.mem_of_mem_take hr')
              · exact hl' r (List.mem_of_mem_drop hr')
            · have hd1 : rs.drop (k + news.length) = rs.drop (k + min news.length (rs.length - k)) := by
                by_cases hh : news.length ≤ rs.length - k
                · rw [Nat.min_eq_left hh]
                · rw [List.drop_eq_nil_of_le (by omega), List.drop_eq_nil_of_le (by omega)]
              have ht1 : news.take (rs.length - k) = news.take (min news.length (rs.length - k)) := by
                by_cases hh : news.length ≤ rs.length - k
                · rw [Nat.min_eq_left hh, List.take_of_length_le hh, List.take_length]
                · rw [Nat.min_eq_right (by omega)]
              have hfl : (copied rs k news).flatten = rs.flatten.take (k * te.size) ++ news.flatten.take vs.length ++ rs.flatten.drop (k * te.size + vs.length) := by
                unfold copied
                rw [hd1, ht1, List.flatten_append, List.flatten_append, (flat_take hl' _).1, (flat_take hs.rows _).1, (flat_take hl' _).2, Nat.add_mul, ← hvl]
              rw [hfl]
              have q1 := hys.mono (R' := DRd _ _) fun d _ v hv => Kp.d hv
              have q2 := hs.rd.mono (R' := DRd _ _) fun d _ v hv => Kp.d hv
              have q3 := q2.take (min news.length (rs.length - k) * te.size)
              rw [← hvs, ← hvl] at q3
              exact ((q1.take _).append q3).append (q1.drop _)
        · exact h.elim
  · exact h.elim

/-- a text's bytes as rows -/
def strRows (s : ByteArray) : List (List DV) := s.data.toList.map fun b => [.int .u8 (b.toNat : Int)]
theorem strRows_len (s : ByteArray) : (strRows s).length = s.size := by rw [strRows, List.length_map, Array.length_toList]; rfl
theorem strRows_one (s : ByteArray) : ∀ r ∈ strRows s, r.length = 1 := by
  intro r hr
  obtain ⟨b, _, rfl⟩ := List.mem_map.1 hr
  rfl
theorem strRows_rd (w : World) (N : Nat → Prop) (s : ByteArray) : All2 (DRd w N) (strRows s).flatten (Lib.strCells s) := by
  unfold strRows Lib.strCells
  generalize s.data.toList = l
  induction l with
  | nil => trivial
  | cons b l ih => exact ⟨.int _ _, ih⟩
/-- a text's bytes appended -/
def appendSW (T : List (Nat × TI)) (P : Program) (t' : Nat) (ti : TI) (x : SV) (s : ByteArray) (m : List (Nat × Box)) (n : Nat) (K : KO) : Prop :=
  match ti.kind with
  | .slice e => match lkt T e with
    | none => False
    | some te => match Nat.beq te.size 1 with
      | false => False
      | true => (P.underlying t' = some .string ∧ (P.info? e).map (fun i => (i.zero, i.size, i.bytes)) = some (some (.int .u8 0), 1, 1)) ∧ match x with
        | .one (.nil _) => s.size ≤ 140737488355328 ∧ K (.one (.row n)) [(n, .rows e te.size (strRows s))] (n + 1) []
        | .one (.row b) => match lkb m b with
          | .rows t sz rs => match Nat.beq sz te.size && Nat.beq t e with
            | false => False
            | true => rs.length + s.size ≤ 140737488355328 ∧ K (.one (.row n)) [(n, .rows e te.size (rs ++ strRows s)), (b, .dead)] (n + 1) [b]
          | _ => False
        | _ => False
  | _ => False
theorem ownsRow_base {w : World} {base e size n : Nat} {v : Value} {xs : List Value} (h : w.ownsRow base e size v n xs) : w.ownsRow 0 e size v n xs := by
  refine ⟨h.1, ?_⟩
  rcases h.2 with h | ⟨g, cap, cur, e, _, r⟩
  · exact .inl h
  · exact .inr ⟨g, cap, cur, e, Nat.zero_le _, r⟩
theorem run_appS (w : World) {t u ty e : TypeId} (ht : P.underlying t = some (.slice e)) (hu : P.underlying u = some .string) (hi : (P.info? e).map (fun i => (i.zero, i.size, i.bytes)) = some (some (.int .u8 0), 1, 1)) {v : Value} {k : Nat} {xs : List Value} (hown : w.ownsRow 0 e 1 v k xs)
    (s : ByteArray) (hs : k + s.size ≤ 140737488355328) :
    ∃ v' w', (Builtin.append_ #[t, u] ty #[v, .string s]).run P w = .ok v' w' ∧ w'.ownsRow 0 e 1 v' (k + s.size) (xs ++ Lib.strCells s) ∧ w.grownBy w' v.ownBlock ∧ ∀ g, v'.ownBlock = some g → w.heap.size ≤ g ∨ v.ownBlock = some g := by
  obtain ⟨i, hi1, hi2⟩ := Option.map_eq_some_iff.1 hi
  simp only [Prod.mk.injEq] at hi2
  obtain ⟨hz, hsz, hby⟩ := hi2
  have hmax : k + s.size ≤ maxLen := by simp only [maxLen]; omega
  rcases hown.2 with ⟨rfl, rfl⟩ | ⟨g, cap, cur, rfl, hbg, hg, hnc, hcm, hcs, htake⟩
  · have hx : xs = [] := List.eq_nil_of_length_eq_zero (by have := hown.1; omega)
    subst hx
    obtain ⟨v', w', h1, h2, h3, _⟩ := Lib.run_append_own_string (P := P) w w.heap.size t u ty e i ht hu hi1 hz hsz hby (.slice none 0 0) 0 [] (World.ownsRow_nil w _ e 1) s hmax hs (Nat.le_refl _)
    refine ⟨v', w', h1, ownsRow_base h2, h3, fun g hg => .inl ?_⟩
    rcases h2.2 with ⟨e, _⟩ | ⟨g', cap, cur, e, hb, _⟩
    · rw [e] at hg; simp [Value.ownBlock] at hg
    · rw [e] at hg; simp only [Value.ownBlock, Option.some.injEq] at hg; omega
  · obtain ⟨v', w', h1, h2, h3, _⟩ := Lib.run_append_own_string (P := P) w 0 t u ty e i ht hu hi1 hz hsz hby _ k xs hown s hmax hs (Nat.zero_le _)
    refine ⟨v', w', h1, h2, h3, fun g' hg' => ?_⟩
    by_cases hroom : k + s.size ≤ cap
    · have hcs' : cur.size = cap := by simpa using hcs
      have hr := Lib.run_append_room_string (P := P) w t u ty e i ht hu hi1 hsz g k cap cur hg s hroom (by omega)
      rw [h1] at hr
      injection hr with hr _
      subst hr
      exact .inr hg'
    · have holds : ∀ j u, xs[j]? = some u → w.cell? ((⟨g, 0, none⟩ : Addr).add j) = some u := hown.cells (g := g) rfl
      have hxl : xs.length = k := by simpa using hown.1
      have hr := Lib.run_append_grow_string (P := P) (ty := ty) w t u e i (.int .u8 0) ht hu hi1 hz ⟨g, 0, none⟩ k cap xs (by rw [hsz]; simpa using hxl) holds s (by omega) (by omega) (by rw [hby]; exact growslice_fits (by omega) (by omega))
      rw [h1] at hr
      injection hr with hr _
      subst hr
      simp only [Value.ownBlock, Option.some.injEq] at hg'
      exact .inl (by omega)
theorem ok_appendS {T : List (Nat × TI)} (hT : TabOk P T) {t t' : Nat} {ti : TI} (hti : ti.Ok P t) {c : Call} {x y : Operand} {s : ByteArray} {K : KO} (ho : o.op = .call c) (hc : c.callee = .builtin .append) (ha : c.args.toList = [x, y]) (ht : c.argTypes.toList = [t, t']) (hy : evT T t' l y = .one (.dv (.str s)))
    (h : appendSW T P t' ti (evT T t l x) s m n K) : ∃ v upd n' ft, n ≤ n' ∧ OpOk P o l m n v upd n' ∧ K v upd n' ft := by
  have ha' : c.args = #[x, y] := by rw [← Array.toArray_toList (xs := c.args), ha]
  have ht' : c.argTypes = #[t, t'] := by rw [← Array.toArray_toList (xs := c.argTypes), ht]
  unfold appendSW at h
  split at h
  · rename_i e hk
    have hu := kind_slice hti hk
    split at h
    · exact h.elim
    · rename_i te hte
      have hte := hT e te hte
      split at h
      · exact h.elim
      · rename_i hsz
        have hsz := Nat.eq_of_beq_eq_true hsz
        obtain ⟨⟨hu', hinfo⟩, h⟩ := h
        have hrun : ∀ {a : Act} {w w' : World} {v : Value}, (Builtin.append_ #[t, t'] o.type #[a.eval x, a.eval y]).run P w = .ok v w' → (execOp a.eval o).run P w = .ok (.value v) w' := by
          intro a w w' v hv
          simp only [execOp, ho]
          simp [resolve, hc, ha', ht', invoke, builtin, Sem.run_bind, hv]
        split at h
        · rename_i s0 hx
          refine ⟨_, _, _, _, Nat.le_succ _, ?_, h.2⟩
          intro w0 X Z nt A β a w hr hn K' Q hK'
          have hvx := (hr.evT T t x).1
          rw [hx] at hvx
          simp only [SRd, CRd] at hvx
          have hvy := (hr.evT T t' y).1
          rw [hy] at hvy
          have hvy := DRd.str_inv hvy
          obtain ⟨v', w', h1, h2, h3, h4⟩ := run_appS (P := P) (ty := o.type) w hu hu' hinfo (World.ownsRow_nil w 0 e 1) s (by omega)
          simp only [Nat.zero_add, List.nil_append] at h2
          unfold Oper.wp
          rw [hrun (by rw [hvx, hvy]; exact h1)]
          have hbv : blk v' = v'.ownBlock := blk_own (by rcases h2.2 with ⟨e, _⟩ | ⟨g, cap, cur, e, _⟩ <;> exact ⟨_, _, _, e⟩)
          obtain ⟨β', h7, h8⟩ := hr.newRow (n := n) (e := e) (sz := te.size) (rs := strRows s) (ks := []) (v := v') (w' := w') (hn n (Nat.le_refl _) (by omega)) (by simp) (by rcases h2.2 with ⟨e, _⟩ | ⟨g, cap, cur, e, _⟩ <;> (rw [e]; rfl))
            (fun g hg => by
              rw [hbv] at hg
              rcases h4 g hg with h4 | h4
              · exact .inl h4
              · simp [Value.ownBlock] at h4)
            (fun g hg _ => h3.block g hg (by simp [Value.ownBlock])) h3.size h3.os h3.tape h3.output
            (fun N' hN hh _ => ⟨Lib.strCells s, by rw [hsz, strRows_len]; exact h2, by rw [hsz]; exact strRows_one s, strRows_rd _ _ s⟩)
          exact hK' _ β' _ h7 h8 (.inr ⟨Nat.le_refl _, Nat.lt_succ_self _⟩)
        · rename_i b hx
          split at h
          · rename_i tb s1 rs hb
            split at h
            · exact h.elim
            · rename_i hchk
              rw [Bool.and_eq_true] at hchk
              have e1 := Nat.eq_of_beq_eq_true hchk.1
              have e2 := Nat.eq_of_beq_eq_true hchk.2
              subst e1 e2
              refine ⟨_, _, _, _, Nat.le_succ _, ?_, h.2⟩
              intro w0 X Z nt A β a w hr hn K' Q hK'
              have hvx := (hr.evT T t x).1
              rw [hx] at hvx
              have hvx := hvx.2 (by rw [hb]; simp)
              have hvy := (hr.evT T t' y).1
              rw [hy] at hvy
              have hvy := DRd.str_inv hvy
              have hbx := hr.boxes b
              rw [hb] at hbx
              obtain ⟨ys, ho', hl', ha'⟩ := hbx
              have hsz' : te.size = 1 := hsz
              rw [hsz'] at ho' hl'
              obtain ⟨v', w', h1, h2, h3, h4⟩ := run_appS (P := P) (ty := o.type) w hu hu' hinfo ho' s h.1
              unfold Oper.wp
              rw [hrun (by rw [hvx, hvy]; exact h1)]
              have hbv : blk v' = v'.ownBlock := blk_own (by rcases h2.2 with ⟨e, _⟩ | ⟨g, cap, cur, e, _⟩ <;> exact ⟨_, _, _, e⟩)
              have hbβ : blk (β b) = (β b).ownBlock := blk_own (by rcases ho'.2 with ⟨e, _⟩ | ⟨g, cap, cur, e, _⟩ <;> exact ⟨_, _, _, e⟩)
              obtain ⟨β', h7, h8⟩ := hr.newRow (n := n) (e := tb) (sz := te.size) (rs := rs ++ strRows s) (ks := [b]) (v := v') (w' := w') (hn n (Nat.le_refl _) (by omega)) (by simp [hb]) (by rcases h2.2 with ⟨e, _⟩ | ⟨g, cap, cur, e, _⟩ <;> (rw [e]; rfl))
                (fun g hg => by
                  rw [hbv] at hg
                  rcases h4 g hg with h4 | h4
                  · exact .inl h4
                  · rw [← hbβ] at h4; exact .inr ⟨b, by simp, h4⟩)
                (fun g hg hne => h3.block g hg (by rw [← hbβ]; exact fun e => hne b (by simp) e.symm)) h3.size h3.os h3.tape h3.output
                (fun N' hN hh _ => ⟨ys ++ Lib.strCells s, by rw [hsz', List.length_append, strRows_len]; exact h2, fun r hr => by rw [hsz']; exact (List.mem_append.1 hr).elim (hl' r) (strRows_one s r), by
                  rw [List.flatten_append]
                  exact (ha'.mono fun d _ v hv => hv.mono hN hh).append (strRows_rd _ _ s)⟩)
              exact hK' _ β' _ h7 h8 (.inr ⟨Nat.le_refl _, Nat.lt_succ_self _⟩)
          · exact h.elim
        · exact h.elim
  · exact h.elim

/-- one operation, in a region without a drawn order -/
def opX (T : List (Nat × TI)) (P : Program) (o : Oper) (l : List (Nat × SV)) (m : List (Nat × Box)) (n : Nat) (K : KO) : Prop :=
  match o.op with
  | .call c => match c.callee with
    | .builtin .copy => match c.args.toList with
      | [x, y] => match c.argTypes.toList with
        | [t, t'] => match lkt T t with
          | some ti => copyW T ti (evT T t l x) (evT T t' l y) m n K
          | none => False
        | _ => False
      | _ => False
    | .builtin .append => match c.args.toList with
      | [x, y] => match c.argTypes.toList with
        | [t, t'] => match Nat.beq t t' with
          | true => opW T P o l m n K
          | false => match lkt T t with
            | some ti => match evT T t' l y with
              | .one (.dv (.str s)) => appendSW T P t' ti (evT T t l x) s m n K
              | _ => False
            | none => False
        | _ => False
      | _ => False
    | _ => opW T P o l m n K
  | .makeMap _ r => match r with
    | none => K (.one (.row n)) [(n, .mp [])] (n + 1) []
    | some _ => False
  | _ => opW T P o l m n K
theorem opX_ok {T : List (Nat × TI)} (hT : TabOk P T) {K : KO} (h : opX T P o l m n K) : ∃ v upd n' ft, n ≤ n' ∧ OpOk P o l m n v upd n' ∧ K v upd n' ft := by
  unfold opX at h
  split at h
  · rename_i c ho
    split at h
    · rename_i hc
      split at h
      · rename_i x y ha
        split at h
        · rename_i t t' ht
          split at h
          · rename_i ti hti
            exact ok_copy hT (hT t ti hti) ho hc ha ht h
          · exact h.elim
        · exact h.elim
      · exact h.elim
    · rename_i hc
      split at h
      · rename_i x y ha
        split at h
        · rename_i t t' ht
          split at h
          · exact opW_ok hT h
          · split at h
            · rename_i ti hti
              split at h
              · rename_i s hy
                exact ok_appendS hT (hT t ti hti) ho hc ha ht hy h
              · exact h.elim
            · exact h.elim
        · exact h.elim
      · exact h.elim
    · exact opW_ok hT h
  · rename_i t r ho
    split at h
    · exact ⟨_, _, _, _, Nat.le_succ _, ok_makeMap ho, h⟩
    · exact h.elim
  · exact opW_ok hT h
end
end Eng
