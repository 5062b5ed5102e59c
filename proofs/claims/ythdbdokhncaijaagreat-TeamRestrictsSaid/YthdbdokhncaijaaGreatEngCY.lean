/- The steps are sound: copy. -/
import Derived.Test.YthdbdokhncaijaaGreatEngCM
import Derived.Laws.CopyRow
open Go
namespace Eng
section
variable {P : Program} {o : Oper} {l : List (Nat × SV)} {m : List (Nat × Box)} {n : Nat}

theorem All2.eqL {α β : Type} {R : α → β → Prop} {l l' : List α} {r : List β} (e : l = l') (h : All2 R l r) : All2 R l' r := e ▸ h
theorem run_copy' {w w' : World} {dT sT ty elem : TypeId} {te : TI} {N : Nat → Prop} {news : List (List DV)} {y : Value} {xs : List Value} {base : Option Addr} {dLen dCap : Nat}
    (hu : P.underlying dT = some (.slice elem)) (hte : te.Ok P elem) (hs : Src w N te.size news y xs)
    (h0 : base = none → w' = w) (h1 : ∀ a, base = some a → (storeCells a (xs.take (min news.length dLen * te.size)) 0).run P w = .ok () w') :
    (Builtin.copy_ #[dT, sT] ty #[.slice base dLen dCap, y]).run P w = .ok (goInt (min news.length dLen : Nat)) w' := by
  obtain ⟨A, cap, rfl, hA, hc⟩ := hs.val
  have hz := run_sizeOf' hte w
  have hf : (Builtin.firstCells te.size (min news.length dLen) (.slice A news.length cap)).run P w = .ok (xs.take (min news.length dLen * te.size)).toArray w := by
    cases A with
    | none =>
      have := hA rfl
      subst this
      have hn : xs = [] := List.eq_nil_of_length_eq_zero (by rw [hs.len]; simp)
      subst hn
      simp [Builtin.firstCells]
    | some ad =>
      have hl := run_loadCells_list (P := P) w ad (xs.take (min news.length dLen * te.size)) (fun j v hj => by
        rw [List.getElem?_take] at hj
        split at hj
        · exact hc ad rfl j v hj
        · cases hj)
      have hlen : (xs.take (min news.length dLen * te.size)).length = min news.length dLen * te.size := by
        rw [List.length_take, hs.len]
        exact Nat.min_eq_left (Nat.mul_le_mul_right _ (Nat.min_le_left _ _))
      rw [hlen] at hl
      exact hl
  have hlo : (Builtin.lenOf (.slice A news.length cap)).run P w = .ok news.length w := by simp [Builtin.lenOf]
  cases base with
  | none =>
    have := h0 rfl
    subst this
    simp [Builtin.copy_, run_underlying hu, hlo, hz, hf]
  | some a => simp [Builtin.copy_, run_underlying hu, hlo, hz, hf, h1 a rfl]

theorem flat_take {rs : List (List DV)} {sz : Nat} (h : ∀ r ∈ rs, r.length = sz) : ∀ j, (rs.take j).flatten = rs.flatten.take (j * sz) ∧ (rs.drop j).flatten = rs.flatten.drop (j * sz) := by
  induction rs with
  | nil => intro j; simp
  | cons r rs ih =>
    intro j
    have hr : r.length = sz := h r (by simp)
    cases j with
    | zero => simp
    | succ j =>
      obtain ⟨h1, h2⟩ := ih (fun r' hr' => h r' (by simp [hr'])) j
      have e : (j + 1) * sz = r.length + j * sz := by rw [hr, Nat.succ_mul]; omega
      rw [List.take_succ_cons, List.drop_succ_cons, List.flatten_cons, List.flatten_cons, h1, h2, e, List.take_length_add_append, List.drop_length_add_append]
      exact ⟨rfl, rfl⟩

theorem dst_val {T : List (Nat × TI)} {w0 : World} {X : Nat → Prop} {Z : Zt} {nt : Nat} {A : Nat → Prop} {β : Nat → Value} {a : Act} {w : World} (hr : Rel w0 X Z nt A l m β a w) {t : Nat} {x : Operand} {b k tb sz : Nat} {rs : List (List DV)}
    (hx : dstOf (evT T t l x) = some (b, k)) (hb : lkb m b = .rows tb sz rs) {g len cap : Nat} (e : β b = .slice (some ⟨g, 0, none⟩) len cap) :
    a.eval x = .slice (if cap = k then some ⟨g, 0, none⟩ else some ⟨g, k * sz, none⟩) (len - k) (cap - k) := by
  have h1 := (hr.evT T t x).1
  unfold dstOf at hx
  split at hx
  · rename_i b' hx'
    injection hx with hx; injection hx with e1 e2; subst e1 e2
    rw [hx'] at h1
    have h1 := h1.2 (by rw [hb]; simp)
    rw [h1, e]
    simp
  · rename_i b' k' hx'
    injection hx with hx; injection hx with e1 e2; subst e1 e2
    rw [hx'] at h1
    obtain ⟨A', n', c', e1, e2⟩ := h1.2 sz (by rw [hb]; rfl)
    rw [e] at e1
    injection e1 with e1 e3 e4
    subst e1 e3 e4
    rw [e2]
    simp [addr_mk]
  · cases hx

theorem ok_copy {T : List (Nat × TI)} (hT : TabOk P T) {t t' : Nat} {ti : TI} (hti : ti.Ok P t) {c : Call} {x y : Operand} {K : KO} (ho : o.op = .call c) (hc : c.callee = .builtin .copy) (ha : c.args.toList = [x, y]) (ht : c.argTypes.toList = [t, t'])
    (h : copyW T ti (evT T t l x) (evT T t' l y) m n K) : ∃ v upd n' ft, n ≤ n' ∧ OpOk P o l m n v upd n' ∧ K v upd n' ft := by
  have ha' : c.args = #[x, y] := by rw [← Array.toArray_toList (xs := c.args), ha]
  have ht' : c.argTypes = #[t, t'] := by rw [← Array.toArray_toList (xs := c.argTypes), ht]
  unfold copyW at h
  split at h
  · rename_i e hk
    have hu := kind_slice hti hk
    split at h
    · exact h.elim
    · rename_i te hte
      have hte := hT e te hte
      split at h
      · rename_i b k kc hx
        split at h
        · rename_i tb cs hb
          split at h
          · exact h.elim
          · rename_i hs1
            have hs1 := Nat.eq_of_beq_eq_true hs1
            obtain ⟨news, ft, h, _, hsrc⟩ := srcW_ok h
            obtain ⟨hkl, h⟩ := h
            refine ⟨_, _, _, _, Nat.le_refl _, ?_, h⟩
            intro w0 X Z nt A β a w hr hn K' Q hK'
            obtain ⟨xs, hs⟩ := hsrc w _ β _ (hr.evT T t' y).1 hr.boxes
            obtain ⟨hvx, hrx⟩ := hr.evT T t x
            rw [hx] at hvx
            obtain ⟨g, eβ, e2⟩ := hvx.2 (by rw [hb]; simp)
            have hbx := hr.boxes b
            have hrb := (hr.refb b).1
            rw [hb] at hbx hrb
            obtain ⟨g', cur, eβ', hg, hall⟩ := hbx
            rw [eβ] at eβ'
            injection eβ' with e3; injection e3 with e3; injection e3 with e3; subst e3
            obtain ⟨vs, hvs⟩ : ∃ vs, vs = xs.take (min news.length k * te.size) := ⟨_, rfl⟩
            have hvl : vs.length = min news.length k := by
              rw [hvs, List.length_take, hs.len, hs1]
              simp only [Nat.mul_one]
              exact Nat.min_eq_left (Nat.min_le_left _ _)
            have hcl : cs.length = cur.size := by have := hall.length; simpa using this
            have hone : ∀ v ∈ vs, v.oneCell' = true := fun v hv => hs.one v (by rw [hvs] at hv; exact List.mem_of_mem_take hv)
            have hst := run_storeCells_at (P := P) g 0 tb vs 0 cur w hg (by simp only [Nat.zero_add]; omega) hone
            have hrun := run_copy' (P := P) (w := w) (w' := w.setRow g (vs ++ cur.toList.drop vs.length).toArray) (dT := t) (sT := t') (ty := o.type) (base := some ⟨g, 0, none⟩) (dLen := k) (dCap := kc) hu hte hs
              (fun e => by cases e) (fun ad had => by
                rw [← hvs]
                injection had with had
                subst had
                simpa using hst)
            unfold Oper.wp
            have hex : (execOp a.eval o).run P w = .ok (.value (goInt (min news.length k : Nat))) (w.setRow g (vs ++ cur.toList.drop vs.length).toArray) := by
              simp only [execOp, ho]
              rw [← e2] at hrun
              simp [resolve, hc, ha', ht', invoke, builtin, hrun]
            rw [hex]
            have hrf : RefCs A (copiedA cs k news) := fun c hc => by
              rcases List.mem_append.1 hc with h | h
              · obtain ⟨d, _, rfl⟩ := List.mem_map.1 h; trivial
              · exact hrb c (List.mem_of_mem_drop h)
            refine hK' _ β _ (Rel.wide ?_ (fun b hb => .inl hb)) (.int _ _) trivial
            refine hr.setBox (b := b) (g := g) (by rw [hb]; simp) (by simp) (by rw [eβ]; rfl) hrf (fun _ e => by cases e) (fun k hk => setRow_other _ _ _ _ hk) (by simp) rfl rfl rfl (fun Kp => ?_)
            refine ⟨g, (vs ++ cur.toList.drop vs.length).toArray, eβ, setRow_heap _ _ _ _ _ _ hg, ?_⟩
            have q2 := hs.rd.mono (R' := DRd _ _) fun d _ v hv => Kp.d hv
            have q3 := q2.take (min news.length k * te.size)
            rw [← hvs] at q3
            have hfl : (news.take k).flatten = news.flatten.take (min news.length k * te.size) := by
              have ht1 : news.take k = news.take (min news.length k) := by
                by_cases hh : news.length ≤ k
                · rw [Nat.min_eq_left hh, List.take_of_length_le hh, List.take_length]
                · rw [Nat.min_eq_right (by omega)]
              rw [ht1, (flat_take hs.rows _).1]
            rw [← hvl] at q3
            have hce : copiedA cs k news = (news.flatten.take (vs.length * te.size)).map CV.dv ++ cs.drop vs.length := by
              unfold copiedA
              rw [hfl, ← hvl]
            refine All2.eqL hce.symm ?_
            simp only
            refine All2.append (All2.map_left (f := CV.dv) ?_) ((Kp.cs hrb hall).drop _)
            exact q3
        · exact h.elim
      split at h
      · exact h.elim
      · rename_i b k hdst
        split at h
        · rename_i tb s rs hb
          split at h
          · exact h.elim
          · rename_i hchk
            rw [Bool.and_eq_true] at hchk
            have e1 := Nat.eq_of_beq_eq_true hchk.1
            have e2 := Nat.eq_of_beq_eq_true hchk.2
            subst e1 e2
            obtain ⟨news, ft, h, _, hsrc⟩ := srcW_ok h
            obtain ⟨⟨hpos, hkl⟩, h⟩ := h
            refine ⟨_, _, _, _, Nat.le_refl _, ?_, h⟩
            intro w0 X Z nt A β a w hr hn K' Q hK'
            obtain ⟨xs, hs⟩ := hsrc w _ β _ (hr.evT T t' y).1 hr.boxes
            have hbx := hr.boxes b
            rw [hb] at hbx
            obtain ⟨ys, ho', hl', hys⟩ := hbx
            rcases ho'.2 with ⟨_, h0⟩ | ⟨g, cap, cur, eβ, _, hg, hlc, hcm, hcs, htk⟩
            · omega
            have hval := dst_val hr hdst hb eβ
            -- the cells that are copied
            obtain ⟨vs, hvs⟩ : ∃ vs, vs = xs.take (min news.length (rs.length - k) * te.size) := ⟨_, rfl⟩
            have hvl : vs.length = min news.length (rs.length - k) * te.size := by
              rw [hvs, List.length_take, hs.len]
              exact Nat.min_eq_left (Nat.mul_le_mul_right _ (Nat.min_le_left _ _))
            have hfit : k * te.size + vs.length ≤ rs.length * te.size := by
              rw [hvl, ← Nat.add_mul]
              exact Nat.mul_le_mul_right _ (by omega)
            have hcap : rs.length * te.size ≤ cur.size := by rw [hcs]; exact Nat.mul_le_mul_right _ hlc
            have hone : ∀ v ∈ vs, v.oneCell' = true := fun v hv => hs.one v (by rw [hvs] at hv; exact List.mem_of_mem_take hv)
            have hrun := run_copy' (P := P) (w := w) (w' := w.setRow g (cur.toList.take (k * te.size) ++ vs ++ cur.toList.drop (k * te.size + vs.length)).toArray) (dT := t) (sT := t') (ty := o.type) (base := if cap = k then some ⟨g, 0, none⟩ else some ⟨g, k * te.size, none⟩) (dLen := rs.length - k) (dCap := cap - k) hu hte hs
              (fun e => by split at e <;> cases e) (fun ad had => by
                rw [← hvs]
                split at had
                · rename_i hck
                  have hv0 : vs = [] := List.eq_nil_of_length_eq_zero (by rw [hvl, show rs.length - k = 0 by omega]; simp)
                  rw [hv0]
                  simp only [List.append_nil, List.length_nil, Nat.add_zero, List.take_append_drop, storeCells]
                  rw [setRow_self w g cur tb (0, 0) hg]
                  rfl
                · injection had with had
                  subst had
                  have := run_storeCells_at (P := P) g (k * te.size) tb vs 0 cur w hg (by omega) hone
                  simpa using this)
            unfold Oper.wp
            have hex : (execOp a.eval o).run P w = .ok (.value (goInt (min news.length (rs.length - k) : Nat))) (w.setRow g (cur.toList.take (k * te.size) ++ vs ++ cur.toList.drop (k * te.size + vs.length)).toArray) := by
              simp only [execOp, ho]
              rw [← hval] at hrun
              simp [resolve, hc, ha', ht', invoke, builtin, hrun]
            rw [hex]
            refine hK' _ β _ (Rel.wide ?_ (fun b hb => .inl hb)) (.int _ _) trivial
            refine hr.setBox (b := b) (g := g) (by rw [hb]; simp) (by simp) (by rw [eβ]; rfl) trivial (fun _ e => by rw [hb]; exact e) (fun k hk => setRow_other _ _ _ _ hk) (by simp) rfl rfl rfl (fun Kp => ?_)
            have hcl : (copied rs k news).length = rs.length := by
              unfold copied
              simp only [List.length_append, List.length_take, List.length_drop]
              omega
            have hlen2 : (cur.toList.take (k * te.size) ++ vs ++ cur.toList.drop (k * te.size + vs.length)).length = cur.size := by
              simp only [List.length_append, List.length_take, List.length_drop, Array.length_toList]
              omega
            refine ⟨ys.take (k * te.size) ++ vs ++ ys.drop (k * te.size + vs.length), ⟨?_, .inr ⟨g, cap, _, ?_, Nat.zero_le _, setRow_heap _ _ _ _ _ _ hg, ?_, hcm, ?_, ?_⟩⟩, ?_, ?_⟩
            · simp only [List.length_append, List.length_take, List.length_drop, ho'.1, hcl]
              omega
            · rw [eβ, hcl]
            · omega
            · rw [← hcs, ← hlen2, List.size_toArray]
            · rw [hcl, ← htk]
              simp only
              rw [List.take_take, Nat.min_eq_left (by omega), List.drop_take]
              rw [List.take_append, List.take_append]
              simp only [List.length_append, List.length_take, Array.length_toList]
              rw [List.take_take, Nat.min_eq_right (by omega), Nat.min_eq_left (by omega), List.take_of_length_le (l := vs) (by omega)]
            · intro r hr'
              unfold copied at hr'
              rcases List.mem_append.1 hr' with hr' | hr'
              · rcases List.mem_append.1 hr' with hr' | hr'
                · exact hl' r (List.mem_of_mem_take hr')
                · exact hs.rows r (List.mem_of_mem_take hr')
              · exact hl' r (List.mem_of_mem_drop hr')
            · have hd1 : rs.drop (k + news.length) = rs.drop (k + min news.length (rs.length - k)) := by
                by_cases hh : news.length ≤ rs.length - k
                · rw [Nat.min_eq_left hh]
                · rw [List.drop_eq_nil_of_le (by omega), List.drop_eq_nil_of_le (by omega)]
              have ht1 : news.take (rs.length - k) = news.take (min news.length (rs.length - k)) := by
                by_cases hh : news.length ≤ rs.length - k
                · rw [Nat.min_eq_left hh, List.take_of_length_le hh, List.take_length]
                · rw [Nat.min_eq_right (by omega)]
              have hfl : (copied rs k news).flatten = rs.flatten.take (k * te.size) ++ news.flatten.take vs.length ++ rs.flatten.drop (k * te.size + vs.length) := by
                unfold copied
                rw [hd1, ht1, List.flatten_append, List.flatten_append, (flat_take hl' _).1, (flat_take hs.rows _).1, (flat_take hl' _).2, Nat.add_mul, ← hvl]
              rw [hfl]
              have q1 := hys.mono (R' := DRd _ _) fun d _ v hv => Kp.d hv
              have q2 := hs.rd.mono (R' := DRd _ _) fun d _ v hv => Kp.d hv
              have q3 := q2.take (min news.length (rs.length - k) * te.size)
              rw [← hvs, ← hvl] at q3
              exact ((q1.take _).append q3).append (q1.drop _)
        · exact h.elim
  · exact h.elim

end
end Eng
