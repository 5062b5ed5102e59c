/- Operations that only regions without a drawn order may use: a text's bytes appended, maps made. -/
import Derived.Test.YthdbdokhncaijaaGreatEngC4
import Derived.Lib.AppendStr
open Go
namespace Eng
section
variable {P : Program} {o : Oper} {l : List (Nat × SV)} {m : List (Nat × Box)} {n : Nat}

/-- a text's bytes as rows -/
def strRows (s : ByteArray) : List (List DV) := s.data.toList.map fun b => [.int .u8 (b.toNat : Int)]
theorem strRows_len (s : ByteArray) : (strRows s).length = s.size := by rw [strRows, List.length_map, Array.length_toList]; rfl
theorem strRows_one (s : ByteArray) : ∀ r ∈ strRows s, r.length = 1 := by
  intro r hr
  obtain ⟨b, _, rfl⟩ := List.mem_map.1 hr
  rfl
theorem strRows_rd (w : World) (N : Nat → Prop) (s : ByteArray) : All2 (DRd w N) (strRows s).flatten (Lib.strCells s) := by
  unfold strRows Lib.strCells
  generalize s.data.toList = l
  induction l with
  | nil => trivial
  | cons b l ih => exact ⟨.int _ _, ih⟩
/-- a text's bytes appended -/
def appendSW (T : List (Nat × TI)) (P : Program) (t' : Nat) (ti : TI) (x : SV) (s : ByteArray) (m : List (Nat × Box)) (n : Nat) (K : KO) : Prop :=
  match ti.kind with
  | .slice e => match lkt T e with
    | none => False
    | some te => match Nat.beq te.size 1 with
      | false => False
      | true => (P.underlying t' = some .string ∧ (P.info? e).map (fun i => (i.zero, i.size, i.bytes)) = some (some (.int .u8 0), 1, 1)) ∧ match x with
        | .one (.nil _) => s.size ≤ 140737488355328 ∧ K (.one (.row n)) [(n, .rows e te.size (strRows s))] (n + 1) []
        | .one (.row b) => match lkb m b with
          | .rows t sz rs => match Nat.beq sz te.size && Nat.beq t e with
            | false => False
            | true => rs.length + s.size ≤ 140737488355328 ∧ K (.one (.row n)) [(n, .rows e te.size (rs ++ strRows s)), (b, .dead)] (n + 1) [b]
          | _ => False
        | _ => False
  | _ => False
theorem ownsRow_base {w : World} {base e size n : Nat} {v : Value} {xs : List Value} (h : w.ownsRow base e size v n xs) : w.ownsRow 0 e size v n xs := by
  refine ⟨h.1, ?_⟩
  rcases h.2 with h | ⟨g, cap, cur, e, _, r⟩
  · exact .inl h
  · exact .inr ⟨g, cap, cur, e, Nat.zero_le _, r⟩
theorem run_appS (w : World) {t u ty e : TypeId} (ht : P.underlying t = some (.slice e)) (hu : P.underlying u = some .string) (hi : (P.info? e).map (fun i => (i.zero, i.size, i.bytes)) = some (some (.int .u8 0), 1, 1)) {v : Value} {k : Nat} {xs : List Value} (hown : w.ownsRow 0 e 1 v k xs)
    (s : ByteArray) (hs : k + s.size ≤ 140737488355328) :
    ∃ v' w', (Builtin.append_ #[t, u] ty #[v, .string s]).run P w = .ok v' w' ∧ w'.ownsRow 0 e 1 v' (k + s.size) (xs ++ Lib.strCells s) ∧ w.grownBy w' v.ownBlock ∧ ∀ g, v'.ownBlock = some g → w.heap.size ≤ g ∨ v.ownBlock = some g := by
  obtain ⟨i, hi1, hi2⟩ := Option.map_eq_some_iff.1 hi
  simp only [Prod.mk.injEq] at hi2
  obtain ⟨hz, hsz, hby⟩ := hi2
  have hmax : k + s.size ≤ maxLen := by simp only [maxLen]; omega
  rcases hown.2 with ⟨rfl, rfl⟩ | ⟨g, cap, cur, rfl, hbg, hg, hnc, hcm, hcs, htake⟩
  · have hx : xs = [] := List.eq_nil_of_length_eq_zero (by have := hown.1; omega)
    subst hx
    obtain ⟨v', w', h1, h2, h3, _⟩ := Lib.run_append_own_string (P := P) w w.heap.size t u ty e i ht hu hi1 hz hsz hby (.slice none 0 0) 0 [] (World.ownsRow_nil w _ e 1) s hmax hs (Nat.le_refl _)
    refine ⟨v', w', h1, ownsRow_base h2, h3, fun g hg => .inl ?_⟩
    rcases h2.2 with ⟨e, _⟩ | ⟨g', cap, cur, e, hb, _⟩
    · rw [e] at hg; simp [Value.ownBlock] at hg
    · rw [e] at hg; simp only [Value.ownBlock, Option.some.injEq] at hg; omega
  · obtain ⟨v', w', h1, h2, h3, _⟩ := Lib.run_append_own_string (P := P) w 0 t u ty e i ht hu hi1 hz hsz hby _ k xs hown s hmax hs (Nat.zero_le _)
    refine ⟨v', w', h1, h2, h3, fun g' hg' => ?_⟩
    by_cases hroom : k + s.size ≤ cap
    · have hcs' : cur.size = cap := by simpa using hcs
      have hr := Lib.run_append_room_string (P := P) w t u ty e i ht hu hi1 hsz g k cap cur hg s hroom (by omega)
      rw [h1] at hr
      injection hr with hr _
      subst hr
      exact .inr hg'
    · have holds : ∀ j u, xs[j]? = some u → w.cell? ((⟨g, 0, none⟩ : Addr).add j) = some u := hown.cells (g := g) rfl
      have hxl : xs.length = k := by simpa using hown.1
      have hr := Lib.run_append_grow_string (P := P) (ty := ty) w t u e i (.int .u8 0) ht hu hi1 hz ⟨g, 0, none⟩ k cap xs (by rw [hsz]; simpa using hxl) holds s (by omega) (by omega) (by rw [hby]; exact growslice_fits (by omega) (by omega))
      rw [h1] at hr
      injection hr with hr _
      subst hr
      simp only [Value.ownBlock, Option.some.injEq] at hg'
      exact .inl (by omega)
theorem ok_appendS {T : List (Nat × TI)} (hT : TabOk P T) {t t' : Nat} {ti : TI} (hti : ti.Ok P t) {c : Call} {x y : Operand} {s : ByteArray} {K : KO} (ho : o.op = .call c) (hc : c.callee = .builtin .append) (ha : c.args.toList = [x, y]) (ht : c.argTypes.toList = [t, t']) (hy : evT T t' l y = .one (.dv (.str s)))
    (h : appendSW T P t' ti (evT T t l x) s m n K) : ∃ v upd n' ft, n ≤ n' ∧ OpOk P o l m n v upd n' ∧ K v upd n' ft := by
  have ha' : c.args = #[x, y] := by rw [← Array.toArray_toList (xs := c.args), ha]
  have ht' : c.argTypes = #[t, t'] := by rw [← Array.toArray_toList (xs := c.argTypes), ht]
  unfold appendSW at h
  split at h
  · rename_i e hk
    have hu := kind_slice hti hk
    split at h
    · exact h.elim
    · rename_i te hte
      have hte := hT e te hte
      split at h
      · exact h.elim
      · rename_i hsz
        have hsz := Nat.eq_of_beq_eq_true hsz
        obtain ⟨⟨hu', hinfo⟩, h⟩ := h
        have hrun : ∀ {a : Act} {w w' : World} {v : Value}, (Builtin.append_ #[t, t'] o.type #[a.eval x, a.eval y]).run P w = .ok v w' → (execOp a.eval o).run P w = .ok (.value v) w' := by
          intro a w w' v hv
          simp only [execOp, ho]
          simp [resolve, hc, ha', ht', invoke, builtin, hv]
        split at h
        · rename_i s0 hx
          refine ⟨_, _, _, _, Nat.le_succ _, ?_, h.2⟩
          intro w0 X Z nt A β a w hr hn K' Q hK'
          have hvx := (hr.evT T t x).1
          rw [hx] at hvx
          simp only [SRd, CRd] at hvx
          have hvy := (hr.evT T t' y).1
          rw [hy] at hvy
          have hvy := DRd.str_inv hvy
          obtain ⟨v', w', h1, h2, h3, h4⟩ := run_appS (P := P) (ty := o.type) w hu hu' hinfo (World.ownsRow_nil w 0 e 1) s (by omega)
          simp only [Nat.zero_add, List.nil_append] at h2
          unfold Oper.wp
          rw [hrun (by rw [hvx, hvy]; exact h1)]
          have hbv : blk v' = v'.ownBlock := blk_own (by rcases h2.2 with ⟨e, _⟩ | ⟨g, cap, cur, e, _⟩ <;> exact ⟨_, _, _, e⟩)
          obtain ⟨β', h7, h8⟩ := hr.newRow (n := n) (e := e) (sz := te.size) (rs := strRows s) (ks := []) (v := v') (w' := w') (hn n (Nat.le_refl _) (by omega)) (by simp) (by rcases h2.2 with ⟨e, _⟩ | ⟨g, cap, cur, e, _⟩ <;> (rw [e]; rfl))
            (fun g hg => by
              rw [hbv] at hg
              rcases h4 g hg with h4 | h4
              · exact .inl h4
              · simp [Value.ownBlock] at h4)
            (fun g hg _ => h3.block g hg (by simp [Value.ownBlock])) h3.size h3.os h3.tape h3.output
            (fun N' hN hh _ => ⟨Lib.strCells s, by rw [hsz, strRows_len]; exact h2, by rw [hsz]; exact strRows_one s, strRows_rd _ _ s⟩)
          exact hK' _ β' _ h7 h8 (.inr ⟨Nat.le_refl _, Nat.lt_succ_self _⟩)
        · rename_i b hx
          split at h
          · rename_i tb s1 rs hb
            split at h
            · exact h.elim
            · rename_i hchk
              rw [Bool.and_eq_true] at hchk
              have e1 := Nat.eq_of_beq_eq_true hchk.1
              have e2 := Nat.eq_of_beq_eq_true hchk.2
              subst e1 e2
              refine ⟨_, _, _, _, Nat.le_succ _, ?_, h.2⟩
              intro w0 X Z nt A β a w hr hn K' Q hK'
              have hvx := (hr.evT T t x).1
              rw [hx] at hvx
              have hvx := hvx.2 (by rw [hb]; simp)
              have hvy := (hr.evT T t' y).1
              rw [hy] at hvy
              have hvy := DRd.str_inv hvy
              have hbx := hr.boxes b
              rw [hb] at hbx
              obtain ⟨ys, ho', hl', ha'⟩ := hbx
              have hsz' : te.size = 1 := hsz
              rw [hsz'] at ho' hl'
              obtain ⟨v', w', h1, h2, h3, h4⟩ := run_appS (P := P) (ty := o.type) w hu hu' hinfo ho' s h.1
              unfold Oper.wp
              rw [hrun (by rw [hvx, hvy]; exact h1)]
              have hbv : blk v' = v'.ownBlock := blk_own (by rcases h2.2 with ⟨e, _⟩ | ⟨g, cap, cur, e, _⟩ <;> exact ⟨_, _, _, e⟩)
              have hbβ : blk (β b) = (β b).ownBlock := blk_own (by rcases ho'.2 with ⟨e, _⟩ | ⟨g, cap, cur, e, _⟩ <;> exact ⟨_, _, _, e⟩)
              obtain ⟨β', h7, h8⟩ := hr.newRow (n := n) (e := tb) (sz := te.size) (rs := rs ++ strRows s) (ks := [b]) (v := v') (w' := w') (hn n (Nat.le_refl _) (by omega)) (by simp [hb]) (by rcases h2.2 with ⟨e, _⟩ | ⟨g, cap, cur, e, _⟩ <;> (rw [e]; rfl))
                (fun g hg => by
                  rw [hbv] at hg
                  rcases h4 g hg with h4 | h4
                  · exact .inl h4
                  · rw [← hbβ] at h4; exact .inr ⟨b, by simp, h4⟩)
                (fun g hg hne => h3.block g hg (by rw [← hbβ]; exact fun e => hne b (by simp) e.symm)) h3.size h3.os h3.tape h3.output
                (fun N' hN hh _ => ⟨ys ++ Lib.strCells s, by rw [hsz', List.length_append, strRows_len]; exact h2, fun r hr => by rw [hsz']; exact (List.mem_append.1 hr).elim (hl' r) (strRows_one s r), by
                  rw [List.flatten_append]
                  exact (ha'.mono fun d _ v hv => hv.mono hN hh).append (strRows_rd _ _ s)⟩)
              exact hK' _ β' _ h7 h8 (.inr ⟨Nat.le_refl _, Nat.lt_succ_self _⟩)
          · exact h.elim
        · exact h.elim
  · exact h.elim

/-- one operation, in a region without a drawn order -/
def opX (T : List (Nat × TI)) (P : Program) (o : Oper) (l : List (Nat × SV)) (m : List (Nat × Box)) (n : Nat) (K : KO) : Prop :=
  match o.op with
  | .call c => match c.callee with
    | .builtin .append => match c.args.toList with
      | [x, y] => match c.argTypes.toList with
        | [t, t'] => match Nat.beq t t' with
          | true => opW T P o l m n K
          | false => match lkt T t with
            | some ti => match evT T t' l y with
              | .one (.dv (.str s)) => appendSW T P t' ti (evT T t l x) s m n K
              | _ => False
            | none => False
        | _ => False
      | _ => False
    | _ => opW T P o l m n K
  | .makeMap _ r => match r with
    | none => K (.one (.row n)) [(n, .mp [])] (n + 1) []
    | some _ => False
  | _ => opW T P o l m n K
theorem opX_ok {T : List (Nat × TI)} (hT : TabOk P T) {K : KO} (h : opX T P o l m n K) : ∃ v upd n' ft, n ≤ n' ∧ OpOk P o l m n v upd n' ∧ K v upd n' ft := by
  unfold opX at h
  split at h
  · rename_i c ho
    split at h
    · rename_i hc
      split at h
      · rename_i x y ha
        split at h
        · rename_i t t' ht
          split at h
          · exact opW_ok hT h
          · split at h
            · rename_i ti hti
              split at h
              · rename_i s hy
                exact ok_appendS hT (hT t ti hti) ho hc ha ht hy h
              · exact h.elim
            · exact h.elim
        · exact h.elim
      · exact h.elim
    · exact opW_ok hT h
  · rename_i t r ho
    split at h
    · exact ⟨_, _, _, _, Nat.le_succ _, ok_makeMap ho, h⟩
    · exact h.elim
  · exact opW_ok hT h
end
end Eng
