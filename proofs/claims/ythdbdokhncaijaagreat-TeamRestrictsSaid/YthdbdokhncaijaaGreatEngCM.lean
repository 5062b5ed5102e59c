/- Operations on maps with plain keys. -/
import Derived.Test.YthdbdokhncaijaaGreatEngC9
import Derived.MapKept
open Go
namespace Eng
section
variable {P : Program} {o : Oper} {l : List (Nat × SV)} {m : List (Nat × Box)} {n : Nat}

theorem isKey_of {d : TypeDesc} {x : DV} {w : World} {N : Nat → Prop} {v : Value} (h : keyD d x) (hv : DRd w N x v) : MapKept.IsKey d v := by
  cases hv <;> cases d <;> first | exact h | exact trivial | exact h.elim
theorem keyEq_sameNow {d : TypeDesc} {x y : DV} {w : World} {N : Nat → Prop} {v u : Value} (hx : keyD d x) (hy : keyD d y) (hv : DRd w N x v) (hu : DRd w N y u) : Instr.sameNow d v u = some (keyEq x y) := by
  cases hv <;> cases d <;> first | exact hx.elim | skip
  all_goals cases hu <;> first | exact hy.elim | skip
  · simp only [keyD] at hx hy
    subst hx hy
    simp only [Instr.sameNow, keyEq, if_true, Option.some.injEq]
    rw [Bool.eq_iff_iff]; simp
  · simp [Instr.sameNow, keyEq]
  · simp only [Instr.sameNow, keyEq, Option.some.injEq]
    rw [Bool.eq_iff_iff, decide_eq_true_eq]
    exact MapKept.bytes_beq _ _
abbrev EntRd (w : World) (N : Nat → Prop) (e : Ent) (x : MapEntry) : Prop := VRd w N e.1 x.key ∧ VRd w N e.2 x.val
theorem findNow_is {d : TypeDesc} {key : DV} {w : World} {N : Nat → Prop} {kv : Value} (hk : keyD d key) (hkv : DRd w N key kv) : ∀ {es : List Ent} {arr : List MapEntry} (i : Nat), keysD d es → All2 (EntRd w N) es arr →
    match findD key es with
    | none => Instr.findNow d kv arr i = some none
    | some (j, v) => ∃ e x, es[j]? = some e ∧ e.2 = v ∧ arr[j]? = some x ∧ x.key = kv ∧ Instr.findNow d kv arr i = some (some (i + j, x.val))
  | [], arr, i, _, ha => by
    cases arr with
    | nil => rfl
    | cons => exact ha.elim
  | e :: es, arr, i, hks, ha => by
    cases arr with
    | nil => exact ha.elim
    | cons x arr =>
      obtain ⟨⟨bk, ks⟩, ve⟩ := e
      match bk, ks, hks with
      | false, [y], hks =>
        obtain ⟨hy, hks⟩ := hks
        obtain ⟨⟨⟨y', e1, hyx⟩, hvx⟩, ha⟩ := ha
        simp only [List.cons.injEq, and_true] at e1
        subst e1
        have hs := keyEq_sameNow hk hy hkv hyx
        have ih := findNow_is hk hkv (i + 1) hks ha
        cases hb : keyEq key y with
        | true =>
          rw [hb] at hs
          simp only [findD, hb]
          refine ⟨_, x, rfl, rfl, rfl, ?_, by simp [Instr.findNow, hs]⟩
          have h1 := isKey_of hk hkv
          have h2 := isKey_of hy hyx
          obtain ⟨r, hr, hiff⟩ := MapKept.sameNow_of_keys h1 h2
          rw [hs] at hr
          injection hr with hr
          exact (hiff.1 hr.symm).symm
        | false =>
          rw [hb] at hs
          simp only [findD, hb]
          cases hf : findD key es with
          | none =>
            rw [hf] at ih
            simp only [Option.map_none]
            simp only [Instr.findNow, hs]; exact ih
          | some p =>
            obtain ⟨j, v⟩ := p
            rw [hf] at ih
            obtain ⟨e, x', h1, h2, h3, h4, h5⟩ := ih
            simp only [Option.map_some]
            refine ⟨e, x', by simpa using h1, h2, by simpa using h3, h4, ?_⟩
            simp only [Instr.findNow, hs]
            rw [h5]; congr 3; omega

theorem dataW_ok {v : SV} {k : Bool × List DV → Prop} (h : dataW v k) : ∃ p, k p ∧ ∀ (w : World) (N : Nat → Prop) (β : Nat → Value) (u : Value), SRd w N m β v u → VRd w N p u := by
  unfold dataW at h
  split at h
  · rename_i c
    obtain ⟨ds, h1, h2, h3⟩ := toDp_ok (m := m) h
    refine ⟨_, h1, fun w N β u hu => ?_⟩
    have := h3 w N β [u] ⟨hu, trivial⟩
    match ds, h2, this with
    | [d], _, this => exact ⟨d, rfl, this.1⟩
  · rename_i cs
    obtain ⟨ds, h1, h2, h3⟩ := toDp_ok (m := m) h
    refine ⟨_, h1, fun w N β u hu => ?_⟩
    obtain ⟨us, e, hall⟩ := hu
    exact ⟨us, e, h3 w N β _ hall⟩
  · exact h.elim
theorem one_left {R : CV → Value → Prop} {cs : List CV} {v : Value} (h : All2 R cs [v]) : ∃ c, cs = [c] ∧ R c v := by
  match cs, h with
  | [c], h => exact ⟨c, rfl, h.1⟩
  | [], h => exact h.elim
  | _ :: _ :: _, h => exact h.2.elim
theorem zero_shape {R : CV → Value → Prop} {cs : List CV} {z : Value} (h : All2 R cs z.cells.toList) : match (match some z with
      | some (.agg _) => true
      | _ => false) with
    | true => ∃ us, z = .agg us ∧ All2 R cs us.toList
    | false => ∃ c, cs = [c] ∧ R c z := by
  cases z with
  | agg us => exact ⟨us, rfl, h⟩
  | _ => exact one_left h
theorem look_rd {w : World} {N : Nat → Prop} {β : Nat → Value} {ok agg found : Bool} {cs : List CV} {v : Value} (h : match agg with
      | true => ∃ us, v = .agg us ∧ All2 (CRd w N m β) cs us.toList
      | false => ∃ c, cs = [c] ∧ CRd w N m β c v) : SRd w N m β (lookV ok agg cs found) (if ok then .tuple #[v, .bool found] else v) := by
  cases ok with
  | true =>
    refine ⟨#[v, .bool found], rfl, ?_, ⟨_, rfl, .bool found⟩, trivial⟩
    cases agg <;> exact h
  | false =>
    cases agg with
    | true => exact h
    | false =>
      obtain ⟨c, rfl, h⟩ := h
      exact h
theorem look_ref {A : Nat → Prop} {ok agg found : Bool} {cs : List CV} (h : RefCs A cs) : RefS A (lookV ok agg cs found) := by
  cases ok with
  | true =>
    intro t ht c hc
    simp only [List.mem_cons, List.not_mem_nil, or_false] at ht
    rcases ht with rfl | rfl
    · exact h c hc
    · simp only [List.mem_singleton] at hc; subst hc; trivial
  | false =>
    cases agg with
    | true => exact h
    | false =>
      match cs, h with
      | [], _ => trivial
      | [c], h => exact h c (by simp)
      | _ :: _ :: _, _ => trivial
/-- a key of several cells is a key -/
theorem run_checkKeyA {T : List (Nat × TI)} (hT : TabOk P T) {w : World} {N : Nat → Prop} {β : Nat → Value} {em : Bool} : ∀ {n t : Nat} {ti : TI} {cs : List CV} {k : Bool → Prop} {xs : List Value} {d : Nat}, lkt T t = some ti → cmpB P n t = true → n ≤ d → eqK T n t cs cs k → All2 (CRd w N m β) cs xs →
    (Instr.checkKey em d t (mkV ti xs)).run P w = .ok () w ∧ (ti.kind.agg = false → xs ≠ []) := by
  intro n
  induction n with
  | zero => intro t ti cs k xs d _ _ _ h; exact h.elim
  | succ n ih =>
    intro t ti cs k xs d hti hc hd h hx
    have hok := hT t ti hti
    obtain ⟨d, rfl⟩ : ∃ e, d = e + 1 := ⟨d - 1, by omega⟩
    have hne : ti.kind.agg = false → xs ≠ [] := fun ha => ((eqK_ok hT (n := n + 1) hti hc hd h hx hx).choose_spec.2.2 ha).1
    refine ⟨?_, hne⟩
    simp only [eqK, hti] at h
    have leaf : ∀ {dd : TypeDesc}, P.underlying t = some dd → (∀ v : Value, (match dd, v with
        | .interface _, _ => False
        | .array _ _, _ => False
        | .struct _, _ => False
        | _, _ => True)) → (Instr.checkKey em (d + 1) t (mkV ti xs)).run P w = .ok () w := fun {dd} hu hdd => by
      unfold Instr.checkKey
      simp only [Sem.run_bind, run_underlying hu, Result.andThen_ok]
      have := hdd (mkV ti xs)
      split <;> first | rfl | exact this.elim
    cases hk : ti.kind with
    | one => rw [hk] at h; exact h.elim
    | slice e => rw [hk] at h; exact h.elim
    | int kk => exact leaf (kind_int hok hk) fun v => trivial
    | str => exact leaf (kind_str hok hk) fun v => trivial
    | bool =>
      have h1 := hok.kind
      rw [hk] at h1
      simp only [TK.okB] at h1
      split at h1
      · rename_i hu; exact leaf hu fun v => trivial
      · cases h1
    | struct fs =>
      rw [hk] at h
      simp only at h
      obtain ⟨F, hu, hF, _⟩ := kind_struct hok hk
      simp only [cmpB, hu, Bool.and_eq_true, Bool.not_eq_true'] at hc
      have hG : ∀ f ∈ F.toList, f.name ≠ "_" ∧ cmpB P n f.type = true := fun f hf => by
        have := List.all_eq_true.1 hc.2 f hf
        simp only [Bool.and_eq_true, bne_iff_ne, ne_eq] at this
        exact this
      simp only [mkV, hk, TK.agg]
      unfold Instr.checkKey
      simp only [Sem.run_bind, run_underlying hu, Result.andThen_ok]
      rw [← Array.forIn_toList]
      generalize F.toList = G at hG hF
      clear hk hne hu hc
      induction G generalizing fs k with
      | nil => simp
      | cons f G ihG =>
        match fs, hF with
        | (off, ft) :: fs, hF =>
          simp only [List.map_cons, List.cons.injEq, Prod.mk.injEq] at hF
          obtain ⟨⟨rfl, rfl⟩, hF⟩ := hF
          simp only [eqFs] at h
          split at h
          · exact h.elim
          · rename_i te hte
            obtain ⟨hn, hcf⟩ := hG f (by simp)
            obtain ⟨p1, p2⟩ := ih (d := d) hte hcf (by omega) h (hx.dt f.offset te.size)
            obtain ⟨r, h1, _⟩ := eqK_det h
            simp only [List.forIn_cons, Sem.run_bind, hn, ne_eq, not_false_eq_true, if_true, run_part (hT _ te hte) p2, Result.andThen_ok, p1, Sem.run_pure]
            exact ihG fs h1 (fun f hf => hG f (by simp [hf])) hF
    | arr c e =>
      rw [hk] at h
      simp only at h
      have hu := kind_arr hok hk
      simp only [cmpB, hu] at hc
      split at h
      · exact h.elim
      · rename_i te hte
        simp only [mkV, hk, TK.agg]
        unfold Instr.checkKey
        simp only [Sem.run_bind, run_underlying hu, Result.andThen_ok]
        simp only [Std.Legacy.Range.forIn_eq_forIn_range', Std.Legacy.Range.size, Nat.sub_zero, Nat.add_one_sub_one, Nat.div_one]
        rw [List.range_eq_range'] at h
        generalize List.range' 0 c = is at h
        clear hk hne hu
        induction is generalizing k with
        | nil => simp
        | cons i is ihI =>
          simp only [List.map_cons, eqFs, hte] at h
          obtain ⟨p1, p2⟩ := ih (d := d) hte hc (by omega) h (hx.dt (i * te.size) te.size)
          obtain ⟨r, h1, _⟩ := eqK_det h
          simp only [List.forIn_cons, Sem.run_bind, run_sizeOf' (hT _ te hte), Result.andThen_ok, run_part (hT _ te hte) p2, p1, Sem.run_pure]
          exact ihI h1
/-- the search under a key of several cells -/
theorem run_findA {T : List (Nat × TI)} (hT : TabOk P T) {w : World} {N : Nat → Prop} {kt : Nat} {ti : TI} {key : List DV} {ku : Array Value} (hti : lkt T kt = some ti) (hag : ti.kind.agg = true) (hc : cmpB P 8 kt = true) (hkey : All2 (DRd w N) key ku.toList) : ∀ {es : List Ent} {arr : List MapEntry} {r : Option (Nat × (Bool × List DV))} (i : Nat), keysA T kt key es → All2 (EntRd w N) es arr → FindA key es r →
    match r with
    | none => (Instr.findAsking kt (.agg ku) arr i).run P w = .ok none w
    | some (j, v) => ∃ e x, es[j]? = some e ∧ e.2 = v ∧ e.1 = (true, key) ∧ arr[j]? = some x ∧ (Instr.findAsking kt (.agg ku) arr i).run P w = .ok (some (i + j, x.val)) w
  | [], arr, r, i, _, ha, hr => by
    cases arr with
    | cons => exact ha.elim
    | nil => cases r with
      | none => simp [Instr.findAsking]
      | some p => exact absurd hr.1 (by simp)
  | e :: es, arr, r, i, hks, ha, hr => by
    cases arr with
    | nil => exact ha.elim
    | cons x arr =>
      obtain ⟨ds, v, rfl, b, hb, heq⟩ := hks e (by simp)
      obtain ⟨⟨⟨us, e1, hus⟩, hvx⟩, ha⟩ := ha
      have h8 := heq (fun c => c = b) rfl
      obtain ⟨r', hr', hrun, _⟩ := eqK_ok (m := []) (β := fun _ => .nilIface) hT (d := 10000) hti hc (by omega) h8 (All2.map_left (R := CRd w N [] fun _ => .nilIface) (f := CV.dv) hkey) (All2.map_left (R := CRd w N [] fun _ => .nilIface) (f := CV.dv) hus)
      subst hr'
      have hq : (Op.equal kt (.agg ku) x.key).run P w = .ok r' w := by
        rw [e1]
        have : (Op.equalIn 10000 kt (.agg ku) (.agg us)).run P w = .ok r' w := by simpa [mkV, hag] using hrun
        exact this
      have ih := fun r => run_findA hT hti hag hc hkey (r := r) (i + 1) (fun e he => hks e (by simp [he])) ha
      cases r' with
      | true =>
        have hkd : key = ds := hb.1 rfl
        subst hkd
        match r, hr with
        | none, hr => exact absurd rfl (hr ((true, key), v) (by simp))
        | some (0, v'), hr =>
          have := hr.1
          simp only [List.getElem?_cons_zero, Option.some.injEq, Prod.mk.injEq] at this
          exact ⟨_, x, rfl, this.2, rfl, rfl, by simp [Instr.findAsking, hq]⟩
        | some (j + 1, v'), hr => exact absurd rfl (hr.2 0 _ (by omega) rfl)
      | false =>
        have hkd : key ≠ ds := fun e => by have := hb.2 e; cases this
        match r, hr with
        | none, hr =>
          have := ih none (fun e he => hr e (by simp [he]))
          simp only at this ⊢
          simp [Instr.findAsking, hq, this]
        | some (0, v'), hr =>
          have := hr.1
          simp only [List.getElem?_cons_zero, Option.some.injEq, Prod.mk.injEq, true_and] at this
          exact absurd this.1.symm hkd
        | some (j + 1, v'), hr =>
          obtain ⟨e', x', q1, q2, q3, q4, q5⟩ := ih (some (j, v')) ⟨by simpa using hr.1, fun j' e' hj' he' => hr.2 (j' + 1) e' (by omega) (by simpa using he')⟩
          refine ⟨e', x', by simpa using q1, q2, q3, by simpa using q4, ?_⟩
          simp only [Instr.findAsking, Sem.run_bind, hq, Result.andThen_ok]
          simp only [Bool.false_eq_true, if_false]
          rw [q5]; congr 3; omega
theorem run_findKeyA {w : World} {kt : TypeId} {d : TypeDesc} {ku : Array Value} (hd : P.underlying kt = some d) (hw : wideB d = true) (arr : List MapEntry) : (Instr.findKey kt (.agg ku) arr).run P w = (Instr.findAsking kt (.agg ku) arr).run P w := by
  cases arr with
  | nil => simp [Instr.findKey, run_underlying hd, Instr.findNow, Instr.findAsking]
  | cons x arr =>
    have : Instr.sameNow d (.agg ku) x.key = none := by
      cases d <;> simp [wideB] at hw <;> simp [Instr.sameNow]
    simp [Instr.findKey, run_underlying hd, Instr.findNow, this]
theorem plain_same {w : World} {N : Nat → Prop} : ∀ {ds : List DV} {us vs : List Value}, ds.all plainD = true → All2 (DRd w N) ds us → All2 (DRd w N) ds vs → us = vs ∧ (us.zip vs).all (fun (p : Value × Value) => Instr.sameBits 9999 p.1 p.2) = true
  | [], us, vs, _, h1, h2 => by
    cases us with
    | cons => exact h1.elim
    | nil => cases vs with
      | cons => exact h2.elim
      | nil => exact ⟨rfl, rfl⟩
  | d :: ds, us, vs, hp, h1, h2 => by
    cases us with
    | nil => exact h1.elim
    | cons u us => cases vs with
      | nil => exact h2.elim
      | cons v vs =>
        rw [List.all_cons, Bool.and_eq_true] at hp
        obtain ⟨e, hs⟩ := plain_same hp.2 h1.2 h2.2
        subst e
        have hd := hp.1
        have k1 := h1.1
        have k2 := h2.1
        cases d with
        | int k n =>
          have e1 := DRd.int_inv k1
          have e2 := DRd.int_inv k2
          subst e1 e2
          exact ⟨rfl, by simp [List.zip_cons_cons, hs, Instr.sameBits]⟩
        | bool b =>
          have e1 := DRd.bool_inv k1
          have e2 := DRd.bool_inv k2
          subst e1 e2
          exact ⟨rfl, by simp [List.zip_cons_cons, hs, Instr.sameBits]⟩
        | str s =>
          have e1 := DRd.str_inv k1
          have e2 := DRd.str_inv k2
          subst e1 e2
          refine ⟨rfl, ?_⟩
          have : (s == s) = true := (MapKept.bytes_beq s s).2 rfl
          simp [List.zip_cons_cons, hs, Instr.sameBits, this]
        | lst => cases hd
        | nul => cases hd
theorem run_staysA {w w' : World} {N : Nat → Prop} {ds : List DV} {us vs : Array Value} (hp : ds.all plainD = true) (h1 : All2 (DRd w N) ds us.toList) (h2 : All2 (DRd w N) ds vs.toList) : (Instr.keyThatStays (.agg us) (.agg vs)).run P w' = .ok (.agg vs) w' := by
  obtain ⟨e, hs⟩ := plain_same hp h1 h2
  have hsz : us.size = vs.size := by rw [← Array.length_toList, e, Array.length_toList]
  have : Instr.sameBits 10000 (.agg us) (.agg vs) = true := by
    show Instr.sameBits (9999 + 1) (.agg us) (.agg vs) = true
    simp only [Instr.sameBits, hsz, beq_self_eq_true, Bool.true_and]
    exact hs
  simp [Instr.keyThatStays, this]
theorem ok_lookup {T : List (Nat × TI)} (hT : TabOk P T) {t : Nat} {x k : Operand} {ok : Bool} {K : KO} (ho : o.op = .lookup t x k ok) (h : lookupW T P t l m n x k ok K) : ∃ v upd n' ft, n ≤ n' ∧ OpOk P o l m n v upd n' ∧ K v upd n' ft := by
  unfold lookupW at h
  split at h
  · rename_i b hx
    split at h
    · rename_i es hb
      split at h
      · rename_i key hk
        obtain ⟨kt, et, d, ⟨hm, hd, hkd, hks⟩, h⟩ := h
        split at h
        · exact h.elim
        · rename_i te hte
          have hte := hT et te hte
          obtain ⟨hz, h⟩ := h
          obtain ⟨_, rfl, h⟩ := h
          -- the run, once the entry is known
          have run : ∀ {w0 : World} {X : Nat → Prop} {Z : Zt} {nt : Nat} {A : Nat → Prop} {β : Nat → Value} {a : Act} {w : World}, Rel w0 X Z nt A l m β a w →
              ∃ g arr clock, a.eval x = .map (some g) ∧ w.heap[g]? = some (.map arr clock) ∧ All2 (EntRd w (Imm Z.p m β w)) es arr.toList ∧ DRd w (Imm Z.p m β w) key (a.eval k) := by
            intro w0 X Z nt A β a w hr
            have h1 := (hr.ev x).1
            rw [hx] at h1
            have h1 := h1.2 (by rw [hb]; simp)
            have h2 := (hr.ev k).1
            rw [hk] at h2
            have hbx := hr.boxes b
            rw [hb] at hbx
            obtain ⟨g, arr, clock, e, hg, hall⟩ := hbx
            exact ⟨g, arr, clock, by rw [h1, e], hg, hall, h2⟩
          cases hf : findD key es with
          | none =>
            rw [hf] at h
            refine ⟨_, _, _, _, Nat.le_refl _, ok_value fun w0 X Z nt A β a w hr => ?_, h⟩
            obtain ⟨g, arr, clock, e, hg, hall, hkv⟩ := run hr
            have hfn := findNow_is hkd hkv 0 hks hall
            rw [hf] at hfn
            have hfk := MapKept.run_findKey (w := w) hd hfn
            have hck := MapKept.run_checkKey (w := w) hd (isKey_of hkd hkv) arr.isEmpty 9999
            obtain ⟨i, z, h1, h2, h3, h4, h5, h6⟩ := hte.info
            obtain ⟨hz1, hz2⟩ := zBs_ok h5 w (Imm Z.p m β w) m β A
            refine ⟨if ok then .tuple #[z, .bool false] else z, ?_, look_rd ?_, look_ref hz2⟩
            · simp only [execOp, ho, e]
              refine run_v ?_
              simp [Instr.lookup, run_underlying hm, MapKept.run_getObj_map hg, hck, hfk, zeroValue, typeInfo, h1, h4]
            · unfold zAgg at hz
              rw [h1] at hz
              simp only [h4] at hz
              rw [← hz]
              exact zero_shape hz1
          | some p =>
            obtain ⟨j, v⟩ := p
            rw [hf] at h
            refine ⟨_, _, _, _, Nat.le_refl _, ok_value fun w0 X Z nt A β a w hr => ?_, h⟩
            obtain ⟨g, arr, clock, e, hg, hall, hkv⟩ := run hr
            have hfn := findNow_is hkd hkv 0 hks hall
            rw [hf] at hfn
            obtain ⟨en, xe, e1, e2, e3, e4, hfn⟩ := hfn
            have hfk := MapKept.run_findKey (w := w) hd hfn
            have hck := MapKept.run_checkKey (w := w) hd (isKey_of hkd hkv) arr.isEmpty 9999
            obtain ⟨u, hu, hru⟩ := hall.get e1
            rw [e3] at hu; injection hu with hu; subst hu
            have hv := hru.2
            rw [e2] at hv
            refine ⟨if ok then .tuple #[xe.val, .bool true] else xe.val, ?_, look_rd ?_, look_ref (fun c hc => by obtain ⟨d, _, rfl⟩ := List.mem_map.1 hc; trivial)⟩
            · simp only [execOp, ho, e]
              refine run_v ?_
              simp [Instr.lookup, run_underlying hm, MapKept.run_getObj_map hg, hck, hfk]
            · obtain ⟨va, vd⟩ := v
              cases va with
              | true =>
                obtain ⟨us, e5, h5⟩ := hv
                exact ⟨us, e5, All2.map_left h5⟩
              | false =>
                obtain ⟨d', e5, h5⟩ := hv
                simp only at e5; subst e5
                exact ⟨_, rfl, h5⟩
      · rename_i cs hk
        obtain ⟨key, h, _, hdat⟩ := toDp_ok (m := m) h
        obtain ⟨kt, et, ⟨⟨hm, ⟨d, hd, hwd⟩, hcb, hpl⟩, hkk, hks⟩, h⟩ := h
        split at h
        · exact h.elim
        rename_i tk htk
        split at h
        · exact h.elim
        · rename_i te hte
          have hte := hT et te hte
          obtain ⟨hz, r, hr, h⟩ := h
          have hag : tk.kind.agg = true := by
            have := hT kt tk htk
            have h1 := this.kind
            cases hkd : tk.kind <;> rw [hkd] at h1 <;> simp only [TK.okB, hd] at h1 <;> first | rfl | (cases d <;> simp_all [wideB])
          have run : ∀ {w0 : World} {X : Nat → Prop} {Z : Zt} {nt : Nat} {A : Nat → Prop} {β : Nat → Value} {a : Act} {w : World}, Rel w0 X Z nt A l m β a w →
              ∃ g arr clock ku, a.eval x = .map (some g) ∧ w.heap[g]? = some (.map arr clock) ∧ All2 (EntRd w (Imm Z.p m β w)) es arr.toList ∧ a.eval k = .agg ku ∧ All2 (DRd w (Imm Z.p m β w)) key ku.toList ∧ (Instr.checkKey arr.isEmpty 10000 kt (.agg ku)).run P w = .ok () w := by
            intro w0 X Z nt A β a w hr'
            have h1 := (hr'.ev x).1
            rw [hx] at h1
            have h1 := h1.2 (by rw [hb]; simp)
            have h2 := (hr'.ev k).1
            rw [hk] at h2
            obtain ⟨ku, ek, h2⟩ := h2
            have hbx := hr'.boxes b
            rw [hb] at hbx
            obtain ⟨g, arr, clock, e, hg, hall⟩ := hbx
            have h3 := hdat w _ β _ h2
            obtain ⟨bb, _, hqq⟩ := hkk
            have hck := run_checkKeyA (m := []) (β := β) (em := arr.isEmpty) hT (d := 10000) htk hcb (by omega) (hqq (fun _ => True) trivial) (All2.map_left (R := CRd w (Imm Z.p m β w) [] β) (f := CV.dv) h3)
            refine ⟨g, arr, clock, ku, by rw [h1, e], hg, hall, ek, h3, ?_⟩
            have := hck.1
            simpa [mkV, hag] using this
          cases r with
          | none =>
            refine ⟨_, _, _, _, Nat.le_refl _, ok_value fun w0 X Z nt A β a w hr' => ?_, h⟩
            obtain ⟨g, arr, clock, ku, e, hg, hall, ek, hkv, hck⟩ := run hr'
            have hfn := run_findA hT htk hag hcb hkv 0 hks hall hr
            rw [← run_findKeyA hd hwd] at hfn
            obtain ⟨i, z, h1, h2, h3, h4, h5, h6⟩ := hte.info
            obtain ⟨hz1, hz2⟩ := zBs_ok h5 w (Imm Z.p m β w) m β A
            refine ⟨if ok then .tuple #[z, .bool false] else z, ?_, look_rd ?_, look_ref hz2⟩
            · simp only [execOp, ho, e, ek]
              refine run_v ?_
              simp [Instr.lookup, run_underlying hm, MapKept.run_getObj_map hg, hck, hfn, zeroValue, typeInfo, h1, h4]
            · unfold zAgg at hz
              rw [h1] at hz
              simp only [h4] at hz
              rw [← hz]
              exact zero_shape hz1
          | some p =>
            obtain ⟨j, v⟩ := p
            refine ⟨_, _, _, _, Nat.le_refl _, ok_value fun w0 X Z nt A β a w hr' => ?_, h⟩
            obtain ⟨g, arr, clock, ku, e, hg, hall, ek, hkv, hck⟩ := run hr'
            have hfn := run_findA hT htk hag hcb hkv 0 hks hall hr
            obtain ⟨en, xe, e1, e2, _, e3, hfn⟩ := hfn
            rw [← run_findKeyA hd hwd] at hfn
            obtain ⟨u, hu, hru⟩ := hall.get e1
            rw [e3] at hu; injection hu with hu; subst hu
            have hv := hru.2
            rw [e2] at hv
            refine ⟨if ok then .tuple #[xe.val, .bool true] else xe.val, ?_, look_rd ?_, look_ref (fun c hc => by obtain ⟨d, _, rfl⟩ := List.mem_map.1 hc; trivial)⟩
            · simp only [execOp, ho, e, ek]
              refine run_v ?_
              simp [Instr.lookup, run_underlying hm, MapKept.run_getObj_map hg, hck, hfn]
            · obtain ⟨va, vd⟩ := v
              cases va with
              | true =>
                obtain ⟨us, e5, h5⟩ := hv
                exact ⟨us, e5, All2.map_left h5⟩
              | false =>
                obtain ⟨d', e5, h5⟩ := hv
                simp only at e5; subst e5
                exact ⟨_, rfl, h5⟩
      · exact h.elim
    · exact h.elim
  · exact h.elim

theorem ok_makeMap {t : Nat} (ho : o.op = .makeMap t none) : OpOk P o l m n (.one (.row n)) [(n, .mp [])] (n + 1) := by
  intro w0 X Z nt A β a w hr hn K Q hK
  have h := hr.newBox (b := n) (x := .mp []) (v := .map (some w.heap.size)) (w' := w.alloc (.map #[] 0)) (hn n (Nat.le_refl _) (by omega)) trivial
    (fun g hg => by simp only [blk, Option.some.injEq] at hg; omega) (fun k hk => (MapKept.heap_alloc w _).2 k hk) (by simp) rfl rfl rfl
    (fun K => ⟨w.heap.size, #[], 0, rfl, heap_alloc_new w _, trivial⟩)
  rw [wideA] at h
  unfold Oper.wp
  have : (execOp a.eval o).run P w = .ok (.value (.map (some w.heap.size))) (w.alloc (.map #[] 0)) := by
    simp only [execOp, ho]
    refine run_v ?_
    simp [Instr.makeMap, go_sem]
  rw [this]
  exact hK _ _ _ h.1 ⟨rfl, fun _ => by simp⟩ (.inr ⟨Nat.le_refl _, Nat.lt_succ_self _⟩)
theorem All2.setE {α β : Type} {R : α → β → Prop} {a : α} {b : β} (h : R a b) : ∀ {l : List α} {r : List β} {j : Nat}, All2 R l r → All2 R (l.set j a) (r.set j b)
  | [], [], _, _ => trivial
  | [], _ :: _, _, h' => h'.elim
  | _ :: _, [], _, h' => h'.elim
  | _ :: _, _ :: _, 0, h' => ⟨h, h'.2⟩
  | _ :: _, _ :: _, _ + 1, h' => ⟨h'.1, All2.setE h h'.2⟩
theorem ok_insert {T : List (Nat × TI)} (hT : TabOk P T) {t : Nat} {x k y : Operand} {K : KO} (ho : o.op = .insert t x k y ∨ o.op = .mapUpdate t x k y) (h : insertW T P t l m n x k y K) : ∃ v upd n' ft, n ≤ n' ∧ OpOk P o l m n v upd n' ∧ K v upd n' ft := by
  unfold insertW at h
  split at h
  · rename_i b hx
    split at h
    · rename_i es hb
      split at h
      · rename_i key hk
        obtain ⟨kt, et, d, ⟨hm, hd, hkd, hks⟩, h⟩ := h
        obtain ⟨v, h, hdv⟩ := dataW_ok (m := m) h
        obtain ⟨_, rfl, h⟩ := h
        have run : ∀ {w0 : World} {X : Nat → Prop} {Z : Zt} {nt : Nat} {A : Nat → Prop} {β : Nat → Value} {a : Act} {w : World}, Rel w0 X Z nt A l m β a w →
            ∃ g arr clock, a.eval x = .map (some g) ∧ β b = .map (some g) ∧ w.heap[g]? = some (.map arr clock) ∧ All2 (EntRd w (Imm Z.p m β w)) es arr.toList ∧ DRd w (Imm Z.p m β w) key (a.eval k) ∧ VRd w (Imm Z.p m β w) v (a.eval y) := by
          intro w0 X Z nt A β a w hr
          have h1 := (hr.ev x).1
          rw [hx] at h1
          have h1 := h1.2 (by rw [hb]; simp)
          have h2 := (hr.ev k).1
          rw [hk] at h2
          have hbx := hr.boxes b
          rw [hb] at hbx
          obtain ⟨g, arr, clock, e, hg, hall⟩ := hbx
          exact ⟨g, arr, clock, by rw [h1, e], e, hg, hall, h2, hdv _ _ _ _ (hr.evT T et y).1⟩
        -- the world after the write
        have fin : ∀ {w0 : World} {X : Nat → Prop} {Z : Zt} {nt : Nat} {A : Nat → Prop} {β : Nat → Value} {a : Act} {w : World} (hr : Rel w0 X Z nt A l m β a w) {g : Nat} {es' : List Ent} {arr arr' : Array MapEntry} {clock clock' : Nat}, β b = .map (some g) → w.heap[g]? = some (.map arr clock) →
            All2 (EntRd w (Imm Z.p m β w)) es' arr'.toList → Rel w0 X Z nt A l ((b, .mp es') :: m) β a { w with heap := w.heap.setIfInBounds g (.map arr' clock') } := by
          intro w0 X Z nt A β a w hr g es' arr arr' clock clock' eβ hg hall
          obtain ⟨q1, q2⟩ := MapKept.heap_set (o' := .map arr' clock') hg
          refine hr.setBox (b := b) (g := g) (by rw [hb]; simp) (by simp) (by rw [eβ]; rfl) trivial (fun _ e => by cases e) (fun k hk => q2 k hk) (by simp) rfl rfl rfl (fun Kp => ?_)
          refine ⟨g, arr', clock', eβ, q1, hall.mono fun e _ x hx => ⟨?_, ?_⟩⟩
          · exact hx.1.mono Kp.imm Kp.heap
          · exact hx.2.mono Kp.imm Kp.heap
        cases hf : findD key es with
        | none =>
          rw [hf] at h
          refine ⟨_, _, _, _, Nat.le_refl _, ?_, h⟩
          intro w0 X Z nt A β a w hr hn K' Q hK'
          obtain ⟨g, arr, clock, e, eβ, hg, hall, hkv, hvv⟩ := run hr
          have hfn := findNow_is hkd hkv 0 hks hall
          rw [hf] at hfn
          have hfk := MapKept.run_findKey (w := w) hd hfn
          have hck := MapKept.run_checkKey (w := w) hd (isKey_of hkd hkv) false 9999
          have hrun : (execOp a.eval o).run P w = .ok .skip { w with heap := w.heap.setIfInBounds g (.map (arr.push { key := a.eval k, val := a.eval y, born := clock }) (clock + 1)) } := by
            have : (Instr.mapUpdate t (.map (some g)) (a.eval k) (a.eval y)).run P w = .ok () { w with heap := w.heap.setIfInBounds g (.map (arr.push { key := a.eval k, val := a.eval y, born := clock }) (clock + 1)) } := by
              simp [Instr.mapUpdate, run_underlying hm, MapKept.run_getObj_map hg, hck, hfk, MapKept.run_setObj_map _ hg]
            rcases ho with ho | ho <;> (simp only [execOp, ho, e]; simp [this])
          unfold Oper.wp
          rw [hrun]
          refine hK' undef β _ (Rel.wide (fin hr eβ hg ?_) (fun b hb => .inl hb)) trivial trivial
          rw [Array.toList_push]
          exact hall.append ⟨⟨⟨_, rfl, hkv⟩, hvv⟩, trivial⟩
        | some p =>
          obtain ⟨j, v0⟩ := p
          rw [hf] at h
          refine ⟨_, _, _, _, Nat.le_refl _, ?_, h⟩
          intro w0 X Z nt A β a w hr hn K' Q hK'
          obtain ⟨g, arr, clock, e, eβ, hg, hall, hkv, hvv⟩ := run hr
          have hfn := findNow_is hkd hkv 0 hks hall
          rw [hf] at hfn
          obtain ⟨en, xe, e1, e2, e3, e4, hfn⟩ := hfn
          rw [Nat.zero_add] at hfn
          have hfk := MapKept.run_findKey (w := w) hd hfn
          have hck := MapKept.run_checkKey (w := w) hd (isKey_of hkd hkv) false 9999
          have hst := MapKept.run_keyThatStays (P := P) (w := w) (isKey_of hkd hkv)
          have hj : arr[j]? = some xe := by rw [← Array.getElem?_toList]; exact e3
          have hrun : (execOp a.eval o).run P w = .ok .skip { w with heap := w.heap.setIfInBounds g (.map (arr.modify j fun e => { e with key := a.eval k, val := a.eval y }) clock) } := by
            have : (Instr.mapUpdate t (.map (some g)) (a.eval k) (a.eval y)).run P w = .ok () { w with heap := w.heap.setIfInBounds g (.map (arr.modify j fun e => { e with key := a.eval k, val := a.eval y }) clock) } := by
              simp [Instr.mapUpdate, run_underlying hm, MapKept.run_getObj_map hg, hck, hfk, hj, e4, hst, MapKept.run_setObj_map _ hg]
            rcases ho with ho | ho <;> (simp only [execOp, ho, e]; simp [this])
          unfold Oper.wp
          rw [hrun]
          refine hK' undef β _ (Rel.wide (fin hr eβ hg ?_) (fun b hb => .inl hb)) trivial trivial
          have : (arr.modify j fun e => { e with key := a.eval k, val := a.eval y }).toList = arr.toList.set j { xe with key := a.eval k, val := a.eval y } := by
            apply List.ext_getElem?
            intro i
            rw [Array.getElem?_toList, Array.getElem?_modify, List.getElem?_set]
            by_cases hij : j = i
            · subst hij
              obtain ⟨q, q2⟩ := Array.getElem?_eq_some_iff.1 hj
              simp [q, q2]
            · simp [hij]
          rw [this]
          exact All2.setE ⟨⟨_, rfl, hkv⟩, hvv⟩ hall
      · rename_i cs hk
        obtain ⟨key, h, _, hdat⟩ := toDp_ok (m := m) h
        obtain ⟨kt, et, ⟨⟨hm, ⟨d, hd, hwd⟩, hcb, hpl⟩, hkk, hks⟩, h⟩ := h
        split at h
        · exact h.elim
        rename_i tk htk
        obtain ⟨v, h, hdv⟩ := dataW_ok (m := m) h
        obtain ⟨r, hr, h⟩ := h
        have hag : tk.kind.agg = true := by
          have := hT kt tk htk
          have h1 := this.kind
          cases hkd : tk.kind <;> rw [hkd] at h1 <;> simp only [TK.okB, hd] at h1 <;> first | rfl | (cases d <;> simp_all [wideB])
        have run : ∀ {w0 : World} {X : Nat → Prop} {Z : Zt} {nt : Nat} {A : Nat → Prop} {β : Nat → Value} {a : Act} {w : World}, Rel w0 X Z nt A l m β a w →
            ∃ g arr clock ku, a.eval x = .map (some g) ∧ β b = .map (some g) ∧ w.heap[g]? = some (.map arr clock) ∧ All2 (EntRd w (Imm Z.p m β w)) es arr.toList ∧ a.eval k = .agg ku ∧ All2 (DRd w (Imm Z.p m β w)) key ku.toList ∧ (Instr.checkKey false 10000 kt (.agg ku)).run P w = .ok () w ∧ VRd w (Imm Z.p m β w) v (a.eval y) := by
          intro w0 X Z nt A β a w hr'
          have h1 := (hr'.ev x).1
          rw [hx] at h1
          have h1 := h1.2 (by rw [hb]; simp)
          have h2 := (hr'.ev k).1
          rw [hk] at h2
          obtain ⟨ku, ek, h2⟩ := h2
          have hbx := hr'.boxes b
          rw [hb] at hbx
          obtain ⟨g, arr, clock, e, hg, hall⟩ := hbx
          have h3 := hdat w _ β _ h2
          obtain ⟨bb, _, hqq⟩ := hkk
          have hck := run_checkKeyA (m := []) (β := β) (em := false) hT (d := 10000) htk hcb (by omega) (hqq (fun _ => True) trivial) (All2.map_left (R := CRd w (Imm Z.p m β w) [] β) (f := CV.dv) h3)
          refine ⟨g, arr, clock, ku, by rw [h1, e], e, hg, hall, ek, h3, ?_, hdv _ _ _ _ (hr'.evT T et y).1⟩
          have := hck.1
          simpa [mkV, hag] using this
        have fin : ∀ {w0 : World} {X : Nat → Prop} {Z : Zt} {nt : Nat} {A : Nat → Prop} {β : Nat → Value} {a : Act} {w : World} (hr : Rel w0 X Z nt A l m β a w) {g : Nat} {es' : List Ent} {arr arr' : Array MapEntry} {clock clock' : Nat}, β b = .map (some g) → w.heap[g]? = some (.map arr clock) →
            All2 (EntRd w (Imm Z.p m β w)) es' arr'.toList → Rel w0 X Z nt A l ((b, .mp es') :: m) β a { w with heap := w.heap.setIfInBounds g (.map arr' clock') } := by
          intro w0 X Z nt A β a w hr g es' arr arr' clock clock' eβ hg hall
          obtain ⟨q1, q2⟩ := MapKept.heap_set (o' := .map arr' clock') hg
          refine hr.setBox (b := b) (g := g) (by rw [hb]; simp) (by simp) (by rw [eβ]; rfl) trivial (fun _ e => by cases e) (fun k hk => q2 k hk) (by simp) rfl rfl rfl (fun Kp => ?_)
          refine ⟨g, arr', clock', eβ, q1, hall.mono fun e _ x hx => ⟨?_, ?_⟩⟩
          · exact hx.1.mono Kp.imm Kp.heap
          · exact hx.2.mono Kp.imm Kp.heap
        cases r with
        | none =>
          refine ⟨_, _, _, _, Nat.le_refl _, ?_, h⟩
          intro w0 X Z nt A β a w hr' hn K' Q hK'
          obtain ⟨g, arr, clock, ku, e, eβ, hg, hall, ek, hkv, hck, hvv⟩ := run hr'
          have hfn := run_findA hT htk hag hcb hkv 0 hks hall hr
          rw [← run_findKeyA hd hwd] at hfn
          have hrun : (execOp a.eval o).run P w = .ok .skip { w with heap := w.heap.setIfInBounds g (.map (arr.push { key := .agg ku, val := a.eval y, born := clock }) (clock + 1)) } := by
            have : (Instr.mapUpdate t (.map (some g)) (.agg ku) (a.eval y)).run P w = .ok () { w with heap := w.heap.setIfInBounds g (.map (arr.push { key := .agg ku, val := a.eval y, born := clock }) (clock + 1)) } := by
              simp [Instr.mapUpdate, run_underlying hm, MapKept.run_getObj_map hg, hck, hfn, MapKept.run_setObj_map _ hg]
            rcases ho with ho | ho <;> (simp only [execOp, ho, e, ek]; simp [this])
          unfold Oper.wp
          rw [hrun]
          refine hK' undef β _ (Rel.wide (fin hr' eβ hg ?_) (fun b hb => .inl hb)) trivial trivial
          rw [Array.toList_push]
          exact hall.append ⟨⟨⟨_, rfl, hkv⟩, hvv⟩, trivial⟩
        | some p =>
          obtain ⟨j, v0⟩ := p
          refine ⟨_, _, _, _, Nat.le_refl _, ?_, h⟩
          intro w0 X Z nt A β a w hr' hn K' Q hK'
          obtain ⟨g, arr, clock, ku, e, eβ, hg, hall, ek, hkv, hck, hvv⟩ := run hr'
          have hfn := run_findA hT htk hag hcb hkv 0 hks hall hr
          obtain ⟨en, xe, e1, e2, e3, e4, hfn⟩ := hfn
          rw [← run_findKeyA hd hwd, Nat.zero_add] at hfn
          obtain ⟨u, hu, hru⟩ := hall.get e1
          rw [e4] at hu; injection hu with hu; subst hu
          have hkr := hru.1
          rw [e3] at hkr
          obtain ⟨us0, e5, hus0⟩ := hkr
          have hst := run_staysA (P := P) (w' := w) hpl hus0 hkv
          have hj : arr[j]? = some xe := by rw [← Array.getElem?_toList]; exact e4
          have hrun : (execOp a.eval o).run P w = .ok .skip { w with heap := w.heap.setIfInBounds g (.map (arr.modify j fun e => { e with key := .agg ku, val := a.eval y }) clock) } := by
            have : (Instr.mapUpdate t (.map (some g)) (.agg ku) (a.eval y)).run P w = .ok () { w with heap := w.heap.setIfInBounds g (.map (arr.modify j fun e => { e with key := .agg ku, val := a.eval y }) clock) } := by
              simp [Instr.mapUpdate, run_underlying hm, MapKept.run_getObj_map hg, hck, hfn, hj, e5, hst, MapKept.run_setObj_map _ hg]
            rcases ho with ho | ho <;> (simp only [execOp, ho, e, ek]; simp [this])
          unfold Oper.wp
          rw [hrun]
          refine hK' undef β _ (Rel.wide (fin hr' eβ hg ?_) (fun b hb => .inl hb)) trivial trivial
          have : (arr.modify j fun e => { e with key := .agg ku, val := a.eval y }).toList = arr.toList.set j { xe with key := .agg ku, val := a.eval y } := by
            apply List.ext_getElem?
            intro i
            rw [Array.getElem?_toList, Array.getElem?_modify, List.getElem?_set]
            by_cases hij : j = i
            · subst hij
              obtain ⟨q, q2⟩ := Array.getElem?_eq_some_iff.1 hj
              simp [q, q2]
            · simp [hij]
          rw [this]
          exact All2.setE ⟨⟨_, rfl, hkv⟩, hvv⟩ hall
      · exact h.elim
    · exact h.elim
  · exact h.elim
end
end Eng
