/- Regions that draw their order: the theorem. -/
import Derived.Test.YthdbdokhncaijaaGreatEngD4
namespace Eng
open Go Go.RowKit

theorem Rel.world {w0 : World} {X : Nat → Prop} {Z : Zt} {nt : Nat} {A : Nat → Prop} {l : List (Nat × SV)} {m : List (Nat × Box)} {β : Nat → Value} {a : Act} {w w' : World} (h : Rel w0 X Z nt A l m β a w)
    (hh : w'.heap = w.heap) (ho : w'.os = w.os) (ht : w'.tape = w.tape) (hp : w'.output = w.output) : Rel w0 X Z nt A l m β a w' :=
  (h.turn (A' := A) (m' := m) (β' := β) (w' := w') (fun _ => False) (fun _ h => h) (fun _ h => h.elim) (fun _ _ => ⟨rfl, fun _ => rfl⟩) (fun _ h => h.elim) (fun g _ _ => by rw [hh]) (fun _ _ h => h.elim) (fun _ _ _ h => h.elim) (fun _ _ h => h.elim)
    (by rw [hh]; exact Nat.le_refl _) ho ht hp (fun _ _ h => h.elim)).1

theorem FD_none {α : Type} {D : Nat → Bool} (h : ∀ j, D j = false) {us : List (List (Nat × α))} {f : Nat → α} : FD D us f = f := by
  induction us generalizing D with
  | nil => rfl
  | cons u us ih =>
    unfold FD
    rw [h 0]
    exact ih fun j => h (j + 1)
theorem count_set {l : List Bool} {i : Nat} (h : l[i]? = some false) : (l.set i true).count false + 1 = l.count false := by
  induction l generalizing i with
  | nil => simp at h
  | cons b l ih => cases i with
    | zero => simp at h; subst h; simp
    | succ i =>
      have := ih (i := i) (by simpa using h)
      simp only [List.set_cons_succ, List.count_cons]
      omega
theorem all_true {l : List Bool} (h : l.count false = 0) {i : Nat} (hi : i < l.length) : l[i]? = some true := by
  rw [List.count_eq_zero] at h
  rw [List.getElem?_eq_getElem hi]
  cases hb : l[i] with
  | true => rfl
  | false => exact absurd (hb ▸ List.getElem_mem hi) h

section
variable {P : Program} {T : List (Nat × TI)} {nt : Nat} {ops : Array Oper} {w0 : World} {X : Nat → Prop} {Z : Zt}

theorem guardIs_wanted {A : Nat → Prop} {l : List (Nat × SV)} {m : List (Nat × Box)} {β : Nat → Value} {a : Act} {w : World} (hr : Rel w0 X Z nt A l m β a w) {o : Oper} {y : Bool} (h : guardIs ops.toList o l y) : Region.wanted o (yielded ops a.tmps) = y := by
  unfold guardIs at h
  unfold Region.wanted
  split at h
  · rename_i hn; simp only [hn]; exact h.symm
  · rename_i j b hn
    simp only [hn]
    obtain ⟨oj, g, hoj, hd, h⟩ := h
    have hoj' : ops[j]? = some oj := by simpa using hoj
    have h1 := hr.slots g
    rcases h with ⟨c, hc, rfl⟩ | ⟨hc, rfl⟩
    · rw [hc] at h1
      have e := DRd.bool_inv h1
      have hlt : g < a.tmps.size := by
        rcases Nat.lt_or_ge g a.tmps.size with h | h
        · exact h
        · simp [Array.getD_eq_getD_getElem?, Array.getElem?_eq_none h, undef] at e
      have hg : a.tmps[g]? = some (.bool c) := by
        rw [Array.getElem?_eq_getElem hlt]
        rw [Array.getD_eq_getD_getElem?, Array.getElem?_eq_getElem hlt] at e
        simpa using e
      simp [yielded, hoj', hd, hg]
    · rw [hc] at h1
      obtain ⟨vs, e, hall⟩ := h1
      have hy : yielded ops a.tmps j = none := by
        rcases Nat.lt_or_ge g a.tmps.size with hlt | hge
        · have : a.tmps[g]? = some (.tuple vs) := by
            rw [Array.getElem?_eq_getElem hlt]
            rw [Array.getD_eq_getD_getElem?, Array.getElem?_eq_getElem hlt] at e
            simpa using e
          simp [yielded, hoj', hd, this]
        · simp [yielded, hoj', hd, Array.getElem?_eq_none hge]
      rw [hy]; rfl

theorem drawW_ok (hT : TabOk P T) (hmix : P.follows .mixedOrders = true) {id : Nat} (hs : lexS ops.toList = true) {Q : Exit → Act → World → Prop} {l : List (Nat × SV)} {m : List (Nat × Box)} {n : Nat} {K : List (Nat × SV) → List (Nat × Box) → Nat → Prop}
    (h : drawW P T nt ops.toList ops.toList l m n [] K) {β : Nat → Value} {a : Act} {w : World} (hr : Rel w0 X Z nt (· < n) l m β a w)
    (hQ : ∀ l' m' n' β' a' w', K l' m' n' → Rel w0 X Z nt (· < n') l' m' β' a' w' → Q .normal a' w') : (Code.region id ops true).wp P Q a w := by
  obtain ⟨rs, lE, mE, nE, tr, hM, hK⟩ := drawW_tr (fun o l m n K h => by obtain ⟨v, upd, n', ft, h1, _, h3⟩ := opW_ok hT h; exact ⟨v, upd, n', ft, h1, h3⟩) h
  obtain ⟨hlen, hnE, hlE, hmE⟩ := tr.ends
  simp only [List.reverse_nil, List.nil_append] at hM
  have hlen' : rs.length = ops.size := by simpa using hlen
  -- the facts on pairs
  have hon : ∀ (j : Nat) (o : Oper), ops[j]? = some o → ∀ e ∈ o.after, Region.binds .any e = true → e.on < j := by
    intro j o hj e he hbi
    have hlt : j < ops.size := (Array.getElem?_eq_some_iff.1 hj).1
    have h1 := List.all_eq_true.1 hs j (List.mem_range.2 (by simpa using hlt))
    rw [show ops.toList[j]? = some o by simpa using hj] at h1
    simp only [Bool.and_eq_true] at h1
    have h2 := List.all_eq_true.1 h1.1 e (by simpa using he)
    rw [hbi] at h2
    exact blt_iff.1 h2
  have hmask : ∀ k i, ((masks ops.toList []).getD k 0).testBit i = true → Anc ops.toList i k := masks_anc ops.toList [] (fun k o hk => by simpa using hk) (by simp)
  have hahead : ∀ (i j : Nat) (oj : Oper), ops[j]? = some oj → ahead ops.toList i j oj = true → Anc ops.toList i j := by
    intro i j oj hj h
    unfold ahead at h
    rw [Bool.or_eq_true] at h
    rcases h with h | h
    · unfold waits at h
      obtain ⟨e, he, hb⟩ := List.any_eq_true.1 h
      rw [Bool.and_eq_true] at hb
      exact .one i j oj e (by simpa using hj) (by simpa using he) hb.1 (Nat.eq_of_beq_eq_true hb.2)
    · exact hmask _ _ h
  have hpair : ∀ (i j : Nat) (oi oj : Oper) (ri rj : Left), i < j → ops[i]? = some oi → ops[j]? = some oj → rs[i]? = some ri → rs[j]? = some rj → Anc ops.toList i j ∨ (oi.apart ops oj = true ∧ memApart ri rj = true) := by
    intro i j oi oj ri rj hij hi hj hri hrj
    have hlt : j < ops.size := (Array.getElem?_eq_some_iff.1 hj).1
    have h1 := List.all_eq_true.1 hs j (List.mem_range.2 (by simpa using hlt))
    rw [show ops.toList[j]? = some oj by simpa using hj] at h1
    simp only [Bool.and_eq_true] at h1
    have h2 := List.all_eq_true.1 h1.2 i (List.mem_range.2 hij)
    rw [show ops.toList[i]? = some oi by simpa using hi] at h2
    simp only [Bool.or_eq_true, Array.toArray_toList] at h2
    have h4 : memApart ri rj = true ∨ ahead ops.toList i j oj = true := by
      unfold lexM at hM
      rw [Bool.or_eq_true] at hM
      rcases hM with hM | hM
      · left
        have q1 := List.all_eq_true.1 hM ri (List.mem_of_getElem? hri)
        have q2 := List.all_eq_true.1 hM rj (List.mem_of_getElem? hrj)
        unfold Left.calm at q1 q2
        unfold memApart
        split at q1
        · rename_i e1
          split at q2
          · rfl
          · cases q2
        · cases q1
      · have h3 := List.all_eq_true.1 hM j (List.mem_range.2 (by simpa using hlt))
        rw [hrj] at h3
        have h4 := List.all_eq_true.1 h3 i (List.mem_range.2 hij)
        rw [hri, show ops.toList[j]? = some oj by simpa using hj] at h4
        simpa only [Bool.or_eq_true] using h4
    rcases h2 with h2 | h2
    · rcases h4 with h4 | h4
      · exact .inr ⟨h2, h4⟩
      · exact .inl (hahead _ _ _ hj h4)
    · exact .inl (hahead _ _ _ hj h2)
  refine wp_region_any hmix ?_
  -- whatever has come up so far
  have main : ∀ (fuel : Nat) (listed : Array Bool) (a : Act) (w : World), listed.size = ops.size → listed.toList.count false ≤ fuel →
      (∀ (j : Nat) (o : Oper), ops[j]? = some o → listed.getD j false = true → ∀ e ∈ o.after, Region.binds .any e = true → listed.getD e.on false = true) →
      (∃ (l' : List (Nat × SV)) (m' : List (Nat × Box)) (β' : Nat → Value), (∀ x, lk l' x = FD (fun j => listed.getD j false) (rs.map Left.slot) (lk l) x) ∧ (∀ b, lkb m' b = FD (fun j => listed.getD j false) (rs.map Left.upd) (lkb m) b) ∧
        Rel w0 X Z nt (fun b => b < n ∨ ∃ (j : Nat) (r : Left), rs[j]? = some r ∧ listed.getD j false = true ∧ r.lo ≤ b ∧ b < r.hi) l' m' β' a w) →
      wpAny P .any ops Q fuel listed a w := by
    intro fuel
    induction fuel with
    | zero =>
      intro listed a w hsz hcnt hcl ⟨l', m', β', hl', hm', hr'⟩
      have hall : ∀ j, j < ops.size → listed.getD j false = true := fun j hj => by
        have := all_true (Nat.le_zero.1 hcnt) (i := j) (by simpa [hsz] using hj)
        rw [Array.getD_eq_getD_getElem?, ← Array.getElem?_toList, this]; rfl
      refine ⟨?_, ?_⟩
      · rw [List.eq_nil_iff_forall_not_mem]
        intro j hj
        obtain ⟨h1, o, ho, _⟩ := mem_ready.1 hj
        have hlt : j < ops.size := (Array.getElem?_eq_some_iff.1 ho).1
        have h2 := hall j hlt
        rw [Array.getD_eq_getD_getElem?] at h1 h2
        rw [Array.getElem?_eq_getElem (by omega)] at h1 h2
        simp at h1 h2; rw [h1] at h2; cases h2
      · refine hQ lE mE nE β' a w hK ((hr'.wide fun b hb => ?_).alike (fun x => ?_) fun b => ?_)
        · rcases hb with hb | ⟨j, r, hj, _, _, hb⟩
          · omega
          · have hjl : j < rs.length := (List.getElem?_eq_some_iff.1 hj).1
            obtain ⟨r', h1, _, _, _, _, h2, _⟩ := tr.at (i := j) (o := ops[j]'(by omega)) (by simp [show j < ops.size by omega])
            rw [hj] at h1; injection h1 with h1; subst h1
            omega
        · rw [hl', hlE]
          refine FD_agree (fun i u hi _ => hall i ?_) rfl
          have := (List.getElem?_eq_some_iff.1 hi).1
          simpa [hlen'] using this
        · rw [hm', hmE]
          refine FD_agree (fun i u hi _ => hall i ?_) rfl
          have := (List.getElem?_eq_some_iff.1 hi).1
          simpa [hlen'] using this
    | succ fuel ih =>
      intro listed a w hsz hcnt hcl ⟨l', m', β', hl', hm', hr'⟩
      refine ⟨fun hre => ?_, fun i hi => ?_⟩
      · -- nothing is ready: all have come up
        have hall : ∀ k j, j < k → j < ops.size → listed.getD j false = true := by
          intro k
          induction k with
          | zero => intro j hj; omega
          | succ k ihk =>
            intro j hj hjs
            by_cases hjk : j < k
            · exact ihk j hjk hjs
            · have hjk : j = k := by omega
              subst hjk
              rcases hb : listed.getD j false with _ | _
              · exfalso
                have : j ∈ Region.ready .any ops listed := by
                  refine mem_ready.2 ⟨?_, ops[j], by simp [hjs], fun e he hbi => ?_⟩
                  · rw [Array.getD_eq_getD_getElem?, Array.getElem?_eq_getElem (by omega)] at hb ⊢
                    simpa using hb
                  · have := hon j ops[j] (by simp [hjs]) e he hbi
                    exact ihk _ this (by omega)
                rw [hre] at this; cases this
              · rfl
        refine hQ lE mE nE β' a w hK ((hr'.wide fun b hb => ?_).alike (fun x => ?_) fun b => ?_)
        · rcases hb with hb | ⟨j, r, hj, _, _, hb⟩
          · omega
          · have hjl : j < rs.length := (List.getElem?_eq_some_iff.1 hj).1
            obtain ⟨r', h1, _, _, _, _, h2, _⟩ := tr.at (i := j) (o := ops[j]'(by omega)) (by simp [show j < ops.size by omega])
            rw [hj] at h1; injection h1 with h1; subst h1
            omega
        · rw [hl', hlE]
          refine FD_agree (fun i u hi _ => hall (i + 1) i (by omega) ?_) rfl
          have := (List.getElem?_eq_some_iff.1 hi).1
          simpa [hlen'] using this
        · rw [hm', hmE]
          refine FD_agree (fun i u hi _ => hall (i + 1) i (by omega) ?_) rfl
          have := (List.getElem?_eq_some_iff.1 hi).1
          simpa [hlen'] using this
      · -- operation i comes up
        obtain ⟨hun, o, ho, hpre⟩ := mem_ready.1 hi
        have his : i < ops.size := (Array.getElem?_eq_some_iff.1 ho).1
        obtain ⟨r, hri, hdst, hdnt, hlo, hlh, hhi, hbef, haft, l1, m1, hl1, hm1, hcase⟩ := tr.at (i := i) (o := o) (by simpa using ho)
        have hDi : listed.getD i false = false := by
          rw [Array.getD_eq_getD_getElem?, Array.getElem?_eq_getElem (by omega)] at hun ⊢
          simpa using hun
        have hanc : ∀ {j k : Nat}, Anc ops.toList j k → listed.getD k false = true → listed.getD j false = true := by
          intro j k hjk
          induction hjk with
          | one k o e hk he hb hon1 => intro hd; rw [← hon1]; exact hcl k o (by simpa using hk) hd e he hb
          | step k o e hk he hb _ ihk => intro hd; exact ihk (hcl k o (by simpa using hk) hd e he hb)
        have hancI : ∀ {j : Nat}, Anc ops.toList j i → listed.getD j false = true := by
          intro j hji
          cases hji with
          | one _ o' e hk he hb hon1 =>
            have : o' = o := by have : ops[i]? = some o' := by simpa using hk
                                rw [ho] at this; injection this with this; exact this.symm
            subst this; rw [← hon1]; exact hpre e he hb
          | step _ o' e hk he hb hje =>
            have : o' = o := by have : ops[i]? = some o' := by simpa using hk
                                rw [ho] at this; injection this with this; exact this.symm
            subst this; exact hanc hje (hpre e he hb)
        -- others: before it, behind it, or apart from it
        have hthree : ∀ (j : Nat) (s : Left), rs[j]? = some s → j ≠ i → (listed.getD j false = Nat.blt j i) ∨ (∃ oj, ops[j]? = some oj ∧ oj.dst = s.dst ∧ (∀ d, oj.dst = some d → d ∉ o.looksAt ops) ∧ (∀ d, o.dst = some d → oj.dst ≠ some d) ∧ (∀ b, W s.upd b → b ∉ r.foot ∧ ¬ W r.upd b)) := by
          intro j s hj hji
          have hjs : j < ops.size := by have := (List.getElem?_eq_some_iff.1 hj).1; omega
          have hoj : ops[j]? = some ops[j] := by simp [hjs]
          obtain ⟨s', hs', hsd, _⟩ := tr.at (i := j) (o := ops[j]) (by simp [hjs])
          rw [hj] at hs'; injection hs' with hs'; subst hs'
          rcases Nat.lt_or_gt_of_ne hji with hlt | hgt
          · rcases hpair j i _ o s r hlt hoj ho hj hri with hA | ⟨h1, h2⟩
            · left; rw [hancI hA]; exact (blt_iff.2 hlt).symm
            · right
              obtain ⟨q1, q2, q3⟩ := Oper.apart_spec h1
              exact ⟨ops[j], hoj, hsd.symm, q1, fun d hd e => q2 d e hd, (memApart_spec h2).1⟩
          · rcases hpair i j o _ r s hgt ho hoj hri hj with hA | ⟨h1, h2⟩
            · left
              have hb : Nat.blt j i = false := by
                rcases hb : Nat.blt j i with _ | _
                · rfl
                · have := blt_iff.1 hb; omega
              rw [hb]
              rcases hd : listed.getD j false with _ | _
              · rfl
              · have := hanc hA hd; rw [hDi] at this; cases this
            · right
              obtain ⟨q1, q2, q3⟩ := Oper.apart_spec h1
              exact ⟨ops[j], hoj, hsd.symm, q3, q2, (memApart_spec h2).2⟩
        -- the slots at which it looks
        have hslot : ∀ x, x ∈ o.looksAt ops → lk l' x = lk l1 x := by
          intro x hx
          rw [hl', hl1]
          refine FD_agree (fun j u hj hw => ?_) rfl
          rw [List.getElem?_map, Option.map_eq_some_iff] at hj
          obtain ⟨s, hj, rfl⟩ := hj
          rw [slot_W] at hw
          by_cases hji : j = i
          · subst hji; rw [hDi]
            rcases hb : Nat.blt j j with _ | _
            · rfl
            · have := blt_iff.1 hb; omega
          · rcases hthree j s hj hji with h1 | ⟨oj, _, h1, h2, _⟩
            · exact h1
            · exact absurd hx (h2 x (h1.trans hw))
        have hmem : ∀ b, b ∈ r.foot → lkb m' b = lkb m1 b := by
          intro b hb
          rw [hm', hm1]
          refine FD_agree (fun j u hj hw => ?_) rfl
          rw [List.getElem?_map, Option.map_eq_some_iff] at hj
          obtain ⟨s, hj, rfl⟩ := hj
          by_cases hji : j = i
          · subst hji; rw [hDi]
            rcases hb : Nat.blt j j with _ | _
            · rfl
            · have := blt_iff.1 hb; omega
          · rcases hthree j s hj hji with h1 | ⟨oj, _, _, _, _, h2⟩
            · exact h1
            · exact absurd hb (h2 b hw).1
        have hops : ∀ x ∈ o.op.operands.toList, ev l' x = ev l1 x := by
          intro x hx
          cases x with
          | tmp t =>
            refine hslot t ?_
            unfold Oper.looksAt
            exact List.mem_append_left _ (List.mem_filterMap.2 ⟨.tmp t, hx, rfl⟩)
          | _ => rfl
        have hguard : ∀ y, guardIs ops.toList o l1 y → guardIs ops.toList o l' y := by
          intro y hy
          unfold guardIs at hy ⊢
          split at hy
          · exact hy
          · rename_i j b hn
            obtain ⟨oj, g, hoj, hd, hy⟩ := hy
            refine ⟨oj, g, hoj, hd, ?_⟩
            rw [hslot g ?_]
            · exact hy
            · unfold Oper.looksAt
              refine List.mem_append_right _ ?_
              rw [hn]
              have : ops[j]? = some oj := by simpa using hoj
              simp [this, hd]
        -- what is left behind it
        have hnew : ∀ (l2 : List (Nat × SV)) (m2 : List (Nat × Box)) (β2 : Nat → Value) (a2 : Act) (w2 : World), (∀ x, lk l2 x = over r.slot (lk l') x) → (∀ b, lkb m2 b = over r.upd (lkb m') b) →
            Rel w0 X Z nt (fun b => (b < n ∨ ∃ (j : Nat) (r : Left), rs[j]? = some r ∧ listed.getD j false = true ∧ r.lo ≤ b ∧ b < r.hi) ∨ (r.lo ≤ b ∧ b < r.hi)) l2 m2 β2 a2 w2 →
            wpAny P .any ops Q fuel (listed.setIfInBounds i true) a2 w2 := by
          intro l2 m2 β2 a2 w2 hl2 hm2 hr2
          have hD : (fun j => (listed.setIfInBounds i true).getD j false) = fun j => listed.getD j false || Nat.beq i j := by
            funext j
            by_cases hij : i = j
            · subst hij
              simp [Array.getD_eq_getD_getElem?, show i < listed.size by omega]
            · rw [getD_set_ne false hij]
              have : Nat.beq i j = false := by
                rcases hb : Nat.beq i j with _ | _
                · rfl
                · exact absurd (Nat.eq_of_beq_eq_true hb) hij
              rw [this]; simp
          refine ih _ a2 w2 (by simp [hsz]) ?_ ?_ ⟨l2, m2, β2, fun x => ?_, fun b => ?_, hr2.wide fun b hb => ?_⟩
          · have := count_set (l := listed.toList) (i := i) (by
              rw [Array.getElem?_toList, Array.getElem?_eq_getElem (by omega)]
              rw [Array.getD_eq_getD_getElem?, Array.getElem?_eq_getElem (by omega)] at hDi
              simpa using hDi)
            rw [Array.toList_setIfInBounds]; omega
          · intro j oj hj hd e he hb
            by_cases hij : i = j
            · subst hij
              rw [ho] at hj; injection hj with hj; subst hj
              exact getD_set_true (hpre e he hb)
            · rw [getD_set_ne false hij] at hd
              exact getD_set_true (hcl j oj hj hd e he hb)
          · rw [hl2, hD, FD_add (us := rs.map Left.slot) (i := i) (u := r.slot) (by simp [hri]) ?_]
            · exact over_ext (hl' x)
            · intro j u hj hlt hw hw'
              rw [List.getElem?_map, Option.map_eq_some_iff] at hj
              obtain ⟨s, hj, rfl⟩ := hj
              rw [slot_W] at hw hw'
              rcases hthree j s hj (by omega) with h1 | ⟨oj, _, h1, _, h2, _⟩
              · rw [h1]
                rcases hb : Nat.blt j i with _ | _
                · rfl
                · have := blt_iff.1 hb; omega
              · exact absurd (h1.trans hw') (h2 x (hdst.symm.trans hw))
          · rw [hm2, hD, FD_add (us := rs.map Left.upd) (i := i) (u := r.upd) (by simp [hri]) ?_]
            · exact over_ext (hm' b)
            · intro j u hj hlt hw hw'
              rw [List.getElem?_map, Option.map_eq_some_iff] at hj
              obtain ⟨s, hj, rfl⟩ := hj
              rcases hthree j s hj (by omega) with h1 | ⟨oj, _, _, _, _, h2⟩
              · rw [h1]
                rcases hb : Nat.blt j i with _ | _
                · rfl
                · have := blt_iff.1 hb; omega
              · exact absurd hw (h2 b hw').2
          · rcases hb with (hb | ⟨j, s, hj, hd, hb⟩) | hb
            · exact .inl hb
            · exact .inr ⟨j, s, hj, getD_set_true hd, hb⟩
            · exact .inr ⟨i, r, hri, by simp [Array.getD_eq_getD_getElem?, show i < listed.size by omega], hb⟩
        unfold wpOp
        rw [ho]
        simp only
        rcases hcase with ⟨hg, ft, hft, hloc⟩ | ⟨hg, hv, hu, hlohi⟩
        · rw [if_pos (guardIs_wanted hr' (hguard true hg))]
          refine .inl ?_
          have hop := hloc l' m' (fun v' u' n' f' => v' = r.v ∧ u' = r.upd ∧ n' = r.hi) hops (fun b hb => hmem b (by rw [hft]; exact hb)) ⟨rfl, rfl, rfl⟩
          obtain ⟨v, upd, n', ft', hn', hok, rfl, rfl, rfl⟩ := opW_ok hT hop
          refine hok w0 X Z nt _ β' a w hr' (fun b h1 h2 h3 => ?_) _ Q fun u β2 w2 hr2 hv2 hrf2 => ?_
          · rcases h3 with h3 | ⟨j, s, hj, hd, h3, h4⟩
            · omega
            · have hji : j ≠ i := by rintro rfl; rw [hDi] at hd; cases hd
              rcases Nat.lt_or_gt_of_ne hji with hlt | hgt
              · have := hbef j s hj hlt; omega
              · have := haft j s hj hgt; omega
          · rcases hd : o.dst with _ | d
            · exact hnew l' _ β2 _ w2 (fun x => by rw [Left.slot, hdst, hd]; rfl) (fun b => lkb_over _ _ _) hr2
            · have hr3 := hr2.put (hdnt d hd) hrf2 hv2
              exact hnew _ _ β2 _ w2 (fun x => by rw [Left.slot, hdst, hd]; exact lk_over _ _ _ _) (fun b => lkb_over _ _ _) hr3
        · rw [if_neg (by rw [guardIs_wanted hr' (hguard false hg)]; simp)]
          have hr2 := hr'.wide (A' := fun b => (b < n ∨ ∃ (j : Nat) (r : Left), rs[j]? = some r ∧ listed.getD j false = true ∧ r.lo ≤ b ∧ b < r.hi) ∨ (r.lo ≤ b ∧ b < r.hi)) fun b hb => .inl hb
          rcases hd : o.dst with _ | d
          · exact hnew l' m' β' _ w (fun x => by rw [Left.slot, hdst, hd]; rfl) (fun b => by rw [hu]; rfl) hr2
          · have hr3 := hr2.put (hdnt d hd) (v := .tup []) (fun t ht => by cases ht) srd_undef
            exact hnew _ m' β' _ w (fun x => by rw [Left.slot, hdst, hd, hv]; exact lk_over _ _ _ _) (fun b => by rw [hu]; rfl) hr3
  have rep : ∀ j, (Array.replicate ops.size false).getD j false = false := fun j => by
    rcases Nat.lt_or_ge j ops.size with h | h
    · simp [h]
    · simp [h]
  refine main ops.size _ a _ (by simp) ?_ (fun j o _ hd => ?_) ⟨l, m, β, fun x => ?_, fun b => ?_, ?_⟩
  · simp
  · rw [rep j] at hd; cases hd
  · rw [FD_none rep]
  · rw [FD_none rep]
  · exact (hr.world (w' := { w with drawn := w.drawn + 1 }) rfl rfl rfl rfl).wide fun b hb => .inl hb
end
end Eng
