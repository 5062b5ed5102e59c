/- Regions that draw their order: whatever order is drawn comes to the same. -/
import Derived.Test.YthdbdokhncaijaaGreatEngD3
namespace Eng
open Go Go.RowKit

section
variable {P : Program} {T : List (Nat × TI)} {nt : Nat} {all : List Oper}

theorem FD_t {α : Type} {D : Nat → Bool} (h : D 0 = true) (u : List (Nat × α)) (us : List (List (Nat × α))) (f : Nat → α) (x : Nat) : FD D (u :: us) f x = FD (fun k => D (k + 1)) us (over u f) x := by
  simp only [FD, h, if_true]
theorem Tr.at {os : List Oper} {l lE : List (Nat × SV)} {m mE : List (Nat × Box)} {n nE : Nat} {rs : List Left} (h : Tr P T nt all os l m n rs lE mE nE) {i : Nat} {o : Oper} (hi : os[i]? = some o) :
    ∃ r, rs[i]? = some r ∧ r.dst = o.dst ∧ (∀ d, o.dst = some d → d < nt) ∧ n ≤ r.lo ∧ r.lo ≤ r.hi ∧ r.hi ≤ nE ∧ (∀ (j : Nat) (s : Left), rs[j]? = some s → j < i → s.hi ≤ r.lo) ∧ (∀ (j : Nat) (s : Left), rs[j]? = some s → i < j → r.hi ≤ s.lo) ∧
      ∃ (l1 : List (Nat × SV)) (m1 : List (Nat × Box)), (∀ x, lk l1 x = FD (fun j => Nat.blt j i) (rs.map Left.slot) (lk l) x) ∧ (∀ b, lkb m1 b = FD (fun j => Nat.blt j i) (rs.map Left.upd) (lkb m) b) ∧
        ((guardIs all o l1 true ∧ ∃ ft, r.foot = footOf o l1 ++ ft ∧ ∀ (l' : List (Nat × SV)) (m' : List (Nat × Box)) (K' : KO), (∀ x ∈ o.op.operands.toList, ev l' x = ev l1 x) → (∀ b ∈ footOf o l1 ++ ft, lkb m' b = lkb m1 b) → K' r.v r.upd r.hi ft → opW T P o l' m' r.lo K') ∨
         (guardIs all o l1 false ∧ r.v = .tup [] ∧ r.upd = [] ∧ r.lo = r.hi)) := by
  have fd0 : ∀ {α : Type} (us : List (List (Nat × α))) (f : Nat → α), FD (fun j => Nat.blt j 0) us f = f := by
    intro α us
    have : (fun j => Nat.blt j 0) = fun _ => false := by funext j; rfl
    rw [this]
    induction us with
    | nil => intro f; rfl
    | cons u us ih => intro f; simp only [FD]; exact ih f
  have mono : ∀ {os : List Oper} {l lE : List (Nat × SV)} {m mE : List (Nat × Box)} {n nE : Nat} {rs : List Left}, Tr P T nt all os l m n rs lE mE nE → n ≤ nE ∧ ∀ (j : Nat) (s : Left), rs[j]? = some s → n ≤ s.lo := by
    intro os l lE m mE n nE rs h
    induction h with
    | nil => exact ⟨Nat.le_refl _, by simp⟩
    | run o os l l1 l2 lE m mE n n' nE v upd ft rs ha hg hloc hn hd h2 rest ih =>
      refine ⟨Nat.le_trans hn ih.1, fun j s hj => ?_⟩
      cases j with
      | zero => simp at hj; subst hj; exact Nat.le_refl _
      | succ j => exact Nat.le_trans hn (ih.2 j s (by simpa using hj))
    | skip o os l l1 l2 lE m mE n nE rs ha hg hd h2 rest ih =>
      refine ⟨ih.1, fun j s hj => ?_⟩
      cases j with
      | zero => simp at hj; subst hj; exact Nat.le_refl _
      | succ j => exact ih.2 j s (by simpa using hj)
  have sh : ∀ i : Nat, (fun k => Nat.blt (k + 1) (i + 1)) = fun k => Nat.blt k i := by
    intro i; funext k
    rcases h1 : Nat.blt k i with _ | _
    · rcases h2 : Nat.blt (k + 1) (i + 1) with _ | _
      · rfl
      · have := blt_iff.1 h2
        have := blt_iff.2 (show k < i by omega)
        rw [h1] at this; cases this
    · exact blt_iff.2 (by have := blt_iff.1 h1; omega)
  induction h generalizing i with
  | nil => simp at hi
  | run o' os l l1 l2 lE m mE n n' nE v upd ft rs ha hg hloc hn hd h2 rest ih =>
    have hm := mono rest
    cases i with
    | zero =>
      simp at hi; subst hi
      refine ⟨_, rfl, rfl, hd, Nat.le_refl _, hn, hm.1, by omega, fun j s hj hlt => ?_, l1, m, fun x => ?_, fun b => ?_, .inl ⟨hg, ft, rfl, hloc⟩⟩
      · cases j with
        | zero => omega
        | succ j => exact hm.2 j s (by simpa using hj)
      · rw [fd0]; exact (ha x).symm
      · rw [fd0]
    | succ i =>
      obtain ⟨r, h3, h4, h5, h6, h7, h8, h9, h10, l3, m3, h11, h12, h13⟩ := ih (by simpa using hi)
      refine ⟨r, by simpa using h3, h4, h5, Nat.le_trans hn h6, h7, h8, fun j s hj hlt => ?_, fun j s hj hlt => ?_, l3, m3, fun x => ?_, fun b => ?_, h13⟩
      · cases j with
        | zero => simp at hj; subst hj; exact h6
        | succ j => exact h9 j s (by simpa using hj) (by omega)
      · cases j with
        | zero => omega
        | succ j => exact h10 j s (by simpa using hj) (by omega)
      · rw [h11, List.map_cons]
        rw [FD_t rfl, sh]
        exact FD_agree (fun _ _ _ _ => rfl) (by simpa using h2 x)
      · rw [h12, List.map_cons]
        rw [FD_t rfl, sh]
        exact FD_agree (fun _ _ _ _ => rfl) (by simpa using lkb_over upd m b)
  | skip o' os l l1 l2 lE m mE n nE rs ha hg hd h2 rest ih =>
    have hm := mono rest
    cases i with
    | zero =>
      simp at hi; subst hi
      refine ⟨_, rfl, rfl, hd, Nat.le_refl _, Nat.le_refl _, hm.1, by omega, fun j s hj hlt => ?_, l1, m, fun x => ?_, fun b => ?_, .inr ⟨hg, rfl, rfl, rfl⟩⟩
      · cases j with
        | zero => omega
        | succ j => exact hm.2 j s (by simpa using hj)
      · rw [fd0]; exact (ha x).symm
      · rw [fd0]
    | succ i =>
      obtain ⟨r, h3, h4, h5, h6, h7, h8, h9, h10, l3, m3, h11, h12, h13⟩ := ih (by simpa using hi)
      refine ⟨r, by simpa using h3, h4, h5, h6, h7, h8, fun j s hj hlt => ?_, fun j s hj hlt => ?_, l3, m3, fun x => ?_, fun b => ?_, h13⟩
      · cases j with
        | zero => simp at hj; subst hj; exact h6
        | succ j => exact h9 j s (by simpa using hj) (by omega)
      · cases j with
        | zero => omega
        | succ j => exact h10 j s (by simpa using hj) (by omega)
      · rw [h11, List.map_cons]
        rw [FD_t rfl, sh]
        exact FD_agree (fun _ _ _ _ => rfl) (by simpa using h2 x)
      · rw [h12, List.map_cons]
        rw [FD_t rfl, sh]
        exact FD_agree (fun _ _ _ _ => rfl) (by simp [over])

theorem Tr.ends {os : List Oper} {l lE : List (Nat × SV)} {m mE : List (Nat × Box)} {n nE : Nat} {rs : List Left} (h : Tr P T nt all os l m n rs lE mE nE) :
    rs.length = os.length ∧ n ≤ nE ∧ (∀ x, lk lE x = FD (fun _ => true) (rs.map Left.slot) (lk l) x) ∧ (∀ b, lkb mE b = FD (fun _ => true) (rs.map Left.upd) (lkb m) b) := by
  induction h with
  | nil => exact ⟨rfl, Nat.le_refl _, fun _ => rfl, fun _ => rfl⟩
  | run o' os l l1 l2 lE m mE n n' nE v upd ft rs ha hg hloc hn hd h2 rest ih =>
    refine ⟨by simp [ih.1], Nat.le_trans hn ih.2.1, fun x => ?_, fun b => ?_⟩
    · rw [ih.2.2.1, List.map_cons]
      rw [FD_t rfl]
      exact FD_agree (fun _ _ _ _ => rfl) (by simpa using h2 x)
    · rw [ih.2.2.2, List.map_cons]
      rw [FD_t rfl]
      exact FD_agree (fun _ _ _ _ => rfl) (by simpa using lkb_over upd m b)
  | skip o' os l l1 l2 lE m mE n nE rs ha hg hd h2 rest ih =>
    refine ⟨by simp [ih.1], ih.2.1, fun x => ?_, fun b => ?_⟩
    · rw [ih.2.2.1, List.map_cons]
      rw [FD_t rfl]
      exact FD_agree (fun _ _ _ _ => rfl) (by simpa using h2 x)
    · rw [ih.2.2.2, List.map_cons]
      rw [FD_t rfl]
      exact FD_agree (fun _ _ _ _ => rfl) (by simp [over])
end

/-- 'i' must come before 'j'. -/
inductive Anc (all : List Oper) : Nat → Nat → Prop
  | one (i j : Nat) (o : Oper) (e : Edge) (hj : all[j]? = some o) (he : e ∈ o.after) (hb : Region.binds .any e = true) (hi : e.on = i) : Anc all i j
  | step (i j : Nat) (o : Oper) (e : Edge) (hj : all[j]? = some o) (he : e ∈ o.after) (hb : Region.binds .any e = true) (h : Anc all i e.on) : Anc all i j

theorem maskOf_anc {all : List Oper} {acc : List Nat} {j : Nat} {o : Oper} (hj : all[j]? = some o) (hacc : ∀ k i, (acc.getD k 0).testBit i = true → Anc all i k) (i : Nat) (h : (maskOf acc o).testBit i = true) : Anc all i j := by
  have key : ∀ (es : List Edge) (s : Nat), (∀ e ∈ es, e ∈ o.after) → (s.testBit i = true → Anc all i j) →
      (es.foldl (fun s e => if Region.binds .any e then s ||| 2 ^ e.on ||| acc.getD e.on 0 else s) s).testBit i = true → Anc all i j := by
    intro es
    induction es with
    | nil => intro s _ hs h; exact hs h
    | cons e es ih =>
      intro s hmem hs h
      refine ih _ (fun e' he' => hmem e' (by simp [he'])) (fun hb => ?_) h
      simp only at hb
      split at hb
      · rename_i hbind
        rw [Nat.testBit_or, Nat.testBit_or, Bool.or_eq_true, Bool.or_eq_true] at hb
        rcases hb with (hb | hb) | hb
        · exact hs hb
        · rw [Nat.testBit_two_pow] at hb
          exact .one i j o e hj (hmem e (by simp)) hbind (by simpa using hb)
        · exact .step i j o e hj (hmem e (by simp)) hbind (hacc _ _ hb)
      · exact hs hb
  exact key o.after.toList 0 (fun e he => by simpa using he) (by simp) h
theorem masks_anc {all : List Oper} : ∀ (os : List Oper) (acc : List Nat), (∀ k o, os[k]? = some o → all[acc.length + k]? = some o) → (∀ k i, (acc.getD k 0).testBit i = true → Anc all i k) →
    ∀ k i, ((masks os acc).getD k 0).testBit i = true → Anc all i k := by
  intro os
  induction os with
  | nil => intro acc _ hacc k i h; exact hacc k i h
  | cons o os ih =>
    intro acc hos hacc k i h
    refine ih (acc ++ [maskOf acc o]) (fun k o' hk => ?_) (fun k i hb => ?_) k i h
    · have := hos (k + 1) o' (by simpa using hk)
      rw [List.length_append, List.length_singleton, Nat.add_assoc, Nat.add_comm 1 k]; exact this
    · rw [List.getD_eq_getElem?_getD] at hb
      rcases Nat.lt_trichotomy k acc.length with hlt | heq | hgt
      · rw [List.getElem?_append_left hlt] at hb
        exact hacc k i (by rw [List.getD_eq_getElem?_getD]; exact hb)
      · subst heq
        rw [List.getElem?_append_right (Nat.le_refl _)] at hb
        simp at hb
        exact maskOf_anc (hos 0 o rfl) hacc i hb
      · rw [List.getElem?_append_right (by omega)] at hb
        simp [show k - acc.length ≠ 0 by omega] at hb

theorem sharing_spec {a b : List Nat} (h : sharing a b = false) {x : Nat} (ha : x ∈ a) (hb : x ∈ b) : False := by
  have : sharing a b = true := by
    unfold sharing
    rw [List.any_eq_true]
    exact ⟨x, ha, List.any_eq_true.2 ⟨x, hb, by simp⟩⟩
  rw [h] at this; cases this
theorem memApart_spec {r s : Left} (h : memApart r s = true) : (∀ x, W r.upd x → (x ∉ s.foot) ∧ ¬ W s.upd x) ∧ (∀ x, W s.upd x → (x ∉ r.foot) ∧ ¬ W r.upd x) := by
  unfold memApart at h
  rw [Bool.and_eq_true] at h
  have key : ∀ {r s : Left}, (match r.upd with | [] => true | _ => !sharing (r.upd.map (·.1)) (s.foot ++ s.upd.map (·.1))) = true → ∀ x, W r.upd x → (x ∉ s.foot) ∧ ¬ W s.upd x := by
    intro r s h x hx
    split at h
    · rename_i e; rw [e] at hx; obtain ⟨v, hv⟩ := hx; cases hv
    · have h' : sharing (r.upd.map (·.1)) (s.foot ++ s.upd.map (·.1)) = false := by simpa using h
      obtain ⟨v, hv⟩ := hx
      have hxa : x ∈ r.upd.map (·.1) := List.mem_map.2 ⟨(x, v), hv, rfl⟩
      exact ⟨fun hf => sharing_spec h' hxa (List.mem_append_left _ hf), fun ⟨u, hu⟩ => sharing_spec h' hxa (List.mem_append_right _ (List.mem_map.2 ⟨(x, u), hu, rfl⟩))⟩
  exact ⟨key h.1, key h.2⟩

theorem slot_W {r : Left} {x : Nat} : W r.slot x ↔ r.dst = some x := by
  unfold Left.slot W
  split
  · rename_i d hd
    rw [hd]
    constructor
    · rintro ⟨v, hv⟩; simp at hv; rw [hv.1]
    · intro e; injection e with e; subst e; exact ⟨r.v, by simp⟩
  · rename_i hd
    rw [hd]
    constructor
    · rintro ⟨v, hv⟩; cases hv
    · intro e; cases e
end Eng
