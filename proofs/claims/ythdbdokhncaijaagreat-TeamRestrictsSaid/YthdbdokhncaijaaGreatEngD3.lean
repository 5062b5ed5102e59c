/- Regions that draw their order. -/
import Derived.Test.YthdbdokhncaijaaGreatEngD2
namespace Eng
open Go Go.RowKit

section over
variable {α : Type}
def over : List (Nat × α) → (Nat → α) → Nat → α
  | [], f, x => f x
  | (j, v) :: u, f, x => if j = x then v else over u f x
def W (u : List (Nat × α)) (x : Nat) : Prop := ∃ v, (x, v) ∈ u
theorem over_not {u : List (Nat × α)} {f : Nat → α} {x : Nat} (h : ¬ W u x) : over u f x = f x := by
  induction u with
  | nil => rfl
  | cons p u ih =>
    obtain ⟨j, v⟩ := p
    simp only [over]
    rw [if_neg (fun e => h ⟨v, by simp [e]⟩)]
    exact ih fun ⟨v, hv⟩ => h ⟨v, by simp [hv]⟩
theorem over_yes {u : List (Nat × α)} {f g : Nat → α} {x : Nat} (h : W u x) : over u f x = over u g x := by
  induction u with
  | nil => obtain ⟨v, hv⟩ := h; cases hv
  | cons p u ih =>
    obtain ⟨j, v⟩ := p
    simp only [over]
    split
    · rfl
    · rename_i hne
      obtain ⟨y, hy⟩ := h
      rcases List.mem_cons.1 hy with e | hy
      · simp only [Prod.mk.injEq] at e; exact absurd e.1.symm hne
      · exact ih ⟨y, hy⟩
theorem over_ext {u : List (Nat × α)} {f g : Nat → α} {x : Nat} (h : f x = g x) : over u f x = over u g x := by
  induction u with
  | nil => exact h
  | cons p u ih =>
    simp only [over]; split
    · rfl
    · exact ih
def FD (D : Nat → Bool) : List (List (Nat × α)) → (Nat → α) → Nat → α
  | [], f => f
  | u :: us, f => FD (fun k => D (k + 1)) us (if D 0 then over u f else f)
theorem FD_agree {us : List (List (Nat × α))} {D D' : Nat → Bool} {f f' : Nat → α} {x : Nat} (h : ∀ i u, us[i]? = some u → W u x → D i = D' i) (hf : f x = f' x) : FD D us f x = FD D' us f' x := by
  induction us generalizing D D' f f' with
  | nil => exact hf
  | cons u us ih =>
    refine ih (fun i u' hi hw => h (i + 1) u' (by simpa using hi) hw) ?_
    by_cases hw : W u x
    · rw [h 0 u rfl hw]
      split
      · exact over_yes hw
      · exact hf
    · split <;> split <;> simp only [over_not hw, hf]
theorem FD_last {us : List (List (Nat × α))} {D : Nat → Bool} {f g : Nat → α} {x i : Nat} {u : List (Nat × α)} (hi : us[i]? = some u) (hw : W u x) (hD : D i = true) (h : ∀ j u', us[j]? = some u' → W u' x → i < j → D j = false) :
    FD D us f x = over u g x := by
  induction us generalizing D f i with
  | nil => simp at hi
  | cons u0 us ih =>
    cases i with
    | zero =>
      simp at hi; subst hi
      simp only [FD, hD, if_true]
      have : FD (fun k => D (k + 1)) us (over u0 f) x = FD (fun _ => false) us (over u0 f) x := FD_agree (fun j u' hj hw' => h (j + 1) u' (by simpa using hj) hw' (by omega)) rfl
      rw [this]
      have hn : ∀ (us : List (List (Nat × α))) (f : Nat → α), FD (fun _ => false) us f = f := by
        intro us
        induction us with
        | nil => intro f; rfl
        | cons u us ih => intro f; simp only [FD]; exact ih f
      rw [hn]
      exact over_yes hw
    | succ i => exact ih (by simpa using hi) hD fun j u' hj hw' hlt => h (j + 1) u' (by simpa using hj) hw' (by omega)
theorem FD_add {us : List (List (Nat × α))} {D : Nat → Bool} {f : Nat → α} {x i : Nat} {u : List (Nat × α)} (hi : us[i]? = some u) (h : ∀ j u', us[j]? = some u' → i < j → W u x → W u' x → D j = false) :
    FD (fun j => D j || Nat.beq i j) us f x = over u (FD D us f) x := by
  by_cases hw : W u x
  · refine FD_last hi hw (by simp) fun j u' hj hw' hlt => ?_
    rw [h j u' hj hlt hw hw']
    have : Nat.beq i j = false := by
      rcases hb : Nat.beq i j with _ | _
      · rfl
      · have := Nat.eq_of_beq_eq_true hb; omega
    rw [this]; rfl
  · rw [over_not hw]
    refine FD_agree (fun j u' hj hw' => ?_) rfl
    rcases hb : Nat.beq i j with _ | _
    · simp
    · have := Nat.eq_of_beq_eq_true hb
      subst this
      rw [hi] at hj; injection hj with hj; subst hj
      exact absurd hw' hw
end over

theorem lk_over (d : Nat) (v : SV) (l : List (Nat × SV)) (x : Nat) : lk ((d, v) :: l) x = over [(d, v)] (lk l) x := by rw [lk_cons]; rfl
theorem lkb_over (u m : List (Nat × Box)) (x : Nat) : lkb (u ++ m) x = over u (lkb m) x := by
  induction u with
  | nil => rfl
  | cons p u ih => obtain ⟨j, v⟩ := p; rw [List.cons_append, lkb_cons, ih]; rfl

/-- what an operation of the region has left -/
structure Left where
  dst : Option Nat
  v : SV
  upd : List (Nat × Box)
  foot : List Nat
  lo : Nat
  hi : Nat
def Left.slot (r : Left) : List (Nat × SV) := match r.dst with
  | some d => [(d, r.v)]
  | none => []

def guardIs (all : List Oper) (o : Oper) (l : List (Nat × SV)) (yes : Bool) : Prop :=
  match o.guard with
  | none => yes = true
  | some (j, b) => ∃ oj g, all[j]? = some oj ∧ oj.dst = some g ∧ ((∃ c, lk l g = .one (.dv (.bool c)) ∧ (yes = (c == b))) ∨ (lk l g = .tup [] ∧ yes = false))

inductive Tr (P : Program) (T : List (Nat × TI)) (nt : Nat) (all : List Oper) : List Oper → List (Nat × SV) → List (Nat × Box) → Nat → List Left → List (Nat × SV) → List (Nat × Box) → Nat → Prop
  | nil (l : List (Nat × SV)) (m : List (Nat × Box)) (n : Nat) : Tr P T nt all [] l m n [] l m n
  | run (o : Oper) (os : List Oper) (l l1 l2 lE : List (Nat × SV)) (m mE : List (Nat × Box)) (n n' nE : Nat) (v : SV) (upd : List (Nat × Box)) (ft : List Nat) (rs : List Left) (ha : Alike l l1) (hg : guardIs all o l1 true)
      (hloc : ∀ (l' : List (Nat × SV)) (m' : List (Nat × Box)) (K' : KO), (∀ x ∈ o.op.operands.toList, ev l' x = ev l1 x) → (∀ b ∈ footOf o l1 ++ ft, lkb m' b = lkb m b) → K' v upd n' ft → opW T P o l' m' n K')
      (hn : n ≤ n') (hd : ∀ d, o.dst = some d → d < nt) (h2 : ∀ x, lk l2 x = over (Left.slot ⟨o.dst, v, upd, footOf o l1 ++ ft, n, n'⟩) (lk l) x)
      (rest : Tr P T nt all os l2 (upd ++ m) n' rs lE mE nE) : Tr P T nt all (o :: os) l m n (⟨o.dst, v, upd, footOf o l1 ++ ft, n, n'⟩ :: rs) lE mE nE
  | skip (o : Oper) (os : List Oper) (l l1 l2 lE : List (Nat × SV)) (m mE : List (Nat × Box)) (n nE : Nat) (rs : List Left) (ha : Alike l l1) (hg : guardIs all o l1 false)
      (hd : ∀ d, o.dst = some d → d < nt) (h2 : ∀ x, lk l2 x = over (Left.slot ⟨o.dst, .tup [], [], [], n, n⟩) (lk l) x)
      (rest : Tr P T nt all os l2 m n rs lE mE nE) : Tr P T nt all (o :: os) l m n (⟨o.dst, .tup [], [], [], n, n⟩ :: rs) lE mE nE

theorem guardW_is {all : List Oper} {o : Oper} {l : List (Nat × SV)} {run skip : List (Nat × SV) → Prop} (h : guardW all o l run skip) : ∃ l1, Alike l l1 ∧ ((guardIs all o l1 true ∧ run l1) ∨ (guardIs all o l1 false ∧ skip l1)) := by
  unfold guardW at h
  unfold guardIs
  split at h
  · rename_i hn
    exact ⟨l, fun _ => rfl, .inl ⟨by simp [hn], h⟩⟩
  · rename_i j b hn
    split at h
    · exact h.elim
    · rename_i oj hoj
      split at h
      · exact h.elim
      · rename_i g hd
        split at h
        · rename_i c hc
          have h' := ask_elim h
          refine ⟨_, alike_same hc, ?_⟩
          simp only [hn]
          have hg : ∀ l' : List (Nat × SV), lk ((g, SV.one (CV.dv (DV.bool c))) :: l') g = SV.one (CV.dv (DV.bool c)) := fun l' => by rw [lk_cons, if_pos rfl]
          cases c <;> cases b <;> first
            | exact .inl ⟨⟨oj, g, hoj, hd, .inl ⟨_, hg _, rfl⟩⟩, h'⟩
            | exact .inr ⟨⟨oj, g, hoj, hd, .inl ⟨_, hg _, rfl⟩⟩, h'⟩
        · rename_i hc
          exact ⟨l, fun _ => rfl, .inr ⟨by simp only [hn]; exact ⟨oj, g, hoj, hd, .inr ⟨hc, trivial⟩⟩, h⟩⟩
        · exact h.elim

/-- the masks of what must come before -/
def maskOf (acc : List Nat) (o : Oper) : Nat := o.after.toList.foldl (fun s e => if Region.binds .any e then s ||| 2 ^ e.on ||| acc.getD e.on 0 else s) 0
def masks : List Oper → List Nat → List Nat
  | [], acc => acc
  | o :: os, acc => masks os (acc ++ [maskOf acc o])
def sharing (a b : List Nat) : Bool := a.any fun x => b.any fun y => Nat.beq x y
def memApart (r s : Left) : Bool :=
  (match r.upd with
    | [] => true
    | _ => !sharing (r.upd.map (·.1)) (s.foot ++ s.upd.map (·.1))) &&
  (match s.upd with
    | [] => true
    | _ => !sharing (s.upd.map (·.1)) (r.foot ++ r.upd.map (·.1)))
def waits (y : Oper) (i : Nat) : Bool := y.after.toList.any fun e => Region.binds .any e && Nat.beq e.on i
/-- 'i' comes before 'y', which is number 'j' -/
def ahead (all : List Oper) (i j : Nat) (y : Oper) : Bool := waits y i || ((masks all []).getD j 0).testBit i
/-- of every two operations one waits for the other, or they don't meet: by their temporaries -/
def lexS (all : List Oper) : Bool :=
  (List.range all.length).all fun j => match all[j]? with
    | some y => (y.after.toList.all fun e => !Region.binds .any e || Nat.blt e.on j) && (List.range j).all fun i => match all[i]? with
      | some x => x.apart all.toArray y || ahead all i j y
      | none => true
    | none => true
/-- by memory -/
def Left.calm (r : Left) : Bool := match r.upd with
  | [] => true
  | _ => false
def lexM (all : List Oper) (rs : List Left) : Bool :=
  rs.all Left.calm || (List.range all.length).all fun j => match rs[j]? with
    | some s => (List.range j).all fun i => match rs[i]? with
      | some r => memApart r s || (match all[j]? with
        | some y => ahead all i j y
        | none => true)
      | none => true
    | none => true

section
variable (P : Program) (T : List (Nat × TI)) (nt : Nat) (all : List Oper)
def drawW (os : List Oper) : List (Nat × SV) → List (Nat × Box) → Nat → List Left → (List (Nat × SV) → List (Nat × Box) → Nat → Prop) → Prop :=
  List.rec (motive := fun _ => List (Nat × SV) → List (Nat × Box) → Nat → List Left → (List (Nat × SV) → List (Nat × Box) → Nat → Prop) → Prop)
    (fun l m n rs K => match lexM all rs.reverse with
      | true => K l m n
      | false => False)
    (fun o _ ih l m n rs K => guardW all o l
      (fun l => opW T P o l m n fun v upd n' ft => v.force fun v => putW nt o.dst v l fun l' => appK upd m fun m => ih l' m n' (⟨o.dst, v, upd, footOf o l ++ ft, n, n'⟩ :: rs) K)
      (fun l => putW nt o.dst (.tup []) l fun l' => ih l' m n (⟨o.dst, .tup [], [], [], n, n⟩ :: rs) K)) os
theorem drawW_nil {l : List (Nat × SV)} {m : List (Nat × Box)} {n : Nat} {rs : List Left} {K : List (Nat × SV) → List (Nat × Box) → Nat → Prop} : drawW P T nt all [] l m n rs K = (match lexM all rs.reverse with
      | true => K l m n
      | false => False) := rfl
theorem drawW_cons {o : Oper} {os : List Oper} {l : List (Nat × SV)} {m : List (Nat × Box)} {n : Nat} {rs : List Left} {K : List (Nat × SV) → List (Nat × Box) → Nat → Prop} : drawW P T nt all (o :: os) l m n rs K = guardW all o l
      (fun l => opW T P o l m n fun v upd n' ft => v.force fun v => putW nt o.dst v l fun l' => appK upd m fun m => drawW P T nt all os l' m n' (⟨o.dst, v, upd, footOf o l ++ ft, n, n'⟩ :: rs) K)
      (fun l => putW nt o.dst (.tup []) l fun l' => drawW P T nt all os l' m n (⟨o.dst, .tup [], [], [], n, n⟩ :: rs) K) := rfl
end

theorem putW_is {nt : Nat} {dst : Option Nat} {v : SV} {l : List (Nat × SV)} {K : List (Nat × SV) → Prop} (h : putW nt dst v l K) (upd : List (Nat × Box)) (ft : List Nat) (lo hi : Nat) : ∃ l', K l' ∧ (∀ d, dst = some d → d < nt) ∧ ∀ x, lk l' x = over (Left.slot ⟨dst, v, upd, ft, lo, hi⟩) (lk l) x := by
  unfold putW at h
  split at h
  · exact ⟨l, h, by simp, fun x => rfl⟩
  · split at h
    · rename_i d hd
      exact ⟨_, h, fun d' e => by injection e with e; subst e; exact blt_iff.1 hd, fun x => lk_over _ _ _ _⟩
    · exact h.elim

theorem drawW_tr {P : Program} {T : List (Nat × TI)} {nt : Nat} {all os : List Oper} {l : List (Nat × SV)} {m : List (Nat × Box)} {n : Nat} {rs0 : List Left} {K : List (Nat × SV) → List (Nat × Box) → Nat → Prop} (hT : ∀ o l m n K, opW T P o l m n K → ∃ v upd n' ft, n ≤ n' ∧ K v upd n' ft) (h : drawW P T nt all os l m n rs0 K) :
    ∃ rs lE mE nE, Tr P T nt all os l m n rs lE mE nE ∧ lexM all (rs0.reverse ++ rs) = true ∧ K lE mE nE := by
  induction os generalizing l m n rs0 with
  | nil =>
    rw [drawW_nil] at h
    split at h
    · rename_i hl; exact ⟨[], l, m, n, .nil l m n, by simpa using hl, h⟩
    · exact h.elim
  | cons o os ih =>
    rw [drawW_cons] at h
    obtain ⟨l1, ha, h | h⟩ := guardW_is h
    · obtain ⟨hg, h⟩ := h
      have h' : opW T P o l1 m n fun v upd n' ft => n ≤ n' ∧ (v.force fun v => putW nt o.dst v l1 fun l' => appK upd m fun m => drawW P T nt all os l' m n' (⟨o.dst, v, upd, footOf o l1 ++ ft, n, n'⟩ :: rs0) K) := by
        obtain ⟨v, upd, n', ft, hk, hloc⟩ := opW_loc h
        refine hloc l1 m _ (fun _ _ => rfl) (fun _ _ => rfl) (fun _ _ => rfl) ⟨?_, hk⟩
        obtain ⟨v', upd', n'', ft', h1, h2⟩ := hT o l1 m n (fun v' upd' n'' ft' => n'' = n') (hloc l1 m _ (fun _ _ => rfl) (fun _ _ => rfl) (fun _ _ => rfl) rfl)
        omega
      obtain ⟨v, upd, n', ft, ⟨hn, hk⟩, hloc⟩ := opW_loc h'
      have hloc : ∀ (l' : List (Nat × SV)) (m' : List (Nat × Box)) (K' : KO), (∀ x ∈ o.op.operands.toList, ev l' x = ev l1 x) → (∀ b ∈ footOf o l1 ++ ft, lkb m' b = lkb m b) → K' v upd n' ft → opW T P o l' m' n K' :=
        fun l' m' K' hl hm hk => hloc l' m' K' hl (fun b hb => hm b (List.mem_append_left _ hb)) (fun b hb => hm b (List.mem_append_right _ hb)) hk
      obtain ⟨l2, hk2, hd, h2⟩ := putW_is (SV.force_iff.1 hk) upd (footOf o l1 ++ ft) n n'
      obtain ⟨rs, lE, mE, nE, h3, h4, h5⟩ := ih (appK_iff.1 hk2)
      refine ⟨_ :: rs, lE, mE, nE, .run o os l l1 l2 lE m mE n n' nE v upd ft rs ha hg hloc hn hd (fun x => ?_) h3, by simpa using h4, h5⟩
      rw [h2]; exact over_ext (ha x).symm
    · obtain ⟨hg, h⟩ := h
      obtain ⟨l2, hk2, hd, h2⟩ := putW_is h [] [] n n
      obtain ⟨rs, lE, mE, nE, h3, h4, h5⟩ := ih hk2
      refine ⟨_ :: rs, lE, mE, nE, .skip o os l l1 l2 lE m mE n nE rs ha hg hd (fun x => ?_) h3, by simpa using h4, h5⟩
      rw [h2]; exact over_ext (ha x).symm
end Eng
