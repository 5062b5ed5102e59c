/- Regions: in their order, and in whatever order. -/
import Derived.Test.YthdbdokhncaijaaGreatEngD1
namespace Eng
open Go Go.RowKit

/-- the head of a value laid open, so that whoever reads on meets it as it is -/
def SV.force (v : SV) (K : SV → Prop) : Prop :=
  match v with
  | .one c => match c with
    | .dv d => match d with
      | .int k n => K (.one (.dv (.int k n)))
      | .bool b => K (.one (.dv (.bool b)))
      | .str s => K (.one (.dv (.str s)))
      | .lst a b => K (.one (.dv (.lst a b)))
      | .nul a => K (.one (.dv (.nul a)))
    | .bot => K (.one .bot)
    | .nil s => K (.one (.nil s))
    | .vptr a b => K (.one (.vptr a b))
    | .row b => K (.one (.row b))
    | .rptr a b c => K (.one (.rptr a b c))
    | .iptr c => K (.one (.iptr c))
    | .fn a b => K (.one (.fn a b))
    | .rsl a b => K (.one (.rsl a b))
    | .rpx a b => K (.one (.rpx a b))
    | .avw a b c => K (.one (.avw a b c))
    | .npt => K (.one .npt)
    | .anyb p => K (.one (.anyb p))
  | .bot => K .bot
  | .agg cs => K (.agg cs)
  | .tup cs => K (.tup cs)
theorem SV.force_iff {v : SV} {K : SV → Prop} : v.force K ↔ K v := by
  cases v with
  | one c => cases c with
    | dv d => cases d <;> exact Iff.rfl
    | _ => exact Iff.rfl
  | _ => exact Iff.rfl

/-- boxes that turn, laid over the others -/
def appK (u m : List (Nat × Box)) (K : List (Nat × Box) → Prop) : Prop :=
  match u with
  | [] => K m
  | [p] => K (p :: m)
  | u => K (u ++ m)
theorem appK_iff {u m : List (Nat × Box)} {K : List (Nat × Box) → Prop} : appK u m K ↔ K (u ++ m) := by
  match u with
  | [] => exact Iff.rfl
  | [p] => exact Iff.rfl
  | p :: q :: u => exact Iff.rfl
def putW (nt : Nat) (dst : Option Nat) (v : SV) (l : List (Nat × SV)) (K : List (Nat × SV) → Prop) : Prop :=
  match dst with
  | none => K l
  | some d => match Nat.blt d nt with
    | true => K ((d, v) :: l)
    | false => False

/-- is the operation wanted? the guard's slot is written out -/
def guardW (all : List Oper) (o : Oper) (l : List (Nat × SV)) (run skip : List (Nat × SV) → Prop) : Prop :=
  match o.guard with
  | none => run l
  | some (j, b) => match all[j]? with
    | none => False
    | some oj => match oj.dst with
      | none => False
      | some g => match lk l g with
        | .one (.dv (.bool c)) => askF c fun c' => match Bool.xor c' b with
          | false => run ((g, .one (.dv (.bool c'))) :: l)
          | true => skip ((g, .one (.dv (.bool c'))) :: l)
        | .tup [] => skip l
        | _ => False

structure Rec where
  dst : Option Nat
  v : SV
  upd : List (Nat × Box)

section
variable (P : Program) (T : List (Nat × TI)) (nt : Nat) (all : List Oper)
def opsW (os : List Oper) : List (Nat × SV) → List (Nat × Box) → Nat → (List (Nat × SV) → List (Nat × Box) → Nat → Prop) → Prop :=
  List.rec (motive := fun _ => List (Nat × SV) → List (Nat × Box) → Nat → (List (Nat × SV) → List (Nat × Box) → Nat → Prop) → Prop)
    (fun l m n K => K l m n)
    (fun o _ ih l m n K => guardW all o l
      (fun l => opW T P o l m n fun v upd n' _ => v.force fun v => putW nt o.dst v l fun l => appK upd m fun m => ih l m n' K)
      (fun l => putW nt o.dst (.tup []) l fun l => ih l m n K)) os
theorem opsW_cons {o : Oper} {os : List Oper} {l : List (Nat × SV)} {m : List (Nat × Box)} {n : Nat} {K : List (Nat × SV) → List (Nat × Box) → Nat → Prop} : opsW P T nt all (o :: os) l m n K = guardW all o l
      (fun l => opW T P o l m n fun v upd n' _ => v.force fun v => putW nt o.dst v l fun l => appK upd m fun m => opsW P T nt all os l m n' K)
      (fun l => putW nt o.dst (.tup []) l fun l => opsW P T nt all os l m n K) := rfl
end

/-- slots alike -/
def Alike (l l' : List (Nat × SV)) : Prop := ∀ i, lk l i = lk l' i
theorem Rel.alike {w0 : World} {X : Nat → Prop} {Z : Zt} {nt : Nat} {A : Nat → Prop} {l l' : List (Nat × SV)} {m m' : List (Nat × Box)} {β : Nat → Value} {a : Act} {w : World} (h : Rel w0 X Z nt A l m β a w) (hl : Alike l l') (hm : ∀ b, lkb m b = lkb m' b) : Rel w0 X Z nt A l' m' β a w := by
  have hI : Imm Z.p m β w = Imm Z.p m' β w := by funext g; simp only [Imm, hm]
  have hC : CRd w (Imm Z.p m' β w) m β = CRd w (Imm Z.p m' β w) m' β := by
    funext c v
    cases c <;> simp only [CRd, hm]
  have hS : SRd w (Imm Z.p m' β w) m β = SRd w (Imm Z.p m' β w) m' β := by
    funext c v
    cases c <;> simp only [SRd, hC]
  have hB : BRd w (Imm Z.p m' β w) m β = BRd w (Imm Z.p m' β w) m' β := by
    funext c v
    cases c <;> simp only [BRd, hC]
  refine ⟨h.size, h.defers, fun i => hl i ▸ h.refs i, fun b => hm b ▸ h.refb b, fun i => ?_, fun b => ?_, fun b b' g => ?_, fun b g => ?_, h.ext, h.new, fun b hb => ⟨(h.pin b hb).1, fun hd => (h.pin b hb).2 (by rw [hm b]; exact hd)⟩, fun b g hb hg => h.rown b g (by rw [hm b]; exact hb) hg⟩
  · have := h.slots i
    rw [hI, hS, hl i] at this; exact this
  · have := h.boxes b
    rw [hI, hB, hm b] at this; exact this
  · have := h.inj b b' g
    rw [hm b, hm b'] at this; exact this
  · have := h.own b g
    rw [hm b] at this; exact this

theorem alike_same {l : List (Nat × SV)} {g : Nat} {v : SV} (h : lk l g = v) : Alike l ((g, v) :: l) := by
  intro i
  rw [lk_cons]
  split
  · rename_i e; subst e; exact h
  · rfl

theorem Rel.put? {w0 : World} {X : Nat → Prop} {Z : Zt} {nt : Nat} {A : Nat → Prop} {l : List (Nat × SV)} {m : List (Nat × Box)} {β : Nat → Value} {a : Act} {w : World} (h : Rel w0 X Z nt A l m β a w) {dst : Option Nat} {v : SV} {u : Value} {K : List (Nat × SV) → Prop}
    (hp : putW nt dst v l K) (hr : RefS A v) (hv : SRd w (Imm Z.p m β w) m β v u) : ∃ l', K l' ∧ Rel w0 X Z nt A l' m β (a.put dst u) w := by
  unfold putW at hp
  split at hp
  · exact ⟨l, hp, h⟩
  · split at hp
    · rename_i hd
      exact ⟨_, hp, h.put (blt_iff.1 hd) hr hv⟩
    · exact hp.elim

theorem Rel.guard {w0 : World} {X : Nat → Prop} {Z : Zt} {nt : Nat} {A : Nat → Prop} {l : List (Nat × SV)} {m : List (Nat × Box)} {β : Nat → Value} {a : Act} {w : World} (h : Rel w0 X Z nt A l m β a w) {ops : Array Oper} {o : Oper} {run skip : List (Nat × SV) → Prop}
    (hg : guardW ops.toList o l run skip) : ∃ l', Alike l l' ∧ Rel w0 X Z nt A l' m β a w ∧ ((Region.wanted o (yielded ops a.tmps) = true ∧ run l') ∨ (Region.wanted o (yielded ops a.tmps) = false ∧ skip l')) := by
  unfold guardW at hg
  split at hg
  · rename_i hn
    exact ⟨l, fun _ => rfl, h, .inl ⟨by simp [Region.wanted, hn], hg⟩⟩
  · rename_i j b hn
    split at hg
    · exact hg.elim
    · rename_i oj hoj
      split at hg
      · exact hg.elim
      · rename_i g hd
        have hoj' : ops[j]? = some oj := by simpa using hoj
        split at hg
        · rename_i c hc
          have h1 := h.slots g
          rw [hc] at h1
          have e := DRd.bool_inv h1
          have hlt : g < a.tmps.size := by
            rcases Nat.lt_or_ge g a.tmps.size with h | h
            · exact h
            · simp [Array.getD_eq_getD_getElem?, Array.getElem?_eq_none h, undef] at e
          have hy : yielded ops a.tmps j = some c := by
            have : a.tmps[g]? = some (.bool c) := by
              rw [Array.getElem?_eq_getElem hlt]
              rw [Array.getD_eq_getD_getElem?, Array.getElem?_eq_getElem hlt] at e
              simpa using e
            simp [yielded, hoj', hd, this]
          have h' := ask_elim hg
          refine ⟨_, alike_same hc, h.alike (alike_same hc) (fun _ => rfl), ?_⟩
          simp only [Region.wanted, hn, hy]
          cases c <;> cases b <;> first | exact .inl ⟨rfl, h'⟩ | exact .inr ⟨rfl, h'⟩
        · rename_i hc
          have h1 := h.slots g
          rw [hc] at h1
          obtain ⟨vs, e, hall⟩ := h1
          refine ⟨l, fun _ => rfl, h, .inr ⟨?_, hg⟩⟩
          have hy : yielded ops a.tmps j = none := by
            rcases Nat.lt_or_ge g a.tmps.size with hlt | hge
            · have : a.tmps[g]? = some (.tuple vs) := by
                rw [Array.getElem?_eq_getElem hlt]
                rw [Array.getD_eq_getD_getElem?, Array.getElem?_eq_getElem hlt] at e
                simpa using e
              simp [yielded, hoj', hd, this]
            · simp [yielded, hoj', hd, Array.getElem?_eq_none hge]
          simp [Region.wanted, hn, hy]
        · exact hg.elim

theorem srd_undef {w : World} {N : Nat → Prop} {m : List (Nat × Box)} {β : Nat → Value} : SRd w N m β (.tup []) undef := ⟨#[], rfl, trivial⟩

theorem wideN {n n' : Nat} (h : n ≤ n') : (fun b => b < n ∨ (n ≤ b ∧ b < n')) = (fun b => b < n') := by
  funext b; apply propext; omega

theorem opsW_ok {P : Program} {T : List (Nat × TI)} (hT : TabOk P T) {nt : Nat} {ops : Array Oper} {w0 : World} {X : Nat → Prop} {Z : Zt} {Q : Exit → Act → World → Prop} {os : List Oper} {l : List (Nat × SV)} {m : List (Nat × Box)} {n : Nat} {K : List (Nat × SV) → List (Nat × Box) → Nat → Prop}
    (h : opsW P T nt ops.toList os l m n K) {β : Nat → Value} {a : Act} {w : World} (hr : Rel w0 X Z nt (· < n) l m β a w)
    (hQ : ∀ l' m' n' β' a' w', K l' m' n' → Rel w0 X Z nt (· < n') l' m' β' a' w' → Q .normal a' w') : wpList P ops Q os a w := by
  induction os generalizing l m n β a w with
  | nil => exact hQ _ _ _ _ _ _ h hr
  | cons o os ih =>
    rw [opsW_cons] at h
    obtain ⟨l1, _, hr1, h1⟩ := hr.guard h
    refine wpList_step fun K' hK' => ?_
    rcases h1 with ⟨hw, h1⟩ | ⟨hw, h1⟩
    · rw [if_pos hw]
      obtain ⟨v, upd, n', ft, hn, hok, hk⟩ := opW_ok hT h1
      refine hok w0 X Z nt (· < n) β a w hr1 (fun b h1 _ h2 => by omega) K' Q fun u β' w' hr' hv hrf => ?_
      rw [wideN hn] at hr' hrf
      obtain ⟨l2, hk2, hr2⟩ := hr'.put? (SV.force_iff.1 hk) hrf hv
      exact hK' _ _ (ih (appK_iff.1 hk2) hr2)
    · rw [if_neg (by rw [hw]; simp)]
      obtain ⟨l2, hk2, hr2⟩ := hr1.put? h1 (fun t ht => by cases ht) srd_undef
      exact hK' _ _ (ih hk2 hr2)
end Eng
