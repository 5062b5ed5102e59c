/- Code, loops, functions. -/
import Derived.Test.YthdbdokhncaijaaGreatEngD5
import Derived.Test.YthdbdokhncaijaaGreatEngCX
namespace Eng
open Go Go.RowKit

/-- other names for a loop's state: 'ρ' lists (a name of the state, the name that it has now) -/
def rho : List (Nat × Nat) → Nat → Nat
  | [], b => b
  | (x, y) :: ρ, b => bif Nat.beq x b then y else rho ρ b
def leT (ρ : List (Nat × Nat)) (l : List (Nat × SV)) : List (Nat × SV) → Prop
  | [] => True
  | (i, v) :: s => lk l i = renS (rho ρ) v ∧ leT ρ l s
def leM (ρ : List (Nat × Nat)) (m : List (Nat × Box)) : List (Nat × Box) → Prop
  | [] => True
  | (b, x) :: s => lkb m (rho ρ b) = renB (rho ρ) x ∧ leM ρ m s
def injL (ρ : List (Nat × Nat)) : List (Nat × Box) → Bool
  | [] => true
  | (b, _) :: s => (s.all fun p => Nat.beq p.1 b || !Nat.beq (rho ρ p.1) (rho ρ b)) && injL ρ s
def idB (np : Nat) (ρ : List (Nat × Nat)) : Bool := ρ.all fun p => !Nat.blt p.1 np || Nat.beq p.1 p.2
/-- The state 's' tells no more than the state that is. -/
def le (np : Nat) (ρ : List (Nat × Nat)) (l : List (Nat × SV)) (m : List (Nat × Box)) (s : St) : Prop :=
  match s.ok && injL ρ s.mem && idB np ρ && Nat.ble np s.next with
  | true => leT ρ l s.tmps ∧ leM ρ m s.mem
  | false => False
/- what changes the tale and not the run -/
/-- the row 'b' is let go: whoever named it has its data -/
def frzC (b : Nat) (d : DV) : CV → CV
  | .row b' => bif Nat.beq b' b then .dv d else .row b'
  | .dv d => .dv d
  | .nil s => .nil s
  | .vptr b off => .vptr b off
  | .rptr b i off => .rptr b i off
  | .rsl b x => .rsl b x
  | .rpx b x => .rpx b x
  | .avw b k c => .avw b k c
  | .npt => .npt
  | .iptr c => .iptr c
  | .fn f caps => .fn f caps
  | .anyb p => .anyb p
  | .bot => .bot
def frzS (b : Nat) (d : DV) : SV → SV
  | .bot => .bot
  | .one c => .one (frzC b d c)
  | .agg cs => .agg (cs.map (frzC b d))
  | .tup ts => .tup (ts.map fun t => (t.1, t.2.map (frzC b d)))
def frzB (b : Nat) (d : DV) : Box → Box
  | .dead => .dead
  | .vars t cs => .vars t (cs.map (frzC b d))
  | .rows t sz rs => .rows t sz rs
  | .orow t sz rs last => .orow t sz rs (last.map (frzC b d))
  | .iter s pos => .iter s pos
  | .mp es => .mp es
def frzT (b : Nat) (d : DV) : List (Nat × SV) → List (Nat × SV)
  | [] => []
  | (i, v) :: l => (i, frzS b d v) :: frzT b d l
def frzM (b : Nat) (d : DV) : List (Nat × Box) → List (Nat × Box)
  | [] => []
  | (i, v) :: l => (i, frzB b d v) :: frzM b d l
inductive Gh where
  /-- a nil slice in a slot becomes a row of the call's own: slot, element type, its cells -/
  | own (i t sz : Nat)
  /-- a nil slice in a variable's cell: box, cell, element type, its cells -/
  | ownC (b k t sz : Nat)
  /-- a row is let go -/
  | frz (b : Nat)
  /-- a nil slice in a slot's cell is data that is known to be nil -/
  | nul (i k : Nat)
  /-- the last row is opened: its cells are a variable's -/
  | opn (b : Nat)
  /-- the last row is closed again -/
  | cls (b : Nat)
  /-- a nil slice in the open row becomes a row of the call's own: box, cell, element type, its cells -/
  | ownL (b k t sz : Nat)
  /-- a cell of the open row that is known to be nil is an empty slice: box, cell -/
  | wkn (b k : Nat)
  /-- the proof chooses the ghosts -/
  | ask
def ownB : List Gh → List (Nat × SV) → List (Nat × Box) → Nat → (List (Nat × SV) → List (Nat × Box) → Nat → Prop) → Prop
  | [], l, m, n, k => k l m n
  | .own i t sz :: ns, l, m, n, k => match lk l i with
    | .one (.nil _) => ownB ns ((i, .one (.row n)) :: l) ((n, .rows t sz []) :: m) (n + 1) k
    | _ => False
  | .ownC b c t sz :: ns, l, m, n, k => match lkb m b with
    | .vars tb cs => match cs[c]? with
      | some (.nil _) => ownB ns l ((b, .vars tb (cs.set c (.row n))) :: (n, .rows t sz []) :: m) (n + 1) k
      | _ => False
    | _ => False
  | .frz b :: ns, l, m, n, k => match lkb m b with
    | .rows _ sz rs => ownB ns (frzT b (.lst sz rs) l) ((b, .dead) :: frzM b (.lst sz rs) m) n k
    | _ => False
  | .nul i c :: ns, l, m, n, k => match lk l i with
    | .agg cs => match cs[c]? with
      | some (.nil sz) => ownB ns ((i, .agg (cs.set c (.dv (.nul sz)))) :: l) m n k
      | _ => False
    | _ => False
  | .opn b :: ns, l, m, n, k => match lkb m b with
    | .rows t sz rows => ∃ rs r, rows = rs ++ [r] ∧ ownB ns l ((b, .orow t sz rs (r.map .dv)) :: m) n k
    | _ => False
  | .cls b :: ns, l, m, n, k => match lkb m b with
    | .orow t sz rs last => toDp last fun r => ownB ns l ((b, .rows t sz (rs ++ [r])) :: m) n k
    | _ => False
  | .ownL b c t sz :: ns, l, m, n, k => match lkb m b with
    | .orow tb zb rs last => match last[c]? with
      | some (.dv (.nul _)) => ownB ns l ((b, .orow tb zb rs (last.set c (.row n))) :: (n, .rows t sz []) :: m) (n + 1) k
      | _ => False
    | _ => False
  | .wkn b c :: ns, l, m, n, k => match lkb m b with
    | .orow tb zb rs last => match last[c]? with
      | some (.dv (.nul sz)) => ownB ns l ((b, .orow tb zb rs (last.set c (.dv (.lst sz [])))) :: m) n k
      | _ => False
    | _ => False
  | .ask :: _, _, _, _, _ => False
/-- ghosts; 'ask' leaves the choice to the proof -/
def ownW : List Gh → List (Nat × SV) → List (Nat × Box) → Nat → (List (Nat × SV) → List (Nat × Box) → Nat → Prop) → Prop
  | [], l, m, n, k => k l m n
  | .ask :: ns, l, m, n, k => ∃ gs, ownB gs l m n fun l m n => ownW ns l m n k
  | g :: ns, l, m, n, k => ownB [g] l m n fun l m n => ownW ns l m n k
def lkg : List (Nat × List Gh) → Nat → List Gh
  | [], _ => []
  | (j, g) :: l, i => bif Nat.beq j i then g else lkg l i

abbrev KC := Exit → List (Nat × SV) → List (Nat × Box) → Nat → Prop

def loopW (np : Nat) (body : List (Nat × SV) → List (Nat × Box) → Nat → KC → Prop) (l : List (Nat × SV)) (m : List (Nat × Box)) (n : Nat) (K : KC) : Prop :=
  ∃ (β : Type) (S : β → St) (I : β → Prop) (μ : β → Nat) (ns : List Gh) (p0 : β) (ρ0 : List (Nat × Nat)), I p0 ∧ ownW ns l m n (fun l m _ => le np ρ0 l m (S p0)) ∧
    ∀ p, I p → body (S p).tmps (S p).mem (S p).next (fun e l' m' n' => match e with
      | .normal => ∃ p' ρ, I p' ∧ μ p' < μ p ∧ le np ρ l' m' (S p')
      | e => K e l' m' n')

/-- ghosts ahead of an operation: under 1000000 + its slot -/
def ghO (gh : List (Nat × List Gh)) (o : Oper) : List Gh := match o.dst with
  | some d => lkg gh (Nat.add 1000000 d)
  | none => []
def opsG (P : Program) (T : List (Nat × TI)) (nt : Nat) (gh : List (Nat × List Gh)) (all : List Oper) (os : List Oper) : List (Nat × SV) → List (Nat × Box) → Nat → (List (Nat × SV) → List (Nat × Box) → Nat → Prop) → Prop :=
  List.rec (motive := fun _ => List (Nat × SV) → List (Nat × Box) → Nat → (List (Nat × SV) → List (Nat × Box) → Nat → Prop) → Prop)
    (fun l m n K => K l m n)
    (fun o _ ih l m n K => ownW (ghO gh o) l m n fun l m n => guardW all o l
      (fun l => opX T P o l m n fun v upd n' _ => v.force fun v => putW nt o.dst v l fun l => appK upd m fun m => ih l m n' K)
      (fun l => putW nt o.dst (.tup []) l fun l => ih l m n K)) os
section
variable (P : Program) (T : List (Nat × TI)) (nt np : Nat) (gh : List (Nat × List Gh))
def codeW (c : Code) : List (Nat × SV) → List (Nat × Box) → Nat → KC → Prop :=
  Code.rec (motive := fun _ => List (Nat × SV) → List (Nat × Box) → Nat → KC → Prop)
    (fun l m n K => K .normal l m n)
    (fun id ops d l m n K => ownW (lkg gh id) l m n fun l m n => match d with
      | false => opsG P T nt gh ops.toList ops.toList l m n (K .normal)
      | true => drawW P T nt ops.toList ops.toList l m n [] (K .normal))
    (fun _ _ iha ihb l m n K => iha l m n fun e l m n => match e with
      | .normal => ihb l m n K
      | e => K e l m n)
    (fun c _ _ ihx ihy l m n K => match ev l c with
      | .one (.dv (.bool c)) => askF c fun
        | true => ihx l m n K
        | false => ihy l m n K
      | .one (.anyb p) => (p → ihx l m n K) ∧ ihy l m n K
      | _ => False)
    (fun id _ ih l m n K => ih l m n fun e l m n => match e with
      | .exit id' => match Nat.beq id' id with
        | true => K .normal l m n
        | false => K (.exit id') l m n
      | e => K e l m n)
    (fun _ ih l m n K => loopW np ih l m n K)
    (fun _ _ _ _ _ _ _ _ _ _ => False)
    (fun id l m n K => K (.exit id) l m n)
    (fun _ _ _ _ _ _ => False)
    (fun _ _ _ _ _ => False)
    (fun _ _ _ _ _ => False)
    (fun l m n K => K .ret l m n)
    (fun _ _ _ _ _ => False) c
end

/-- every region that draws its order is in order -/
def lexC : Code → Bool
  | .region _ ops d => !d || lexS ops.toList
  | .seq a b => lexC a && lexC b
  | .cond _ x y => lexC x && lexC y
  | .block _ c => lexC c
  | .loop c => lexC c
  | _ => true

theorem rho_ok {ρ : List (Nat × Nat)} {l : List (Nat × SV)} {s : List (Nat × SV)} (h : leT ρ l s) (i : Nat) : lk s i = .bot ∨ lk l i = renS (rho ρ) (lk s i) := by
  induction s with
  | nil => exact .inl rfl
  | cons p s ih =>
    obtain ⟨j, v⟩ := p
    rw [lk_cons]; split
    · rename_i e; subst e; exact .inr h.1
    · exact ih h.2
theorem leM_ok {ρ : List (Nat × Nat)} {m : List (Nat × Box)} {s : List (Nat × Box)} (h : leM ρ m s) (b : Nat) : lkb s b = .dead ∨ (lkb m (rho ρ b) = renB (rho ρ) (lkb s b) ∧ ∃ x, (b, x) ∈ s) := by
  induction s with
  | nil => exact .inl rfl
  | cons p s ih =>
    obtain ⟨j, v⟩ := p
    rw [lkb_cons]; split
    · rename_i e; subst e; exact .inr ⟨h.1, v, by simp⟩
    · rcases ih h.2 with h | ⟨h1, x, hx⟩
      · exact .inl h
      · exact .inr ⟨h1, x, by simp [hx]⟩
theorem injL_ok {ρ : List (Nat × Nat)} {s : List (Nat × Box)} (h : injL ρ s = true) {b b' : Nat} {x x' : Box} (hb : (b, x) ∈ s) (hb' : (b', x') ∈ s) (e : rho ρ b = rho ρ b') : b = b' := by
  induction s with
  | nil => cases hb
  | cons p s ih =>
    obtain ⟨j, y⟩ := p
    simp only [injL, Bool.and_eq_true] at h
    have key : ∀ {c : Nat} {z : Box}, (c, z) ∈ s → rho ρ c = rho ρ j → c = j := by
      intro c z hc e
      have := List.all_eq_true.1 h.1 _ hc
      rw [Bool.or_eq_true] at this
      rcases this with h | h
      · exact Nat.eq_of_beq_eq_true h
      · rw [e] at h; simp at h
    rcases List.mem_cons.1 hb with e1 | hb <;> rcases List.mem_cons.1 hb' with e2 | hb'
    · simp only [Prod.mk.injEq] at e1 e2; rw [e1.1, e2.1]
    · simp only [Prod.mk.injEq] at e1; rw [e1.1] at e ⊢; exact (key hb' e.symm).symm
    · simp only [Prod.mk.injEq] at e2; rw [e2.1] at e ⊢; exact key hb e
    · exact ih h.2 hb hb'

theorem idB_ok {np : Nat} {ρ : List (Nat × Nat)} (hid : idB np ρ = true) {b : Nat} (hb : b < np) : rho ρ b = b := by
  induction ρ with
  | nil => rfl
  | cons p ρ ih =>
    obtain ⟨x, y⟩ := p
    simp only [idB, List.all_cons, Bool.and_eq_true] at hid
    simp only [rho]
    rcases hxb : Nat.beq x b with _ | _
    · exact ih hid.2
    · have e := Nat.eq_of_beq_eq_true hxb
      subst e
      have h1 := hid.1
      rw [blt_iff.2 hb] at h1
      simp at h1
      exact h1.symm
theorem Rel.le {w0 : World} {X : Nat → Prop} {Z : Zt} {nt : Nat} {A : Nat → Prop} {l : List (Nat × SV)} {m : List (Nat × Box)} {β : Nat → Value} {a : Act} {w : World} (h : Rel w0 X Z nt A l m β a w) {ρ : List (Nat × Nat)} {s : St} (hle : Eng.le Z.np ρ l m s) :
    ∃ β', Rel w0 X Z nt (· < s.next) s.tmps s.mem β' a w := by
  unfold Eng.le at hle
  split at hle
  · rename_i hok
    rw [Bool.and_eq_true, Bool.and_eq_true, Bool.and_eq_true] at hok
    obtain ⟨⟨⟨hok, hinj⟩, hid⟩, hnp⟩ := hok
    have hnp := Nat.le_of_ble_eq_true hnp
    have hrid : ∀ b, b < Z.np → rho ρ b = b := fun b hb => idB_ok hid hb
    unfold St.ok at hok
    rw [Bool.and_eq_true] at hok
    obtain ⟨hT, hM⟩ := hle
    have hlive : ∀ b, lkb s.mem b ≠ .dead → lkb m (rho ρ b) = renB (rho ρ) (lkb s.mem b) ∧ ∃ x, (b, x) ∈ s.mem := fun b hb => (leM_ok hM b).resolve_left hb
    have L : Link (fun b => lkb s.mem b ≠ .dead) (rho ρ) s.mem (fun b => β (rho ρ b)) m β := ⟨fun b hb => (hlive b hb).1, fun b _ _ => rfl⟩
    have hN : ∀ g, Imm Z.p m β w g → Imm Z.p s.mem (fun b => β (rho ρ b)) w g := fun g hg => ⟨hg.1, fun b hb => hg.2.1 (rho ρ b) (by rw [(hlive b hb).1]; exact renB_dead.2 hb), hg.2.2⟩
    -- a name that is no box's says nothing
    have hC : ∀ {c : CV} {v : Value}, CRd w (Imm Z.p m β w) m β (renC (rho ρ) c) v → CRd w (Imm Z.p s.mem (fun b => β (rho ρ b)) w) s.mem (fun b => β (rho ρ b)) c v := by
      intro c v hc
      cases c with
      | vptr b off =>
        by_cases hb : lkb s.mem b = .dead
        · exact ⟨hc.1, fun h => absurd hb h⟩
        · exact L.back (c := .vptr b off) hb hN hc
      | avw b x y =>
        by_cases hb : lkb s.mem b = .dead
        · exact ⟨hc.1, fun h => absurd hb h⟩
        · exact L.back (c := .avw b x y) hb hN hc
      | row b =>
        by_cases hb : lkb s.mem b = .dead
        · exact ⟨hc.1, fun h => absurd hb h⟩
        · exact L.back (c := .row b) hb hN hc
      | rptr b i off =>
        by_cases hb : lkb s.mem b = .dead
        · exact ⟨hc.1, fun sz h => by rw [hb] at h; cases h⟩
        · exact L.back (c := .rptr b i off) hb hN hc
      | rsl b x =>
        by_cases hb : lkb s.mem b = .dead
        · exact ⟨hc.1, fun sz h => by rw [hb] at h; cases h⟩
        · exact L.back (c := .rsl b x) hb hN hc
      | rpx b x =>
        by_cases hb : lkb s.mem b = .dead
        · exact ⟨hc.1, fun sz h => by rw [hb] at h; cases h⟩
        · exact L.back (c := .rpx b x) hb hN hc
      | npt => exact hc
      | fn f caps =>
        obtain ⟨vs, e, hc⟩ := hc
        refine ⟨vs, e, hc.of_map.mono fun p hp u hu => ⟨hu.1, fun hl => ?_⟩⟩
        obtain ⟨g, e1, e2⟩ := hu.2 (by rw [(hlive p.1 hl).1]; exact renB_dead.2 hl)
        exact ⟨g, e1, e2⟩
      | anyb p => exact hc
      | bot => exact hc
      | nil => exact hc
      | dv d => exact DRd.mono hN (fun _ _ => rfl) hc
      | iptr ds =>
        obtain ⟨ad, e, hb, hc⟩ := hc
        refine ⟨ad, e, hN _ hb, fun j d hj => ?_⟩
        obtain ⟨u, h1, h2⟩ := hc j d hj
        exact ⟨u, h1, h2.mono hN fun _ _ => rfl⟩
    have hCs : ∀ {cs : List CV} {vs : List Value}, All2 (CRd w (Imm Z.p m β w) m β) (cs.map (renC (rho ρ))) vs → All2 (CRd w (Imm Z.p s.mem (fun b => β (rho ρ b)) w) s.mem (fun b => β (rho ρ b))) cs vs := fun h => h.of_map.mono fun c _ _ hv => hC hv
    have hS : ∀ {c : SV} {v : Value}, SRd w (Imm Z.p m β w) m β (renS (rho ρ) c) v → SRd w (Imm Z.p s.mem (fun b => β (rho ρ b)) w) s.mem (fun b => β (rho ρ b)) c v := by
      intro c v hc
      cases c with
      | bot => trivial
      | one c => exact hC hc
      | agg cs =>
        obtain ⟨vs, e, hc⟩ := hc
        exact ⟨vs, e, hCs hc⟩
      | tup ts =>
        obtain ⟨vs, e, hc⟩ := hc
        refine ⟨vs, e, hc.of_map.mono fun t ht u hu => ?_⟩
        obtain ⟨b, cs⟩ := t
        cases b
        · obtain ⟨c, e1, e2⟩ := hu
          simp only at e1 e2
          match cs, e1 with
          | [c'], e1 =>
            simp only [List.map_cons, List.map_nil, List.cons.injEq, and_true] at e1
            subst e1
            exact ⟨c', rfl, hC e2⟩
        · obtain ⟨us, e1, e2⟩ := hu
          exact ⟨us, e1, hCs e2⟩
    refine ⟨fun b => β (rho ρ b), h.size, h.defers, okT_spec hok.1, okM_spec hok.2, fun i => ?_, fun b => ?_, fun b b' g hb hb' hg hg' => ?_, fun b g hb hg => h.own _ g (by rw [(hlive b hb).1]; exact renB_dead.2 hb) hg, h.ext, h.new, fun b hb => ⟨by omega, fun hd => ?_⟩, fun b g hb hg => h.rown (rho ρ b) g (by rw [(hlive b hb).1]; exact renB_dead.2 hb) hg⟩
    · rcases rho_ok hT i with e | e
      · rw [e]; trivial
      · have := h.slots i
        rw [e] at this
        exact hS this
    · by_cases hb : lkb s.mem b = .dead
      · rw [hb]; trivial
      · have h1 := h.boxes (rho ρ b)
        rw [(hlive b hb).1] at h1
        cases hx : lkb s.mem b with
        | dead => trivial
        | vars t cs =>
          rw [hx] at h1
          obtain ⟨g, arr, e, hg, ha⟩ := h1
          exact ⟨g, arr, e, hg, hCs ha⟩
        | rows t sz rs =>
          rw [hx] at h1
          obtain ⟨xs, ho, hl, ha⟩ := h1
          exact ⟨xs, ho, hl, ha.mono fun d _ v hv => hv.mono hN fun _ _ => rfl⟩
        | orow t sz rs last =>
          rw [hx] at h1
          obtain ⟨xs, ys, ho, hl, hll, ha, hla⟩ := h1
          exact ⟨xs, ys, ho, hl, by rw [List.length_map] at hll; exact hll, ha.mono fun d _ v hv => hv.mono hN fun _ _ => rfl, hCs hla⟩
        | iter s pos => rw [hx] at h1; exact h1
        | mp es =>
          rw [hx] at h1
          obtain ⟨g, arr, clock, e, hg, ha⟩ := h1
          exact ⟨g, arr, clock, e, hg, ha.mono fun e _ x hx => ⟨hx.1.mono hN fun _ _ => rfl, hx.2.mono hN fun _ _ => rfl⟩⟩
    · obtain ⟨e1, x, hx⟩ := hlive b hb
      obtain ⟨e2, x', hx'⟩ := hlive b' hb'
      exact injL_ok hinj hx hx' (h.inj _ _ g (by rw [e1]; exact renB_dead.2 hb) (by rw [e2]; exact renB_dead.2 hb') hg hg')
    · simp only [hrid b hb]
      refine (h.pin b hb).2 ?_
      have := (hlive b hd).1
      rw [hrid b hb] at this
      rw [this]; exact renB_dead.2 hd
  · exact hle.elim

theorem Rel.ownNil {w0 : World} {X : Nat → Prop} {Z : Zt} {nt : Nat} {l : List (Nat × SV)} {m : List (Nat × Box)} {n : Nat} {β : Nat → Value} {a : Act} {w : World} (h : Rel w0 X Z nt (· < n) l m β a w) {i t sz s : Nat} (hi : lk l i = .one (.nil s)) :
    ∃ β', Rel w0 X Z nt (· < n + 1) ((i, .one (.row n)) :: l) ((n, .rows t sz []) :: m) β' a w := by
  have h1 := h.newBox (b := n) (x := .rows t sz []) (v := .slice none 0 0) (w' := w) (by omega) trivial (fun g hg => by simp [blk] at hg) (fun _ _ => rfl) (Nat.le_refl _) rfl rfl rfl
    (fun K => ⟨[], ⟨by simp, .inl ⟨rfl, rfl⟩⟩, by simp, trivial⟩)
  have hA : (fun k => k < n ∨ k = n) = (· < n + 1) := by funext k; apply propext; omega
  rw [hA] at h1
  refine ⟨_, h1.1.size, h1.1.defers, fun j => ?_, h1.1.refb, fun j => ?_, h1.1.boxes, h1.1.inj, h1.1.own, h1.1.ext, h1.1.new, h1.1.pin, h1.1.rown⟩
  · rw [lk_cons]; split
    · exact Nat.lt_succ_self _
    · exact h1.1.refs j
  · rw [lk_cons]; split
    · rename_i e; subst e
      have := h.slots i
      rw [hi] at this
      simp only [SRd, CRd] at this ⊢
      rw [this]
      exact ⟨rfl, fun _ => by simp⟩
    · exact h1.1.slots j
theorem lk_frzT {b : Nat} {d : DV} {l : List (Nat × SV)} (i : Nat) : lk (frzT b d l) i = frzS b d (lk l i) := by
  induction l with
  | nil => rfl
  | cons p l ih =>
    obtain ⟨j, v⟩ := p
    simp only [frzT]
    rw [lk_cons, lk_cons]; split
    · rfl
    · exact ih
theorem lkb_frzM {b : Nat} {d : DV} {m : List (Nat × Box)} (i : Nat) : lkb (frzM b d m) i = frzB b d (lkb m i) := by
  induction m with
  | nil => rfl
  | cons p m ih =>
    obtain ⟨j, v⟩ := p
    simp only [frzM]
    rw [lkb_cons, lkb_cons]; split
    · rfl
    · exact ih
theorem frzB_dead {b : Nat} {d : DV} {x : Box} : frzB b d x ≠ .dead ↔ x ≠ .dead := by cases x <;> simp [frzB]
theorem RefC_frz {A : Nat → Prop} {b : Nat} {d : DV} {c : CV} (h : RefC A c) : RefC A (frzC b d c) := by
  cases c with
  | row b' =>
    simp only [frzC]
    cases Nat.beq b' b
    · exact h
    · trivial
  | _ => exact h
theorem RefCs_frz {A : Nat → Prop} {b : Nat} {d : DV} {cs : List CV} (h : RefCs A cs) : RefCs A (cs.map (frzC b d)) := by
  intro c hc
  obtain ⟨q, hq, rfl⟩ := List.mem_map.1 hc
  exact RefC_frz (h q hq)
theorem RefS_frz {A : Nat → Prop} {b : Nat} {d : DV} {v : SV} (h : RefS A v) : RefS A (frzS b d v) := by
  cases v with
  | bot => trivial
  | one c => exact RefC_frz h
  | agg cs => exact RefCs_frz h
  | tup ts =>
    intro t ht
    obtain ⟨q, hq, rfl⟩ := List.mem_map.1 ht
    exact RefCs_frz (h q hq)
theorem RefB_frz {A : Nat → Prop} {b : Nat} {d : DV} {x : Box} (h : RefB A x) : RefB A (frzB b d x) := by
  cases x with
  | vars t cs => exact RefCs_frz h
  | orow t sz rs last => exact RefCs_frz h
  | _ => trivial
theorem rowSz_frz {b : Nat} {d : DV} {x : Box} : rowSz (frzB b d x) = rowSz x := by cases x <;> rfl
theorem Rel.freeze {w0 : World} {X : Nat → Prop} {Z : Zt} {nt : Nat} {A : Nat → Prop} {l : List (Nat × SV)} {m : List (Nat × Box)} {β : Nat → Value} {a : Act} {w : World} (h : Rel w0 X Z nt A l m β a w) {b t sz : Nat} {rs : List (List DV)} (hb : lkb m b = .rows t sz rs) :
    Rel w0 X Z nt A (frzT b (.lst sz rs) l) ((b, .dead) :: frzM b (.lst sz rs) m) β a w := by
  have hlk : ∀ i, lkb ((b, .dead) :: frzM b (.lst sz rs) m) i = if b = i then .dead else frzB b (.lst sz rs) (lkb m i) := fun i => by rw [lkb_cons, lkb_frzM]
  have hlive : ∀ i, lkb ((b, .dead) :: frzM b (.lst sz rs) m) i ≠ .dead → b ≠ i ∧ lkb m i ≠ .dead := fun i hi => by
    rw [hlk] at hi
    split at hi
    · exact absurd rfl hi
    · rename_i hne; exact ⟨hne, frzB_dead.1 hi⟩
  have hrow : ∀ i sz', rowSz (lkb ((b, .dead) :: frzM b (.lst sz rs) m) i) = some sz' → rowSz (lkb m i) = some sz' := fun i sz' hi => by
    rw [hlk] at hi
    split at hi
    · cases hi
    · rwa [rowSz_frz] at hi
  have hN : ∀ g, Imm Z.p m β w g → Imm Z.p ((b, .dead) :: frzM b (.lst sz rs) m) β w g := fun g hg => ⟨hg.1, fun i hi => hg.2.1 i (hlive i hi).2, hg.2.2⟩
  have hNb : ∀ g, blk (β b) = some g → Imm Z.p ((b, .dead) :: frzM b (.lst sz rs) m) β w g := fun g hg => by
    have hbl : lkb m b ≠ .dead := by rw [hb]; simp
    refine ⟨(h.boxes b).lt hbl hg, fun i hi hgi => ?_, h.rown b g hbl hg⟩
    obtain ⟨hne, hl⟩ := hlive i hi
    exact hne (h.inj b i g hbl hl hg hgi)
  have hd : DRd w (Imm Z.p ((b, .dead) :: frzM b (.lst sz rs) m) β w) (.lst sz rs) (β b) := by
    have := h.boxes b
    rw [hb] at this
    exact rows_read this hN hNb
  have hC : ∀ {c : CV} {v : Value}, CRd w (Imm Z.p m β w) m β c v → CRd w (Imm Z.p ((b, .dead) :: frzM b (.lst sz rs) m) β w) ((b, .dead) :: frzM b (.lst sz rs) m) β (frzC b (.lst sz rs) c) v := by
    intro c v hc
    cases c with
    | row b' =>
      simp only [frzC]
      rcases hbb : Nat.beq b' b with _ | _
      · exact ⟨hc.1, fun hl => hc.2 (hlive b' hl).2⟩
      · have e := Nat.eq_of_beq_eq_true hbb
        subst e
        have := hc.2 (by rw [hb]; simp)
        rw [this]; exact hd
    | vptr b' off => exact ⟨hc.1, fun hl => hc.2 (hlive b' hl).2⟩
    | avw b' x y => exact ⟨hc.1, fun hl => hc.2 (hlive b' hl).2⟩
    | rptr b' i off => exact ⟨hc.1, fun sz' hl => hc.2 sz' (hrow b' _ hl)⟩
    | rsl b' x => exact ⟨hc.1, fun sz' hl => hc.2 sz' (hrow b' _ hl)⟩
    | rpx b' x => exact ⟨hc.1, fun sz' hl => hc.2 sz' (hrow b' _ hl)⟩
    | npt => exact hc
    | fn f caps =>
      obtain ⟨vs, e, hall⟩ := hc
      exact ⟨vs, e, hall.mono fun p _ u hu => ⟨hu.1, fun hl => hu.2 (hlive p.1 hl).2⟩⟩
    | dv d => exact DRd.mono hN (fun _ _ => rfl) hc
    | iptr ds =>
      obtain ⟨ad, e, hb', hall⟩ := hc
      refine ⟨ad, e, hN _ hb', fun j d hj => ?_⟩
      obtain ⟨u, h1, h2⟩ := hall j d hj
      exact ⟨u, h1, h2.mono hN fun _ _ => rfl⟩
    | bot => exact hc
    | nil => exact hc
    | anyb p => exact hc
  have hCs : ∀ {cs : List CV} {vs : List Value}, All2 (CRd w (Imm Z.p m β w) m β) cs vs → All2 (CRd w (Imm Z.p ((b, .dead) :: frzM b (.lst sz rs) m) β w) ((b, .dead) :: frzM b (.lst sz rs) m) β) (cs.map (frzC b (.lst sz rs))) vs := fun h => All2.map_left (h.mono fun _ _ _ hv => hC hv)
  refine ⟨h.size, h.defers, fun i => by rw [lk_frzT]; exact RefS_frz (h.refs i), fun i => ?_, fun i => ?_, fun i => ?_, fun i i' g hi hi' hg hg' => h.inj i i' g (hlive i hi).2 (hlive i' hi').2 hg hg', fun i g hi hg => h.own i g (hlive i hi).2 hg, h.ext, h.new, fun i hi => ⟨(h.pin i hi).1, fun hd => (h.pin i hi).2 (hlive i hd).2⟩, fun i g hi hg => h.rown i g (hlive i hi).2 hg⟩
  · rw [hlk]; split
    · exact ⟨trivial, fun h => absurd rfl h⟩
    · exact ⟨RefB_frz (h.refb i).1, fun hd => (h.refb i).2 (frzB_dead.1 hd)⟩
  · rw [lk_frzT]
    have hs := h.slots i
    cases hv : lk l i with
    | bot => trivial
    | one c => rw [hv] at hs; exact hC hs
    | agg cs =>
      rw [hv] at hs
      obtain ⟨vs, e, hs⟩ := hs
      exact ⟨vs, e, hCs hs⟩
    | tup ts =>
      rw [hv] at hs
      obtain ⟨vs, e, hs⟩ := hs
      refine ⟨vs, e, All2.map_left (hs.mono fun t _ u hu => ?_)⟩
      obtain ⟨q, cs⟩ := t
      cases q
      · obtain ⟨c, e1, e2⟩ := hu
        simp only at e1 e2
        subst e1
        exact ⟨_, rfl, hC e2⟩
      · obtain ⟨us, e1, e2⟩ := hu
        exact ⟨us, e1, hCs e2⟩
  · rw [hlk]; split
    · trivial
    · have hx := h.boxes i
      cases hv : lkb m i with
      | dead => trivial
      | vars t' cs =>
        rw [hv] at hx
        obtain ⟨g, arr, e, hg, ha⟩ := hx
        exact ⟨g, arr, e, hg, hCs ha⟩
      | rows t' sz' rs' =>
        rw [hv] at hx
        obtain ⟨xs, ho, hl, ha⟩ := hx
        exact ⟨xs, ho, hl, ha.mono fun d _ v hv => hv.mono hN fun _ _ => rfl⟩
      | orow t' sz' rs' last =>
        rw [hv] at hx
        obtain ⟨xs, ys, ho, hl, hll, ha, hla⟩ := hx
        exact ⟨xs, ys, ho, hl, by rw [List.length_map]; exact hll, ha.mono fun d _ v hv => hv.mono hN fun _ _ => rfl, hCs hla⟩
      | iter s pos => rw [hv] at hx; exact hx
      | mp es =>
        rw [hv] at hx
        obtain ⟨g, arr, clock, e, hg, ha⟩ := hx
        exact ⟨g, arr, clock, e, hg, ha.mono fun e _ x hx => ⟨hx.1.mono hN fun _ _ => rfl, hx.2.mono hN fun _ _ => rfl⟩⟩
theorem All2.set {α β : Type} {R : α → β → Prop} {l : List α} {r : List β} (h : All2 R l r) {k : Nat} {a : α} (ha : ∀ b, r[k]? = some b → R a b) : All2 R (l.set k a) r := by
  induction l generalizing r k with
  | nil => exact h
  | cons x l ih => cases r with
    | nil => exact h.elim
    | cons y r => cases k with
      | zero => exact ⟨ha y rfl, h.2⟩
      | succ k => exact ⟨h.1, ih h.2 fun b hb => ha b (by simpa using hb)⟩
theorem Rel.ownCell {w0 : World} {X : Nat → Prop} {Z : Zt} {nt : Nat} {l : List (Nat × SV)} {m : List (Nat × Box)} {n : Nat} {β : Nat → Value} {a : Act} {w : World} (h : Rel w0 X Z nt (· < n) l m β a w) {b k t sz s tb : Nat} {cs : List CV} (hb : lkb m b = .vars tb cs) (hk : cs[k]? = some (.nil s)) :
    ∃ β', Rel w0 X Z nt (· < n + 1) l ((b, .vars tb (cs.set k (.row n))) :: (n, .rows t sz []) :: m) β' a w := by
  have h1 := h.newBox (b := n) (x := .rows t sz []) (v := .slice none 0 0) (w' := w) (by omega) trivial (fun g hg => by simp [blk] at hg) (fun _ _ => rfl) (Nat.le_refl _) rfl rfl rfl
    (fun K => ⟨[], ⟨by simp, .inl ⟨rfl, rfl⟩⟩, by simp, trivial⟩)
  have hA : (fun k => k < n ∨ k = n) = (· < n + 1) := by funext k; apply propext; omega
  rw [hA] at h1
  have hbn : b < n := (h.refb b).2 (by rw [hb]; simp)
  have hbm : lkb ((n, .rows t sz []) :: m) b = .vars tb cs := by rw [lkb_cons, if_neg (by omega)]; exact hb
  have hbx := h1.1.boxes b
  rw [hbm] at hbx
  obtain ⟨g, arr, e1, hg, hall⟩ := hbx
  have href := (h1.1.refb b).1
  rw [hbm] at href
  refine ⟨_, h1.1.setBox (b := b) (g := g) (x := .vars tb (cs.set k (.row n))) (by rw [hbm]; simp) (by simp) (by rw [e1]; rfl) (fun c hc => ?_) (fun _ e => by cases e) (fun _ _ => rfl) rfl rfl rfl rfl (fun K => ⟨g, arr, e1, hg, ?_⟩)⟩
  · rcases List.mem_or_eq_of_mem_set hc with hc | rfl
    · exact href c hc
    · exact Nat.lt_succ_self _
  · refine (K.cs (fun c hc => href c hc) hall).set fun u hu => ?_
    obtain ⟨u', hu', hru⟩ := hall.get hk
    rw [hu] at hu'; injection hu' with hu'; subst hu'
    simp only [CRd] at hru
    subst hru
    exact ⟨rfl, fun _ => by simp⟩
theorem Rel.nulCell {w0 : World} {X : Nat → Prop} {Z : Zt} {nt : Nat} {A : Nat → Prop} {l : List (Nat × SV)} {m : List (Nat × Box)} {β : Nat → Value} {a : Act} {w : World} (h : Rel w0 X Z nt A l m β a w) {i c sz : Nat} {cs : List CV} (hi : lk l i = .agg cs) (hc : cs[c]? = some (.nil sz)) :
    Rel w0 X Z nt A ((i, .agg (cs.set c (.dv (.nul sz)))) :: l) m β a w := by
  have hrf := h.refs i
  rw [hi] at hrf
  have hsl := h.slots i
  rw [hi] at hsl
  obtain ⟨vs, e, hall⟩ := hsl
  refine ⟨h.size, h.defers, fun j => ?_, h.refb, fun j => ?_, h.boxes, h.inj, h.own, h.ext, h.new, h.pin, h.rown⟩
  · rw [lk_cons]; split
    · intro x hx
      rcases List.mem_or_eq_of_mem_set hx with hx | rfl
      · exact hrf x hx
      · trivial
    · exact h.refs j
  · rw [lk_cons]; split
    · rename_i ej; subst ej
      refine ⟨vs, e, hall.set fun u hu => ?_⟩
      obtain ⟨u', hu', hru⟩ := hall.get hc
      rw [hu] at hu'; injection hu' with hu'; subst hu'
      simp only [CRd] at hru
      subst hru
      exact DRd.nul sz
    · exact h.slots j
theorem own_blk {w : World} {t sz : Nat} {v : Value} {k : Nat} {xs : List Value} (h : w.ownsRow 0 t sz v (k + 1) xs) : ∃ g, blk v = some g := by
  rcases h.2 with ⟨_, h0⟩ | ⟨g, cap, cur, e, _⟩
  · omega
  · exact ⟨g, by rw [e]; rfl⟩
theorem Rel.openLast {w0 : World} {X : Nat → Prop} {Z : Zt} {nt : Nat} {A : Nat → Prop} {l : List (Nat × SV)} {m : List (Nat × Box)} {β : Nat → Value} {a : Act} {w : World} (h : Rel w0 X Z nt A l m β a w) {b t sz : Nat} {rs : List (List DV)} {r : List DV} (hb : lkb m b = .rows t sz (rs ++ [r])) :
    Rel w0 X Z nt A l ((b, .orow t sz rs (r.map .dv)) :: m) β a w := by
  have hx := h.boxes b
  rw [hb] at hx
  obtain ⟨xs, ho, hl, ha⟩ := hx
  rw [List.length_append] at ho
  obtain ⟨g, hg⟩ := own_blk ho
  have hlr : r.length = sz := hl r (by simp)
  have hlf : rs.flatten.length = rs.length * sz := flatten_len fun r' hr' => hl r' (by simp [hr'])
  have hxl : xs.length = rs.length * sz + sz := by rw [← ha.length, List.flatten_append, List.length_append, hlf]; simp [hlr]
  refine h.setBox (b := b) (g := g) (by rw [hb]; simp) (by simp) hg (fun c hc => by obtain ⟨d, _, rfl⟩ := List.mem_map.1 hc; trivial) (fun sz' e => by rw [hb]; exact e) (fun _ _ => rfl) rfl rfl rfl rfl (fun K => ?_)
  have ha' := ha.mono (R' := DRd _ _) fun d _ v hv => K.d hv
  refine ⟨xs.take (rs.length * sz), xs.drop (rs.length * sz), by rw [List.take_append_drop]; exact ho, fun r' hr' => hl r' (by simp [hr']), by rw [List.length_map]; exact hlr, ?_, ?_⟩
  · have := ha'.take (rs.length * sz)
    rw [List.flatten_append, ← hlf, List.take_left, hlf] at this
    exact this
  · have := ha'.drop (rs.length * sz)
    rw [List.flatten_append, ← hlf, List.drop_left, hlf] at this
    simp only [List.flatten_cons, List.flatten_nil, List.append_nil] at this
    exact All2.map_left this
theorem Rel.closeLast {w0 : World} {X : Nat → Prop} {Z : Zt} {nt : Nat} {A : Nat → Prop} {l : List (Nat × SV)} {m : List (Nat × Box)} {β : Nat → Value} {a : Act} {w : World} (h : Rel w0 X Z nt A l m β a w) {b t sz : Nat} {rs : List (List DV)} {last : List CV} {r : List DV} (hb : lkb m b = .orow t sz rs last)
    (hr : r.length = last.length) (hd : ∀ (w : World) (N : Nat → Prop) (β : Nat → Value) (vs : List Value), All2 (CRd w N m β) last vs → All2 (DRd w N) r vs) :
    Rel w0 X Z nt A l ((b, .rows t sz (rs ++ [r])) :: m) β a w := by
  have hx := h.boxes b
  rw [hb] at hx
  obtain ⟨xs, ys, ho, hl, hll, ha, hla⟩ := hx
  obtain ⟨g, hg⟩ := own_blk ho
  refine h.setBox (b := b) (g := g) (by rw [hb]; simp) (by simp) hg trivial (fun sz' e => by rw [hb]; exact e) (fun _ _ => rfl) rfl rfl rfl rfl (fun K => ?_)
  refine ⟨xs ++ ys, by rw [List.length_append]; exact ho, fun r' hr' => ?_, ?_⟩
  · rcases List.mem_append.1 hr' with hr' | hr'
    · exact hl r' hr'
    · simp only [List.mem_singleton] at hr'; subst hr'; omega
  · rw [List.flatten_append]
    refine (ha.mono fun d _ v hv => K.d hv).append ?_
    simp only [List.flatten_cons, List.flatten_nil, List.append_nil]
    exact (hd _ _ _ _ hla).mono fun d _ v hv => K.d hv
theorem Rel.ownLast {w0 : World} {X : Nat → Prop} {Z : Zt} {nt : Nat} {l : List (Nat × SV)} {m : List (Nat × Box)} {n : Nat} {β : Nat → Value} {a : Act} {w : World} (h : Rel w0 X Z nt (· < n) l m β a w) {b k t sz s tb zb : Nat} {rs : List (List DV)} {last : List CV} (hb : lkb m b = .orow tb zb rs last) (hk : last[k]? = some (.dv (.nul s))) :
    ∃ β', Rel w0 X Z nt (· < n + 1) l ((b, .orow tb zb rs (last.set k (.row n))) :: (n, .rows t sz []) :: m) β' a w := by
  have h1 := h.newBox (b := n) (x := .rows t sz []) (v := .slice none 0 0) (w' := w) (by omega) trivial (fun g hg => by simp [blk] at hg) (fun _ _ => rfl) (Nat.le_refl _) rfl rfl rfl
    (fun K => ⟨[], ⟨by simp, .inl ⟨rfl, rfl⟩⟩, by simp, trivial⟩)
  have hA : (fun k => k < n ∨ k = n) = (· < n + 1) := by funext k; apply propext; omega
  rw [hA] at h1
  have hbn : b < n := (h.refb b).2 (by rw [hb]; simp)
  have hbm : lkb ((n, .rows t sz []) :: m) b = .orow tb zb rs last := by rw [lkb_cons, if_neg (by omega)]; exact hb
  have hbx := h1.1.boxes b
  rw [hbm] at hbx
  obtain ⟨xs, ys, ho, hl, hll, ha, hla⟩ := hbx
  obtain ⟨g, hg⟩ := own_blk ho
  have href := (h1.1.refb b).1
  rw [hbm] at href
  refine ⟨_, h1.1.setBox (b := b) (g := g) (x := .orow tb zb rs (last.set k (.row n))) (by rw [hbm]; simp) (by simp) hg (fun c hc => ?_) (fun sz' e => by rw [hbm]; exact e) (fun _ _ => rfl) rfl rfl rfl rfl (fun K => ⟨xs, ys, ho, hl, by rw [List.length_set]; exact hll, ha.mono fun d _ v hv => K.d hv, ?_⟩)⟩
  · rcases List.mem_or_eq_of_mem_set hc with hc | rfl
    · exact href c hc
    · exact Nat.lt_succ_self _
  · refine (K.cs (fun c hc => href c hc) hla).set fun u hu => ?_
    obtain ⟨u', hu', hru⟩ := hla.get hk
    rw [hu] at hu'; injection hu' with hu'; subst hu'
    cases hru
    exact ⟨rfl, fun _ => by simp⟩
theorem Rel.weakLast {w0 : World} {X : Nat → Prop} {Z : Zt} {nt : Nat} {A : Nat → Prop} {l : List (Nat × SV)} {m : List (Nat × Box)} {β : Nat → Value} {a : Act} {w : World} (h : Rel w0 X Z nt A l m β a w) {b k s tb zb : Nat} {rs : List (List DV)} {last : List CV} (hb : lkb m b = .orow tb zb rs last) (hk : last[k]? = some (.dv (.nul s))) :
    Rel w0 X Z nt A l ((b, .orow tb zb rs (last.set k (.dv (.lst s [])))) :: m) β a w := by
  have hbx := h.boxes b
  rw [hb] at hbx
  obtain ⟨xs, ys, ho, hl, hll, ha, hla⟩ := hbx
  obtain ⟨g, hg⟩ := own_blk ho
  have href := (h.refb b).1
  rw [hb] at href
  refine h.setBox (b := b) (g := g) (x := .orow tb zb rs (last.set k (.dv (.lst s [])))) (by rw [hb]; simp) (by simp) hg (fun c hc => ?_) (fun sz' e => by rw [hb]; exact e) (fun _ _ => rfl) rfl rfl rfl rfl (fun K => ⟨xs, ys, ho, hl, by rw [List.length_set]; exact hll, ha.mono fun d _ v hv => K.d hv, ?_⟩)
  · rcases List.mem_or_eq_of_mem_set hc with hc | rfl
    · exact href c hc
    · trivial
  · refine (K.cs (fun c hc => href c hc) hla).set fun u hu => ?_
    obtain ⟨u', hu', hru⟩ := hla.get hk
    rw [hu] at hu'; injection hu' with hu'; subst hu'
    cases hru
    exact DRd.nilS _ _ _
theorem ownB_ok {w0 : World} {X : Nat → Prop} {Z : Zt} {nt : Nat} {ns : List Gh} {l : List (Nat × SV)} {m : List (Nat × Box)} {n : Nat} {k : List (Nat × SV) → List (Nat × Box) → Nat → Prop} (h : ownB ns l m n k) {β : Nat → Value} {a : Act} {w : World} (hr : Rel w0 X Z nt (· < n) l m β a w) :
    ∃ l' m' n' β', k l' m' n' ∧ Rel w0 X Z nt (· < n') l' m' β' a w := by
  induction ns generalizing l m n β with
  | nil => exact ⟨l, m, n, β, h, hr⟩
  | cons p ns ih =>
    cases p with
    | own i t sz =>
      simp only [ownB] at h
      split at h
      · rename_i s hi
        obtain ⟨β', hr'⟩ := hr.ownNil (t := t) (sz := sz) hi
        exact ih h hr'
      · exact h.elim
    | ownC b c t sz =>
      simp only [ownB] at h
      split at h
      · rename_i tb cs hb
        split at h
        · rename_i s hk
          obtain ⟨β', hr'⟩ := hr.ownCell (t := t) (sz := sz) hb hk
          exact ih h hr'
        · exact h.elim
      · exact h.elim
    | frz b =>
      simp only [ownB] at h
      split at h
      · rename_i t sz rs hb
        exact ih h (hr.freeze hb)
      · exact h.elim
    | nul i c =>
      simp only [ownB] at h
      split at h
      · rename_i cs hi
        split at h
        · rename_i sz hc
          exact ih h (hr.nulCell hi hc)
        · exact h.elim
      · exact h.elim
    | opn b =>
      simp only [ownB] at h
      split at h
      · rename_i t sz rows hb
        obtain ⟨rs, r, e, h⟩ := h
        subst e
        exact ih h (hr.openLast hb)
      · exact h.elim
    | cls b =>
      simp only [ownB] at h
      split at h
      · rename_i t sz rs last hb
        obtain ⟨r, h, hrl, hd⟩ := toDp_ok (m := m) h
        exact ih h (hr.closeLast hb hrl hd)
      · exact h.elim
    | ownL b c t sz =>
      simp only [ownB] at h
      split at h
      · rename_i tb zb rs last hb
        split at h
        · rename_i s hk
          obtain ⟨β', hr'⟩ := hr.ownLast (t := t) (sz := sz) hb hk
          exact ih h hr'
        · exact h.elim
      · exact h.elim
    | wkn b c =>
      simp only [ownB] at h
      split at h
      · rename_i tb zb rs last hb
        split at h
        · rename_i s hk
          exact ih h (hr.weakLast hb hk)
        · exact h.elim
      · exact h.elim
    | ask => exact h.elim
theorem ownW_ok {w0 : World} {X : Nat → Prop} {Z : Zt} {nt : Nat} {ns : List Gh} {l : List (Nat × SV)} {m : List (Nat × Box)} {n : Nat} {k : List (Nat × SV) → List (Nat × Box) → Nat → Prop} (h : ownW ns l m n k) {β : Nat → Value} {a : Act} {w : World} (hr : Rel w0 X Z nt (· < n) l m β a w) :
    ∃ l' m' n' β', k l' m' n' ∧ Rel w0 X Z nt (· < n') l' m' β' a w := by
  induction ns generalizing l m n β with
  | nil => exact ⟨l, m, n, β, h, hr⟩
  | cons p ns ih =>
    cases p with
    | ask =>
      obtain ⟨gs, h⟩ := h
      obtain ⟨l1, m1, n1, β1, h1, hr1⟩ := ownB_ok h hr
      exact ih h1 hr1
    | _ =>
      obtain ⟨l1, m1, n1, β1, h1, hr1⟩ := ownB_ok h hr
      exact ih h1 hr1

theorem opsG_ok {P : Program} {T : List (Nat × TI)} (hT : TabOk P T) {nt : Nat} {gh : List (Nat × List Gh)} {ops : Array Oper} {w0 : World} {X : Nat → Prop} {Z : Zt} {Q : Exit → Act → World → Prop} {os : List Oper} {l : List (Nat × SV)} {m : List (Nat × Box)} {n : Nat} {K : List (Nat × SV) → List (Nat × Box) → Nat → Prop}
    (h : opsG P T nt gh ops.toList os l m n K) {β : Nat → Value} {a : Act} {w : World} (hr : Rel w0 X Z nt (· < n) l m β a w)
    (hQ : ∀ l' m' n' β' a' w', K l' m' n' → Rel w0 X Z nt (· < n') l' m' β' a' w' → Q .normal a' w') : wpList P ops Q os a w := by
  induction os generalizing l m n β a w with
  | nil => exact hQ _ _ _ _ _ _ h hr
  | cons o os ih =>
    have h : ownW (ghO gh o) l m n (fun l m n => guardW ops.toList o l
      (fun l => opX T P o l m n fun v upd n' _ => v.force fun v => putW nt o.dst v l fun l => appK upd m fun m => opsG P T nt gh ops.toList os l m n' K)
      (fun l => putW nt o.dst (.tup []) l fun l => opsG P T nt gh ops.toList os l m n K)) := h
    obtain ⟨l0, m, n, β, h, hr⟩ := ownW_ok h hr
    obtain ⟨l1, _, hr1, h1⟩ := hr.guard h
    refine wpList_step fun K' hK' => ?_
    rcases h1 with ⟨hw, h1⟩ | ⟨hw, h1⟩
    · rw [if_pos hw]
      obtain ⟨v, upd, n', ft, hn, hok, hk⟩ := opX_ok hT h1
      refine hok w0 X Z nt (· < n) β a w hr1 (fun b h1 _ h2 => by omega) K' Q fun u β' w' hr' hv hrf => ?_
      rw [wideN hn] at hr' hrf
      obtain ⟨l2, hk2, hr2⟩ := hr'.put? (SV.force_iff.1 hk) hrf hv
      exact hK' _ _ (ih (appK_iff.1 hk2) hr2)
    · rw [if_neg (by rw [hw]; simp)]
      obtain ⟨l2, hk2, hr2⟩ := hr1.put? h1 (fun t ht => by cases ht) srd_undef
      exact hK' _ _ (ih hk2 hr2)

theorem codeW_ok {P : Program} {T : List (Nat × TI)} (hT : TabOk P T) (hmix : P.follows .mixedOrders = true) {nt : Nat} {w0 : World} {X : Nat → Prop} {Z : Zt} {c : Code} (hlex : lexC c = true) {Q : Exit → Act → World → Prop} {l : List (Nat × SV)} {m : List (Nat × Box)} {n : Nat} {K : KC}
    {gh : List (Nat × List Gh)} (h : codeW P T nt Z.np gh c l m n K) {β : Nat → Value} {a : Act} {w : World} (hr : Rel w0 X Z nt (· < n) l m β a w)
    (hQ : ∀ e l' m' n' β' a' w', K e l' m' n' → Rel w0 X Z nt (· < n') l' m' β' a' w' → Q e a' w') : c.wp P Q a w := by
  induction c generalizing l m n K β a w Q with
  | skip => exact wp_skip (hQ _ _ _ _ _ _ _ h hr)
  | region id ops d =>
    cases d with
    | false =>
      have h : ownW (lkg gh id) l m n (fun l m n => opsG P T nt gh ops.toList ops.toList l m n (K .normal)) := h
      obtain ⟨l1, m1, n1, β1, h, hr⟩ := ownW_ok h hr
      refine wp_region_list ?_
      exact opsG_ok hT h hr fun l' m' n' β' a' w' hk hr' => hQ _ _ _ _ _ _ _ hk hr'
    | true =>
      have h : ownW (lkg gh id) l m n (fun l m n => drawW P T nt ops.toList ops.toList l m n [] (K .normal)) := h
      obtain ⟨l1, m1, n1, β1, h, hr⟩ := ownW_ok h hr
      exact drawW_ok hT hmix (by simpa [lexC] using hlex) h hr fun l' m' n' β' a' w' hk hr' => hQ _ _ _ _ _ _ _ hk hr'
  | seq x y ihx ihy =>
    simp only [lexC, Bool.and_eq_true] at hlex
    refine wp_seq (ihx hlex.1 h hr fun e l' m' n' β' a' w' hk hr' => ?_)
    cases e <;> first | exact ihy hlex.2 hk hr' hQ | exact hQ _ _ _ _ _ _ _ hk hr'
  | cond c x y ihx ihy =>
    simp only [lexC, Bool.and_eq_true] at hlex
    change (match ev l c with
      | .one (.dv (.bool c)) => askF c fun
        | true => codeW P T nt Z.np gh x l m n K
        | false => codeW P T nt Z.np gh y l m n K
      | .one (.anyb p) => (p → codeW P T nt Z.np gh x l m n K) ∧ codeW P T nt Z.np gh y l m n K
      | _ => False) at h
    split at h
    · rename_i b hc
      have h1 := (hr.ev c).1
      rw [hc] at h1
      have h' := ask_elim h
      refine wp_cond (DRd.bool_inv h1) ?_
      cases b
      · exact ihy hlex.2 h' hr hQ
      · exact ihx hlex.1 h' hr hQ
    · rename_i p hc
      have h1 := (hr.ev c).1
      rw [hc] at h1
      obtain ⟨b, e, hb⟩ := h1
      refine wp_cond e ?_
      cases b
      · exact ihy hlex.2 h.2 hr hQ
      · exact ihx hlex.1 (h.1 (hb rfl)) hr hQ
    · exact h.elim
  | block id c ih =>
    refine wp_block (ih hlex h hr fun e l' m' n' β' a' w' hk hr' => ?_)
    cases e with
    | exit id' =>
      simp only [Exit.inBlock]
      simp only at hk
      split at hk
      · rename_i hb
        rw [if_pos (Nat.eq_of_beq_eq_true hb)]
        exact hQ _ _ _ _ _ _ _ hk hr'
      · rename_i hb
        rw [if_neg (fun e => by subst e; simp at hb)]
        exact hQ _ _ _ _ _ _ _ hk hr'
    | _ => exact hQ _ _ _ _ _ _ _ hk hr'
  | loop c ih =>
    obtain ⟨β0, S, I, μ, ns, p0, ρ0, h0, h1, h2⟩ := h
    obtain ⟨l1, m1, n1, β1, h3, hr1⟩ := ownW_ok h1 hr
    obtain ⟨β2, hr2⟩ := hr1.le h3
    -- the least measure that a state admits
    classical
    let J : Act → World → Prop := fun a w => ∃ p, I p ∧ ∃ β, Rel w0 X Z nt (· < (S p).next) (S p).tmps (S p).mem β a w
    have hmin : ∀ a w, J a w → ∃ k, (∃ p, I p ∧ μ p = k ∧ ∃ β, Rel w0 X Z nt (· < (S p).next) (S p).tmps (S p).mem β a w) ∧ ∀ k', (∃ p, I p ∧ μ p = k' ∧ ∃ β, Rel w0 X Z nt (· < (S p).next) (S p).tmps (S p).mem β a w) → k ≤ k' := by
      rintro a w ⟨p, hp, hβ⟩
      have key : ∀ n, (∃ p, I p ∧ μ p = n ∧ ∃ β, Rel w0 X Z nt (· < (S p).next) (S p).tmps (S p).mem β a w) → ∃ k, (∃ p, I p ∧ μ p = k ∧ ∃ β, Rel w0 X Z nt (· < (S p).next) (S p).tmps (S p).mem β a w) ∧ ∀ k', (∃ p, I p ∧ μ p = k' ∧ ∃ β, Rel w0 X Z nt (· < (S p).next) (S p).tmps (S p).mem β a w) → k ≤ k' := by
        intro n
        induction n using Nat.strongRecOn with
        | _ n ihn =>
          intro hn
          by_cases hex : ∃ k', k' < n ∧ ∃ p, I p ∧ μ p = k' ∧ ∃ β, Rel w0 X Z nt (· < (S p).next) (S p).tmps (S p).mem β a w
          · obtain ⟨k', hlt, hk'⟩ := hex
            exact ihn k' hlt hk'
          · refine ⟨n, hn, fun k' hk' => ?_⟩
            rcases Nat.lt_or_ge k' n with hlt | hge
            · exact absurd ⟨k', hlt, hk'⟩ hex
            · exact hge
      exact key _ ⟨p, hp, rfl, hβ⟩
    let M : Act → World → Nat := fun a w => if hJ : J a w then (hmin a w hJ).choose else 0
    refine wp_loop J M ⟨p0, h0, β2, hr2⟩ ?_
    intro a w hJ
    obtain ⟨⟨p, hp, hpk, β', hrp⟩, hle⟩ := (hmin a w hJ).choose_spec
    have hMw : M a w = μ p := by show (if hJ : J a w then _ else _) = _; rw [dif_pos hJ]; exact hpk.symm
    refine ih hlex (h2 p hp) hrp fun e l' m' n' β'' a' w' hk hr' => ?_
    cases e with
    | normal =>
      obtain ⟨p', ρ, hp', hlt, hle'⟩ := hk
      obtain ⟨β3, hr3⟩ := hr'.le hle'
      have hJ' : J a' w' := ⟨p', hp', β3, hr3⟩
      refine ⟨hJ', ?_⟩
      have hM' : M a' w' ≤ μ p' := by
        show (if hJ : J a' w' then _ else _) ≤ _
        rw [dif_pos hJ']
        exact (hmin a' w' hJ').choose_spec.2 _ ⟨p', hp', rfl, β3, hr3⟩
      omega
    | _ => exact hQ _ _ _ _ _ _ _ hk hr'
  | «exit» id => exact wp_exit (hQ _ _ _ _ _ _ _ h hr)
  | ret => exact wp_ret (hQ _ _ _ _ _ _ _ h hr)
  | _ => exact h.elim
end Eng
