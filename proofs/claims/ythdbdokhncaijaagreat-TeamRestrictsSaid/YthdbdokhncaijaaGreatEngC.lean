/- The steps are sound: values and reads. -/
import Derived.Test.YthdbdokhncaijaaGreatEngB
import Derived.Laws.CopyRow
import Derived.Laws.MakeOwn
import Derived.Laws.DeepStrings4
namespace Eng
open Go Go.RowKit

theorem DRd.bool_inv {w : World} {N : Nat → Prop} {b : Bool} {v : Value} (h : DRd w N (.bool b) v) : v = .bool b := by cases h; rfl
theorem DRd.int_inv {w : World} {N : Nat → Prop} {k : IntKind} {b : Int} {v : Value} (h : DRd w N (.int k b) v) : v = .int k b := by cases h; rfl
theorem DRd.str_inv {w : World} {N : Nat → Prop} {b : ByteArray} {v : Value} (h : DRd w N (.str b) v) : v = .string b := by cases h; rfl

/-- The value of a cell that is laid at the start. -/
def zB : CV → Value → Bool
  | .bot, v => v.oneCell'
  | .dv (.int k n), .int k' n' => decide (k = k') && decide (n = n')
  | .dv (.bool b), .bool b' => b == b'
  | .dv (.str s), .string s' => decide (s = s')
  | .nil _, .slice none 0 0 => true
  | .npt, .pointer none => true
  | _, _ => false
theorem zB_ok {c : CV} {v : Value} (h : zB c v = true) (w : World) (N : Nat → Prop) (m : List (Nat × Box)) (β : Nat → Value) (A : Nat → Prop) : CRd w N m β c v ∧ RefC A c := by
  unfold zB at h
  split at h
  · exact ⟨h, trivial⟩
  · simp only [Bool.and_eq_true, decide_eq_true_eq] at h
    obtain ⟨rfl, rfl⟩ := h
    exact ⟨.int _ _, trivial⟩
  · rw [beq_iff_eq] at h; subst h; exact ⟨.bool _, trivial⟩
  · rw [decide_eq_true_eq] at h; subst h; exact ⟨.str _, trivial⟩
  · exact ⟨rfl, trivial⟩
  · exact ⟨rfl, trivial⟩
  · cases h
def zBs : List CV → List Value → Bool
  | [], [] => true
  | c :: cs, v :: vs => zB c v && zBs cs vs
  | _, _ => false
theorem zBs_ok {cs : List CV} {vs : List Value} (h : zBs cs vs = true) (w : World) (N : Nat → Prop) (m : List (Nat × Box)) (β : Nat → Value) (A : Nat → Prop) : All2 (CRd w N m β) cs vs ∧ RefCs A cs := by
  induction cs generalizing vs with
  | nil => cases vs with
    | nil => exact ⟨trivial, fun _ h => by cases h⟩
    | cons => simp [zBs] at h
  | cons c cs ih => cases vs with
    | nil => simp [zBs] at h
    | cons v vs =>
      simp only [zBs, Bool.and_eq_true] at h
      obtain ⟨h1, h2⟩ := zB_ok h.1 w N m β A
      obtain ⟨h3, h4⟩ := ih h.2
      refine ⟨⟨h1, h3⟩, fun x hx => ?_⟩
      rcases List.mem_cons.1 hx with rfl | hx
      · exact h2
      · exact h4 x hx

def TK.okB (P : Program) (t : Nat) : TK → Bool
  | .one => match P.underlying t with
    | some (.struct _) => false
    | some (.array ..) => false
    | some _ => true
    | none => false
  | .int k => match P.underlying t with
    | some (.int k') => decide (k = k')
    | _ => false
  | .str => match P.underlying t with
    | some .string => true
    | _ => false
  | .bool => match P.underlying t with
    | some .bool => true
    | _ => false
  | .slice e => match P.underlying t with
    | some (.slice e') => Nat.beq e e'
    | _ => false
  | .struct fs => match P.underlying t with
    | some (.struct F) => decide (F.toList.map (fun f => (f.offset, f.type)) = fs) && F.toList.all fun f => (P.info? f.type).isSome
    | _ => false
  | .arr n e => match P.underlying t with
    | some (.array n' e') => Nat.beq n n' && Nat.beq e e' && (P.info? e').isSome
    | _ => false
def TI.okB (P : Program) (t : Nat) (ti : TI) : Bool :=
  ti.kind.okB P t && match P.info? t with
  | some i => Nat.beq i.size ti.size && Nat.beq i.bytes ti.bytes && (match i.zero with
    | some z => zBs ti.zero z.cells.toList && Nat.beq z.cells.size ti.size
    | none => false)
  | none => false
def tabB (P : Program) : List (Nat × TI) → Bool
  | [] => true
  | (t, ti) :: T => ti.okB P t && tabB P T

structure TI.Ok (P : Program) (t : Nat) (ti : TI) : Prop where
  info : ∃ i z, P.info? t = some i ∧ i.size = ti.size ∧ i.bytes = ti.bytes ∧ i.zero = some z ∧ zBs ti.zero z.cells.toList = true ∧ z.cells.size = ti.size
  kind : ti.kind.okB P t = true
def TabOk (P : Program) (T : List (Nat × TI)) : Prop := ∀ t ti, lkt T t = some ti → ti.Ok P t
theorem tabB_ok {P : Program} {T : List (Nat × TI)} (h : tabB P T = true) : TabOk P T := by
  induction T with
  | nil => intro t ti ht; simp [lkt] at ht
  | cons p T ih =>
    obtain ⟨j, tj⟩ := p
    simp only [tabB, Bool.and_eq_true] at h
    intro t ti ht
    simp only [lkt] at ht
    rcases hb : Nat.beq j t with _ | _
    · rw [hb] at ht; exact ih h.2 t ti ht
    · rw [hb] at ht
      have e := Nat.eq_of_beq_eq_true hb
      subst e
      simp only [cond_true, Option.some.injEq] at ht
      subst ht
      have h1 := h.1
      unfold TI.okB at h1
      rw [Bool.and_eq_true] at h1
      refine ⟨?_, h1.1⟩
      have h2 := h1.2
      split at h2
      · rename_i i hi
        split at h2
        · rename_i z hz
          simp only [Bool.and_eq_true] at h2
          exact ⟨i, z, hi, Nat.eq_of_beq_eq_true h2.1.1, Nat.eq_of_beq_eq_true h2.1.2, hz, h2.2.1, Nat.eq_of_beq_eq_true h2.2.2⟩
        · simp at h2
      · cases h2

/-- what an operation does: 'n' to 'n'' are the names that it may give. -/
def OpOk (P : Program) (o : Oper) (l : List (Nat × SV)) (m : List (Nat × Box)) (n : Nat) (v : SV) (upd : List (Nat × Box)) (n' : Nat) : Prop :=
  ∀ (w0 : World) (X : Nat → Prop) (Z : Zt) (nt : Nat) (A : Nat → Prop) (β : Nat → Value) (a : Act) (w : World), Rel w0 X Z nt A l m β a w → (∀ b, n ≤ b → b < n' → ¬ A b) →
    ∀ (K : Act → World → Prop) (Q : Exit → Act → World → Prop),
      (∀ u β' w', Rel w0 X Z nt (fun b => A b ∨ (n ≤ b ∧ b < n')) l (upd ++ m) β' a w' → SRd w' (Imm Z.p (upd ++ m) β' w') (upd ++ m) β' v u → RefS (fun b => A b ∨ (n ≤ b ∧ b < n')) v → K (a.put o.dst u) w') →
      o.wp P a w K Q

section rel
variable {w0 : World} {X : Nat → Prop} {Z : Zt} {nt : Nat} {A : Nat → Prop} {l : List (Nat × SV)} {m : List (Nat × Box)} {β : Nat → Value} {a : Act} {w : World}
theorem Rel.wide (h : Rel w0 X Z nt A l m β a w) {A' : Nat → Prop} (hA : ∀ b, A b → A' b) : Rel w0 X Z nt A' l m β a w :=
  { h with refs := fun i => (h.refs i).mono hA, refb := fun b => ⟨(h.refb b).1.mono hA, fun hd => hA _ ((h.refb b).2 hd)⟩, pin := fun b hb => ⟨hA b (h.pin b hb).1, (h.pin b hb).2⟩ }

theorem cstC_ok (v : Value) (hv : v.oneCell' = true) (N : Nat → Prop) : CRd w N m β (cstC v) v ∧ RefC A (cstC v) := by
  unfold cstC
  split
  · exact ⟨.int _ _, trivial⟩
  · exact ⟨.bool _, trivial⟩
  · exact ⟨.str _, trivial⟩
  · exact ⟨rfl, trivial⟩
  · exact ⟨hv, trivial⟩
theorem cst_ok (v : Value) (N : Nat → Prop) : SRd w N m β (cst v) v ∧ RefS A (cst v) := by
  unfold cst
  split
  · exact ⟨.int _ _, trivial⟩
  · exact ⟨.bool _, trivial⟩
  · exact ⟨.str _, trivial⟩
  · exact ⟨rfl, trivial⟩
  · exact ⟨rfl, trivial⟩
  · rename_i cs
    split
    · rename_i hall
      rw [List.all_eq_true] at hall
      refine ⟨⟨cs, rfl, ?_⟩, ?_⟩
      · generalize cs.toList = l at hall
        induction l with
        | nil => trivial
        | cons c l ih => exact ⟨(cstC_ok (A := A) c (hall c (by simp)) N).1, ih fun x hx => hall x (by simp [hx])⟩
      · intro c hc
        obtain ⟨v, hv, rfl⟩ := List.mem_map.1 hc
        exact (cstC_ok (w := w) (m := m) (β := β) v (hall v hv) N).2
    · exact ⟨trivial, trivial⟩
  · exact ⟨trivial, trivial⟩
theorem Rel.ev (h : Rel w0 X Z nt A l m β a w) (x : Operand) : SRd w (Imm Z.p m β w) m β (ev l x) (a.eval x) ∧ RefS A (Eng.ev l x) := by
  cases x with
  | tmp t => exact ⟨h.slots t, h.refs t⟩
  | const v => exact cst_ok v _
  | «global» g =>
    show SRd w _ m β (match lkv GLV g with | some ss => .one (.iptr (ss.map dvOf)) | none => .bot) _ ∧ RefS A (match lkv GLV g with | some ss => .one (.iptr (ss.map dvOf)) | none => .bot)
    cases hg : lkv GLV g with
    | none => exact ⟨trivial, trivial⟩
    | some ss =>
      obtain ⟨h1, t, fr, h2⟩ := h.globNow hg
      refine ⟨⟨⟨g, 0, none⟩, rfl, h1, fun j d hj => ?_⟩, trivial⟩
      rw [List.getElem?_map] at hj
      cases hs : ss[j]? with
      | none => rw [hs] at hj; cases hj
      | some s =>
        rw [hs] at hj
        simp only [Option.map_some, Option.some.injEq] at hj
        subst hj
        exact ⟨s, by rw [addr_mk, Nat.zero_add]; exact glob_cell h2 hs, dvOf_rd (glv_plain hg s (List.mem_of_getElem? hs))⟩
  | func f =>
    show SRd w _ m β (match Nat.blt f 1000000 with | true => .one (.fn f []) | false => .bot) _ ∧ RefS A (match Nat.blt f 1000000 with | true => .one (.fn f []) | false => .bot)
    cases hf : Nat.blt f 1000000 with
    | true => exact ⟨⟨#[], by unfold fnV; rw [hf]; rfl, trivial⟩, fun p hp => by cases hp⟩
    | false => exact ⟨trivial, trivial⟩
theorem Rel.evT (h : Rel w0 X Z nt A l m β a w) (T : List (Nat × TI)) (ty : Nat) (x : Operand) : SRd w (Imm Z.p m β w) m β (evT T ty l x) (a.eval x) ∧ RefS A (Eng.evT T ty l x) := by
  unfold Eng.evT
  split
  · exact ⟨rfl, trivial⟩
  · exact h.ev _
end rel

variable {P : Program} {o : Oper} {l : List (Nat × SV)} {m : List (Nat × Box)} {n : Nat}

theorem ok_value {v : SV} (h : ∀ (w0 : World) (X : Nat → Prop) (Z : Zt) (nt : Nat) (A : Nat → Prop) (β : Nat → Value) (a : Act) (w : World), Rel w0 X Z nt A l m β a w →
    ∃ u, (execOp a.eval o).run P w = .ok (.value u) w ∧ SRd w (Imm Z.p m β w) m β v u ∧ RefS A v) : OpOk P o l m n v [] n := by
  intro w0 X Z nt A β a w hr _ K Q hK
  obtain ⟨u, h1, h2, h3⟩ := h w0 X Z nt A β a w hr
  unfold Oper.wp
  rw [h1]
  exact hK u β w (hr.wide fun b hb => .inl hb) h2 (h3.mono fun b hb => .inl hb)

theorem run_v {s : Sem Value} {u : Value} {w w' : World} (h : s.run P w = .ok u w') : (do pure (Next.value (← s)) : Sem Next).run P w = .ok (.value u) w' := by
  simp [h]

theorem ok_move {T : List (Nat × TI)} {x : Operand} {ty : Nat} (ho : o.op = .move x ∨ o.op = .assign x) : OpOk P o l m n (evT T ty l x) [] n := by
  refine ok_value fun w0 X Z nt A β a w hr => ⟨a.eval x, ?_, hr.evT T ty x⟩
  rcases ho with ho | ho <;> simp [execOp, ho]

theorem ok_pick {T : List (Nat × TI)} {c x y : Operand} {ty : Nat} {b : Bool} (ho : o.op = .pick c x y) (hc : ev l c = .one (.dv (.bool b))) : OpOk P o l m n (evT T ty l (if b then x else y)) [] n := by
  refine ok_value fun w0 X Z nt A β a w hr => ⟨a.eval (if b then x else y), ?_, hr.evT T ty _⟩
  have h := (hr.ev c).1
  rw [hc] at h
  have : a.eval c = .bool b := DRd.bool_inv h
  simp only [execOp, ho, this, asBool]
  cases b <;> rfl

theorem boolT_ok {T : List (Nat × TI)} (hT : TabOk P T) {t : Nat} (h : boolT T t = true) : P.underlying t = some .bool := by
  unfold boolT at h
  split at h
  · rename_i ti hti
    have h1 := (hT t ti hti).kind
    split at h
    · rename_i hk
      rw [hk] at h1
      simp only [TK.okB] at h1
      split at h1
      · assumption
      · cases h1
    · cases h
  · cases h

theorem run_eqGuard {op : BinOp} {t : TypeId} {X Y : Operand} {x : DV} {u v : Value} {w w' : World} {N : Nat → Prop} (h : DRd w N x u) : (eqGuard op t X Y u v).run P w' = .ok () w' := by
  cases h <;> cases op <;> rfl
theorem run_equalIn_bool {t : TypeId} {a b : Bool} {w : World} (ht : P.underlying t = some .bool) (d : Nat) : (Op.equalIn (d + 1) t (.bool a) (.bool b)).run P w = .ok (a == b) w := by
  simp [Op.equalIn, run_underlying ht]
theorem run_equal_bool {t : TypeId} {a b : Bool} {w : World} (ht : P.underlying t = some .bool) : (Op.equal t (.bool a) (.bool b)).run P w = .ok (a == b) w :=
  run_equalIn_bool ht 9999

theorem run_bin {bt : Bool} {op : BinOp} {t : TypeId} {x y : DV} {K : DV → Prop} {X Y : Operand} {w : World} {N : Nat → Prop} {u v : Value} (hbt : bt = true → P.underlying t = some .bool)
    (h : binF bt op x y K) (hu : DRd w N x u) (hv : DRd w N y v) :
    ∃ d, K d ∧ ∃ r, (do eqGuard op t X Y u v; Go.binOp op t u v : Sem Value).run P w = .ok r w ∧ DRd w N d r := by
  have hg := run_eqGuard (P := P) (op := op) (t := t) (X := X) (Y := Y) (v := v) (w' := w) hu
  have key : ∀ {d : DV} {r : Value}, K d → (Go.binOp op t u v).run P w = .ok r w → DRd w N d r → ∃ d, K d ∧ ∃ r, (do eqGuard op t X Y u v; Go.binOp op t u v : Sem Value).run P w = .ok r w ∧ DRd w N d r := by
    intro d r h1 h2 h3
    exact ⟨d, h1, r, by simp [Sem.run_bind, hg, h2], h3⟩
  cases x with
  | int k a =>
    cases y with
    | int k' b =>
      have := hu.int_inv; subst this
      have := hv.int_inv; subst this
      cases op
      case shl => simp only [binF] at h; exact key h.2 (by simp [Go.binOp, Op.shift, Int.not_lt.2 h.1]) (.int _ _)
      case shr => simp only [binF] at h; exact key h.2 (by simp [Go.binOp, Op.shift, Int.not_lt.2 h.1]) (.int _ _)
      all_goals
        simp only [binF] at h
        by_cases hk : k = k'
        · subst hk
          simp only [decide_true] at h <;> first
            | exact h.elim
            | exact key h (by simp [Go.binOp, Op.intArith]) (.int _ _)
            | exact key h (by simp [Go.binOp, Op.intCmp]) (.bool _)
            | exact key h.2 (by simp [Go.binOp, Op.intDiv, h.1]) (.int _ _)
        · simp [hk] at h
    | _ => simp [binF] at h
  | str a =>
    cases y with
    | str b =>
      have := hu.str_inv; subst this
      have := hv.str_inv; subst this
      have he : (a.toList == b.toList) = decide (a = b) := by
        rw [ByteArray.toList_eq, ByteArray.toList_eq]
        by_cases hab : a = b
        · subst hab; simp
        · rw [decide_eq_false hab, beq_eq_false_iff_ne]
          intro h
          apply hab
          have := Array.toList_inj.1 h
          cases a; cases b; simp_all
      simp only [binF] at h
      cases op <;> simp only at h
      case add =>
        refine key h.2 ?_ (.str _)
        have h1 : ¬ ((a.size + b.size : Nat) : Int) > IntKind.i64.max := by
          have : IntKind.i64.max = 9223372036854775807 := by decide
          rw [this]; have := h.1; omega
        simp only [Go.binOp, Op.stringOp]
        rw [if_neg h1]; rfl
      case eql => exact key h (by simp only [Go.binOp, Op.stringOp, he]; rfl) (.bool _)
      case neq => exact key h (by simp only [Go.binOp, Op.stringOp, he]; rfl) (.bool _)
      all_goals exact h.elim
    | _ => simp [binF] at h
  | bool a =>
    cases y with
    | bool b =>
      have := hu.bool_inv; subst this
      have := hv.bool_inv; subst this
      simp only [binF] at h
      cases bt with
      | false => exact h.elim
      | true =>
        have hb := hbt rfl
        have hq := run_equal_bool (P := P) (a := a) (b := b) (w := w) hb
        cases op <;> simp only at h
        case eql => exact key h (by simp [Go.binOp, hq]) (.bool _)
        case neq => exact key h (by simp [Go.binOp, hq]) (.bool _)
        all_goals exact h.elim
    | _ => simp [binF] at h
  | lst a b => simp [binF] at h
  | nul a => simp [binF] at h

theorem ok_bin {T : List (Nat × TI)} (hT : TabOk P T) {op : BinOp} {t t' : TypeId} {x y : Operand} {dx dy : DV} {K : DV → Prop} (ho : o.op = .binOp op t x y t') (hx : ev l x = .one (.dv dx)) (hy : ev l y = .one (.dv dy)) (h : binF (boolT T t) op dx dy K) :
    ∃ d, K d ∧ OpOk P o l m n (.one (.dv d)) [] n := by
  -- the datum does not hang on the world
  have hd : ∃ d, K d ∧ binF (boolT T t) op dx dy (· = d) := by
    unfold binF at h ⊢
    split at h
    · split at h
      · revert h
        cases op <;> intro h <;> simp only at h ⊢ <;> first
          | exact ⟨_, h.2, h.1, rfl⟩
          | (split at h
             · exact h.elim
             · first | exact h.elim | exact ⟨_, h.2, h.1, rfl⟩ | exact ⟨_, h, rfl⟩)
      · exact h.elim
    · split at h
      · split at h <;> first | exact h.elim | exact ⟨_, h.2, h.1, rfl⟩ | exact ⟨_, h, rfl⟩
      · exact h.elim
    · split at h
      · split at h
        · exact h.elim
        · split at h <;> first | exact h.elim | exact ⟨_, h, rfl⟩
      · exact h.elim
    · exact h.elim
  obtain ⟨d, hK, hb⟩ := hd
  refine ⟨d, hK, ok_value fun w0 X Z nt A β a w hr => ?_⟩
  have h1 := (hr.ev x).1
  have h2 := (hr.ev y).1
  rw [hx] at h1
  rw [hy] at h2
  obtain ⟨d', hd', r, h3, h4⟩ := run_bin (P := P) (t := t) (X := x) (Y := y) (fun hb => boolT_ok hT hb) hb h1 h2
  subst hd'
  exact ⟨r, by simp only [execOp, ho]; exact run_v h3, h4, trivial⟩

theorem ok_not {t : TypeId} {x : Operand} {b : Bool} (ho : o.op = .unOp .not t x) (hx : ev l x = .one (.dv (.bool b))) : OpOk P o l m n (.one (.dv (.bool !b))) [] n := by
  refine ok_value fun w0 X Z nt A β a w hr => ⟨.bool !b, ?_, .bool _, trivial⟩
  have h1 := (hr.ev x).1
  rw [hx] at h1
  have := DRd.bool_inv h1
  simp [execOp, ho, this, Op.unary]
theorem ok_neg {t : TypeId} {x : Operand} {k : IntKind} {b : Int} (ho : o.op = .unOp .neg t x) (hx : ev l x = .one (.dv (.int k b))) : OpOk P o l m n (.one (.dv (.int k (k.wrap (0 - b))))) [] n := by
  refine ok_value fun w0 X Z nt A β a w hr => ⟨.int k (k.wrap (0 - b)), ?_, .int _ _, trivial⟩
  have h1 := (hr.ev x).1
  rw [hx] at h1
  have := DRd.int_inv h1
  simp [execOp, ho, this, Op.unary, Op.intArith]
theorem ok_extract {x : Operand} {i : Nat} {ts : List (Bool × List CV)} {v : SV} (ho : o.op = .extract x i) (hx : ev l x = .tup ts) (hi : (∃ cs, ts[i]? = some (true, cs) ∧ v = .agg cs) ∨ (∃ c, ts[i]? = some (false, [c]) ∧ v = .one c)) :
    OpOk P o l m n v [] n := by
  refine ok_value fun w0 X Z nt A β a w hr => ?_
  obtain ⟨h1, h2⟩ := hr.ev x
  rw [hx] at h1 h2
  obtain ⟨vs, e, h1⟩ := h1
  rcases hi with ⟨cs, hi, rfl⟩ | ⟨c, hi, rfl⟩
  · obtain ⟨u, hu, us, hus, hall⟩ := h1.get hi
    refine ⟨u, ?_, ⟨us, hus, hall⟩, h2 _ (List.mem_of_getElem? hi)⟩
    simp only [execOp, ho, e]
    exact run_v (by simp [Instr.extract, show vs[i]? = some u by simpa using hu])
  · obtain ⟨u, hu, c', hc', hall⟩ := h1.get hi
    simp only [List.cons.injEq, and_true] at hc'
    subst hc'
    refine ⟨u, ?_, hall, h2 _ (List.mem_of_getElem? hi) _ (by simp)⟩
    simp only [execOp, ho, e]
    exact run_v (by simp [Instr.extract, show vs[i]? = some u by simpa using hu])
end Eng
