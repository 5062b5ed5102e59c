/- law7: ref.Parse. -/
import Derived.Test.YtgnblfojpcjgmaaPa
import Derived.Test.YtgnblfojpcjgmaaSp3
namespace Go.Proofs.Ytgnblfojpcjgmaa
open Eng
set_option maxRecDepth 10000
attribute [local irreducible] FnOk loopW idxF retX arrF findF

def knownB (w : ByteArray) : Bool := (countsOf w).isSome
theorem ref_Known (w : ByteArray) : FnOk Try.prog F.ref6_Known [Tx w] [] 0 (Bo (knownB w)) [] 0 := by
  refine fnOk tab mix G.ref6_Known rfl rfl (by kernel_rfl) rfl rfl ?_
  (conv => whnf)
  refine ask_m (fun h => ?_) (fun h => ?_)
  · have h : w = wJoint := of_decide_eq_true h
    (conv => whnf)
    refine ret0 ?_
    exact ret_b (by rw [knownB, countsOf, if_pos h]; rfl) rfl
  have n1 : ¬ w = wJoint := of_decide_eq_false h
  (conv => whnf)
  refine ask_m (fun h => ?_) (fun h => ?_)
  · have h : w = wLimit := of_decide_eq_true h
    (conv => whnf)
    refine ret0 ?_
    exact ret_b (by rw [knownB, countsOf, if_neg n1, if_pos h]; rfl) rfl
  have n2 : ¬ w = wLimit := of_decide_eq_false h
  (conv => whnf)
  refine ask_m (fun h => ?_) (fun h => ?_)
  · have h : w = wMass := of_decide_eq_true h
    (conv => whnf)
    refine ret0 ?_
    exact ret_b (by rw [knownB, countsOf, if_neg n1, if_neg n2, if_pos h]; rfl) rfl
  have n3 : ¬ w = wMass := of_decide_eq_false h
  (conv => whnf)
  refine ask_m (fun h => ?_) (fun h => ?_)
  · have h : w = wShape := of_decide_eq_true h
    (conv => whnf)
    refine ret0 ?_
    exact ret_b (by rw [knownB, countsOf, if_neg n1, if_neg n2, if_neg n3, if_pos h]; rfl) rfl
  have n4 : ¬ w = wShape := of_decide_eq_false h
  (conv => whnf)
  by_cases h : w = wSkip
  · (conv => whnf)
    refine ret0 ?_
    exact ret_b (by rw [knownB, countsOf, if_neg n1, if_neg n2, if_neg n3, if_neg n4, if_pos h]; exact decide_eq_true h) rfl
  · (conv => whnf)
    refine ret0 ?_
    exact ret_b (by rw [knownB, countsOf, if_neg n1, if_neg n2, if_neg n3, if_neg n4, if_neg h]; exact decide_eq_false h) rfl
/-- the statements from an open one on -/
def gTail (s : Stmt) (ws : List Word) : List Stmt := (ws.foldl gstep ([], some s)).1 ++ (ws.foldl gstep ([], some s)).2.toList
theorem gstep_pre (ws : List Word) : ∀ (rs : List Stmt) (o : Option Stmt), ws.foldl gstep (rs, o) = (rs ++ (ws.foldl gstep ([], o)).1, (ws.foldl gstep ([], o)).2) := by
  induction ws with
  | nil => intro rs o; simp
  | cons w ws ih =>
    intro rs o
    cases o with
    | none => simp only [List.foldl_cons, gstep]; exact ih rs _
    | some s =>
      simp only [List.foldl_cons, gstep]
      split
      · exact ih rs _
      · rw [ih, ih ([] ++ [s])]; simp
theorem group_cons (w : Word) (ws : List Word) : groupOf (w :: ws) = gTail ⟨w.line, w.text, []⟩ ws := rfl
theorem tail_same {s : Stmt} {w : Word} {ws : List Word} (h : s.line = w.line) : gTail s (w :: ws) = gTail ⟨s.line, s.word, s.args ++ [w.text]⟩ ws := by
  simp only [gTail, List.foldl_cons, gstep, if_pos h]
theorem tail_other {s : Stmt} {w : Word} {ws : List Word} (h : ¬ s.line = w.line) : gTail s (w :: ws) = s :: groupOf (w :: ws) := by
  rw [group_cons]
  simp only [gTail, List.foldl_cons, gstep, if_neg h]
  rw [gstep_pre]; simp
theorem tail_nil (s : Stmt) : gTail s [] = s :: groupOf [] := rfl
theorem checkOf_big {i : Nat} {s : Stmt} (h : 256 ≤ i) : checkOf i s = 703 := by rw [checkOf, if_pos h]
theorem checkOf_small {i : Nat} {s : Stmt} (h : ¬ 256 ≤ i) : checkOf i s = if knownB s.word then if argsB s.word s.args.length then 0 else 702 else 701 := by
  rw [checkOf, if_neg h, knownB, argsB]
  cases countsOf s.word <;> rfl
theorem ref_Parse (src : ByteArray) : FnOk Try.prog F.ref6_Parse [Tx src] [] 0 (PaR (parseOf src)) [] 0 := by
  refine fnOk tab mix G.ref6_Parse rfl rfl (by kernel_rfl) rfl rfl ?_
  (conv => whnf)
  refine call_i (ref_Split src) ?_
  (conv => whnf)
  have hsl := split_len src
  refine ask_m (fun h => ?_) (fun h => ?_)
  · have h : (splitOf src).2.1 ≠ 0 := by simpa using h
    have e : parseOf src = ([], (splitOf src).2) := by rw [parseOf, if_pos h]
    rw [e]
    (conv => whnf)
    refine retO [.own 2 Y.Statement 3, .frz 2] ?_
    (conv => whnf)
    exact ⟨[], ⟨rfl, trivial⟩, trivial⟩
  have h0 : ¬ (splitOf src).2.1 ≠ 0 := by simpa using h
  have e0 : parseOf src = match firstErr 0 (groupOf (splitOf src).1) with
    | some e => ([], e)
    | none => (groupOf (splitOf src).1, 0, 0) := by rw [parseOf, if_neg h0]; rfl
  (conv => whnf)
  generalize (splitOf src).1 = ws at *
  refine loop_intro (fun p : Nat × List Stmt => ⟨[(2, .one (.nil 3)), (3, .one (.vptr 0 0)), (4, .one (.dv (dWs ws))), (6, .one (.row 1)), (7, I p.1)], [(0, vE 0 0), (1, .rows Y.Statement 3 (p.2.map encSt))], 2⟩)
    (fun p => p.1 ≤ ws.length ∧ p.2.length ≤ 256 ∧ groupOf ws = p.2 ++ groupOf (ws.drop p.1) ∧ firstErr 0 (groupOf ws) = firstErr p.2.length (groupOf (ws.drop p.1))) (fun p => ws.length - p.1) [.own 6 Y.Statement 3] (0, []) [(1, 2)] ⟨Nat.zero_le _, Nat.zero_le _, rfl, rfl⟩ ⟨⟨rfl, rfl, rfl, rfl, rfl, trivial⟩, ⟨rfl, rfl, trivial⟩⟩ ?_
  rintro ⟨k, out⟩ ⟨hk, ho, hg, hf⟩
  simp only at hk ho hg hf
  (conv => whnf)
  refine ask_m (fun h => ?_) (fun h => ?_)
  · have hlt : k < ws.length := by have := of_decide_eq_true h; simp at this; omega
    obtain ⟨w, hw⟩ : ∃ w, ws[k]? = some w := ⟨_, List.getElem?_eq_getElem hlt⟩
    have hkk : IntKind.i64.wrap ((k : Int) + 1) = ((k + 1 : Nat) : Int) := by rw [w64] <;> omega
    rw [drop_cons hw, group_cons] at hg hf
    (conv => whnf)
    refine idx_and (by omega) (by simpa using hw) ?_
    (conv => whnf)
    refine idx_and (by omega) (by simpa using hw) ?_
    (conv => whnf)
    rw [hkk]
    refine loop_intro (fun p : Nat × List ByteArray => ⟨[(2, .one (.nil 3)), (3, .one (.vptr 0 0)), (4, .one (.dv (dWs ws))), (6, .one (.row 1)), (7, I p.1), (8, .one (.vptr 2 0))], [(0, vE 0 0), (1, .rows Y.Statement 3 (out.map encSt)), (2, .vars Y.Statement [.dv (.int .i64 w.line), .dv (.str w.text), .row 3]), (3, .rows Y.string 1 (p.2.map encA))], 4⟩)
      (fun p => k < p.1 ∧ p.1 ≤ ws.length ∧ p.2.length ≤ p.1 ∧ gTail ⟨w.line, w.text, []⟩ (ws.drop (k + 1)) = gTail ⟨w.line, w.text, p.2⟩ (ws.drop p.1)) (fun p => ws.length - p.1) [.ownC 2 2 Y.string 1] (k + 1, []) [] ⟨Nat.lt_succ_self _, hlt, Nat.zero_le _, rfl⟩ ⟨⟨rfl, rfl, rfl, rfl, rfl, rfl, trivial⟩, ⟨rfl, rfl, rfl, rfl, trivial⟩⟩ ?_
    rintro ⟨i, xs⟩ ⟨hki, hi, hxs, ht⟩
    simp only at hki hi hxs ht
    have hend : (ws.drop i = [] ∨ ∃ v, ws[i]? = some v ∧ ¬ v.line = w.line) → gTail ⟨w.line, w.text, xs⟩ (ws.drop i) = ⟨w.line, w.text, xs⟩ :: groupOf (ws.drop i) := by
      rintro (h | ⟨v, hv, hn⟩)
      · rw [h]; rfl
      · rw [drop_cons hv]; exact tail_other fun e => hn e.symm
    have hrest : gTail ⟨w.line, w.text, xs⟩ (ws.drop i) = ⟨w.line, w.text, xs⟩ :: groupOf (ws.drop i) → True := fun _ => trivial
    by_cases hin : ∃ v, ws[i]? = some v ∧ v.line = w.line
    · obtain ⟨v, hv, hvl⟩ := hin
      have hil : i < ws.length := (List.getElem?_eq_some_iff.1 hv).1
      have hii : IntKind.i64.wrap ((i : Int) + 1) = ((i + 1 : Nat) : Int) := by rw [w64] <;> omega
      (conv => whnf)
      refine ask_mt (decide_eq_true (by simp; omega)) ?_
      (conv => whnf)
      refine idx_and (by omega) (by simpa using hv) ?_
      (conv => whnf)
      refine ask_mt (by simpa using hvl) ?_
      (conv => whnf)
      refine idx_and (by omega) (by simpa using hv) ?_
      (conv => whnf)
      refine ⟨⟨by simp; omega, by simp; omega⟩, ?_⟩
      (conv => whnf)
      refine ⟨(i + 1, xs ++ [v.text]), [(3, 5)], ⟨by omega, hil, by simp; omega, ?_⟩, by simp only; omega, ⟨⟨rfl, rfl, rfl, rfl, eqI hii, rfl, trivial⟩, ⟨rfl, rfl, rfl, ?_, trivial⟩⟩⟩
      · rw [ht, drop_cons hv, tail_same (by exact hvl.symm)]
      · exact congrArg (Box.rows Y.string 1) (show xs.map encA ++ [[.str v.text]] = (xs ++ [v.text]).map encA by simp [encA])
    · have hx : ws.drop i = [] ∨ ∃ v, ws[i]? = some v ∧ ¬ v.line = w.line := by
        by_cases hil : i < ws.length
        · exact .inr ⟨_, List.getElem?_eq_getElem hil, fun e => hin ⟨_, List.getElem?_eq_getElem hil, e⟩⟩
        · exact .inl (List.drop_eq_nil_of_le (by omega))
      have ht2 := ht.trans (hend hx)
      rw [ht2] at hg hf
      have hbo : ¬ 256 ≤ out.length → out.length < 256 := by omega
      by_cases hil : i < ws.length
      case' pos =>
        obtain ⟨v, hv⟩ : ∃ v, ws[i]? = some v := ⟨_, List.getElem?_eq_getElem hil⟩
        have hvl : ¬ v.line = w.line := fun e => hin ⟨v, hv, e⟩
        (conv => whnf)
        refine ask_mt (decide_eq_true (by simp; omega)) ?_
        (conv => whnf)
        refine idx_and (by omega) (by simpa using hv) ?_
        (conv => whnf)
        refine ask_mf (by simpa using hvl) ?_
        (conv => whnf)
      case' neg =>
        (conv => whnf)
        refine ask_mf (decide_eq_false (by simp; omega)) ?_
        (conv => whnf)
      all_goals
        rw [firstErr] at hf
        refine ask_m (fun h => ?_) (fun h => ?_)
        · have h : 256 ≤ out.length := by have := of_decide_eq_true h; simp at this; omega
          rw [checkOf_big h, if_neg (by decide)] at hf
          rw [hf] at e0
          simp only at e0
          rw [e0]
          (conv => whnf)
          refine retO [.own 2 Y.Statement 3, .frz 4] ?_
          (conv => whnf)
          exact ⟨[], ⟨rfl, trivial⟩, trivial⟩
        have h : ¬ 256 ≤ out.length := by have := of_decide_eq_false h; simp at this; omega
        rw [checkOf_small h] at hf
        simp only at hf
        (conv => whnf)
        refine call_i (ref_Known w.text) ?_
        (conv => whnf)
        cases hkn : knownB w.text with
        | false =>
          rw [hkn, if_neg (show ¬ (false = true) by decide), if_neg (show ¬ (701 : Int) = 0 by decide)] at hf
          rw [hf] at e0
          simp only at e0
          rw [e0]
          (conv => whnf)
          (conv => whnf)
          refine retO [.own 2 Y.Statement 3, .frz 4] ?_
          (conv => whnf)
          exact ⟨[], ⟨rfl, trivial⟩, trivial⟩
        | true =>
          rw [hkn, if_pos rfl] at hf
          (conv => whnf)
          refine call_i (ref_Arguments w.text ((xs.map encA).length)) ?_
          (conv => whnf)
          rw [List.length_map]
          cases har : argsB w.text xs.length with
          | false =>
            rw [har, if_neg (show ¬ (false = true) by decide), if_neg (show ¬ (702 : Int) = 0 by decide)] at hf
            rw [hf] at e0
            simp only at e0
            rw [e0]
            (conv => whnf)
            (conv => whnf)
            refine retO [.own 2 Y.Statement 3, .frz 4] ?_
            (conv => whnf)
            exact ⟨[], ⟨rfl, trivial⟩, trivial⟩
          | true =>
            rw [har, if_pos rfl, if_pos rfl] at hf
            (conv => whnf)
            refine ⟨⟨by simp; omega, by simp; omega⟩, ?_⟩
            (conv => whnf)
            refine ⟨(i, out ++ [⟨w.line, w.text, xs⟩]), [(1, 5)], ⟨hi, by simp; omega, by rw [hg]; simp, by rw [hf]; simp⟩, by simp only; omega, ⟨⟨rfl, rfl, rfl, rfl, rfl, trivial⟩, ⟨rfl, ?_, trivial⟩⟩⟩
            exact congrArg (Box.rows Y.Statement 3) (show out.map encSt ++ [[.int .i64 w.line, .str w.text, .lst 1 (xs.map encA)]] = (out ++ [Stmt.mk w.line w.text xs]).map encSt by rw [List.map_append]; rfl)
  · have hk : k = ws.length := by have := of_decide_eq_false h; simp at this; omega
    subst hk
    rw [List.drop_length] at hg hf
    have e1 : groupOf ([] : List Word) = [] := rfl
    rw [e1, firstErr] at hf
    rw [e1, List.append_nil] at hg
    rw [hf, hg] at e0
    simp only at e0
    rw [e0]
    (conv => whnf)
    refine retO [.frz 1] ?_
    (conv => whnf)
    exact ⟨[], ⟨rfl, trivial⟩, trivial⟩
end Go.Proofs.Ytgnblfojpcjgmaa
