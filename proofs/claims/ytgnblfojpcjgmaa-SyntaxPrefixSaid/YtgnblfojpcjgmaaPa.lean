/- law7: check, Parse. -/
import Derived.Test.YtgnblfojpcjgmaaGr
namespace Go.Proofs.Ytgnblfojpcjgmaa
open Eng
set_option maxRecDepth 10000
attribute [local irreducible] FnOk loopW idxF retX arrF findF

abbrev St (s : Stmt) : SV := .agg [.dv (.int .i64 s.line), .dv (.str s.word), .dv (.lst 1 (s.args.map encA))]
def checkOf (i : Nat) (s : Stmt) : Int := if 256 ≤ i then 703 else match countsOf s.word with
  | none => 701
  | some c => if allowB c s.args.length then 0 else 702
def firstErr : Nat → List Stmt → Option (Int × Int)
  | _, [] => none
  | i, s :: l => if checkOf i s = 0 then firstErr (i + 1) l else some (checkOf i s, s.line)
def parseOf (src : ByteArray) : List Stmt × Int × Int :=
  if (splitOf src).2.1 ≠ 0 then ([], (splitOf src).2) else match firstErr 0 (groupOf (splitOf src).1) with
    | some e => ([], e)
    | none => (groupOf (splitOf src).1, 0, 0)
abbrev PaR (r : List Stmt × Int × Int) : SV := .tup [(false, [.dv (dSts r.1)]), (true, [.dv (.int .i64 r.2.1), .dv (.int .i64 r.2.2)])]
theorem syntax_check (i : Nat) (s : Stmt) : FnOk Try.prog F.syntax_check [.one (.row 0), I i, St s] [(0, .mp tabE)] 1 (I (checkOf i s)) [(0, .mp tabE)] 1 := by
  refine fnOk tab mix G.syntax_check rfl rfl (by kernel_rfl) rfl rfl ?_
  (conv => whnf)
  refine ⟨9, 87, .string, ⟨mapT.1, mapT.2, trivial, keysT⟩, ?_⟩
  (conv => whnf)
  refine ⟨zC, ?_⟩
  (conv => whnf)
  cases hc : countsOf s.word with
  | none =>
    refine find_is (r := none) (by rw [find_tab, hc]; rfl) ?_
    (conv => whnf)
    refine ask_m (fun h => ?_) (fun h => ?_)
    · have h : 256 ≤ i := by have := of_decide_eq_true h; omega
      (conv => whnf)
      refine ret0 ?_
      exact ⟨[], ⟨eqI (by rw [checkOf, if_pos h]), trivial⟩, ⟨rfl, trivial⟩⟩
    · have h : ¬ 256 ≤ i := by have := of_decide_eq_false h; omega
      (conv => whnf)
      (conv => whnf)
      refine ret0 ?_
      exact ⟨[], ⟨eqI (by rw [checkOf, if_neg h, hc]), trivial⟩, ⟨rfl, trivial⟩⟩
  | some c =>
    refine find_is (r := some (posOf s.word, (true, encC c))) (by rw [find_tab, hc]; rfl) ?_
    (conv => whnf)
    refine ask_m (fun h => ?_) (fun h => ?_)
    · have h : 256 ≤ i := by have := of_decide_eq_true h; omega
      (conv => whnf)
      refine ret0 ?_
      exact ⟨[], ⟨eqI (by rw [checkOf, if_pos h]), trivial⟩, ⟨rfl, trivial⟩⟩
    · have h : ¬ 256 ≤ i := by have := of_decide_eq_false h; omega
      (conv => whnf)
      refine call_i (syntax_allow c ((s.args.map encA).length) (counts_good hc)) ?_
      (conv => whnf)
      rw [List.length_map]
      cases ha : allowB c s.args.length with
      | true =>
        (conv => whnf)
        refine ret0 ?_
        exact ⟨[], ⟨eqI (by rw [checkOf, if_neg h, hc]; simp only [ha]; rfl), trivial⟩, ⟨rfl, trivial⟩⟩
      | false =>
        (conv => whnf)
        refine ret0 ?_
        exact ⟨[], ⟨eqI (by rw [checkOf, if_neg h, hc]; simp only [ha]; rfl), trivial⟩, ⟨rfl, trivial⟩⟩
theorem firstErr_at {k : Nat} {l : List Stmt} {s : Stmt} (h : l[k]? = some s) : firstErr k (l.drop k) = if checkOf k s = 0 then firstErr (k + 1) (l.drop (k + 1)) else some (checkOf k s, s.line) := by
  rw [drop_cons h, firstErr]
theorem split_len (s : ByteArray) : (splitOf s).1.length ≤ 16385 := by
  unfold splitOf
  repeat' split
  · simp
  · simp
  · have := fin_len s (autoAt s s.size) s.size
    have := (auto_inv s s.size).len
    simp only; omega
theorem group_len (ws : List Word) : (groupOf ws).length ≤ ws.length + 1 := by
  have := gAll_len ws ([], none) 0 ⟨Nat.zero_le _, fun s h => by cases h⟩
  rw [← gAll] at this
  have h2 : (gAll ws).2.toList.length ≤ 1 := by cases (gAll ws).2 <;> simp
  rw [groupOf, List.length_append]; omega
theorem syntax_Parse (src : ByteArray) : FnOk Try.prog F.syntax_Parse [Tx src] [] 0 (PaR (parseOf src)) [] 0 := by
  refine fnOk tab mix G.syntax_Parse rfl rfl (by kernel_rfl) rfl rfl ?_
  (conv => whnf)
  refine call_i (token_Split src) ?_
  (conv => whnf)
  have hsl := split_len src
  refine ask_m (fun h => ?_) (fun h => ?_)
  · have h : (splitOf src).2.1 ≠ 0 := by simpa using h
    have e : parseOf src = ([], (splitOf src).2) := by rw [parseOf, if_pos h]
    rw [e]
    (conv => whnf)
    refine retO [.own 2 Y.Statement 3, .frz 2] ?_
    (conv => whnf)
    exact ⟨[], ⟨rfl, trivial⟩, trivial⟩
  have h0 : ¬ (splitOf src).2.1 ≠ 0 := by simpa using h
  have e0 : parseOf src = match firstErr 0 (groupOf (splitOf src).1) with
    | some e => ([], e)
    | none => (groupOf (splitOf src).1, 0, 0) := by rw [parseOf, if_neg h0]
  (conv => whnf)
  refine call_i (syntax_group (splitOf src).1 (by omega)) ?_
  (conv => whnf)
  refine call_i (syntax_table) ?_
  (conv => whnf)
  have hgl := group_len (splitOf src).1
  generalize groupOf (splitOf src).1 = sts at *
  refine loop_intro (fun k : Nat => ⟨[(2, .one (.nil 3)), (3, .one (.vptr 0 0)), (6, .one (.dv (dSts sts))), (7, .one (.row 1)), (23, .one (.dv (dSts sts))), (24, I sts.length), (25, I k)], [(0, vE 0 0), (1, .mp tabE)], 2⟩) (fun k => k ≤ sts.length ∧ firstErr k (sts.drop k) = firstErr 0 sts) (fun k => sts.length - k) [] 0 [(1, 2)] ⟨Nat.zero_le _, rfl⟩ ⟨⟨rfl, rfl, rfl, rfl, rfl, eqI (by simp), rfl, trivial⟩, ⟨rfl, rfl, trivial⟩⟩ ?_
  rintro k ⟨hk, hf⟩
  (conv => whnf)
  refine ask_m (fun h => ?_) (fun h => ?_)
  · have hlt : k < sts.length := by have := of_decide_eq_true h; omega
    obtain ⟨s, hs⟩ : ∃ s, sts[k]? = some s := ⟨_, List.getElem?_eq_getElem hlt⟩
    have hkk : IntKind.i64.wrap ((k : Int) + 1) = ((k + 1 : Nat) : Int) := by rw [w64] <;> omega
    rw [firstErr_at hs] at hf
    (conv => whnf)
    refine idx_and (by omega) (by simpa using hs) ?_
    (conv => whnf)
    refine call_i (syntax_check k s) ?_
    (conv => whnf)
    refine ask_m (fun h => ?_) (fun h => ?_)
    · have hc : ¬ checkOf k s = 0 := by simpa using h
      rw [if_neg hc] at hf
      rw [← hf] at e0
      simp only at e0
      rw [e0]
      (conv => whnf)
      refine retO [.own 2 Y.Statement 3, .frz 3] ?_
      (conv => whnf)
      exact ⟨[], ⟨rfl, trivial⟩, trivial⟩
    · have hc : checkOf k s = 0 := by simpa using h
      rw [if_pos hc] at hf
      (conv => whnf)
      exact ⟨k + 1, [], ⟨hlt, hf⟩, by omega, ⟨⟨rfl, rfl, rfl, rfl, rfl, rfl, eqI hkk, trivial⟩, ⟨rfl, rfl, trivial⟩⟩⟩
  · have hk : k = sts.length := by have := of_decide_eq_false h; omega
    subst hk
    rw [List.drop_length, firstErr] at hf
    rw [← hf] at e0
    simp only at e0
    rw [e0]
    (conv => whnf)
    refine ret0 ?_
    exact ⟨[], ⟨rfl, trivial⟩, trivial⟩
end Go.Proofs.Ytgnblfojpcjgmaa
