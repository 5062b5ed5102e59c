/- law7: the table of words, Arguments. -/
import Derived.Test.YtgnblfojpcjgmaaTb
namespace Go.Proofs.Ytgnblfojpcjgmaa
open Eng
set_option maxRecDepth 10000
attribute [local irreducible] FnOk loopW idxF retX arrF findF

def wJoint : ByteArray := ⟨#[106, 111, 105, 110, 116]⟩
def wLimit : ByteArray := ⟨#[108, 105, 109, 105, 116]⟩
def wMass : ByteArray := ⟨#[109, 97, 115, 115]⟩
def wShape : ByteArray := ⟨#[115, 104, 97, 112, 101]⟩
def wSkip : ByteArray := ⟨#[115, 107, 105, 112]⟩
structure Counts where
  least : Int
  most : Int
  step : Int
def encC (c : Counts) : List DV := [.int .i64 c.least, .int .i64 c.most, .int .i64 c.step]
abbrev Cn (c : Counts) : SV := .agg [.dv (.int .i64 c.least), .dv (.int .i64 c.most), .dv (.int .i64 c.step)]
def entC (s : ByteArray) (c : Counts) : Ent := ((false, [.str s]), (true, encC c))
def tabE : List Ent := [entC wJoint ⟨9, 9, 1⟩, entC wLimit ⟨4, 4, 1⟩, entC wMass ⟨5, 5, 1⟩, entC wShape ⟨5, 26, 3⟩, entC wSkip ⟨2, 2, 1⟩]
def countsOf (w : ByteArray) : Option Counts := if w = wJoint then some ⟨9, 9, 1⟩ else if w = wLimit then some ⟨4, 4, 1⟩ else if w = wMass then some ⟨5, 5, 1⟩ else if w = wShape then some ⟨5, 26, 3⟩ else if w = wSkip then some ⟨2, 2, 1⟩ else none
theorem mapT : Try.prog.underlying Y.map_string_syntax_counts = some (.map Y.string Y.syntax_counts) ∧ Try.prog.underlying Y.string = some .string := ⟨by kernel_rfl, by kernel_rfl⟩
theorem zC : zAgg Try.prog 87 = true := by kernel_rfl
theorem keysT : keysD .string tabE := ⟨trivial, trivial, trivial, trivial, trivial, trivial⟩
theorem syntax_table : FnOk Try.prog F.syntax_table [] [] 0 (.one (.row 0)) [(0, .mp tabE)] 1 := by
  refine fnOk tab mix G.syntax_table rfl rfl (by kernel_rfl) rfl rfl ?_
  (conv => whnf)
  refine ⟨9, 87, .string, ⟨mapT.1, mapT.2, trivial, trivial⟩, ?_⟩
  (conv => whnf)
  refine find_is (r := none) rfl ?_
  (conv => whnf)
  refine ⟨9, 87, .string, ⟨mapT.1, mapT.2, trivial, ⟨trivial, trivial⟩⟩, ?_⟩
  (conv => whnf)
  refine find_is (r := none) (by kernel_rfl) ?_
  (conv => whnf)
  refine ⟨9, 87, .string, ⟨mapT.1, mapT.2, trivial, ⟨trivial, trivial, trivial⟩⟩, ?_⟩
  (conv => whnf)
  refine find_is (r := none) (by kernel_rfl) ?_
  (conv => whnf)
  refine ⟨9, 87, .string, ⟨mapT.1, mapT.2, trivial, ⟨trivial, trivial, trivial, trivial⟩⟩, ?_⟩
  (conv => whnf)
  refine find_is (r := none) (by kernel_rfl) ?_
  (conv => whnf)
  refine ⟨9, 87, .string, ⟨mapT.1, mapT.2, trivial, ⟨trivial, trivial, trivial, trivial, trivial⟩⟩, ?_⟩
  (conv => whnf)
  refine find_is (r := none) (by kernel_rfl) ?_
  (conv => whnf)
  refine ret0 ?_
  exact ⟨[(0, 0)], ⟨rfl, trivial⟩, ⟨rfl, trivial⟩⟩
def posOf (w : ByteArray) : Nat := if w = wJoint then 0 else if w = wLimit then 1 else if w = wMass then 2 else if w = wShape then 3 else 4
theorem find_tab (w : ByteArray) : findD (.str w) tabE = (countsOf w).map fun c => (posOf w, (true, encC c)) := by
  unfold tabE countsOf posOf entC
  simp only [findD, keyEq]
  by_cases h1 : w = wJoint
  · simp [h1]
  by_cases h2 : w = wLimit
  · simp [h1, h2]; subst h2; simp_all
  by_cases h3 : w = wMass
  · simp [h1, h2, h3]; subst h3; simp_all
  by_cases h4 : w = wShape
  · simp [h1, h2, h3, h4]; subst h4; simp_all
  by_cases h5 : w = wSkip
  · simp [h1, h2, h3, h4, h5]; subst h5; simp_all
  simp [h1, h2, h3, h4, h5]
def allowB (c : Counts) (n : Int) : Bool := decide (c.least ≤ n) && decide (n ≤ c.most) && decide ((n - c.least) % c.step = 0)
theorem syntax_allow (c : Counts) (n : Int) (hc : 0 ≤ c.least ∧ c.most ≤ 100 ∧ 0 < c.step) : FnOk Try.prog F.syntax_counts_allow [Cn c, I n] [] 0 (Bo (allowB c n)) [] 0 := by
  refine fnOk tab mix G.syntax_counts_allow rfl rfl (by kernel_rfl) rfl rfl ?_
  (conv => whnf)
  refine ask_m (fun h => ?_) (fun h => ?_)
  · have h1 := of_decide_eq_true h
    (conv => whnf)
    refine ask_m (fun h => ?_) (fun h => ?_)
    · have h2 := of_decide_eq_true h
      have hw : IntKind.i64.wrap (n - c.least) = n - c.least := by rw [w64] <;> omega
      (conv => whnf)
      rw [hw]
      have hm : (n - c.least).tmod c.step = (n - c.least) % c.step := Int.tmod_eq_emod_of_nonneg (by omega)
      refine ⟨(by omega : c.step ≠ 0), ?_⟩
      (conv => whnf)
      rw [hm]
      (conv => whnf)
      refine ret0 ?_
      exact ret_b (by simp [allowB, h1, h2]; rfl) rfl
    · have h2 := of_decide_eq_false h
      (conv => whnf)
      refine ret0 ?_
      exact ret_b (by simp [allowB, h2]) rfl
  · have h1 := of_decide_eq_false h
    (conv => whnf)
    refine ret0 ?_
    exact ret_b (by simp [allowB, h1]) rfl
theorem counts_good {w : ByteArray} {c : Counts} (h : countsOf w = some c) : 0 ≤ c.least ∧ c.most ≤ 100 ∧ 0 < c.step := by
  unfold countsOf at h
  repeat' split at h
  all_goals first | (injection h with h; subst h; decide) | cases h
def argsB (w : ByteArray) (n : Int) : Bool := match countsOf w with
  | some c => allowB c n
  | none => false
theorem syntax_Arguments (w : ByteArray) (n : Int) : FnOk Try.prog F.syntax_Arguments [Tx w, I n] [] 0 (Bo (argsB w n)) [] 0 := by
  refine fnOk tab mix G.syntax_Arguments rfl rfl (by kernel_rfl) rfl rfl ?_
  (conv => whnf)
  refine call_i (syntax_table) ?_
  (conv => whnf)
  refine ⟨9, 87, .string, ⟨mapT.1, mapT.2, trivial, keysT⟩, ?_⟩
  (conv => whnf)
  refine ⟨zC, ?_⟩
  (conv => whnf)
  cases hc : countsOf w with
  | none =>
    refine find_is (r := none) (by rw [find_tab, hc]; rfl) ?_
    (conv => whnf)
    refine ret0 ?_
    exact ret_b (by rw [argsB, hc]) rfl
  | some c =>
    refine find_is (r := some (posOf w, (true, encC c))) (by rw [find_tab, hc]; rfl) ?_
    (conv => whnf)
    refine call_i (syntax_allow c n (counts_good hc)) ?_
    (conv => whnf)
    (conv => whnf)
    refine ret0 ?_
    exact ret_b (by rw [argsB, hc]) rfl
theorem ref_Arguments (w : ByteArray) (n : Int) : FnOk Try.prog F.ref6_Arguments [Tx w, I n] [] 0 (Bo (argsB w n)) [] 0 := by
  refine fnOk tab mix G.ref6_Arguments rfl rfl (by kernel_rfl) rfl rfl ?_
  (conv => whnf)
  have e1 : ∀ x, countsOf w = some x → argsB w n = allowB x n := fun x h => by rw [argsB, h]
  refine ask_m (fun h => ?_) (fun h => ?_)
  · have h : w = wJoint := of_decide_eq_true h
    (conv => whnf)
    refine ret0 ?_
    exact ret_b (by rw [e1 ⟨9, 9, 1⟩ (by rw [countsOf, if_pos h]), Bool.eq_iff_iff]; simp [allowB]; omega) rfl
  have n1 : ¬ w = wJoint := of_decide_eq_false h
  (conv => whnf)
  refine ask_m (fun h => ?_) (fun h => ?_)
  · have h : w = wLimit := of_decide_eq_true h
    (conv => whnf)
    refine ret0 ?_
    exact ret_b (by rw [e1 ⟨4, 4, 1⟩ (by rw [countsOf, if_neg n1, if_pos h]), Bool.eq_iff_iff]; simp [allowB]; omega) rfl
  have n2 : ¬ w = wLimit := of_decide_eq_false h
  (conv => whnf)
  refine ask_m (fun h => ?_) (fun h => ?_)
  · have h : w = wMass := of_decide_eq_true h
    (conv => whnf)
    refine ret0 ?_
    exact ret_b (by rw [e1 ⟨5, 5, 1⟩ (by rw [countsOf, if_neg n1, if_neg n2, if_pos h]), Bool.eq_iff_iff]; simp [allowB]; omega) rfl
  have n3 : ¬ w = wMass := of_decide_eq_false h
  (conv => whnf)
  refine ask_m (fun h => ?_) (fun h => ?_)
  · have h : w = wShape := of_decide_eq_true h
    have e := e1 ⟨5, 26, 3⟩ (by rw [countsOf, if_neg n1, if_neg n2, if_neg n3, if_pos h])
    rw [e]
    (conv => whnf)
    refine ask_m (fun h => ?_) (fun h => ?_)
    · have h1 := of_decide_eq_true h
      (conv => whnf)
      refine ask_m (fun h => ?_) (fun h => ?_)
      · have h2 := of_decide_eq_true h
        have hw : IntKind.i64.wrap (n - 2) = n - 2 := by rw [w64] <;> omega
        have hm : (n - 2).tmod 3 = (n - 2) % 3 := Int.tmod_eq_emod_of_nonneg (by omega)
        (conv => whnf)
        rw [hw]
        refine ⟨(by omega : (3 : Int) ≠ 0), ?_⟩
        (conv => whnf)
        rw [hm]
        (conv => whnf)
        refine ret0 ?_
        exact ret_b (by rw [Bool.eq_iff_iff]; simp [allowB, h1, h2]; omega) rfl
      · have h2 := of_decide_eq_false h
        (conv => whnf)
        refine ret0 ?_
        exact ret_b (by simp [allowB, h2]) rfl
    · have h1 := of_decide_eq_false h
      (conv => whnf)
      refine ret0 ?_
      exact ret_b (by simp [allowB]; intro h; exact absurd h h1) rfl
  have n4 : ¬ w = wShape := of_decide_eq_false h
  (conv => whnf)
  refine ask_m (fun h => ?_) (fun h => ?_)
  · have h : w = wSkip := of_decide_eq_true h
    (conv => whnf)
    refine ret0 ?_
    exact ret_b (by rw [e1 ⟨2, 2, 1⟩ (by rw [countsOf, if_neg n1, if_neg n2, if_neg n3, if_neg n4, if_pos h]), Bool.eq_iff_iff]; simp [allowB]; omega) rfl
  have n5 : ¬ w = wSkip := of_decide_eq_false h
  (conv => whnf)
  refine ret0 ?_
  exact ret_b (by rw [argsB, countsOf, if_neg n1, if_neg n2, if_neg n3, if_neg n4, if_neg n5]) rfl
end Go.Proofs.Ytgnblfojpcjgmaa
