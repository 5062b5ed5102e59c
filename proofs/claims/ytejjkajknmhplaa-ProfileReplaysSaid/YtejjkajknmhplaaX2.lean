import Derived.Test.YtejjkajknmhplaaX1
namespace Go.Proofs.Ytejjkajknmhplaa
open Eng
set_option maxRecDepth 10000
attribute [local irreducible] FnOk loopW idxF retX

theorem tmod_pos {x m : Int} (hm : 0 < m) : (x.tmod m < 0 → x.tmod m + m = x % m) ∧ (0 ≤ x.tmod m → x.tmod m = x % m) ∧ -m < x.tmod m ∧ x.tmod m < m := by
  have h1 := Int.tmod_eq_emod (a := x) (b := m)
  have h2 := Int.emod_nonneg x (b := m) (by omega)
  have h3 := Int.emod_lt_of_pos x hm
  have : (m.natAbs : Int) = m := by omega
  split at h1 <;> omega
theorem f22_ok (x m : Int) (hm : 0 < m) (hm2 : m ≤ 4611686018427387904) : FnOk Try.prog 22 [I x, I m] [] 0 (I (x % m)) [] 0 := by
  refine fnOk tab mix Try.func22 rfl rfl (by kernel_rfl) rfl rfl ?_
  obtain ⟨h1, h2, h3, h4⟩ := tmod_pos (x := x) hm
  (conv => whnf)
  refine ⟨by omega, ?_⟩
  repeat' ((conv => whnf); first | refine ask_m (fun h => ?_) (fun h => ?_) | refine ret0 ?_)
  all_goals (conv => whnf)
  · have h : x.tmod m < 0 := by simpa using h
    exact ret_i (by rw [w64 (by omega) (by omega)]; exact h1 h) rfl
  · have h : ¬ x.tmod m < 0 := by simpa using h
    exact ret_i (h2 (by omega)) rfl

/-- what a source holds: the numbers, and how many are used -/
abbrev Src (xs : List Int) (k : Nat) : Box := .vars 74 [.dv (.lst 1 (xs.map encI)), .dv (.int .i64 k)]
def nxt (xs : List Int) (k : Nat) (m : Int) : Int := match xs[k]? with
  | some x => x % m
  | none => 0
def adv (xs : List Int) (k : Nat) : Nat := if k < xs.length then k + 1 else k
theorem f36_ok (xs : List Int) : FnOk Try.prog 36 [Li xs] [] 0 (.one (.vptr 0 0)) [(0, Src xs 0)] 1 := by
  refine fnOk tab mix Try.func36 rfl rfl (by kernel_rfl) rfl rfl ?_
  repeat' ((conv => whnf); first | refine ask_m (fun h => ?_) (fun h => ?_) | refine ret0 ?_)
  exact ⟨[], ⟨rfl, trivial⟩, ⟨rfl, trivial⟩⟩
theorem f37_ok (xs : List Int) (k : Nat) (m : Int) (hm : 0 < m) (hm2 : m ≤ 4611686018427387904) (hx : xs.length ≤ 4611686018427387904) (hk : k ≤ xs.length) : FnOk Try.prog 37 [.one (.vptr 0 0), I m] [(0, Src xs k)] 1 (I (nxt xs k m)) [(0, Src xs (adv xs k))] 1 := by
  refine fnOk tab mix Try.func37 rfl rfl (by kernel_rfl) rfl rfl ?_
  repeat' ((conv => whnf); first | refine ask_m (fun h => ?_) (fun h => ?_) | refine ret0 ?_)
  · have hl : ¬ k < xs.length := by simp at h; omega
    have h1 : nxt xs k m = 0 := by unfold nxt; rw [List.getElem?_eq_none (by omega)]
    have h2 : adv xs k = k := by simp [adv, hl]
    rw [h1, h2]
    exact ⟨[], ⟨rfl, trivial⟩, ⟨rfl, trivial⟩⟩
  · have hl : k < xs.length := by simp at h; omega
    obtain ⟨x, hxk⟩ : ∃ x, xs[k]? = some x := ⟨_, List.getElem?_eq_getElem hl⟩
    have h1 : nxt xs k m = x % m := by unfold nxt; rw [hxk]
    have h2 : adv xs k = k + 1 := by simp [adv, hl]
    have w1 : IntKind.i64.wrap ((k : Int) + 1) = ((k + 1 : Nat) : Int) := by rw [w64] <;> omega
    have w2 : IntKind.i64.wrap (((k + 1 : Nat) : Int) - 1) = k := by rw [w64] <;> omega
    rw [h1, h2]
    (conv => whnf)
    rw [w1, w2]
    refine ⟨by omega, idx_map (by simpa using hxk) ?_⟩
    (conv => whnf)
    refine ⟨_, _, _, f22_ok x m hm hm2, ?_⟩
    (conv => whnf)
    refine ret0 ?_
    exact ⟨[], ⟨rfl, trivial⟩, ⟨rfl, trivial⟩⟩
theorem f38_ok (xs : List Int) (k : Nat) (m : Int) (hm : 0 < m) (hm2 : m ≤ 1152921504606846976) (hx : xs.length ≤ 4611686018427387904) (hk : k ≤ xs.length) : FnOk Try.prog 38 [.one (.vptr 0 0), I m] [(0, Src xs k)] 1 (I (nxt xs k (2 * m + 1) - m)) [(0, Src xs (adv xs k))] 1 := by
  refine fnOk tab mix Try.func38 rfl rfl (by kernel_rfl) rfl rfl ?_
  have w1 : IntKind.i64.wrap (2 * m) = 2 * m := by rw [w64] <;> omega
  have w2 : IntKind.i64.wrap (2 * m + 1) = 2 * m + 1 := by rw [w64] <;> omega
  have hn : 0 ≤ nxt xs k (2 * m + 1) ∧ nxt xs k (2 * m + 1) < 2 * m + 1 := by
    unfold nxt; split
    · exact ⟨Int.emod_nonneg _ (by omega), Int.emod_lt_of_pos _ (by omega)⟩
    · omega
  have w3 : IntKind.i64.wrap (nxt xs k (2 * m + 1) - m) = nxt xs k (2 * m + 1) - m := by rw [w64] <;> omega
  (conv => whnf)
  rw [w1, w2]
  refine ⟨_, _, _, f37_ok xs k (2 * m + 1) (by omega) (by omega) hx hk, ?_⟩
  (conv => whnf)
  refine ret0 ?_
  exact ⟨[], ⟨eqI w3, trivial⟩, ⟨rfl, trivial⟩⟩
end Go.Proofs.Ytejjkajknmhplaa
