import Derived.Test.YtejjkajknmhplaaX18
namespace Go.Proofs.Ytejjkajknmhplaa
open Eng
set_option maxRecDepth 10000
attribute [local irreducible] FnOk loopW idxF retX arrF

def alt (l : List Int) (how at_ x : Int) (n : Nat) : List Int :=
  if how % 4 = 0 then if 0 < l.length then l.take (at_ % l.length).toNat else l
  else if how % 4 = 1 then l ++ [x % (n + 2) - 1]
  else if how % 4 = 2 then if 0 < l.length then l.set (at_ % l.length).toNat (x % (n + 2) - 1) else l
  else (x % (n + 1)) :: l
theorem f30_ok (l : List Int) (how at_ x : Int) (n : Nat) (hl : l.length ≤ 16384) (hn : n ≤ 65536) : FnOk Try.prog 30 [Li l, I how, I at_, I x, I n] [] 0 (.one (.row 0)) [(0, .rows 3 1 ((alt l how at_ x n).map encI))] 1 := by
  refine fnOk tab mix Try.func30 rfl rfl (by kernel_rfl) rfl rfl ?_
  have w1 : IntKind.i64.wrap ((n : Int) + 2) = (n : Int) + 2 := by rw [w64] <;> omega
  have w2 : IntKind.i64.wrap ((n : Int) + 1) = (n : Int) + 1 := by rw [w64] <;> omega
  have b1 : 0 ≤ x % ((n : Int) + 2) ∧ x % ((n : Int) + 2) < (n : Int) + 2 := ⟨Int.emod_nonneg _ (by omega), Int.emod_lt_of_pos _ (by omega)⟩
  have w3 : IntKind.i64.wrap (x % ((n : Int) + 2) - 1) = x % ((n : Int) + 2) - 1 := by rw [w64] <;> omega
  (conv => whnf)
  refine ⟨⟨by simp; omega, by simp; omega⟩, ?_⟩
  (conv => whnf)
  refine call_i (f22_ok how 4 (by decide) (by decide)) ?_
  (conv => whnf)
  refine ask_m (fun h => ?_) (fun h => ?_)
  · have h0 : how % 4 = 0 := by simpa using h
    (conv => whnf)
    refine ask_m (fun h => ?_) (fun h => ?_)
    · have hp : 0 < l.length := by have := of_decide_eq_true h; simp only [List.length_map] at this; omega
      have b2 : 0 ≤ at_ % (l.length : Int) ∧ at_ % (l.length : Int) < l.length := ⟨Int.emod_nonneg _ (by omega), Int.emod_lt_of_pos _ (by omega)⟩
      (conv => whnf)
      rw [List.length_map]
      refine call_i (f22_ok at_ (l.length : Int) (by omega) (by omega)) ?_
      (conv => whnf)
      refine ⟨⟨b2.1, by simp only [List.length_map]; omega⟩, ?_⟩
      (conv => whnf)
      refine ret0 ?_
      have : alt l how at_ x n = l.take (at_ % l.length).toNat := by simp only [alt, h0, if_true, if_pos hp]
      rw [this]
      refine ⟨[(0, 1)], ⟨rfl, trivial⟩, ⟨?_, trivial⟩⟩
      rw [List.map_take]; rfl
    · have hp : ¬ 0 < l.length := by have := of_decide_eq_false h; simp only [List.length_map] at this; omega
      (conv => whnf)
      refine ret0 ?_
      have : alt l how at_ x n = l := by simp only [alt, h0, if_true, if_neg hp]
      rw [this]
      exact ⟨[(0, 0)], ⟨rfl, trivial⟩, ⟨rfl, trivial⟩⟩
  have h0 : ¬ how % 4 = 0 := by simpa using h
  (conv => whnf)
  refine ask_m (fun h => ?_) (fun h => ?_)
  · have h1 : how % 4 = 1 := by simpa using h
    (conv => whnf)
    rw [w1]
    refine call_i (f22_ok x ((n : Int) + 2) (by omega) (by omega)) ?_
    (conv => whnf)
    rw [w3]
    refine ⟨⟨by simp; omega, by simp; omega⟩, ?_⟩
    (conv => whnf)
    refine ret0 ?_
    have : alt l how at_ x n = l ++ [x % (n + 2) - 1] := by simp only [alt, if_neg h0, if_pos h1]
    rw [this]
    refine ⟨[(0, 2)], ⟨rfl, trivial⟩, ⟨?_, trivial⟩⟩
    rw [List.map_append]; rfl
  have h1 : ¬ how % 4 = 1 := by simpa using h
  (conv => whnf)
  refine ask_m (fun h => ?_) (fun h => ?_)
  · have h2 : how % 4 = 2 := by simpa using h
    (conv => whnf)
    refine ask_m (fun h => ?_) (fun h => ?_)
    · have hp : 0 < l.length := by have := of_decide_eq_true h; simp only [List.length_map] at this; omega
      have b2 : 0 ≤ at_ % (l.length : Int) ∧ at_ % (l.length : Int) < l.length := ⟨Int.emod_nonneg _ (by omega), Int.emod_lt_of_pos _ (by omega)⟩
      (conv => whnf)
      rw [List.length_map]
      refine call_i (f22_ok at_ (l.length : Int) (by omega) (by omega)) ?_
      (conv => whnf)
      rw [w1]
      refine call_i (f22_ok x ((n : Int) + 2) (by omega) (by omega)) ?_
      (conv => whnf)
      rw [w3]
      refine ⟨⟨b2.1, by simp only [List.length_map]; omega⟩, ?_⟩
      (conv => whnf)
      refine idx_map (lv_some (x := l) (i := at_ % (l.length : Int)) (by omega)) ?_
      (conv => whnf)
      refine ret0 ?_
      have : alt l how at_ x n = l.set (at_ % l.length).toNat (x % (n + 2) - 1) := by simp only [alt, if_neg h0, if_neg h1, if_pos h2, if_pos hp]
      rw [this]
      refine ⟨[(0, 0)], ⟨rfl, trivial⟩, ⟨?_, trivial⟩⟩
      rw [← set_enc]; rfl
    · have hp : ¬ 0 < l.length := by have := of_decide_eq_false h; simp only [List.length_map] at this; omega
      (conv => whnf)
      refine ret0 ?_
      have : alt l how at_ x n = l := by simp only [alt, if_neg h0, if_neg h1, if_pos h2, if_neg hp]
      rw [this]
      exact ⟨[(0, 0)], ⟨rfl, trivial⟩, ⟨rfl, trivial⟩⟩
  have h2 : ¬ how % 4 = 2 := by simpa using h
  (conv => whnf)
  rw [w2]
  refine call_i (f22_ok x ((n : Int) + 1) (by omega) (by omega)) ?_
  (conv => whnf)
  refine ⟨⟨by simp; omega, by simp; omega⟩, ?_⟩
  (conv => whnf)
  refine ret0 ?_
  have : alt l how at_ x n = (x % (n + 1)) :: l := by simp only [alt, if_neg h0, if_neg h1, if_neg h2]
  rw [this]
  exact ⟨[(0, 2)], ⟨rfl, trivial⟩, ⟨rfl, trivial⟩⟩
end Go.Proofs.Ytejjkajknmhplaa
