import Derived.Test.YtejjkajknmhplaaX2
namespace Go.Proofs.Ytejjkajknmhplaa
open Eng
set_option maxRecDepth 10000
attribute [local irreducible] FnOk loopW idxF retX

theorem take_same {α : Type} {xs ys : List α} {k : Nat} {x : α} (h : xs.take k = ys.take k) (hx : xs[k]? = some x) (hy : ys[k]? = some x) : xs.take (k + 1) = ys.take (k + 1) := by
  rw [List.take_add_one, List.take_add_one, hx, hy, h]
theorem ne_at {α : Type} {xs ys : List α} {k : Nat} {x y : α} (hx : xs[k]? = some x) (hy : ys[k]? = some y) (h : x ≠ y) : xs ≠ ys := by
  rintro rfl; rw [hx] at hy; injection hy; contradiction
theorem f34_ok (xs ys : List Int) (hl : xs.length ≤ 4611686018427387904) : FnOk Try.prog 34 [Li xs, Li ys] [] 0 (Bo (decide (xs = ys))) [] 0 := by
  refine fnOk tab mix Try.func34 rfl rfl (by kernel_rfl) rfl rfl ?_
  repeat' ((conv => whnf); first | refine ask_m (fun h => ?_) (fun h => ?_) | refine ret0 ?_)
  · exact ret_b (by
      have : xs ≠ ys := by rintro rfl; simp at h
      simp [this]) rfl
  have hle : xs.length = ys.length := by simp at h; omega
  refine loop_intro (fun k : Nat => ⟨[(0, Li xs), (1, Li ys), (5, I k)], [], 0⟩) (fun k => k ≤ xs.length ∧ xs.take k = ys.take k) (fun k => xs.length - k) [] 0 [] ⟨Nat.zero_le _, rfl⟩ ⟨⟨rfl, rfl, rfl, trivial⟩, trivial⟩ ?_
  rintro k ⟨hk, hall⟩
  (conv => whnf)
  refine ask_m (fun h => ?_) (fun h => ?_)
  · have hlt : k < xs.length := by simpa using h
    obtain ⟨x, hx⟩ : ∃ x, xs[k]? = some x := ⟨_, List.getElem?_eq_getElem hlt⟩
    obtain ⟨y, hy⟩ : ∃ x, ys[k]? = some x := ⟨_, List.getElem?_eq_getElem (by omega)⟩
    have hkk : IntKind.i64.wrap ((k : Int) + 1) = ((k + 1 : Nat) : Int) := by rw [w64] <;> omega
    (conv => whnf)
    refine ⟨by omega, idx_map (by simpa using hx) ?_⟩
    (conv => whnf)
    refine ⟨by omega, idx_map (by simpa using hy) ?_⟩
    repeat' ((conv => whnf); first | refine ask_m (fun h => ?_) (fun h => ?_) | refine ret0 ?_)
    · exact ret_b (by
        have : x ≠ y := by simpa using h
        simp [ne_at hx hy this]) rfl
    · have : x = y := by simpa using h
      subst this
      exact ⟨k + 1, [], ⟨hlt, take_same hall hx hy⟩, by omega, ⟨⟨rfl, rfl, eqI hkk, trivial⟩, trivial⟩⟩
  · have hk : k = xs.length := by simp at h; omega
    subst hk
    (conv => whnf)
    refine ret0 ?_
    exact ret_b (by
      rw [List.take_length, hle, List.take_length] at hall
      simp [hall]) rfl

def ramp (v : Int) (i : Nat) : List Row := [⟨i, -1, 1, v⟩, ⟨i, 1, -1, v⟩]
def rampsTo (v : Int) (k : Nat) : List Row := (List.range k).flatMap (ramp v)
theorem rampsTo_len (v : Int) (k : Nat) : (rampsTo v k).length = 2 * k := by
  induction k with
  | zero => rfl
  | succ k ih => simp only [rampsTo, List.range_succ, List.flatMap_append, List.length_append] at ih ⊢; rw [ih]; simp [ramp]; omega
theorem rampsTo_succ (v : Int) (k : Nat) : (rampsTo v (k + 1)).map encR = (rampsTo v k).map encR ++ [[.int .i64 k, .int .i64 (-1), .int .i64 1, .int .i64 v], [.int .i64 k, .int .i64 1, .int .i64 (-1), .int .i64 v]] := by
  simp [rampsTo, List.range_succ, ramp, encR]
def ramps (n v : Int) : List Row := rampsTo v (n - 1).toNat
theorem f23_ok (n v : Int) (hn : n ≤ 1000) : FnOk Try.prog 23 [I n, I v] [] 0 (.one (.row 0)) [(0, .rows 25 4 ((ramps n v).map encR))] 1 := by
  refine fnOk tab mix Try.func23 rfl rfl (by kernel_rfl) rfl rfl ?_
  (conv => whnf)
  refine loop_intro (fun k : Nat => ⟨[(0, I n), (1, I v), (5, .one (.row 0)), (6, I k)], [(0, .rows 25 4 ((rampsTo v k).map encR))], 1⟩) (fun k => k ≤ (n - 1).toNat) (fun k => (n - 1).toNat - k) [.own 5 25 4] 0 [] (Nat.zero_le _) ⟨⟨rfl, rfl, rfl, rfl, trivial⟩, ⟨rfl, trivial⟩⟩ ?_
  rintro k hk
  have hkk : IntKind.i64.wrap ((k : Int) + 1) = ((k + 1 : Nat) : Int) := by rw [w64] <;> omega
  (conv => whnf)
  refine ask_m (fun h => ?_) (fun h => ?_)
  · rw [hkk] at h
    have h : ((k + 1 : Nat) : Int) < n := by simpa using h
    have hlen := rampsTo_len v k
    (conv => whnf)
    refine ⟨⟨by simp [hlen]; omega, by simp [hlen]; omega⟩, ?_⟩
    (conv => whnf)
    refine ⟨k + 1, [(0, 2)], by omega, by omega, ⟨⟨rfl, rfl, rfl, eqI hkk, trivial⟩, ⟨?_, trivial⟩⟩⟩
    rw [rampsTo_succ]
    rfl
  · rw [hkk] at h
    have h : ¬ ((k + 1 : Nat) : Int) < n := by simpa using h
    have hk : k = (n - 1).toNat := by omega
    subst hk
    (conv => whnf)
    refine ret0 ?_
    exact ⟨[], ⟨rfl, trivial⟩, ⟨rfl, trivial⟩⟩
end Go.Proofs.Ytejjkajknmhplaa
