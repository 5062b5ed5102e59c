import Derived.Test.YtejjkajknmhplaaX3
namespace Go.Proofs.Ytejjkajknmhplaa
open Eng
set_option maxRecDepth 10000
attribute [local irreducible] FnOk loopW idxF retX

theorem f39_ok (xs ys : List Int) (hl : xs.length ≤ 4611686018427387904) : FnOk Try.prog 39 [Li xs, Li ys] [] 0 (Bo (decide (xs = ys))) [] 0 := by
  refine fnOk tab mix Try.func39 rfl rfl (by kernel_rfl) rfl rfl ?_
  repeat' ((conv => whnf); first | refine ask_m (fun h => ?_) (fun h => ?_) | refine ret0 ?_)
  · exact ret_b (by
      have : xs ≠ ys := by rintro rfl; simp at h
      simp [this]) rfl
  have hle : xs.length = ys.length := by simp at h; omega
  refine loop_intro (fun k : Nat => ⟨[(0, Li xs), (1, Li ys), (5, I k)], [], 0⟩) (fun k => k ≤ xs.length ∧ xs.take k = ys.take k) (fun k => xs.length - k) [] 0 [] ⟨Nat.zero_le _, rfl⟩ ⟨⟨rfl, rfl, rfl, trivial⟩, trivial⟩ ?_
  rintro k ⟨hk, hall⟩
  (conv => whnf)
  refine ask_m (fun h => ?_) (fun h => ?_)
  · have hlt : k < xs.length := by simpa using h
    obtain ⟨x, hx⟩ : ∃ x, xs[k]? = some x := ⟨_, List.getElem?_eq_getElem hlt⟩
    obtain ⟨y, hy⟩ : ∃ x, ys[k]? = some x := ⟨_, List.getElem?_eq_getElem (by omega)⟩
    have hkk : IntKind.i64.wrap ((k : Int) + 1) = ((k + 1 : Nat) : Int) := by rw [w64] <;> omega
    (conv => whnf)
    refine ⟨by omega, idx_map (by simpa using hx) ?_⟩
    (conv => whnf)
    refine ⟨by omega, idx_map (by simpa using hy) ?_⟩
    repeat' ((conv => whnf); first | refine ask_m (fun h => ?_) (fun h => ?_) | refine ret0 ?_)
    · exact ret_b (by
        have : x ≠ y := by simpa using h
        simp [ne_at hx hy this]) rfl
    · have : x = y := by simpa using h
      subst this
      exact ⟨k + 1, [], ⟨hlt, take_same hall hx hy⟩, by omega, ⟨⟨rfl, rfl, eqI hkk, trivial⟩, trivial⟩⟩
  · have hk : k = xs.length := by simp at h; omega
    subst hk
    (conv => whnf)
    refine ret0 ?_
    exact ret_b (by
      rw [List.take_length, hle, List.take_length] at hall
      simp [hall]) rfl


structure Phase where
  kind : Int
  lo : Int
  hi : Int
deriving DecidableEq
deriving instance DecidableEq for Row
def encP (p : Phase) : List DV := [.int .i64 p.kind, .int .i64 p.lo, .int .i64 p.hi]
abbrev Lp (xs : List Phase) : SV := .one (.dv (.lst 3 (xs.map encP)))
theorem cmp46 : cmpB Try.prog 8 46 = true ∧ Try.prog.eqGuardType Try.prog.depth 46 = false := ⟨by kernel_rfl, by kernel_rfl⟩
theorem cmp25 : cmpB Try.prog 8 25 = true ∧ Try.prog.eqGuardType Try.prog.depth 25 = false := ⟨by kernel_rfl, by kernel_rfl⟩
theorem f26_ok (xs ys : List Phase) (hl : xs.length ≤ 4611686018427387904) : FnOk Try.prog 26 [Lp xs, Lp ys] [] 0 (Bo (decide (xs = ys))) [] 0 := by
  refine fnOk tab mix Try.func26 rfl rfl (by kernel_rfl) rfl rfl ?_
  repeat' ((conv => whnf); first | refine ask_m (fun h => ?_) (fun h => ?_) | refine ret0 ?_)
  · exact ret_b (by
      have : xs ≠ ys := by rintro rfl; simp at h
      simp [this]) rfl
  have hle : xs.length = ys.length := by simp at h; omega
  refine loop_intro (fun k : Nat => ⟨[(0, Lp xs), (1, Lp ys), (5, I k)], [], 0⟩) (fun k => k ≤ xs.length ∧ xs.take k = ys.take k) (fun k => xs.length - k) [] 0 [] ⟨Nat.zero_le _, rfl⟩ ⟨⟨rfl, rfl, rfl, trivial⟩, trivial⟩ ?_
  rintro k ⟨hk, hall⟩
  (conv => whnf)
  refine ask_m (fun h => ?_) (fun h => ?_)
  · have hlt : k < xs.length := by simpa using h
    obtain ⟨x, hx⟩ : ∃ x, xs[k]? = some x := ⟨_, List.getElem?_eq_getElem hlt⟩
    obtain ⟨y, hy⟩ : ∃ x, ys[k]? = some x := ⟨_, List.getElem?_eq_getElem (by omega)⟩
    have hkk : IntKind.i64.wrap ((k : Int) + 1) = ((k + 1 : Nat) : Int) := by rw [w64] <;> omega
    (conv => whnf)
    refine ⟨by omega, idx_map (by simpa using hx) ?_⟩
    (conv => whnf)
    refine ⟨by omega, idx_map (by simpa using hy) ?_⟩
    (conv => whnf)
    refine ⟨cmp46, ?_⟩
    repeat' ((conv => whnf); first | refine ask_m (fun h => ?_) (fun h => ?_) | refine ret0 ?_)
    · exact ret_b (by
        have : x ≠ y := by rintro rfl; simp at h
        simp [ne_at hx hy this]) rfl
    · have : x = y := by
        obtain ⟨a0, a1, a2⟩ := x
        obtain ⟨b0, b1, b2⟩ := y
        simp at h
        simp [h]
      subst this
      exact ⟨k + 1, [], ⟨hlt, take_same hall hx hy⟩, by omega, ⟨⟨rfl, rfl, eqI hkk, trivial⟩, trivial⟩⟩
  · have hk : k = xs.length := by simp at h; omega
    subst hk
    (conv => whnf)
    refine ret0 ?_
    exact ret_b (by
      rw [List.take_length, hle, List.take_length] at hall
      simp [hall]) rfl

theorem f47_ok (xs ys : List Row) (hl : xs.length ≤ 4611686018427387904) : FnOk Try.prog 47 [Lr xs, Lr ys] [] 0 (Bo (decide (xs = ys))) [] 0 := by
  refine fnOk tab mix Try.func47 rfl rfl (by kernel_rfl) rfl rfl ?_
  repeat' ((conv => whnf); first | refine ask_m (fun h => ?_) (fun h => ?_) | refine ret0 ?_)
  · exact ret_b (by
      have : xs ≠ ys := by rintro rfl; simp at h
      simp [this]) rfl
  have hle : xs.length = ys.length := by simp at h; omega
  refine loop_intro (fun k : Nat => ⟨[(0, Lr xs), (1, Lr ys), (5, I k)], [], 0⟩) (fun k => k ≤ xs.length ∧ xs.take k = ys.take k) (fun k => xs.length - k) [] 0 [] ⟨Nat.zero_le _, rfl⟩ ⟨⟨rfl, rfl, rfl, trivial⟩, trivial⟩ ?_
  rintro k ⟨hk, hall⟩
  (conv => whnf)
  refine ask_m (fun h => ?_) (fun h => ?_)
  · have hlt : k < xs.length := by simpa using h
    obtain ⟨x, hx⟩ : ∃ x, xs[k]? = some x := ⟨_, List.getElem?_eq_getElem hlt⟩
    obtain ⟨y, hy⟩ : ∃ x, ys[k]? = some x := ⟨_, List.getElem?_eq_getElem (by omega)⟩
    have hkk : IntKind.i64.wrap ((k : Int) + 1) = ((k + 1 : Nat) : Int) := by rw [w64] <;> omega
    (conv => whnf)
    refine ⟨by omega, idx_map (by simpa using hx) ?_⟩
    (conv => whnf)
    refine ⟨by omega, idx_map (by simpa using hy) ?_⟩
    (conv => whnf)
    refine ⟨cmp25, ?_⟩
    repeat' ((conv => whnf); first | refine ask_m (fun h => ?_) (fun h => ?_) | refine ret0 ?_)
    · exact ret_b (by
        have : x ≠ y := by rintro rfl; simp at h
        simp [ne_at hx hy this]) rfl
    · have : x = y := by
        obtain ⟨a0, a1, a2, a3⟩ := x
        obtain ⟨b0, b1, b2, b3⟩ := y
        simp at h
        simp [h]
      subst this
      exact ⟨k + 1, [], ⟨hlt, take_same hall hx hy⟩, by omega, ⟨⟨rfl, rfl, eqI hkk, trivial⟩, trivial⟩⟩
  · have hk : k = xs.length := by simp at h; omega
    subst hk
    (conv => whnf)
    refine ret0 ?_
    exact ret_b (by
      rw [List.take_length, hle, List.take_length] at hall
      simp [hall]) rfl


theorem f42_ok (xs : List Int) (hl : xs.length ≤ 17592186044416) : FnOk Try.prog 42 [Li xs] [] 0 (.one (.row 0)) [(0, .rows 2 1 (xs.map encI))] 1 := by
  refine fnOk tab mix Try.func42 rfl rfl (by kernel_rfl) rfl rfl ?_
  (conv => whnf)
  refine ⟨fun h => ?_, ?_⟩
  · (conv => whnf)
    refine retO [.own 2 2 1] ?_
    have : xs = [] := by simpa using h
    subst this
    exact ⟨[], ⟨rfl, trivial⟩, ⟨rfl, trivial⟩⟩
  · (conv => whnf)
    refine ⟨⟨by simp; omega, by simp; omega⟩, ?_⟩
    (conv => whnf)
    refine ret0 ?_
    exact ⟨[(0, 1)], ⟨rfl, trivial⟩, ⟨rfl, trivial⟩⟩
end Go.Proofs.Ytejjkajknmhplaa
