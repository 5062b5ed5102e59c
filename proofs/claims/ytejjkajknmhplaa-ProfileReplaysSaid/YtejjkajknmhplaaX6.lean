import Derived.Test.YtejjkajknmhplaaX5
namespace Go.Proofs.Ytejjkajknmhplaa
open Eng
set_option maxRecDepth 10000
attribute [local irreducible] FnOk loopW idxF retX

theorem f44_ok (top : List Int) (rows : List Row) (hr : rows.length ≤ 4611686018427387904) : FnOk Try.prog 44 [Li top, Lr rows] [] 0 (Bo (valid top rows)) [] 0 := by
  refine fnOk tab mix Try.func44 rfl rfl (by kernel_rfl) rfl rfl ?_
  repeat' ((conv => whnf); first | refine ask_m (fun h => ?_) (fun h => ?_) | refine ret0 ?_)
  · exact ret_b (by simp_all [valid] <;> omega) rfl
  · exact ret_b (by simp_all [valid] <;> omega) rfl
  · exact ret_b (by simp_all [valid] <;> omega) rfl
  simp only [List.length_map, decide_eq_false_iff_not, Int.not_lt] at *
  refine loop_intro (fun k : Nat => ⟨[(0, Li top), (1, Lr rows), (5, I k)], [], 0⟩) (fun k => k ≤ top.length ∧ (top.take k).all lvl = true) (fun k => top.length - k) [] 0 [] ⟨Nat.zero_le _, rfl⟩ ⟨⟨rfl, rfl, rfl, trivial⟩, trivial⟩ ?_
  rintro k ⟨hk, hall⟩
  (conv => whnf)
  refine ask_m (fun h => ?_) (fun h => ?_)
  · have hlt : k < top.length := by simpa using h
    obtain ⟨x, hx⟩ : ∃ x, top[k]? = some x := ⟨_, List.getElem?_eq_getElem hlt⟩
    have hkk : IntKind.i64.wrap ((k : Int) + 1) = ((k + 1 : Nat) : Int) := by rw [w64] <;> omega
    repeat' ((conv => whnf); first | refine ask_m (fun h => ?_) (fun h => ?_) | refine ret0 ?_ | refine idx_and (by omega) (by simpa using hx) ?_)
    all_goals first
      | exact ret_b (by
        have : lvl x = false := by simp_all [lvl] <;> omega
        simp [valid, all_not hx this]) rfl
      | exact ⟨k + 1, [], ⟨hlt, all_take hall hx (by simp_all [lvl] <;> omega)⟩, by omega, ⟨⟨rfl, rfl, eqI hkk, trivial⟩, trivial⟩⟩
  · have hk : k = top.length := by simp at h; omega
    subst hk
    rw [List.take_length] at hall
    (conv => whnf)
    refine loop_intro (fun k : Nat => ⟨[(0, Li top), (1, Lr rows), (6, I k)], [], 0⟩) (fun k => k ≤ rows.length ∧ (rows.take k).all (validRow top.length) = true) (fun k => rows.length - k) [] 0 [] ⟨Nat.zero_le _, rfl⟩ ⟨⟨rfl, rfl, rfl, trivial⟩, trivial⟩ ?_
    rintro k ⟨hk, hall2⟩
    (conv => whnf)
    refine ask_m (fun h => ?_) (fun h => ?_)
    · have hlt : k < rows.length := by simpa using h
      obtain ⟨x, hx⟩ : ∃ x, rows[k]? = some x := ⟨_, List.getElem?_eq_getElem hlt⟩
      have hkk : IntKind.i64.wrap ((k : Int) + 1) = ((k + 1 : Nat) : Int) := by rw [w64] <;> omega
      have hll : IntKind.i64.wrap (((top.map encI).length : Int) - 2) = (top.length : Int) - 2 := by rw [w64] <;> simp <;> omega
      have hbad : validRow top.length x = false → valid top rows = false := fun h => by simp [valid, all_not hx h]
      repeat' ((conv => whnf); first | refine ask_m (fun h => ?_) (fun h => ?_) | refine ret0 ?_ | refine idx_and (by omega) (by simpa using hx) ?_ | refine call_i (f57_ok x) ?_)
      all_goals first
        | exact ret_b (hbad (by simp_all [validRow] <;> omega)).symm rfl
        | exact ⟨k + 1, [], ⟨hlt, all_take hall2 hx (by simp_all [validRow] <;> omega)⟩, by omega, ⟨⟨rfl, rfl, eqI hkk, trivial⟩, trivial⟩⟩
    · have hk : k = rows.length := by simp at h; omega
      subst hk
      rw [List.take_length] at hall2
      (conv => whnf)
      refine ret0 ?_
      exact ret_b (by simp [valid, hall, hall2]; omega) rfl
end Go.Proofs.Ytejjkajknmhplaa
