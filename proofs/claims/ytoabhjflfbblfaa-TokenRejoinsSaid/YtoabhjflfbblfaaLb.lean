/- law6: TokenNames, TokenNumbers. -/
import Derived.Test.YtoabhjflfbblfaaLa
import Derived.Test.YtoabhjflfbblfaaNu4
namespace Go.Proofs.Ytoabhjflfbblfaa
open Eng
set_option maxRecDepth 10000
attribute [local irreducible] FnOk loopW idxF retX arrF

def nameTab : List ByteArray := [⟨#[97]⟩, ⟨#[122]⟩, ⟨#[95]⟩, ⟨#[48]⟩, ⟨#[119, 111, 114, 108, 100]⟩, ⟨#[66]⟩, ⟨#[57]⟩, ⟨#[45]⟩, ⟨#[97, 114, 109]⟩]
def nameF (x : Int) : ByteArray := nameTab.getD (x % 9).toNat ByteArray.empty
theorem nameF_size (x : Int) : (nameF x).size ≤ 9 := by
  have h : ∀ k, k < 9 → (nameTab.getD k ByteArray.empty).size ≤ 9 := by decide
  exact h _ (by omega)
theorem nameF_at (x : Int) : nameTab[(x % 9).toNat]? = some (nameF x) := by
  have h : (x % 9).toNat < nameTab.length := by show _ < 9; omega
  rw [nameF, List.getD_eq_getElem?_getD, List.getElem?_eq_getElem h]; rfl
theorem law6_Names (xs : List Int) (hx : bytesOk xs) : FnOk Try.prog F.law6_TokenNames [Lb xs] [] 0 (Bo true) [] 0 := by
  refine fnOk tab mix G.law6_TokenNames rfl rfl (by kernel_rfl) rfl rfl ?_
  (conv => whnf)
  obtain ⟨hx1, hx2⟩ := hx
  refine loop_intro (fun k : Nat => ⟨[(0, Lb xs), (3, Tx (cat nameF (xs.take k))), (4, I k)], [], 0⟩) (fun k => k ≤ xs.length ∧ k ≤ 20) (fun k => 20 - k) [] 0 [] ⟨Nat.zero_le _, Nat.zero_le _⟩ ⟨⟨rfl, rfl, rfl, trivial⟩, trivial⟩ ?_
  rintro k ⟨hk, hk80⟩
  have hsz := cat_size nameF_size (xs.take k)
  have hkk : IntKind.i64.wrap ((k : Int) + 1) = ((k + 1 : Nat) : Int) := by rw [w64] <;> omega
  have e1 : nameOk ⟨#[119, 111, 114, 108, 100]⟩ = false := by decide
  have e2 : nameOk ⟨#[97, 114, 109, 95, 49]⟩ = true := by decide
  (conv => whnf)
  refine ask_m (fun h => ?_) (fun h => ?_)
  · have hlt : k < xs.length := by simp at h; omega
    obtain ⟨x, hxk⟩ : ∃ x, xs[k]? = some x := ⟨_, List.getElem?_eq_getElem hlt⟩
    obtain ⟨b0, b1⟩ := hx2 x (List.mem_of_getElem? hxk)
    (conv => whnf)
    refine ask_m (fun h => ?_) (fun h => ?_)
    · have h80 : k < 20 := by have := of_decide_eq_true h; omega
      (conv => whnf)
      refine idx_and (by omega) (by simpa using hxk) ?_
      (conv => whnf)
      refine ⟨by decide, ?_⟩
      (conv => whnf)
      rw [u8mod b0 (by decide)]
      refine ⟨⟨by omega, by show _ < (9 : Int); omega⟩, ?_⟩
      refine arr_text (tb := nameTab) rfl rfl (nameF_at x) ?_
      (conv => whnf)
      refine ⟨?_, ?_⟩
      · have := nameF_size x
        have : (xs.take k).length ≤ k := by simp; omega
        omega
      (conv => whnf)
      refine ⟨k + 1, [], ⟨hlt, h80⟩, by omega, ⟨⟨rfl, ?_, eqI hkk, trivial⟩, trivial⟩⟩
      rw [cat_succ hxk]; rfl
    · generalize cat nameF (xs.take k) = t
      (conv => whnf)
      refine call_i (law6_awake) ?_
      (conv => whnf)
      refine call_i (token_Name t) ?_
      (conv => whnf)
      refine call_i (ref_Name t) ?_
      (conv => whnf)
      rw [beq_self_eq_true]
      (conv => whnf)
      refine call_i (token_Name ⟨#[119, 111, 114, 108, 100]⟩) ?_
      (conv => whnf)
      rw [e1]
      (conv => whnf)
      refine call_i (token_Name ⟨#[97, 114, 109, 95, 49]⟩) ?_
      (conv => whnf)
      rw [e2]
      (conv => whnf)
      refine ret0 ?_
      exact ret_b rfl rfl
  · generalize cat nameF (xs.take k) = t
    (conv => whnf)
    refine call_i (law6_awake) ?_
    (conv => whnf)
    refine call_i (token_Name t) ?_
    (conv => whnf)
    refine call_i (ref_Name t) ?_
    (conv => whnf)
    rw [beq_self_eq_true]
    (conv => whnf)
    refine call_i (token_Name ⟨#[119, 111, 114, 108, 100]⟩) ?_
    (conv => whnf)
    rw [e1]
    (conv => whnf)
    refine call_i (token_Name ⟨#[97, 114, 109, 95, 49]⟩) ?_
    (conv => whnf)
    rw [e2]
    (conv => whnf)
    refine ret0 ?_
    exact ret_b rfl rfl

theorem law6_numbers (s : ByteArray) (hs : s.size ≤ 4611686018427387904) : FnOk Try.prog F.law6_numbers [Tx s] [] 0 (Bo true) [] 0 := by
  refine fnOk tab mix G.law6_numbers rfl rfl (by kernel_rfl) rfl rfl ?_
  (conv => whnf)
  refine call_i (token_Number s hs) ?_
  (conv => whnf)
  refine call_i (ref_Number s hs) ?_
  (conv => whnf)
  refine call_i (token_Integer s) ?_
  (conv => whnf)
  refine call_i (ref_Integer s hs) ?_
  (conv => whnf)
  rw [beq_self_eq_true]
  (conv => whnf)
  rw [beq_self_eq_true]
  (conv => whnf)
  rw [beq_self_eq_true]
  (conv => whnf)
  rw [beq_self_eq_true]
  (conv => whnf)
  refine call_i (token_Name s) ?_
  (conv => whnf)
  refine call_i (ref_Name s) ?_
  (conv => whnf)
  rw [beq_self_eq_true]
  (conv => whnf)
  refine ret0 ?_
  exact ret_b rfl rfl
def numTab : List ByteArray := [⟨#[48]⟩, ⟨#[49]⟩, ⟨#[55]⟩, ⟨#[57]⟩, ⟨#[46]⟩, ⟨#[45]⟩, ⟨#[50, 53]⟩, ⟨#[120]⟩]
def numF (x : Int) : ByteArray := numTab.getD (x % 8).toNat ByteArray.empty
theorem numF_size (x : Int) : (numF x).size ≤ 9 := by
  have h : ∀ k, k < 8 → (numTab.getD k ByteArray.empty).size ≤ 9 := by decide
  exact h _ (by omega)
theorem numF_at (x : Int) : numTab[(x % 8).toNat]? = some (numF x) := by
  have h : (x % 8).toNat < numTab.length := by show _ < 8; omega
  rw [numF, List.getD_eq_getElem?_getD, List.getElem?_eq_getElem h]; rfl
theorem law6_Numbers (s : ByteArray) (xs : List Int) (hs : s.size ≤ 140737488351232) (hx : bytesOk xs) : FnOk Try.prog F.law6_TokenNumbers [Tx s, Lb xs] [] 0 (Bo true) [] 0 := by
  refine fnOk tab mix G.law6_TokenNumbers rfl rfl (by kernel_rfl) rfl rfl ?_
  (conv => whnf)
  obtain ⟨hx1, hx2⟩ := hx
  refine loop_intro (fun k : Nat => ⟨[(0, Tx s), (1, Lb xs), (5, Tx (cat numF (xs.take k))), (6, I k)], [], 0⟩) (fun k => k ≤ xs.length ∧ k ≤ 18) (fun k => 18 - k) [] 0 [] ⟨Nat.zero_le _, Nat.zero_le _⟩ ⟨⟨rfl, rfl, rfl, rfl, trivial⟩, trivial⟩ ?_
  rintro k ⟨hk, hk80⟩
  have hsz := cat_size numF_size (xs.take k)
  have hlk : (xs.take k).length ≤ k := by simp; omega
  have hkk : IntKind.i64.wrap ((k : Int) + 1) = ((k + 1 : Nat) : Int) := by rw [w64] <;> omega
  (conv => whnf)
  refine ask_m (fun h => ?_) (fun h => ?_)
  · have hlt : k < xs.length := by simp at h; omega
    obtain ⟨x, hxk⟩ : ∃ x, xs[k]? = some x := ⟨_, List.getElem?_eq_getElem hlt⟩
    obtain ⟨b0, b1⟩ := hx2 x (List.mem_of_getElem? hxk)
    (conv => whnf)
    refine ask_m (fun h => ?_) (fun h => ?_)
    · have h80 : k < 18 := by have := of_decide_eq_true h; omega
      (conv => whnf)
      refine idx_and (by omega) (by simpa using hxk) ?_
      (conv => whnf)
      refine ⟨by decide, ?_⟩
      (conv => whnf)
      rw [u8mod b0 (by decide)]
      refine ⟨⟨by omega, by show _ < (8 : Int); omega⟩, ?_⟩
      refine arr_text (tb := numTab) rfl rfl (numF_at x) ?_
      (conv => whnf)
      refine ⟨?_, ?_⟩
      · have := numF_size x
        omega
      (conv => whnf)
      refine ⟨k + 1, [], ⟨hlt, h80⟩, by omega, ⟨⟨rfl, rfl, ?_, eqI hkk, trivial⟩, trivial⟩⟩
      rw [cat_succ hxk]; rfl
    · generalize cat numF (xs.take k) = t at *
      (conv => whnf)
      refine call_i (law6_awake) ?_
      (conv => whnf)
      refine call_i (law6_numbers s (by omega)) ?_
      (conv => whnf)
      refine call_i (law6_numbers t (by omega)) ?_
      (conv => whnf)
      refine ⟨by show 1 + _ ≤ _; omega, ?_⟩
      (conv => whnf)
      refine call_i (law6_numbers (⟨#[45]⟩ ++ t) (by rw [ByteArray.size_append]; show 1 + _ ≤ _; omega)) ?_
      (conv => whnf)
      refine ⟨by show 3 + _ ≤ _; omega, ?_⟩
      (conv => whnf)
      refine call_i (law6_numbers (⟨#[49, 50, 46]⟩ ++ t) (by rw [ByteArray.size_append]; show 3 + _ ≤ _; omega)) ?_
      (conv => whnf)
      (conv => whnf)
      refine ret0 ?_
      exact ret_b rfl rfl
  · generalize cat numF (xs.take k) = t at *
    (conv => whnf)
    refine call_i (law6_awake) ?_
    (conv => whnf)
    refine call_i (law6_numbers s (by omega)) ?_
    (conv => whnf)
    refine call_i (law6_numbers t (by omega)) ?_
    (conv => whnf)
    refine ⟨by show 1 + _ ≤ _; omega, ?_⟩
    (conv => whnf)
    refine call_i (law6_numbers (⟨#[45]⟩ ++ t) (by rw [ByteArray.size_append]; show 1 + _ ≤ _; omega)) ?_
    (conv => whnf)
    refine ⟨by show 3 + _ ≤ _; omega, ?_⟩
    (conv => whnf)
    refine call_i (law6_numbers (⟨#[49, 50, 46]⟩ ++ t) (by rw [ByteArray.size_append]; show 3 + _ ≤ _; omega)) ?_
    (conv => whnf)
    (conv => whnf)
    refine ret0 ?_
    exact ret_b rfl rfl
end Go.Proofs.Ytoabhjflfbblfaa
