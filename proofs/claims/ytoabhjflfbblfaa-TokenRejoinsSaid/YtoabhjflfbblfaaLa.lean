/- law6: typical, splits, awake, TokenSplits. -/
import Derived.Test.YtoabhjflfbblfaaSp3
import Derived.Test.YtoabhjflfbblfaaNu3
import Derived.Test.YtoabhjflfbblfaaBs
namespace Go.Proofs.Ytoabhjflfbblfaa
open Eng
set_option maxRecDepth 10000
attribute [local irreducible] FnOk loopW idxF retX arrF

def typTab : List ByteArray := [⟨#[106, 111, 105, 110, 116]⟩, ⟨#[97]⟩, ⟨#[45, 49, 46, 53]⟩, ⟨#[32]⟩, ⟨#[32]⟩, ⟨#[10]⟩, ⟨#[9]⟩, ⟨#[35]⟩, ⟨#[120, 35, 121]⟩, ⟨#[119, 111, 114, 108, 100]⟩, ⟨#[48, 46, 50, 53]⟩, ⟨#[10, 10]⟩, ⟨#[32, 32]⟩, ⟨#[115, 104, 97, 112, 101, 32, 98, 32, 49]⟩, ⟨#[127]⟩, ⟨#[126]⟩]
def typF (x : Int) : ByteArray := typTab.getD (x % 16).toNat ByteArray.empty
theorem typF_size (x : Int) : (typF x).size ≤ 9 := by
  have h : ∀ k, k < 16 → (typTab.getD k ByteArray.empty).size ≤ 9 := by decide
  exact h _ (by omega)
theorem typF_at (x : Int) : typTab[(x % 16).toNat]? = some (typF x) := by
  have h : (x % 16).toNat < typTab.length := by show _ < 16; omega
  rw [typF, List.getD_eq_getElem?_getD, List.getElem?_eq_getElem h]; rfl
def typical (xs : List Int) : ByteArray := cat typF (xs.take 80)
theorem typical_size (xs : List Int) : (typical xs).size ≤ 720 := by
  have := cat_size typF_size (xs.take 80)
  have : (xs.take 80).length ≤ 80 := by simp; omega
  unfold typical; omega
theorem law6_typical (xs : List Int) (hx : bytesOk xs) : FnOk Try.prog F.law6_typical [Lb xs] [] 0 (Tx (typical xs)) [] 0 := by
  refine fnOk tab mix G.law6_typical rfl rfl (by kernel_rfl) rfl rfl ?_
  (conv => whnf)
  obtain ⟨hx1, hx2⟩ := hx
  refine loop_intro (fun k : Nat => ⟨[(0, Lb xs), (3, Tx (cat typF (xs.take k))), (4, I k)], [], 0⟩) (fun k => k ≤ xs.length ∧ k ≤ 80) (fun k => 80 - k) [] 0 [] ⟨Nat.zero_le _, Nat.zero_le _⟩ ⟨⟨rfl, rfl, rfl, trivial⟩, trivial⟩ ?_
  rintro k ⟨hk, hk80⟩
  have hsz := cat_size typF_size (xs.take k)
  have hkk : IntKind.i64.wrap ((k : Int) + 1) = ((k + 1 : Nat) : Int) := by rw [w64] <;> omega
  (conv => whnf)
  refine ask_m (fun h => ?_) (fun h => ?_)
  · have hlt : k < xs.length := by simp at h; omega
    obtain ⟨x, hxk⟩ : ∃ x, xs[k]? = some x := ⟨_, List.getElem?_eq_getElem hlt⟩
    obtain ⟨b0, b1⟩ := hx2 x (List.mem_of_getElem? hxk)
    (conv => whnf)
    refine ask_m (fun h => ?_) (fun h => ?_)
    · have h80 : k < 80 := by have := of_decide_eq_true h; omega
      (conv => whnf)
      refine idx_and (by omega) (by simpa using hxk) ?_
      (conv => whnf)
      refine ⟨by decide, ?_⟩
      (conv => whnf)
      rw [u8mod b0 (by decide)]
      refine ⟨⟨by omega, by show _ < (16 : Int); omega⟩, ?_⟩
      refine arr_text (tb := typTab) rfl rfl (typF_at x) ?_
      (conv => whnf)
      refine ⟨?_, ?_⟩
      · have := typF_size x
        have : (xs.take k).length ≤ k := by simp; omega
        omega
      (conv => whnf)
      refine ⟨k + 1, [], ⟨hlt, h80⟩, by omega, ⟨⟨rfl, ?_, eqI hkk, trivial⟩, trivial⟩⟩
      rw [cat_succ hxk]; rfl
    · have h80 : k = 80 := by have := of_decide_eq_false h; omega
      subst h80
      (conv => whnf)
      refine ret0 ?_
      exact ret_dv rfl rfl
  · have hk : k = xs.length := by simp at h; omega
    have e : xs.take k = xs.take 80 := by rw [List.take_of_length_le (by omega), List.take_of_length_le (by omega)]
    rw [e]
    (conv => whnf)
    refine ret0 ?_
    exact ret_dv rfl rfl
theorem cmpSE : cmpB Try.prog 8 Y.SourceError = true ∧ Try.prog.eqGuardType Try.prog.depth Y.SourceError = false := ⟨by kernel_rfl, by kernel_rfl⟩
theorem split_len (s : ByteArray) : (splitOf s).1.length ≤ 16385 := by
  unfold splitOf
  repeat' split
  · simp
  · simp
  · have := fin_len s (autoAt s s.size) s.size
    have := (auto_inv s s.size).len
    simp only; omega
theorem law6_splits (s : ByteArray) : FnOk Try.prog F.law6_splits [Tx s] [] 0 (Bo true) [] 0 := by
  refine fnOk tab mix G.law6_splits rfl rfl (by kernel_rfl) rfl rfl ?_
  (conv => whnf)
  refine call_i (token_Split s) ?_
  (conv => whnf)
  refine call_i (ref_Split s) ?_
  (conv => whnf)
  have := split_len s
  refine call_i (mk_Same_Word (splitOf s).1 (splitOf s).1 (by omega) (by omega)) ?_
  (conv => whnf)
  rw [decide_eq_true rfl]
  (conv => whnf)
  refine ⟨cmpSE, ?_⟩
  (conv => whnf)
  refine ret0 ?_
  exact ret_b (by simp) rfl
theorem law6_awake : FnOk Try.prog F.law6_awake [] [] 0 (Bo true) [] 0 := by
  refine fnOk tab mix G.law6_awake rfl rfl (by kernel_rfl) rfl rfl ?_
  (conv => whnf)
  refine call_i (token_Split ⟨#[97, 32, 98, 35, 99]⟩) ?_
  (conv => whnf)
  refine call_i (token_Number ⟨#[45, 49, 46, 53]⟩ (by decide)) ?_
  (conv => whnf)
  have e1 : splitOf ⟨#[97, 32, 98, 35, 99]⟩ = ([⟨⟨#[97]⟩, 1, 1⟩, ⟨⟨#[98]⟩, 1, 3⟩], 0, 0) := by decide
  have e2 : numOf ⟨#[45, 49, 46, 53]⟩ = (-98304, true) := by decide
  rw [e1, e2]
  (conv => whnf)
  refine call_i (mk_Same_Word [⟨⟨#[97]⟩, 1, 1⟩, ⟨⟨#[98]⟩, 1, 3⟩] [⟨⟨#[97]⟩, 1, 1⟩, ⟨⟨#[98]⟩, 1, 3⟩] (by decide) (by decide)) ?_
  (conv => whnf)
  refine ⟨⟨trivial, trivial⟩, ?_⟩
  (conv => whnf)
  rw [decide_eq_true rfl]
  (conv => whnf)
  refine ret0 ?_
  exact ret_b rfl rfl
theorem law6_Splits (s : ByteArray) (xs : List Int) (hs : s.size ≤ 140737488351232) (hx : bytesOk xs) : FnOk Try.prog F.law6_TokenSplits [Tx s, Lb xs] [] 0 (Bo true) [] 0 := by
  refine fnOk tab mix G.law6_TokenSplits rfl rfl (by kernel_rfl) rfl rfl ?_
  (conv => whnf)
  refine call_i (law6_awake) ?_
  (conv => whnf)
  refine call_i (law6_splits s) ?_
  (conv => whnf)
  refine call_i (law6_typical xs hx) ?_
  (conv => whnf)
  refine call_i (law6_splits (typical xs)) ?_
  (conv => whnf)
  refine call_i (law6_typical xs hx) ?_
  (conv => whnf)
  have := typical_size xs
  refine ⟨by omega, ?_⟩
  (conv => whnf)
  refine call_i (law6_splits (typical xs ++ s)) ?_
  (conv => whnf)
  (conv => whnf)
  refine ret0 ?_
  exact ret_b rfl rfl
end Go.Proofs.Ytoabhjflfbblfaa
