/- The reference's Name. -/
import Derived.Test.YtgakendcmakndaaCo3
namespace Go.Proofs.Ytgakendcmakndaa
open Eng
set_option maxRecDepth 10000
attribute [local irreducible] FnOk loopW idxF retX arrF

theorem ref_Name (s : ByteArray) : FnOk Try.prog F.ref6_Name [Tx s] [] 0 (Bo (nameOk s)) [] 0 := by
  refine fnOk tab mix G.ref6_Name rfl rfl (by kernel_rfl) rfl rfl ?_
  (conv => whnf)
  refine ask_m (fun h => ?_) (fun h => ?_)
  · (conv => whnf)
    refine ret0 ?_
    exact ret_b (by have : ¬ 1 ≤ s.size := by have := of_decide_eq_true h; omega
                    simp [nameOk, this]) rfl
  have h1 : 1 ≤ s.size := by have := of_decide_eq_false h; omega
  (conv => whnf)
  refine ask_m (fun h => ?_) (fun h => ?_)
  · (conv => whnf)
    refine ret0 ?_
    exact ret_b (by have : ¬ s.size ≤ 16 := by have := of_decide_eq_true h; omega
                    simp [nameOk, this]) rfl
  have h2 : s.size ≤ 16 := by have := of_decide_eq_false h; omega
  (conv => whnf)
  refine ask_m (fun h => ?_) (fun h => ?_)
  · (conv => whnf)
    refine ret0 ?_
    exact ret_b (by have : s = worldT := of_decide_eq_true h
                    subst this; rfl) rfl
  have h3 : decide (s = worldT) = false := h
  (conv => whnf)
  refine loop_intro (fun k : Nat => ⟨[(0, Tx s), (3, I k)], [], 0⟩) (fun k => k ≤ s.size ∧ ((List.range k).all fun i => nameB i (byteAt s i)) = true) (fun k => s.size - k) [] 0 [] ⟨Nat.zero_le _, rfl⟩ ⟨⟨rfl, rfl, trivial⟩, trivial⟩ ?_
  rintro k ⟨hk, hall⟩
  have hkk : IntKind.i64.wrap ((k : Int) + 1) = ((k + 1 : Nat) : Int) := by rw [w64] <;> omega
  (conv => whnf)
  refine ask_m (fun h => ?_) (fun h => ?_)
  · have hlt : k < s.size := by have := of_decide_eq_true h; omega
    have bad : nameB k (byteAt s k) = false → nameOk s = false := name_not hlt
    have good : nameB k (byteAt s k) = true → ((List.range (k + 1)).all fun i => nameB i (byteAt s i)) = true := fun h => names_take hall h
    have hN : nameB k (byteAt s k) = (letterB (byteAt s k) || (decide (k ≠ 0) && (digitB (byteAt s k) || decide (byteAt s k = 95)))) := rfl
    have ix : ((0 : Int) ≤ k ∧ (k : Int) < s.size) := ⟨by omega, by omega⟩
    have e1 : byteAt s (k : Int).toNat = byteAt s k := rfl
    clear h
    repeat' ((conv => whnf); first | refine ask_m (fun h => ?_) (fun h => ?_) | refine ⟨ix, ?_⟩ | refine ret0 ?_)
    all_goals (try rw [e1] at *)
    all_goals generalize byteAt s k = c at *
    all_goals first
      | (refine ret_b (bad ?_).symm rfl; clear bad good; simp_all [letterB, digitB]; done)
      | (refine ret_b (bad ?_).symm rfl; clear bad good; simp_all [letterB, digitB]; omega)
      | (refine ⟨k + 1, [], ⟨hlt, good ?_⟩, by omega, ⟨⟨rfl, eqI hkk, trivial⟩, trivial⟩⟩; clear bad good; simp_all [letterB, digitB]; done)
      | (refine ⟨k + 1, [], ⟨hlt, good ?_⟩, by omega, ⟨⟨rfl, eqI hkk, trivial⟩, trivial⟩⟩; clear bad good; simp_all [letterB, digitB]; omega)
  · have hk : k = s.size := by have := of_decide_eq_false h; omega
    subst hk
    (conv => whnf)
    refine ret0 ?_
    exact ret_b (by simp [nameOk, h1, h2, h3, hall]) rfl
end Go.Proofs.Ytgakendcmakndaa
