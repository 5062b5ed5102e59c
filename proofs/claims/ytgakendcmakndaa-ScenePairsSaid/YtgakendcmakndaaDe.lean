/- ref.Decimal. -/
import Derived.Test.YtgakendcmakndaaBa
namespace Go.Proofs.Ytgakendcmakndaa
open Eng
set_option maxRecDepth 10000
attribute [local irreducible] FnOk loopW idxF retX arrF

def dig (d : Nat) : ByteArray := ⟨#[(48 + d).toUInt8]⟩
/-- the last k digits of n -/
def decB : Nat → Nat → ByteArray
  | 0, _ => ByteArray.empty
  | k + 1, n => dig (n / 10 ^ k % 10) ++ decB k n
theorem dig_cut (d : Nat) (h : d < 10) : (ByteArray.mk #[48, 49, 50, 51, 52, 53, 54, 55, 56, 57]).extract d (d + 1) = dig d := by
  have h' : ∀ d, d < 10 → (ByteArray.mk #[48, 49, 50, 51, 52, 53, 54, 55, 56, 57]).extract d (d + 1) = dig d := by decide
  exact h' d h
theorem decB_size (k n : Nat) : (decB k n).size = k := by
  induction k with
  | zero => rfl
  | succ k ih => rw [decB, ByteArray.size_append, ih]; show 1 + k = k + 1; omega
theorem ref_Decimal (n k j : Nat) (hn : n ≤ 9223372036854775807) (h0 : n / 10 ^ j = 0) (h1 : k ≤ j) (hj : j ≤ 1000) (hmin : ∀ i, i < j → ¬ (n / 10 ^ i = 0 ∧ k ≤ i)) : FnOk Try.prog F.ref6_Decimal [I n, I k] [] 0 (Tx (decB j n)) [] 0 := by
  refine fnOk tab mix G.ref6_Decimal rfl rfl (by kernel_rfl) rfl rfl ?_
  (conv => whnf)
  refine loop_intro (fun i : Nat => ⟨[(0, I (n / 10 ^ i : Nat)), (1, I k), (5, Tx (decB i n))], [], 0⟩) (fun i => i ≤ j) (fun i => j - i) [] 0 [] (Nat.zero_le _) ⟨⟨eqI (by simp), rfl, rfl, trivial⟩, trivial⟩ ?_
  rintro i hi
  have hsz := decB_size i n
  have hlt : ¬ (n / 10 ^ i = 0 ∧ k ≤ i) → i < j := fun h => Nat.lt_of_le_of_ne hi fun e => h ⟨e ▸ h0, e ▸ h1⟩
  have hmin' := hmin i
  have hnext : n / 10 ^ (i + 1) = n / 10 ^ i / 10 := by rw [Nat.pow_succ, Nat.div_div_eq_div_mul]
  have hdec : decB (i + 1) n = dig (n / 10 ^ i % 10) ++ decB i n := rfl
  have hdiv : n / 10 ^ i ≤ n := Nat.div_le_self _ _
  generalize n / 10 ^ i = d at *
  have h3 : ((d : Nat) : Int).tmod 10 = ((d % 10 : Nat) : Int) := by rw [Int.tmod_eq_emod_of_nonneg (by omega)]; omega
  have h4 : IntKind.i64.wrap ((d : Int).tdiv 10) = ((d / 10 : Nat) : Int) := by rw [Int.tdiv_eq_ediv_of_nonneg (by omega), w64 (by omega) (by omega)]; omega
  have h5 : IntKind.i64.wrap (((d % 10 : Nat) : Int) + 1) = ((d % 10 + 1 : Nat) : Int) := by rw [w64 (by omega) (by omega)]; omega
  (conv => whnf)
  refine ask_m (fun h => ?_) (fun h => ?_)
  rotate_left
  (conv => whnf)
  refine ask_m (fun h => ?_) (fun h => ?_)
  rotate_left
  · have e : i = j := by
      rename_i h'
      simp at h h'
      exact Nat.le_antisymm hi (Nat.le_of_not_lt fun hij => hmin' hij ⟨by omega, by omega⟩)
    subst e
    (conv => whnf)
    refine ret0 ?_
    exact ret_dv rfl rfl
  all_goals
    have hij : i < j := hlt (by simp at h; omega)
    (conv => whnf)
    refine ⟨by omega, ?_⟩
    (conv => whnf)
    rw [h3, h5]
    refine ⟨⟨by omega, by omega, by show _ ≤ (10 : Int); omega⟩, ?_⟩
    (conv => whnf)
    rw [Int.toNat_natCast, Int.toNat_natCast, dig_cut _ (by omega)]
    refine ⟨by rw [hsz]; show 1 + i ≤ _; omega, ?_⟩
    (conv => whnf)
    refine ⟨by omega, ?_⟩
    (conv => whnf)
    refine ⟨i + 1, [], hij, by omega, ⟨⟨eqI (by rw [h4, hnext]), rfl, ?_, trivial⟩, trivial⟩⟩
    rw [hdec]; rfl
end Go.Proofs.Ytgakendcmakndaa
