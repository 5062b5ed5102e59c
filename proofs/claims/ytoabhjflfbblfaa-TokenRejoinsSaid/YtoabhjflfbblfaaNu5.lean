/- Decimal texts as numbers. -/
import Derived.Test.YtoabhjflfbblfaaNu4
import Derived.Test.YtoabhjflfbblfaaDe
namespace Go.Proofs.Ytoabhjflfbblfaa
open Eng
set_option maxRecDepth 10000

theorem byteAt_app {a b : ByteArray} {i : Nat} : byteAt (a ++ b) i = if i < a.size then byteAt a i else byteAt b (i - a.size) := by
  by_cases h1 : i < a.size
  · have h : i < (a ++ b).size := by rw [ByteArray.size_append]; omega
    rw [if_pos h1, byteAt_get h, byteAt_get h1, ByteArray.getElem_append_left h1]
  · rw [if_neg h1]
    by_cases h2 : i - a.size < b.size
    · have h : i < (a ++ b).size := by rw [ByteArray.size_append]; omega
      rw [byteAt_get h, byteAt_get h2, ByteArray.getElem_append_right (by omega)]
    · have g1 : ∀ (s : ByteArray) (k : Nat), s.size ≤ k → byteAt s k = 0 := fun s k hk => by
        unfold byteAt; rw [getElem?_neg s k (by omega)]; rfl
      rw [g1 _ _ (by rw [ByteArray.size_append]; omega), g1 _ _ (by omega)]
theorem dig_byte {d : Nat} (h : d < 10) : byteAt (dig d) 0 = 48 + d := by
  have : ∀ d, d < 10 → byteAt (dig d) 0 = 48 + (d : Int) := by decide
  exact this d h
theorem decB_byte (n : Nat) : ∀ (k i : Nat), i < k → byteAt (decB k n) i = 48 + (n / 10 ^ (k - 1 - i) % 10 : Nat)
  | 0, _, h => by omega
  | k + 1, i, h => by
    rw [decB, byteAt_app]
    have hs : (dig (n / 10 ^ k % 10)).size = 1 := rfl
    rw [hs]
    by_cases h0 : i < 1
    · obtain rfl : i = 0 := by omega
      rw [if_pos h0, dig_byte (by omega)]; simp
    · rw [if_neg h0, decB_byte n k (i - 1) (by omega)]
      rw [show k - 1 - (i - 1) = k + 1 - 1 - i by omega]
theorem decB_dig (k n : Nat) : allDig (decB k n) k = true := by
  rw [allDig_iff]
  intro i hi
  rw [decB_byte n k i hi]
  have h : ∀ d, d < 10 → digitB (48 + (d : Nat)) = true := by decide
  exact h _ (Nat.mod_lt _ (by decide))
theorem decB_val (k n : Nat) : ∀ i, i ≤ k → dval (decB k n) i = (n / 10 ^ (k - i) % 10 ^ i : Nat)
  | 0, _ => by simp [dval, Nat.mod_one]
  | i + 1, h => by
    rw [dval, decB_val k n i (by omega), decB_byte n k i (by omega)]
    have e1 : n / 10 ^ (k - i) = n / 10 ^ (k - (i + 1)) / 10 := by
      rw [Nat.div_div_eq_div_mul, ← Nat.pow_succ, show (k - (i + 1)).succ = k - i by omega]
    rw [e1, show k - 1 - i = k - (i + 1) by omega]
    generalize n / 10 ^ (k - (i + 1)) = A
    have h1 : A % 10 ^ (i + 1) = (A / 10 % 10 ^ i) * 10 + A % 10 := by
      rw [Nat.pow_succ, Nat.mul_comm (10 ^ i) 10, Nat.mod_mul]; omega
    rw [h1]; omega
theorem dlen_ex {n k m : Nat} (hn : n < 10 ^ m) (hk : k ≤ m) : ∃ j, j ≤ m ∧ n / 10 ^ j = 0 ∧ k ≤ j ∧ ∀ i, i < j → ¬ (n / 10 ^ i = 0 ∧ k ≤ i) := by
  have key : ∀ d j, m - j = d → j ≤ m → (∀ i, i < j → ¬ (n / 10 ^ i = 0 ∧ k ≤ i)) → ∃ j, j ≤ m ∧ n / 10 ^ j = 0 ∧ k ≤ j ∧ ∀ i, i < j → ¬ (n / 10 ^ i = 0 ∧ k ≤ i) := by
    intro d
    induction d with
    | zero =>
      intro j h1 h2 h3
      obtain rfl : j = m := by omega
      exact ⟨j, Nat.le_refl _, Nat.div_eq_of_lt hn, hk, h3⟩
    | succ d ih =>
      intro j h1 h2 h3
      by_cases h : n / 10 ^ j = 0 ∧ k ≤ j
      · exact ⟨j, h2, h.1, h.2, h3⟩
      · exact ih (j + 1) (by omega) (by omega) fun i hi => by
          rcases Nat.lt_or_ge i j with h' | h'
          · exact h3 i h'
          · obtain rfl : i = j := by omega
            exact h
  exact key _ 0 rfl (Nat.zero_le _) fun i hi => by omega
theorem lt_of_div {n j : Nat} (h : n / 10 ^ j = 0) : n < 10 ^ j := by
  rcases Nat.lt_or_ge n (10 ^ j) with h' | h'
  · exact h'
  · have := Nat.div_pos h' (Nat.pow_pos (by decide)); omega
/-- the number of a decimal text with a point -/
theorem numOf_point {j n w f : Nat} (hj1 : 1 ≤ j) (hj5 : j ≤ 5) (hw : w / 10 ^ j = 0) (hn1 : 1 ≤ n) (hn6 : n ≤ 6) (hf : f < 10 ^ n) :
    numOf ((decB j w ++ ⟨#[46]⟩) ++ decB n f) = if 2147483648 < ((w * 1000000 + f * 10 ^ (6 - n)) * 65536 + 500000 : Int) / 1000000 then (0, false) else (((w * 1000000 + f * 10 ^ (6 - n)) * 65536 + 500000 : Int) / 1000000, true) := by
  have hw' := lt_of_div hw
  have s1 : (decB j w).size = j := decB_size j w
  have s2 : (decB n f).size = n := decB_size n f
  have s3 : (decB j w ++ ⟨#[46]⟩).size = j + 1 := by rw [ByteArray.size_append, s1]; rfl
  have s4 : ((decB j w ++ ⟨#[46]⟩) ++ decB n f).size = j + 1 + n := by rw [ByteArray.size_append, s3, s2]
  have b1 : ∀ i, i < j → byteAt ((decB j w ++ ⟨#[46]⟩) ++ decB n f) i = byteAt (decB j w) i := fun i hi => by
    rw [byteAt_app, if_pos (by omega), byteAt_app, if_pos (by omega)]
  have b2 : byteAt ((decB j w ++ ⟨#[46]⟩) ++ decB n f) j = 46 := by
    rw [byteAt_app, if_pos (by omega), byteAt_app, if_neg (by omega), s1, Nat.sub_self]; rfl
  have e : ((decB j w ++ ⟨#[46]⟩) ++ decB n f).extract (j + 1) ((decB j w ++ ⟨#[46]⟩) ++ decB n f).size = decB n f := by
    refine ByteArray.ext_getElem (by rw [ByteArray.size_extract, s4, s2]; omega) fun i hi hi' => ?_
    rw [ByteArray.getElem_extract, ByteArray.getElem_append_right (by omega)]
    congr 1; omega
  generalize (decB j w ++ ⟨#[46]⟩) ++ decB n f = t at *
  have d1 : allDig t j = true := by
    rw [allDig_iff]
    intro i hi
    rw [b1 i hi]; exact allDig_iff.1 (decB_dig j w) i hi
  have v1 : dval t j = w := by
    have : ∀ i, i ≤ j → dval t i = dval (decB j w) i := by
      intro i
      induction i with
      | zero => intro _; rfl
      | succ i ih => intro h; rw [dval, dval, ih (by omega), b1 i (by omega)]
    rw [this j (Nat.le_refl _), decB_val j w j (Nat.le_refl _), Nat.sub_self, Nat.pow_zero, Nat.div_one, Nat.mod_eq_of_lt hw']
  have v2 : dval (decB n f) n = f := by rw [decB_val n f n (Nat.le_refl _), Nat.sub_self, Nat.pow_zero, Nat.div_one, Nat.mod_eq_of_lt hf]
  have hh : headB t 45 = false := by
    have := digit_bd (allDig_iff.1 d1 0 (by omega))
    simp only [headB, Bool.and_eq_false_iff, decide_eq_false_iff_not]
    right
    show ¬ byteAt t 0 = 45
    omega
  have hp := numN_point (t := t) (j := j) (by omega) d1 b2 hj1 hj5
  rw [e, s2, v1, v2, if_neg (by rw [digOk_mk (by omega) (by omega) (by rw [s2]; exact decB_dig n f)]; simp)] at hp
  rw [numOf, tailB, hh, if_neg (by simp), hp]
  simp
end Go.Proofs.Ytoabhjflfbblfaa
