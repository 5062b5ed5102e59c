/- Number and Integer: token and the reference. -/
import Derived.Test.YtoabhjflfbblfaaNu2
namespace Go.Proofs.Ytoabhjflfbblfaa
open Eng
set_option maxRecDepth 10000
attribute [local irreducible] FnOk loopW idxF retX arrF

/- integers -/
def intOf (s : ByteArray) : Int × Bool := (if headB s 45 then - digV (tailB s 45) 15 else digV (tailB s 45) 15, digOk (tailB s 45) 15)
theorem digV_bd {t : ByteArray} {m : Nat} (hm : m ≤ 15) : 0 ≤ digV t m ∧ digV t m < 1000000000000000 := by
  unfold digV; split
  · rename_i h
    obtain ⟨_, h2, h3⟩ := digOk_inv h
    exact dval_15 (by omega) h3
  · decide
theorem tail_size {s : ByteArray} {c : UInt8} : (tailB s c).size ≤ s.size := by
  unfold tailB; split
  · rw [ByteArray.size_extract]; omega
  · exact Nat.le_refl _
theorem token_Integer (s : ByteArray) : FnOk Try.prog F.token_Integer [Tx s] [] 0 (DgR (intOf s).1 (intOf s).2) [] 0 := by
  refine fnOk tab mix G.token_Integer rfl rfl (by kernel_rfl) rfl rfl ?_
  (conv => whnf)
  refine call_i (st_CutPrefix s 45) ?_
  (conv => whnf)
  refine call_i (token_digits (tailB s 45) 15 (by decide)) ?_
  (conv => whnf)
  have h := digV_bd (t := tailB s 45) (m := 15) (by decide)
  refine call_i (token_signed (digV (tailB s 45) 15) (headB s 45) (by omega) (by omega)) ?_
  (conv => whnf)
  (conv => whnf)
  refine ret0 ?_
  exact ⟨[], ⟨rfl, trivial⟩, trivial⟩
theorem ref_Integer (s : ByteArray) (hs : s.size ≤ 4611686018427387904) : FnOk Try.prog F.ref6_Integer [Tx s] [] 0 (DgR (intOf s).1 (intOf s).2) [] 0 := by
  refine fnOk tab mix G.ref6_Integer rfl rfl (by kernel_rfl) rfl rfl ?_
  (conv => whnf)
  refine call_i (ref_sign s) ?_
  (conv => whnf)
  have hsz := tail_size (s := s) (c := 45)
  unfold intOf
  generalize headB s 45 = b
  generalize tailB s 45 = t at *
  obtain ⟨j, hj, h1, h2⟩ := dpre_ex t
  refine call_i (ref_digits t j (by omega) hj h1 h2) ?_
  (conv => whnf)
  have bad : digOk t 15 = false → DgR (if b then - digV t 15 else digV t 15) (digOk t 15) = DgR 0 false := fun h => by rw [digV, h]; cases b <;> rfl
  have good : digOk t 15 = true → j = t.size := fun h => by
    obtain ⟨_, _, g⟩ := digOk_inv h
    exact dpre_one hj h1 h2 (Nat.le_refl _) g (.inl rfl)
  have no : ¬ (1 ≤ j ∧ j ≤ 15 ∧ j = t.size) → digOk t 15 = false := fun h => by
    cases hd : digOk t 15
    · rfl
    · have := good hd
      obtain ⟨g1, g2, _⟩ := digOk_inv hd
      exact absurd ⟨by omega, by omega, this⟩ h
  refine ask_m (fun h3 => ?_) (fun h3 => ?_)
  · have h3 := of_decide_eq_true h3
    simp only [bad (no (by omega))]
    (conv => whnf)
    refine ret0 ?_
    exact ⟨[], ⟨rfl, trivial⟩, trivial⟩
  have h3 := of_decide_eq_false h3
  (conv => whnf)
  refine ask_m (fun h4 => ?_) (fun h4 => ?_)
  · have h4 := of_decide_eq_true h4
    simp only [bad (no (by omega))]
    (conv => whnf)
    refine ret0 ?_
    exact ⟨[], ⟨rfl, trivial⟩, trivial⟩
  have h4 := of_decide_eq_false h4
  (conv => whnf)
  refine ask_m (fun h5 => ?_) (fun h5 => ?_)
  · have h5 : ¬ (j : Int) = t.size := by simpa using h5
    simp only [bad (no (by omega))]
    (conv => whnf)
    refine ret0 ?_
    exact ⟨[], ⟨rfl, trivial⟩, trivial⟩
  have h5 : (j : Int) = t.size := by simpa using h5
  have h5 : j = t.size := by omega
  subst h5
  have hd := digOk_mk (m := 15) (by omega) (by omega) h1
  have hv := dval_15 (by omega) h1
  rw [digV, hd, if_pos rfl, Nat.min_eq_left (by omega)]
  (conv => whnf)
  refine ask_m (fun h => ?_) (fun h => ?_)
  · subst h
    (conv => whnf)
    refine ret0 ?_
    exact ⟨[], ⟨by rw [w64 (by omega) (by omega), if_pos rfl, Int.zero_sub]; rfl, trivial⟩, trivial⟩
  · subst h
    (conv => whnf)
    refine ret0 ?_
    exact ⟨[], ⟨rfl, trivial⟩, trivial⟩

/- numbers -/
/-- the number of a text without a sign -/
def numN (t : ByteArray) : Option Int :=
  if digOk (cutL t 46) 5 = false then none
  else if cutB t 46 = false then some ((dval (cutL t 46) (cutL t 46).size * 1000000 * 65536 + 500000) / 1000000)
  else if digOk (cutR t 46) 6 = false then none
  else some (((dval (cutL t 46) (cutL t 46).size * 1000000 + dval (cutR t 46) (cutR t 46).size * 10 ^ (6 - (cutR t 46).size)) * 65536 + 500000) / 1000000)
def numOf (s : ByteArray) : Int × Bool := match numN (tailB s 45) with
  | none => (0, false)
  | some v => if 2147483648 < v then (0, false) else (if headB s 45 then -v else v, true)
abbrev NuR (r : Int × Bool) : SV := DgR r.1 r.2
theorem cutR_size {t : ByteArray} {c : UInt8} : (cutR t c).size ≤ t.size := by
  unfold cutR; split
  · rw [ByteArray.size_extract]; omega
  · exact Nat.zero_le _
theorem token_Number (s : ByteArray) (hs : s.size ≤ 4611686018427387904) : FnOk Try.prog F.token_Number [Tx s] [] 0 (NuR (numOf s)) [] 0 := by
  refine fnOk tab mix G.token_Number rfl rfl (by kernel_rfl) rfl rfl ?_
  (conv => whnf)
  refine call_i (st_CutPrefix s 45) ?_
  (conv => whnf)
  have hsz := tail_size (s := s) (c := 45)
  unfold numOf
  generalize headB s 45 = b
  generalize tailB s 45 = t at *
  refine call_i (st_Cut t 46 (by omega)) ?_
  (conv => whnf)
  refine call_i (token_digits (cutL t 46) 5 (by decide)) ?_
  (conv => whnf)
  refine ask_m (fun h1 => ?_) (fun h1 => ?_)
  · have h1 : digOk (cutL t 46) 5 = false := by simpa using h1
    have e : numN t = none := by rw [numN, if_pos h1]
    simp only [e]
    (conv => whnf)
    refine ret0 ?_
    exact ⟨[], ⟨rfl, trivial⟩, trivial⟩
  have h1 : digOk (cutL t 46) 5 = true := by simpa using h1
  have hv : digV (cutL t 46) 5 = dval (cutL t 46) (cutL t 46).size := by rw [digV, if_pos h1]
  obtain ⟨g1, g2, g3⟩ := digOk_inv h1
  have hw := dval_bd g3
  have hw5 := pow_mono g2
  have h105 : (10 : Int) ^ 5 = 100000 := by decide
  have hN : numN t = if cutB t 46 = false then some ((dval (cutL t 46) (cutL t 46).size * 1000000 * 65536 + 500000) / 1000000)
    else if digOk (cutR t 46) 6 = false then none
    else some (((dval (cutL t 46) (cutL t 46).size * 1000000 + dval (cutR t 46) (cutR t 46).size * 10 ^ (6 - (cutR t 46).size)) * 65536 + 500000) / 1000000) := by rw [numN, if_neg (by rw [h1]; simp)]
  rw [hv]
  generalize hwv : dval (cutL t 46) (cutL t 46).size = v at *
  have hv5 : v < 100000 := by omega
  -- the end, for whatever sum
  have last : ∀ n : Int, 0 ≤ n → n < 100000000000 → (IntKind.i64.wrap ((IntKind.i64.wrap (IntKind.i64.wrap (n * 65536) + 500000)).tdiv 1000000)) = (n * 65536 + 500000) / 1000000 ∧ 0 ≤ (n * 65536 + 500000) / 1000000 ∧ (n * 65536 + 500000) / 1000000 < 10000000000 := fun n h0 h1 => by
    have q : 0 ≤ (n * 65536 + 500000) / 1000000 ∧ (n * 65536 + 500000) / 1000000 < 10000000000 := by omega
    refine ⟨?_, q⟩
    rw [w64 (x := n * 65536) (by omega) (by omega), w64 (x := n * 65536 + 500000) (by omega) (by omega), Int.tdiv_eq_ediv_of_nonneg (by omega), w64 (by omega) (by omega)]
  (conv => whnf)
  refine ask_m (fun h2 => ?_) (fun h2 => ?_)
  · have h2 : cutB t 46 = true := h2
    rw [if_neg (by rw [h2]; simp)] at hN
    (conv => whnf)
    refine call_i (token_digits (cutR t 46) 6 (by decide)) ?_
    (conv => whnf)
    refine ask_m (fun h3 => ?_) (fun h3 => ?_)
    · have h3 : digOk (cutR t 46) 6 = false := by simpa using h3
      rw [if_pos h3] at hN
      simp only [hN]
      (conv => whnf)
      refine ret0 ?_
      exact ⟨[], ⟨rfl, trivial⟩, trivial⟩
    have h3 : digOk (cutR t 46) 6 = true := by simpa using h3
    rw [if_neg (by rw [h3]; simp)] at hN
    have hu : digV (cutR t 46) 6 = dval (cutR t 46) (cutR t 46).size := by rw [digV, if_pos h3]
    obtain ⟨f1, f2, f3⟩ := digOk_inv h3
    have hp := dval_bd f3
    rw [hu]
    (conv => whnf)
    generalize dval (cutR t 46) (cutR t 46).size = u at *
    generalize (cutR t 46).size = z at *
    have w6 : IntKind.i64.wrap (6 - (z : Int)) = ((6 - z : Nat) : Int) := by rw [w64] <;> omega
    have hu6 : ∀ i, i ≤ 6 - z → 0 ≤ u * 10 ^ i ∧ u * 10 ^ i < 1000000 := fun i hi => by
      have a1 : (10 : Int) ^ z * 10 ^ i = 10 ^ (z + i) := (Int.pow_add ..).symm
      have a2 : (10 : Int) ^ (z + i) ≤ 10 ^ 6 := pow_mono (by omega)
      have a3 : (0 : Int) < 10 ^ i := Int.pow_pos (by decide)
      have a4 : (10 : Int) ^ 6 = 1000000 := by decide
      have a5 : u * 10 ^ i < 10 ^ z * 10 ^ i := Int.mul_lt_mul_of_pos_right hp.2 a3
      have a6 : 0 ≤ u * 10 ^ i := Int.mul_nonneg hp.1 (by omega)
      omega
    rw [w6]
    refine loop_intro (fun i : Nat => ⟨[(5, Bo b), (9, I (IntKind.i64.wrap (v * 1000000))), (11, I (u * 10 ^ i)), (43, I ((6 - z : Nat) : Int)), (44, I i)], [], 0⟩) (fun i => i ≤ 6 - z) (fun i => 6 - z - i) [] 0 [] (Nat.zero_le _) ⟨⟨rfl, rfl, eqI (by simp), rfl, rfl, trivial⟩, trivial⟩ ?_
    rintro i hi
    (conv => whnf)
    refine ask_m (fun h => ?_) (fun h => ?_)
    · have hlt : i < 6 - z := by have := of_decide_eq_true h; omega
      have a1 := hu6 i hi
      have a2 := hu6 (i + 1) hlt
      have hii : IntKind.i64.wrap ((i : Int) + 1) = ((i + 1 : Nat) : Int) := by rw [w64] <;> omega
      (conv => whnf)
      refine ⟨i + 1, [], hlt, by omega, ⟨⟨rfl, rfl, eqI ?_, rfl, eqI hii, trivial⟩, trivial⟩⟩
      rw [w64 (by omega) (by omega), Int.pow_succ, Int.mul_assoc]
    · have hi6 : i = 6 - z := by have := of_decide_eq_false h; omega
      subst hi6
      have a1 := hu6 _ hi
      obtain ⟨l1, l2, l3⟩ := last (v * 1000000 + u * 10 ^ (6 - z)) (by omega) (by omega)
      (conv => whnf)
      refine ⟨by omega, ?_⟩
      (conv => whnf)
      rw [w64 (x := v * 1000000) (by omega) (by omega), w64 (x := v * 1000000 + u * 10 ^ (6 - z)) (by omega) (by omega), l1]
      simp only [hN]
      generalize ((v * 1000000 + u * 10 ^ (6 - z)) * 65536 + 500000) / 1000000 = q at *
      refine ask_m (fun h4 => ?_) (fun h4 => ?_)
      · have h4 := of_decide_eq_true h4
        rw [if_pos h4]
        (conv => whnf)
        refine ret0 ?_
        exact ⟨[], ⟨rfl, trivial⟩, trivial⟩
      · have h4 := of_decide_eq_false h4
        rw [if_neg h4]
        (conv => whnf)
        refine call_i (token_signed q b (by omega) (by omega)) ?_
        (conv => whnf)
        (conv => whnf)
        refine ret0 ?_
        exact ⟨[], ⟨rfl, trivial⟩, trivial⟩
  · have h2 : cutB t 46 = false := h2
    rw [if_pos h2] at hN
    obtain ⟨l1, l2, l3⟩ := last (v * 1000000) (by omega) (by omega)
    (conv => whnf)
    refine ⟨by omega, ?_⟩
    (conv => whnf)
    rw [w64 (x := v * 1000000) (by omega) (by omega), l1]
    simp only [hN]
    generalize (v * 1000000 * 65536 + 500000) / 1000000 = q at *
    refine ask_m (fun h4 => ?_) (fun h4 => ?_)
    · have h4 := of_decide_eq_true h4
      rw [if_pos h4]
      (conv => whnf)
      refine ret0 ?_
      exact ⟨[], ⟨rfl, trivial⟩, trivial⟩
    · have h4 := of_decide_eq_false h4
      rw [if_neg h4]
      (conv => whnf)
      refine call_i (token_signed q b (by omega) (by omega)) ?_
      (conv => whnf)
      (conv => whnf)
      refine ret0 ?_
      exact ⟨[], ⟨rfl, trivial⟩, trivial⟩
end Go.Proofs.Ytoabhjflfbblfaa
