/- The reference's Name and Number. -/
import Derived.Test.YtoabhjflfbblfaaNu3
namespace Go.Proofs.Ytoabhjflfbblfaa
open Eng
set_option maxRecDepth 10000
attribute [local irreducible] FnOk loopW idxF retX arrF

theorem ref_Name (s : ByteArray) : FnOk Try.prog F.ref6_Name [Tx s] [] 0 (Bo (nameOk s)) [] 0 := by
  refine fnOk tab mix G.ref6_Name rfl rfl (by kernel_rfl) rfl rfl ?_
  (conv => whnf)
  refine ask_m (fun h => ?_) (fun h => ?_)
  · (conv => whnf)
    refine ret0 ?_
    exact ret_b (by have : ¬ 1 ≤ s.size := by have := of_decide_eq_true h; omega
                    simp [nameOk, this]) rfl
  have h1 : 1 ≤ s.size := by have := of_decide_eq_false h; omega
  (conv => whnf)
  refine ask_m (fun h => ?_) (fun h => ?_)
  · (conv => whnf)
    refine ret0 ?_
    exact ret_b (by have : ¬ s.size ≤ 16 := by have := of_decide_eq_true h; omega
                    simp [nameOk, this]) rfl
  have h2 : s.size ≤ 16 := by have := of_decide_eq_false h; omega
  (conv => whnf)
  refine ask_m (fun h => ?_) (fun h => ?_)
  · (conv => whnf)
    refine ret0 ?_
    exact ret_b (by have : s = worldT := of_decide_eq_true h
                    subst this; rfl) rfl
  have h3 : decide (s = worldT) = false := h
  (conv => whnf)
  refine loop_intro (fun k : Nat => ⟨[(0, Tx s), (3, I k)], [], 0⟩) (fun k => k ≤ s.size ∧ ((List.range k).all fun i => nameB i (byteAt s i)) = true) (fun k => s.size - k) [] 0 [] ⟨Nat.zero_le _, rfl⟩ ⟨⟨rfl, rfl, trivial⟩, trivial⟩ ?_
  rintro k ⟨hk, hall⟩
  have hkk : IntKind.i64.wrap ((k : Int) + 1) = ((k + 1 : Nat) : Int) := by rw [w64] <;> omega
  (conv => whnf)
  refine ask_m (fun h => ?_) (fun h => ?_)
  · have hlt : k < s.size := by have := of_decide_eq_true h; omega
    have bad : nameB k (byteAt s k) = false → nameOk s = false := name_not hlt
    have good : nameB k (byteAt s k) = true → ((List.range (k + 1)).all fun i => nameB i (byteAt s i)) = true := fun h => names_take hall h
    have hN : nameB k (byteAt s k) = (letterB (byteAt s k) || (decide (k ≠ 0) && (digitB (byteAt s k) || decide (byteAt s k = 95)))) := rfl
    have ix : ((0 : Int) ≤ k ∧ (k : Int) < s.size) := ⟨by omega, by omega⟩
    have e1 : byteAt s (k : Int).toNat = byteAt s k := rfl
    clear h
    repeat' ((conv => whnf); first | refine ask_m (fun h => ?_) (fun h => ?_) | refine ⟨ix, ?_⟩ | refine ret0 ?_)
    all_goals (try rw [e1] at *)
    all_goals generalize byteAt s k = c at *
    all_goals first
      | (refine ret_b (bad ?_).symm rfl; clear bad good; simp_all [letterB, digitB]; done)
      | (refine ret_b (bad ?_).symm rfl; clear bad good; simp_all [letterB, digitB]; omega)
      | (refine ⟨k + 1, [], ⟨hlt, good ?_⟩, by omega, ⟨⟨rfl, eqI hkk, trivial⟩, trivial⟩⟩; clear bad good; simp_all [letterB, digitB]; done)
      | (refine ⟨k + 1, [], ⟨hlt, good ?_⟩, by omega, ⟨⟨rfl, eqI hkk, trivial⟩, trivial⟩⟩; clear bad good; simp_all [letterB, digitB]; omega)
  · have hk : k = s.size := by have := of_decide_eq_false h; omega
    subst hk
    (conv => whnf)
    refine ret0 ?_
    exact ret_b (by simp [nameOk, h1, h2, h3, hall]) rfl
theorem allDig_ext {t : ByteArray} {a n : Nat} (h : a + n ≤ t.size) : allDig (t.extract a (a + n)) n = (List.range n).all fun i => digitB (byteAt t (a + i)) := by
  unfold allDig
  rw [Bool.eq_iff_iff, List.all_eq_true, List.all_eq_true]
  refine ⟨fun H i hi => ?_, fun H i hi => ?_⟩
  · have := H i hi
    rwa [byteAt_ext h (by have := List.mem_range.1 hi; omega)] at this
  · rw [byteAt_ext h (by have := List.mem_range.1 hi; omega)]; exact H i hi
theorem dval_ext {t : ByteArray} {j : Nat} (hj : j ≤ t.size) : ∀ i, i ≤ j → dval (t.extract 0 j) i = dval t i
  | 0, _ => rfl
  | i + 1, h => by rw [dval, dval, dval_ext hj i (by omega), byteAt_ext hj (by omega), Nat.zero_add]
theorem allDig_pre {t : ByteArray} {j : Nat} (hj : j ≤ t.size) : allDig (t.extract 0 j) j = allDig t j := by
  have := allDig_ext (t := t) (a := 0) (n := j) (by omega)
  simp only [Nat.zero_add] at this
  rw [this]; rfl
theorem not46 {c : Int} (h : digitB c = true) : c ≠ 46 := by have := digit_bd h; omega
theorem place_eq {t : ByteArray} {j : Nat} (hj : j < t.size) (h : byteAt t j = 46) (hb : ∀ i, i < j → byteAt t i ≠ 46) : placeOfB t 46 = j := by
  rcases place_spec t 46 with ⟨_, h2⟩ | ⟨p, h1, h2, h3, h4⟩
  · exact absurd h (h2 j hj)
  · rw [h1]
    rcases Nat.lt_trichotomy p j with hlt | rfl | hlt
    · exact absurd h3 (hb p hlt)
    · rfl
    · exact absurd h (h4 j hlt)
theorem place_none {t : ByteArray} (h : ∀ i, i < t.size → byteAt t i ≠ 46) : placeOfB t 46 = -1 := by
  rcases place_spec t 46 with ⟨h1, _⟩ | ⟨p, h1, h2, h3, h4⟩
  · exact h1
  · exact absurd h3 (h p h2)
/-- numN, told by the length of the first digits -/
theorem numN_whole {t : ByteArray} (h1 : allDig t t.size = true) (h2 : 1 ≤ t.size) (h3 : t.size ≤ 5) : numN t = some (dval t t.size * 65536) := by
  have hp : placeOfB t 46 = -1 := place_none fun i hi => not46 (allDig_iff.1 h1 i hi)
  have hl : cutL t 46 = t := by rw [cutL, hp, if_neg (by decide)]
  have hc : cutB t 46 = false := by rw [cutB, hp]; rfl
  have hv := dval_15 (by omega) h1
  rw [numN, hl, hc, if_neg (by rw [digOk_mk h2 h3 h1]; simp), if_pos rfl]
  congr 1; omega
theorem numN_first {t : ByteArray} {j : Nat} (hj : j ≤ t.size) (h1 : allDig t j = true) (h2 : j = t.size ∨ digitB (byteAt t j) = false) (h : ¬ (1 ≤ j ∧ j ≤ 5)) : numN t = none := by
  rw [numN, if_pos]
  cases hd : digOk (cutL t 46) 5
  · rfl
  · obtain ⟨g1, g2, g3⟩ := digOk_inv hd
    rcases place_spec t 46 with ⟨p1, p2⟩ | ⟨p, p1, p2, p3, p4⟩
    · have hl : cutL t 46 = t := by rw [cutL, p1, if_neg (by decide)]
      rw [hl] at g1 g2 g3
      have := dpre_one hj h1 h2 (Nat.le_refl _) g3 (.inl rfl)
      omega
    · have hl : cutL t 46 = t.extract 0 p := by rw [cutL, p1, if_pos (by omega), Int.toNat_natCast]
      have hs : (t.extract 0 p).size = p := by rw [ByteArray.size_extract]; omega
      rw [hl, hs] at g1 g2 g3
      rw [allDig_pre (by omega)] at g3
      have h46 : digitB (byteAt t p) = false := by rw [p3]; rfl
      have := dpre_one hj h1 h2 (by omega) g3 (.inr h46)
      omega
theorem numN_other {t : ByteArray} {j : Nat} (hj : j < t.size) (h1 : allDig t j = true) (h2 : digitB (byteAt t j) = false) (h : byteAt t j ≠ 46) : numN t = none := by
  rw [numN, if_pos]
  rcases place_spec t 46 with ⟨p1, p2⟩ | ⟨p, p1, p2, p3, p4⟩
  · have hl : cutL t 46 = t := by rw [cutL, p1, if_neg (by decide)]
    rw [hl]; exact digOk_not hj h2
  · have hjp : j < p := by
      rcases Nat.lt_trichotomy p j with hlt | rfl | hlt
      · exact absurd p3 (not46 (allDig_iff.1 h1 p hlt))
      · exact absurd p3 h
      · exact hlt
    have hl : cutL t 46 = t.extract 0 p := by rw [cutL, p1, if_pos (by omega), Int.toNat_natCast]
    rw [hl]
    refine digOk_not (i := j) (by rw [ByteArray.size_extract]; omega) ?_
    rw [byteAt_ext (by omega) (by omega), Nat.zero_add]; exact h2
theorem numN_point {t : ByteArray} {j : Nat} (hj : j < t.size) (h1 : allDig t j = true) (h46 : byteAt t j = 46) (ha : 1 ≤ j) (hb : j ≤ 5) :
    numN t = if digOk (t.extract (j + 1) t.size) 6 = false then none else some (((dval t j * 1000000 + dval (t.extract (j + 1) t.size) (t.extract (j + 1) t.size).size * 10 ^ (6 - (t.extract (j + 1) t.size).size)) * 65536 + 500000) / 1000000) := by
  have hp := place_eq hj h46 fun i hi => not46 (allDig_iff.1 h1 i hi)
  have hl : cutL t 46 = t.extract 0 j := by rw [cutL, hp, if_pos (by omega), Int.toNat_natCast]
  have hr : cutR t 46 = t.extract (j + 1) t.size := by rw [cutR, hp, if_pos (by omega), Int.toNat_natCast]
  have hc : cutB t 46 = true := by rw [cutB, hp]; exact decide_eq_true (by omega)
  have hs : (t.extract 0 j).size = j := by rw [ByteArray.size_extract]; omega
  have hd : digOk (t.extract 0 j) 5 = true := digOk_mk (by omega) (by omega) (by rw [hs, allDig_pre (by omega)]; exact h1)
  rw [numN, hl, hr, hc, hs, dval_ext (by omega) j (Nat.le_refl _), if_neg (by rw [hd]; simp), if_neg (by simp)]
theorem round_eq {v u : Int} {k : Nat} (h1 : 1 ≤ k) (h6 : k ≤ 6) (hu : 0 ≤ u) : ((v * 1000000 + u * 10 ^ (6 - k)) * 65536 + 500000) / 1000000 = v * 65536 + (2 * u * 65536 + 10 ^ k) / (2 * 10 ^ k) := by
  have h : k = 1 ∨ k = 2 ∨ k = 3 ∨ k = 4 ∨ k = 5 ∨ k = 6 := by omega
  rcases h with rfl | rfl | rfl | rfl | rfl | rfl <;> simp only [Nat.reduceSub, Int.reducePow] <;> omega
theorem ref_Number (s : ByteArray) (hs : s.size ≤ 4611686018427387904) : FnOk Try.prog F.ref6_Number [Tx s] [] 0 (NuR (numOf s)) [] 0 := by
  refine fnOk tab mix G.ref6_Number rfl rfl (by kernel_rfl) rfl rfl ?_
  (conv => whnf)
  refine call_i (ref_sign s) ?_
  (conv => whnf)
  have hsz := tail_size (s := s) (c := 45)
  unfold numOf
  generalize headB s 45 = b
  generalize tailB s 45 = t at *
  obtain ⟨j, hj, h1, h2⟩ := dpre_ex t
  refine call_i (ref_digits t j (by omega) hj h1 h2) ?_
  (conv => whnf)
  refine ask_m (fun h3 => ?_) (fun h3 => ?_)
  · have h3 := of_decide_eq_true h3
    simp only [numN_first hj h1 h2 (by omega)]
    (conv => whnf)
    refine ret0 ?_
    exact ⟨[], ⟨rfl, trivial⟩, trivial⟩
  have h3 := of_decide_eq_false h3
  (conv => whnf)
  refine ask_m (fun h4 => ?_) (fun h4 => ?_)
  · have h4 := of_decide_eq_true h4
    simp only [numN_first hj h1 h2 (by omega)]
    (conv => whnf)
    refine ret0 ?_
    exact ⟨[], ⟨rfl, trivial⟩, trivial⟩
  have h4 := of_decide_eq_false h4
  have hv := dval_15 (by omega) h1
  have hv5 := (dval_bd h1).2
  have hp5 := pow_mono (show j ≤ 5 by omega)
  have h105 : (10 : Int) ^ 5 = 100000 := by decide
  rw [Nat.min_eq_left (by omega)]
  have hes : (t.extract j t.size).size = t.size - j := by rw [ByteArray.size_extract]; omega
  (conv => whnf)
  refine ⟨⟨by omega, by omega⟩, ?_⟩
  (conv => whnf)
  rw [Int.toNat_natCast, w64 (x := dval t j * 65536) (by omega) (by omega)]
  -- the end, for whatever sum
  refine ask_m (fun h5 => ?_) (fun h5 => ?_)
  · have h5 := of_decide_eq_true h5
    have hjl : j < t.size := by omega
    have h2 := h2.resolve_left (by omega)
    have hee : (t.extract j t.size).extract 1 (t.extract j t.size).size = t.extract (j + 1) t.size := by
      rw [ByteArray.extract_extract]; congr 1; rw [hes]; omega
    have hb0 : byteAt (t.extract j t.size) 0 = byteAt t j := by rw [byteAt_ext (Nat.le_refl _) (by omega), Nat.add_zero]
    (conv => whnf)
    refine ⟨⟨by omega, by omega⟩, ?_⟩
    (conv => whnf)
    rw [show (1 : Int).toNat = 1 from rfl, hee]
    have hfs : (t.extract (j + 1) t.size).size = t.size - (j + 1) := by rw [ByteArray.size_extract]; omega
    generalize hf : t.extract (j + 1) t.size = f at *
    obtain ⟨k, hk, k1, k2⟩ := dpre_ex f
    refine call_i (ref_digits f k (by omega) hk k1 k2) ?_
    (conv => whnf)
    refine ⟨⟨by omega, by omega⟩, ?_⟩
    (conv => whnf)
    rw [show (0 : Int).toNat = 0 from rfl, hb0]
    refine ask_m (fun h46 => ?_) (fun h46 => ?_)
    · have h46 : ¬ byteAt t j = 46 := by simpa using h46
      simp only [numN_other hjl h1 h2 h46]
      (conv => whnf)
      refine ret0 ?_
      exact ⟨[], ⟨rfl, trivial⟩, trivial⟩
    have h46 : byteAt t j = 46 := by simpa using h46
    have hN := numN_point hjl h1 h46 (by omega) (by omega)
    rw [hf] at hN
    have no : ¬ (1 ≤ k ∧ k ≤ 6 ∧ k = f.size) → numN t = none := fun h => by
      rw [hN, if_pos]
      cases hd : digOk f 6
      · rfl
      · obtain ⟨g1, g2, g3⟩ := digOk_inv hd
        have := dpre_one hk k1 k2 (Nat.le_refl _) g3 (.inl rfl)
        exact absurd ⟨by omega, by omega, this⟩ h
    (conv => whnf)
    refine ask_m (fun h6 => ?_) (fun h6 => ?_)
    · have h6 := of_decide_eq_true h6
      simp only [no (by omega)]
      (conv => whnf)
      refine ret0 ?_
      exact ⟨[], ⟨rfl, trivial⟩, trivial⟩
    have h6 := of_decide_eq_false h6
    (conv => whnf)
    refine ask_m (fun h7 => ?_) (fun h7 => ?_)
    · have h7 := of_decide_eq_true h7
      simp only [no (by omega)]
      (conv => whnf)
      refine ret0 ?_
      exact ⟨[], ⟨rfl, trivial⟩, trivial⟩
    have h7 := of_decide_eq_false h7
    (conv => whnf)
    rw [w64 (x := ((t.extract j t.size).size : Int) - 1) (by omega) (by omega)]
    refine ask_m (fun h8 => ?_) (fun h8 => ?_)
    · have h8 : ¬ (k : Int) = ((t.extract j t.size).size : Int) - 1 := by simpa using h8
      simp only [no (by omega)]
      (conv => whnf)
      refine ret0 ?_
      exact ⟨[], ⟨rfl, trivial⟩, trivial⟩
    have h8 : (k : Int) = ((t.extract j t.size).size : Int) - 1 := by simpa using h8
    have hkf : k = f.size := by omega
    rw [if_neg (by rw [digOk_mk (by omega) (by omega) (hkf ▸ k1)]; simp), ← hkf] at hN
    have hu := dval_15 (by omega) k1
    have hu6 := (dval_bd k1).2
    have hp6 := pow_mono (show k ≤ 6 by omega)
    have h106 : (10 : Int) ^ 6 = 1000000 := by decide
    rw [round_eq (by omega) (by omega) hu.1] at hN
    rw [Nat.min_eq_left (by omega)]
    generalize dval f k = u at *
    generalize dval t j = v at *
    (conv => whnf)
    refine loop_intro (fun i : Nat => ⟨[(5, Bo b), (8, I (v * 65536)), (9, I k), (10, I u), (11, I (10 ^ i)), (12, I i)], [], 0⟩) (fun i => i ≤ k) (fun i => k - i) [] 0 [] (Nat.zero_le _) ⟨⟨rfl, rfl, rfl, rfl, rfl, rfl, trivial⟩, trivial⟩ ?_
    rintro i hi
    (conv => whnf)
    refine ask_m (fun h => ?_) (fun h => ?_)
    · have hlt : i < k := by have := of_decide_eq_true h; omega
      have hii : IntKind.i64.wrap ((i : Int) + 1) = ((i + 1 : Nat) : Int) := by rw [w64] <;> omega
      have a1 := pow_mono (show i + 1 ≤ 6 by omega)
      have a3 : (0 : Int) < 10 ^ (i + 1) := Int.pow_pos (by decide)
      rw [Int.pow_succ] at a1 a3
      (conv => whnf)
      refine ⟨i + 1, [], hlt, by omega, ⟨⟨rfl, rfl, rfl, rfl, eqI ?_, eqI hii, trivial⟩, trivial⟩⟩
      rw [w64 (by omega) (by omega), Int.pow_succ]
    · have hik : i = k := by have := of_decide_eq_false h; omega
      subst hik
      have a3 : (0 : Int) < 10 ^ i := Int.pow_pos (by decide)
      have q1 : 0 ≤ (2 * u * 65536 + 10 ^ i) / (2 * 10 ^ i) := Int.ediv_nonneg (by omega) (by omega)
      have q2 : (2 * u * 65536 + 10 ^ i) / (2 * 10 ^ i) ≤ 65536 := by
        have : (2 * u * 65536 + 10 ^ i) / (2 * 10 ^ i) < 65537 := Int.ediv_lt_of_lt_mul (by omega) (by omega)
        omega
      (conv => whnf)
      rw [w64 (x := 2 * u) (by omega) (by omega), w64 (x := 2 * u * 65536) (by omega) (by omega), w64 (x := 2 * u * 65536 + 10 ^ i) (by omega) (by omega), w64 (x := 2 * 10 ^ i) (by omega) (by omega)]
      refine ⟨by omega, ?_⟩
      (conv => whnf)
      rw [Int.tdiv_eq_ediv_of_nonneg (by omega)]
      simp only [hN]
      generalize (2 * u * 65536 + 10 ^ i) / (2 * 10 ^ i) = q at *
      rw [w64 (x := q) (by omega) (by omega), w64 (x := v * 65536 + q) (by omega) (by omega)]
      refine ask_m (fun h9 => ?_) (fun h9 => ?_)
      · have h9 := of_decide_eq_true h9
        rw [if_pos h9]
        (conv => whnf)
        refine ret0 ?_
        exact ⟨[], ⟨rfl, trivial⟩, trivial⟩
      · have h9 := of_decide_eq_false h9
        rw [if_neg h9]
        (conv => whnf)
        refine ask_m (fun hb => ?_) (fun hb => ?_)
        · subst hb
          (conv => whnf)
          refine ret0 ?_
          exact ⟨[], ⟨by rw [w64 (by omega) (by omega), if_pos rfl, Int.zero_sub]; rfl, trivial⟩, trivial⟩
        · subst hb
          (conv => whnf)
          refine ret0 ?_
          exact ⟨[], ⟨rfl, trivial⟩, trivial⟩
  · have h5 := of_decide_eq_false h5
    have hjs : j = t.size := by omega
    subst hjs
    simp only [numN_whole h1 (by omega) (by omega)]
    generalize dval t t.size = v at *
    (conv => whnf)
    refine ask_m (fun h9 => ?_) (fun h9 => ?_)
    · have h9 := of_decide_eq_true h9
      rw [if_pos h9]
      (conv => whnf)
      refine ret0 ?_
      exact ⟨[], ⟨rfl, trivial⟩, trivial⟩
    · have h9 := of_decide_eq_false h9
      rw [if_neg h9]
      (conv => whnf)
      refine ask_m (fun hb => ?_) (fun hb => ?_)
      · subst hb
        (conv => whnf)
        refine ret0 ?_
        exact ⟨[], ⟨by rw [w64 (by omega) (by omega), if_pos rfl, Int.zero_sub]; rfl, trivial⟩, trivial⟩
      · subst hb
        (conv => whnf)
        refine ret0 ?_
        exact ⟨[], ⟨rfl, trivial⟩, trivial⟩
end Go.Proofs.Ytoabhjflfbblfaa
