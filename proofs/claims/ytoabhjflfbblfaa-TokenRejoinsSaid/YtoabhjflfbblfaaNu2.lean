/- Digits and integers: token and the reference. -/
import Derived.Test.YtoabhjflfbblfaaNu1
namespace Go.Proofs.Ytoabhjflfbblfaa
open Eng
set_option maxRecDepth 10000
attribute [local irreducible] FnOk loopW idxF retX arrF

def allDig (t : ByteArray) (n : Nat) : Bool := (List.range n).all fun i => digitB (byteAt t i)
def dval (t : ByteArray) : Nat → Int
  | 0 => 0
  | k + 1 => dval t k * 10 + (byteAt t k - 48)
def digOk (t : ByteArray) (m : Nat) : Bool := decide (1 ≤ t.size) && decide (t.size ≤ m) && allDig t t.size
def digV (t : ByteArray) (m : Nat) : Int := if digOk t m then dval t t.size else 0
theorem allDig_iff {t : ByteArray} {n : Nat} : allDig t n = true ↔ ∀ i, i < n → digitB (byteAt t i) = true := by simp [allDig]
theorem allDig_succ {t : ByteArray} {n : Nat} : allDig t (n + 1) = (allDig t n && digitB (byteAt t n)) := by simp [allDig, List.range_succ]
theorem digit_bd {c : Int} (h : digitB c = true) : 48 ≤ c ∧ c ≤ 57 := by simp [digitB] at h; exact h
theorem dval_bd {t : ByteArray} : ∀ {n : Nat}, allDig t n = true → 0 ≤ dval t n ∧ dval t n < 10 ^ n
  | 0, _ => ⟨Int.le_refl _, by simp [dval]⟩
  | n + 1, h => by
    rw [allDig_succ, Bool.and_eq_true] at h
    have h1 := dval_bd h.1
    have h2 := digit_bd h.2
    rw [dval, Int.pow_succ]
    omega
theorem pow_mono {a b : Nat} (h : a ≤ b) : (10 : Int) ^ a ≤ 10 ^ b := by
  exact_mod_cast Nat.pow_le_pow_right (by decide) h
theorem dval_15 {t : ByteArray} {n : Nat} (hn : n ≤ 15) (h : allDig t n = true) : 0 ≤ dval t n ∧ dval t n < 1000000000000000 := by
  have h1 := dval_bd h
  have h2 := pow_mono hn
  have h3 : (10 : Int) ^ 15 = 1000000000000000 := by decide
  omega
theorem digOk_inv {t : ByteArray} {m : Nat} (h : digOk t m = true) : 1 ≤ t.size ∧ t.size ≤ m ∧ allDig t t.size = true := by
  simp only [digOk, Bool.and_eq_true, decide_eq_true_eq] at h; exact ⟨h.1.1, h.1.2, h.2⟩
theorem digOk_mk {t : ByteArray} {m : Nat} (h1 : 1 ≤ t.size) (h2 : t.size ≤ m) (h3 : allDig t t.size = true) : digOk t m = true := by
  simp only [digOk, Bool.and_eq_true, decide_eq_true_eq]; exact ⟨⟨h1, h2⟩, h3⟩
theorem digOk_not {t : ByteArray} {m i : Nat} (hi : i < t.size) (h : digitB (byteAt t i) = false) : digOk t m = false := by
  cases hd : digOk t m
  · rfl
  · have := allDig_iff.1 (digOk_inv hd).2.2 i hi
    rw [h] at this; contradiction
theorem digitB_low {c : Int} (h : digitB c = true) : c < 128 := by have := digit_bd h; omega
abbrev DgR (a : Int) (b : Bool) : SV := .tup [(false, [.dv (.int .i64 a)]), (false, [.dv (.bool b)])]
theorem token_digits (t : ByteArray) (m : Nat) (hm : m ≤ 15) : FnOk Try.prog F.token_digits [Tx t, I m] [] 0 (DgR (digV t m) (digOk t m)) [] 0 := by
  refine fnOk tab mix G.token_digits rfl rfl (by kernel_rfl) rfl rfl ?_
  (conv => whnf)
  have bad : digOk t m = false → DgR (digV t m) (digOk t m) = DgR 0 false := fun h => by rw [digV, h]; rfl
  refine ask_m (fun h => ?_) (fun h => ?_)
  · have h : t.size = 0 := by simpa using h
    rw [bad (by simp [digOk, h])]
    (conv => whnf)
    refine ret0 ?_
    exact ⟨[], ⟨rfl, trivial⟩, trivial⟩
  have h1 : 1 ≤ t.size := by have : ¬ (t.size : Int) = 0 := by simpa using h
                             omega
  (conv => whnf)
  refine ask_m (fun h => ?_) (fun h => ?_)
  · have h : ¬ t.size ≤ m := by have := of_decide_eq_true h; omega
    rw [bad (by simp [digOk, h])]
    (conv => whnf)
    refine ret0 ?_
    exact ⟨[], ⟨rfl, trivial⟩, trivial⟩
  have h2 : t.size ≤ m := by have := of_decide_eq_false h; omega
  (conv => whnf)
  refine loop_intro (fun k : Nat => ⟨[(6, I (dval t k)), (19, .one (.vptr 0 0))], [(0, .iter t k)], 1⟩) (fun k => k ≤ t.size ∧ allDig t k = true) (fun k => t.size - k) [] 0 [] ⟨Nat.zero_le _, rfl⟩ ⟨⟨rfl, rfl, trivial⟩, ⟨rfl, trivial⟩⟩ ?_
  rintro k ⟨hk, hall⟩
  (conv => whnf)
  refine ask_m (fun h => ?_) (fun h => ?_)
  · have hlt : k < t.size := of_decide_eq_true h
    have F : digitB (Utf8.decode t k).1 = digitB (byteAt t k) ∧ (digitB (byteAt t k) = true → Utf8.decode t k = ((byteAt t k).toNat, 1)) := by
      have hb := byteAt_get hlt
      by_cases ha : (t[k]'hlt).toNat < 128
      · rw [decode_ascii t k hlt ha, hb]; exact ⟨rfl, fun _ => by simp⟩
      · have := (decode_high t k hlt (by omega)).1
        have h1 : digitB (byteAt t k) = false := by
          rcases hn : digitB (byteAt t k) with _ | _
          · rfl
          · have := digitB_low hn; omega
        have h2 : digitB ((Utf8.decode t k).1 : Int) = false := by
          rcases hn : digitB ((Utf8.decode t k).1 : Int) with _ | _
          · rfl
          · have := digitB_low hn; omega
        rw [h1, h2]; exact ⟨rfl, fun h => by cases h⟩
    (conv => whnf)
    refine call_i (token_isDigit (Utf8.decode t k).1) ?_
    (conv => whnf)
    refine ask_m (fun h => ?_) (fun h => ?_)
    · have h : digitB (byteAt t k) = false := by rw [← F.1]; simpa using h
      rw [bad (digOk_not hlt h)]
      (conv => whnf)
      refine ret0 ?_
      exact ⟨[], ⟨rfl, trivial⟩, trivial⟩
    · have h : digitB (byteAt t k) = true := by rw [← F.1]; simpa using h
      have hd := digit_bd h
      have hv := dval_15 (by omega) hall
      rw [F.2 h]
      simp only
      have e : (((byteAt t k).toNat : Nat) : Int) = byteAt t k := by omega
      (conv => whnf)
      rw [e]
      refine ⟨k + 1, [], ⟨hlt, by rw [allDig_succ, hall, h]; rfl⟩, by omega, ⟨⟨eqI ?_, rfl, trivial⟩, ⟨rfl, trivial⟩⟩⟩
      have w1 : IntKind.i32.wrap (byteAt t k - 48) = byteAt t k - 48 := by rw [IntKind.wrap_i32]; omega
      rw [w1, dval, w64 (x := dval t k * 10) (by omega) (by omega), w64 (x := byteAt t k - 48) (by omega) (by omega), w64] <;> omega
  · have hk : k = t.size := by have := of_decide_eq_false h; omega
    subst hk
    have e := digOk_mk h1 h2 hall
    rw [digV, e, if_pos rfl]
    (conv => whnf)
    refine ret0 ?_
    exact ⟨[], ⟨rfl, trivial⟩, trivial⟩
theorem token_signed (n : Int) (b : Bool) (h1 : -4611686018427387904 ≤ n) (h2 : n ≤ 4611686018427387904) : FnOk Try.prog F.token_signed [I n, Bo b] [] 0 (I (if b then -n else n)) [] 0 := by
  refine fnOk tab mix G.token_signed rfl rfl (by kernel_rfl) rfl rfl ?_
  (conv => whnf)
  refine ask_m (fun h => ?_) (fun h => ?_)
  · subst h
    (conv => whnf)
    refine ret0 ?_
    exact ret_i (by rw [w64] <;> simp <;> omega) rfl
  · subst h
    (conv => whnf)
    refine ret0 ?_
    exact ret_i rfl rfl

/- the reference -/
theorem dpre_ex (t : ByteArray) : ∃ j, j ≤ t.size ∧ allDig t j = true ∧ (j = t.size ∨ digitB (byteAt t j) = false) := by
  have key : ∀ d j, t.size - j = d → j ≤ t.size → allDig t j = true → ∃ j, j ≤ t.size ∧ allDig t j = true ∧ (j = t.size ∨ digitB (byteAt t j) = false) := by
    intro d
    induction d with
    | zero => intro j h1 h2 h3; exact ⟨j, h2, h3, .inl (by omega)⟩
    | succ d ih =>
      intro j h1 h2 h3
      cases h : digitB (byteAt t j)
      · exact ⟨j, h2, h3, .inr h⟩
      · exact ih (j + 1) (by omega) (by omega) (by rw [allDig_succ, h3, h]; rfl)
  exact key _ 0 rfl (Nat.zero_le _) rfl
theorem dpre_one {t : ByteArray} {j p : Nat} (hj : j ≤ t.size) (h1 : allDig t j = true) (h2 : j = t.size ∨ digitB (byteAt t j) = false) (hp : p ≤ t.size) (h3 : allDig t p = true) (h4 : p = t.size ∨ digitB (byteAt t p) = false) : j = p := by
  rcases Nat.lt_trichotomy j p with h | h | h
  · have := allDig_iff.1 h3 j h
    rcases h2 with h2 | h2
    · omega
    · rw [h2] at this; contradiction
  · exact h
  · have := allDig_iff.1 h1 p h
    rcases h4 with h4 | h4
    · omega
    · rw [h4] at this; contradiction
abbrev DnR (a b : Int) : SV := .tup [(false, [.dv (.int .i64 a)]), (false, [.dv (.int .i64 b)])]
theorem allDig_le {t : ByteArray} {a b : Nat} (h : allDig t b = true) (hab : a ≤ b) : allDig t a = true := allDig_iff.2 fun i hi => allDig_iff.1 h i (by omega)
theorem ref_digits (t : ByteArray) (j : Nat) (ht : t.size ≤ 4611686018427387904) (hj : j ≤ t.size) (h1 : allDig t j = true) (h2 : j = t.size ∨ digitB (byteAt t j) = false) : FnOk Try.prog F.ref6_digits [Tx t] [] 0 (DnR j (dval t (min j 15))) [] 0 := by
  refine fnOk tab mix G.ref6_digits rfl rfl (by kernel_rfl) rfl rfl ?_
  (conv => whnf)
  refine loop_intro (fun k : Nat => ⟨[(0, Tx t), (4, I k), (5, I (dval t (min k 15)))], [], 0⟩) (fun k => k ≤ j) (fun k => j - k) [] 0 [] (Nat.zero_le _) ⟨⟨rfl, rfl, rfl, trivial⟩, trivial⟩ ?_
  rintro k hk
  have fin : (k = j → DnR k (dval t (min k 15)) = DnR j (dval t (min j 15))) := fun h => by rw [h]
  have hkk : IntKind.i64.wrap ((k : Int) + 1) = ((k + 1 : Nat) : Int) := by rw [w64] <;> omega
  (conv => whnf)
  refine ask_m (fun h => ?_) (fun h => ?_)
  · have hlt : k < t.size := by simp at h; omega
    have hdj : digitB (byteAt t k) = true → k < j := fun h => by
      rcases Nat.lt_or_ge k j with h' | h'
      · exact h'
      · obtain rfl : k = j := by omega
        rcases h2 with h2 | h2
        · omega
        · rw [h2] at h; contradiction
    have hdn : digitB (byteAt t k) = false → k = j := fun h => by
      rcases Nat.lt_or_ge k j with h' | h'
      · have := allDig_iff.1 h1 k h'
        rw [h] at this; contradiction
      · omega
    (conv => whnf)
    refine ⟨⟨by omega, by omega⟩, ?_⟩
    (conv => whnf)
    rw [Int.toNat_natCast]
    refine ask_m (fun h => ?_) (fun h => ?_)
    · have h48 : 48 ≤ byteAt t k := of_decide_eq_true h
      (conv => whnf)
      refine ⟨⟨by omega, by omega⟩, ?_⟩
      (conv => whnf)
      rw [Int.toNat_natCast]
      refine ask_m (fun h => ?_) (fun h => ?_)
      · have h57 : byteAt t k ≤ 57 := of_decide_eq_true h
        have hd : digitB (byteAt t k) = true := by simp [digitB]; omega
        have hkj := hdj hd
        (conv => whnf)
        refine ask_m (fun h => ?_) (fun h => ?_)
        · have h15 : k < 15 := by have := of_decide_eq_true h; omega
          have hv := dval_15 (Nat.le_of_lt h15) (allDig_le h1 hk)
          (conv => whnf)
          refine ⟨⟨by omega, by omega⟩, ?_⟩
          (conv => whnf)
          rw [Int.toNat_natCast]
          refine ⟨k + 1, [], hkj, by omega, ⟨⟨rfl, eqI hkk, eqI ?_, trivial⟩, trivial⟩⟩
          have w1 : IntKind.u8.wrap (byteAt t k - 48) = byteAt t k - 48 := by rw [IntKind.wrap_u8]; omega
          rw [Nat.min_eq_left (by omega), Nat.min_eq_left (by omega), w1, dval, w64 (x := 10 * dval t k) (by omega) (by omega), w64 (x := byteAt t k - 48) (by omega) (by omega), w64] <;> omega
        · have h15 : ¬ k < 15 := by have := of_decide_eq_false h; omega
          (conv => whnf)
          refine ⟨k + 1, [], hkj, by omega, ⟨⟨rfl, eqI hkk, eqI ?_, trivial⟩, trivial⟩⟩
          rw [Nat.min_eq_right (by omega), Nat.min_eq_right (by omega)]
      · have h57 : ¬ byteAt t k ≤ 57 := of_decide_eq_false h
        have hkj := hdn (by simp [digitB]; omega)
        subst hkj
        (conv => whnf)
        refine ret0 ?_
        exact ⟨[], ⟨rfl, trivial⟩, trivial⟩
    · have h48 : ¬ 48 ≤ byteAt t k := of_decide_eq_false h
      have hkj := hdn (by simp [digitB]; omega)
      subst hkj
      (conv => whnf)
      refine ret0 ?_
      exact ⟨[], ⟨rfl, trivial⟩, trivial⟩
  · have hkj : k = j := by simp at h; omega
    subst hkj
    (conv => whnf)
    refine ret0 ?_
    exact ⟨[], ⟨rfl, trivial⟩, trivial⟩
theorem ref_sign (s : ByteArray) : FnOk Try.prog F.ref6_sign [Tx s] [] 0 (Cut2 (tailB s 45) (headB s 45)) [] 0 := by
  refine fnOk tab mix G.ref6_sign rfl rfl (by kernel_rfl) rfl rfl ?_
  (conv => whnf)
  refine ask_m (fun h => ?_) (fun h => ?_)
  · have h1 : 1 ≤ s.size := by have := of_decide_eq_true h; omega
    (conv => whnf)
    refine ⟨⟨by omega, by omega⟩, ?_⟩
    (conv => whnf)
    refine ask_m (fun h => ?_) (fun h => ?_)
    · have h : byteAt s 0 = 45 := by simpa using h
      have hh : headB s 45 = true := by simp only [headB, decide_eq_true h1, Bool.true_and]; exact decide_eq_true h
      rw [tailB, hh, if_pos rfl]
      (conv => whnf)
      refine ⟨⟨by omega, by omega⟩, ?_⟩
      (conv => whnf)
      refine ret0 ?_
      exact ⟨[], ⟨rfl, trivial⟩, trivial⟩
    · have h : ¬ byteAt s 0 = 45 := by simpa using h
      have hh : headB s 45 = false := by simp only [headB, decide_eq_true h1, Bool.true_and]; exact decide_eq_false h
      rw [tailB, hh]
      (conv => whnf)
      refine ret0 ?_
      exact ⟨[], ⟨rfl, trivial⟩, trivial⟩
  · have h1 : ¬ 1 ≤ s.size := by have := of_decide_eq_false h; omega
    have hh : headB s 45 = false := by simp only [headB, decide_eq_false h1, Bool.false_and]
    rw [tailB, hh]
    (conv => whnf)
    refine ret0 ?_
    exact ⟨[], ⟨rfl, trivial⟩, trivial⟩
end Go.Proofs.Ytoabhjflfbblfaa
