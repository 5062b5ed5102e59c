import Derived.Test.YtafglmjadbplcaaGreatDoorM1
import Derived.Lib.ItoaMem
import Derived.Shelf.LaysM
import Derived.Ground.NamesProg
import Derived.Test.YtafglmjadbplcaaGreatDoorProg
import Derived.Shelf.Strconv.Itoa3
/- Digits and integers: token and the reference. -/
namespace Go.Proofs.YtafglmjadbplcaaGreatDoor
open Eng
set_option maxRecDepth 10000
attribute [local irreducible] FnOk loopW idxF retX arrF

def allDig (t : ByteArray) (n : Nat) : Bool := (List.range n).all fun i => digitB (byteAt t i)
def dval (t : ByteArray) : Nat → Int
  | 0 => 0
  | k + 1 => dval t k * 10 + (byteAt t k - 48)
def digOk (t : ByteArray) (m : Nat) : Bool := decide (1 ≤ t.size) && decide (t.size ≤ m) && allDig t t.size
def digV (t : ByteArray) (m : Nat) : Int := if digOk t m then dval t t.size else 0
theorem allDig_iff {t : ByteArray} {n : Nat} : allDig t n = true ↔ ∀ i, i < n → digitB (byteAt t i) = true := by simp [allDig]
theorem allDig_succ {t : ByteArray} {n : Nat} : allDig t (n + 1) = (allDig t n && digitB (byteAt t n)) := by simp [allDig, List.range_succ]
theorem digit_bd {c : Int} (h : digitB c = true) : 48 ≤ c ∧ c ≤ 57 := by simp [digitB] at h; exact h
theorem dval_bd {t : ByteArray} : ∀ {n : Nat}, allDig t n = true → 0 ≤ dval t n ∧ dval t n < 10 ^ n
  | 0, _ => ⟨Int.le_refl _, by simp [dval]⟩
  | n + 1, h => by
    rw [allDig_succ, Bool.and_eq_true] at h
    have h1 := dval_bd h.1
    have h2 := digit_bd h.2
    rw [dval, Int.pow_succ]
    omega
theorem pow_mono {a b : Nat} (h : a ≤ b) : (10 : Int) ^ a ≤ 10 ^ b := by
  exact_mod_cast Nat.pow_le_pow_right (by decide) h
theorem dval_15 {t : ByteArray} {n : Nat} (hn : n ≤ 15) (h : allDig t n = true) : 0 ≤ dval t n ∧ dval t n < 1000000000000000 := by
  have h1 := dval_bd h
  have h2 := pow_mono hn
  have h3 : (10 : Int) ^ 15 = 1000000000000000 := by decide
  omega
theorem digOk_inv {t : ByteArray} {m : Nat} (h : digOk t m = true) : 1 ≤ t.size ∧ t.size ≤ m ∧ allDig t t.size = true := by
  simp only [digOk, Bool.and_eq_true, decide_eq_true_eq] at h; exact ⟨h.1.1, h.1.2, h.2⟩
theorem digOk_mk {t : ByteArray} {m : Nat} (h1 : 1 ≤ t.size) (h2 : t.size ≤ m) (h3 : allDig t t.size = true) : digOk t m = true := by
  simp only [digOk, Bool.and_eq_true, decide_eq_true_eq]; exact ⟨⟨h1, h2⟩, h3⟩
theorem digOk_not {t : ByteArray} {m i : Nat} (hi : i < t.size) (h : digitB (byteAt t i) = false) : digOk t m = false := by
  cases hd : digOk t m
  · rfl
  · have := allDig_iff.1 (digOk_inv hd).2.2 i hi
    rw [h] at this; contradiction
theorem digitB_low {c : Int} (h : digitB c = true) : c < 128 := by have := digit_bd h; omega
abbrev DgR (a : Int) (b : Bool) : SV := .tup [(false, [.dv (.int .i64 a)]), (false, [.dv (.bool b)])]
theorem token_digits (t : ByteArray) (m : Nat) (hm : m ≤ 15) : FnOk Tryz.prog F.token_digits [Tx t, I m] [] 0 (DgR (digV t m) (digOk t m)) [] 0 := by
  refine fnOk tab mix G.token_digits rfl rfl (by kernel_rfl) rfl rfl ?_
  (conv => whnf)
  have bad : digOk t m = false → DgR (digV t m) (digOk t m) = DgR 0 false := fun h => by rw [digV, h]; rfl
  refine ask_m (fun h => ?_) (fun h => ?_)
  · have h : t.size = 0 := by simpa using h
    rw [bad (by simp [digOk, h])]
    (conv => whnf)
    refine ret0 ?_
    exact ⟨[], ⟨rfl, trivial⟩, trivial⟩
  have h1 : 1 ≤ t.size := by have : ¬ (t.size : Int) = 0 := by simpa using h
                             omega
  (conv => whnf)
  refine ask_m (fun h => ?_) (fun h => ?_)
  · have h : ¬ t.size ≤ m := by have := of_decide_eq_true h; omega
    rw [bad (by simp [digOk, h])]
    (conv => whnf)
    refine ret0 ?_
    exact ⟨[], ⟨rfl, trivial⟩, trivial⟩
  have h2 : t.size ≤ m := by have := of_decide_eq_false h; omega
  (conv => whnf)
  refine loop_intro (fun k : Nat => ⟨[(6, I (dval t k)), (19, .one (.vptr 0 0))], [(0, .iter t k)], 1⟩) (fun k => k ≤ t.size ∧ allDig t k = true) (fun k => t.size - k) [] 0 [] ⟨Nat.zero_le _, rfl⟩ ⟨⟨rfl, rfl, trivial⟩, ⟨rfl, trivial⟩⟩ ?_
  rintro k ⟨hk, hall⟩
  (conv => whnf)
  refine ask_m (fun h => ?_) (fun h => ?_)
  · have hlt : k < t.size := of_decide_eq_true h
    have F : digitB (Utf8.decode t k).1 = digitB (byteAt t k) ∧ (digitB (byteAt t k) = true → Utf8.decode t k = ((byteAt t k).toNat, 1)) := by
      have hb := byteAt_get hlt
      by_cases ha : (t[k]'hlt).toNat < 128
      · rw [decode_ascii t k hlt ha, hb]; exact ⟨rfl, fun _ => by simp⟩
      · have := (decode_high t k hlt (by omega)).1
        have h1 : digitB (byteAt t k) = false := by
          rcases hn : digitB (byteAt t k) with _ | _
          · rfl
          · have := digitB_low hn; omega
        have h2 : digitB ((Utf8.decode t k).1 : Int) = false := by
          rcases hn : digitB ((Utf8.decode t k).1 : Int) with _ | _
          · rfl
          · have := digitB_low hn; omega
        rw [h1, h2]; exact ⟨rfl, fun h => by cases h⟩
    (conv => whnf)
    refine call_i (token_isDigit (Utf8.decode t k).1) ?_
    (conv => whnf)
    refine ask_m (fun h => ?_) (fun h => ?_)
    · have h : digitB (byteAt t k) = false := by rw [← F.1]; simpa using h
      rw [bad (digOk_not hlt h)]
      (conv => whnf)
      refine ret0 ?_
      exact ⟨[], ⟨rfl, trivial⟩, trivial⟩
    · have h : digitB (byteAt t k) = true := by rw [← F.1]; simpa using h
      have hd := digit_bd h
      have hv := dval_15 (by omega) hall
      rw [F.2 h]
      simp only
      have e : (((byteAt t k).toNat : Nat) : Int) = byteAt t k := by omega
      (conv => whnf)
      rw [e]
      refine ⟨k + 1, [], ⟨hlt, by rw [allDig_succ, hall, h]; rfl⟩, by omega, ⟨⟨eqI ?_, rfl, trivial⟩, ⟨rfl, trivial⟩⟩⟩
      have w1 : IntKind.i32.wrap (byteAt t k - 48) = byteAt t k - 48 := by rw [IntKind.wrap_i32]; omega
      rw [w1, dval, w64 (x := dval t k * 10) (by omega) (by omega), w64 (x := byteAt t k - 48) (by omega) (by omega), w64] <;> omega
  · have hk : k = t.size := by have := of_decide_eq_false h; omega
    subst hk
    have e := digOk_mk h1 h2 hall
    rw [digV, e, if_pos rfl]
    (conv => whnf)
    refine ret0 ?_
    exact ⟨[], ⟨rfl, trivial⟩, trivial⟩
theorem token_signed (n : Int) (b : Bool) (h1 : -4611686018427387904 ≤ n) (h2 : n ≤ 4611686018427387904) : FnOk Tryz.prog F.token_signed [I n, Bo b] [] 0 (I (if b then -n else n)) [] 0 := by
  refine fnOk tab mix G.token_signed rfl rfl (by kernel_rfl) rfl rfl ?_
  (conv => whnf)
  refine ask_m (fun h => ?_) (fun h => ?_)
  · subst h
    (conv => whnf)
    refine ret0 ?_
    exact ret_i (by rw [w64] <;> simp <;> omega) rfl
  · subst h
    (conv => whnf)
    refine ret0 ?_
    exact ret_i rfl rfl

/- the reference -/
theorem dpre_ex (t : ByteArray) : ∃ j, j ≤ t.size ∧ allDig t j = true ∧ (j = t.size ∨ digitB (byteAt t j) = false) := by
  have key : ∀ d j, t.size - j = d → j ≤ t.size → allDig t j = true → ∃ j, j ≤ t.size ∧ allDig t j = true ∧ (j = t.size ∨ digitB (byteAt t j) = false) := by
    intro d
    induction d with
    | zero => intro j h1 h2 h3; exact ⟨j, h2, h3, .inl (by omega)⟩
    | succ d ih =>
      intro j h1 h2 h3
      cases h : digitB (byteAt t j)
      · exact ⟨j, h2, h3, .inr h⟩
      · exact ih (j + 1) (by omega) (by omega) (by rw [allDig_succ, h3, h]; rfl)
  exact key _ 0 rfl (Nat.zero_le _) rfl
theorem dpre_one {t : ByteArray} {j p : Nat} (hj : j ≤ t.size) (h1 : allDig t j = true) (h2 : j = t.size ∨ digitB (byteAt t j) = false) (hp : p ≤ t.size) (h3 : allDig t p = true) (h4 : p = t.size ∨ digitB (byteAt t p) = false) : j = p := by
  rcases Nat.lt_trichotomy j p with h | h | h
  · have := allDig_iff.1 h3 j h
    rcases h2 with h2 | h2
    · omega
    · rw [h2] at this; contradiction
  · exact h
  · have := allDig_iff.1 h1 p h
    rcases h4 with h4 | h4
    · omega
    · rw [h4] at this; contradiction
abbrev DnR (a b : Int) : SV := .tup [(false, [.dv (.int .i64 a)]), (false, [.dv (.int .i64 b)])]
theorem allDig_le {t : ByteArray} {a b : Nat} (h : allDig t b = true) (hab : a ≤ b) : allDig t a = true := allDig_iff.2 fun i hi => allDig_iff.1 h i (by omega)
end Go.Proofs.YtafglmjadbplcaaGreatDoor

/- Number and Integer: token and the reference. -/
namespace Go.Proofs.YtafglmjadbplcaaGreatDoor
open Eng
set_option maxRecDepth 10000
attribute [local irreducible] FnOk loopW idxF retX arrF

/- integers -/
def intOf (s : ByteArray) : Int × Bool := (if headB s 45 then - digV (tailB s 45) 15 else digV (tailB s 45) 15, digOk (tailB s 45) 15)
theorem digV_bd {t : ByteArray} {m : Nat} (hm : m ≤ 15) : 0 ≤ digV t m ∧ digV t m < 1000000000000000 := by
  unfold digV; split
  · rename_i h
    obtain ⟨_, h2, h3⟩ := digOk_inv h
    exact dval_15 (by omega) h3
  · decide
theorem tail_size {s : ByteArray} {c : UInt8} : (tailB s c).size ≤ s.size := by
  unfold tailB; split
  · rw [ByteArray.size_extract]; omega
  · exact Nat.le_refl _
theorem token_Integer (s : ByteArray) : FnOk Tryz.prog F.token_Integer [Tx s] [] 0 (DgR (intOf s).1 (intOf s).2) [] 0 := by
  refine fnOk tab mix G.token_Integer rfl rfl (by kernel_rfl) rfl rfl ?_
  (conv => whnf)
  refine call_i (st_CutPrefix s 45) ?_
  (conv => whnf)
  refine call_i (token_digits (tailB s 45) 15 (by decide)) ?_
  (conv => whnf)
  have h := digV_bd (t := tailB s 45) (m := 15) (by decide)
  refine call_i (token_signed (digV (tailB s 45) 15) (headB s 45) (by omega) (by omega)) ?_
  (conv => whnf)
  (conv => whnf)
  refine ret0 ?_
  exact ⟨[], ⟨rfl, trivial⟩, trivial⟩
/- numbers -/
/-- the number of a text without a sign -/
def numN (t : ByteArray) : Option Int :=
  if digOk (cutL t 46) 5 = false then none
  else if cutB t 46 = false then some ((dval (cutL t 46) (cutL t 46).size * 1000000 * 65536 + 500000) / 1000000)
  else if digOk (cutR t 46) 6 = false then none
  else some (((dval (cutL t 46) (cutL t 46).size * 1000000 + dval (cutR t 46) (cutR t 46).size * 10 ^ (6 - (cutR t 46).size)) * 65536 + 500000) / 1000000)
def numOf (s : ByteArray) : Int × Bool := match numN (tailB s 45) with
  | none => (0, false)
  | some v => if 2147483648 < v then (0, false) else (if headB s 45 then -v else v, true)
abbrev NuR (r : Int × Bool) : SV := DgR r.1 r.2
theorem cutR_size {t : ByteArray} {c : UInt8} : (cutR t c).size ≤ t.size := by
  unfold cutR; split
  · rw [ByteArray.size_extract]; omega
  · exact Nat.zero_le _
theorem token_Number (s : ByteArray) (hs : s.size ≤ 4611686018427387904) : FnOk Tryz.prog F.token_Number [Tx s] [] 0 (NuR (numOf s)) [] 0 := by
  refine fnOk tab mix G.token_Number rfl rfl (by kernel_rfl) rfl rfl ?_
  (conv => whnf)
  refine call_i (st_CutPrefix s 45) ?_
  (conv => whnf)
  have hsz := tail_size (s := s) (c := 45)
  unfold numOf
  generalize headB s 45 = b
  generalize tailB s 45 = t at *
  refine call_i (st_Cut t 46 (by omega)) ?_
  (conv => whnf)
  refine call_i (token_digits (cutL t 46) 5 (by decide)) ?_
  (conv => whnf)
  refine ask_m (fun h1 => ?_) (fun h1 => ?_)
  · have h1 : digOk (cutL t 46) 5 = false := by simpa using h1
    have e : numN t = none := by rw [numN, if_pos h1]
    simp only [e]
    (conv => whnf)
    refine ret0 ?_
    exact ⟨[], ⟨rfl, trivial⟩, trivial⟩
  have h1 : digOk (cutL t 46) 5 = true := by simpa using h1
  have hv : digV (cutL t 46) 5 = dval (cutL t 46) (cutL t 46).size := by rw [digV, if_pos h1]
  obtain ⟨g1, g2, g3⟩ := digOk_inv h1
  have hw := dval_bd g3
  have hw5 := pow_mono g2
  have h105 : (10 : Int) ^ 5 = 100000 := by decide
  have hN : numN t = if cutB t 46 = false then some ((dval (cutL t 46) (cutL t 46).size * 1000000 * 65536 + 500000) / 1000000)
    else if digOk (cutR t 46) 6 = false then none
    else some (((dval (cutL t 46) (cutL t 46).size * 1000000 + dval (cutR t 46) (cutR t 46).size * 10 ^ (6 - (cutR t 46).size)) * 65536 + 500000) / 1000000) := by rw [numN, if_neg (by rw [h1]; simp)]
  rw [hv]
  generalize hwv : dval (cutL t 46) (cutL t 46).size = v at *
  have hv5 : v < 100000 := by omega
  -- the end, for whatever sum
  have last : ∀ n : Int, 0 ≤ n → n < 100000000000 → (IntKind.i64.wrap ((IntKind.i64.wrap (IntKind.i64.wrap (n * 65536) + 500000)).tdiv 1000000)) = (n * 65536 + 500000) / 1000000 ∧ 0 ≤ (n * 65536 + 500000) / 1000000 ∧ (n * 65536 + 500000) / 1000000 < 10000000000 := fun n h0 h1 => by
    have q : 0 ≤ (n * 65536 + 500000) / 1000000 ∧ (n * 65536 + 500000) / 1000000 < 10000000000 := by omega
    refine ⟨?_, q⟩
    rw [w64 (x := n * 65536) (by omega) (by omega), w64 (x := n * 65536 + 500000) (by omega) (by omega), Int.tdiv_eq_ediv_of_nonneg (by omega), w64 (by omega) (by omega)]
  (conv => whnf)
  refine ask_m (fun h2 => ?_) (fun h2 => ?_)
  · have h2 : cutB t 46 = true := h2
    rw [if_neg (by rw [h2]; simp)] at hN
    (conv => whnf)
    refine call_i (token_digits (cutR t 46) 6 (by decide)) ?_
    (conv => whnf)
    refine ask_m (fun h3 => ?_) (fun h3 => ?_)
    · have h3 : digOk (cutR t 46) 6 = false := by simpa using h3
      rw [if_pos h3] at hN
      simp only [hN]
      (conv => whnf)
      refine ret0 ?_
      exact ⟨[], ⟨rfl, trivial⟩, trivial⟩
    have h3 : digOk (cutR t 46) 6 = true := by simpa using h3
    rw [if_neg (by rw [h3]; simp)] at hN
    have hu : digV (cutR t 46) 6 = dval (cutR t 46) (cutR t 46).size := by rw [digV, if_pos h3]
    obtain ⟨f1, f2, f3⟩ := digOk_inv h3
    have hp := dval_bd f3
    rw [hu]
    (conv => whnf)
    generalize dval (cutR t 46) (cutR t 46).size = u at *
    generalize (cutR t 46).size = z at *
    have w6 : IntKind.i64.wrap (6 - (z : Int)) = ((6 - z : Nat) : Int) := by rw [w64] <;> omega
    have hu6 : ∀ i, i ≤ 6 - z → 0 ≤ u * 10 ^ i ∧ u * 10 ^ i < 1000000 := fun i hi => by
      have a1 : (10 : Int) ^ z * 10 ^ i = 10 ^ (z + i) := (Int.pow_add ..).symm
      have a2 : (10 : Int) ^ (z + i) ≤ 10 ^ 6 := pow_mono (by omega)
      have a3 : (0 : Int) < 10 ^ i := Int.pow_pos (by decide)
      have a4 : (10 : Int) ^ 6 = 1000000 := by decide
      have a5 : u * 10 ^ i < 10 ^ z * 10 ^ i := Int.mul_lt_mul_of_pos_right hp.2 a3
      have a6 : 0 ≤ u * 10 ^ i := Int.mul_nonneg hp.1 (by omega)
      omega
    rw [w6]
    refine loop_intro (fun i : Nat => ⟨[(5, Bo b), (9, I (IntKind.i64.wrap (v * 1000000))), (11, I (u * 10 ^ i)), (43, I ((6 - z : Nat) : Int)), (44, I i)], [], 0⟩) (fun i => i ≤ 6 - z) (fun i => 6 - z - i) [] 0 [] (Nat.zero_le _) ⟨⟨rfl, rfl, eqI (by simp), rfl, rfl, trivial⟩, trivial⟩ ?_
    rintro i hi
    (conv => whnf)
    refine ask_m (fun h => ?_) (fun h => ?_)
    · have hlt : i < 6 - z := by have := of_decide_eq_true h; omega
      have a1 := hu6 i hi
      have a2 := hu6 (i + 1) hlt
      have hii : IntKind.i64.wrap ((i : Int) + 1) = ((i + 1 : Nat) : Int) := by rw [w64] <;> omega
      (conv => whnf)
      refine ⟨i + 1, [], hlt, by omega, ⟨⟨rfl, rfl, eqI ?_, rfl, eqI hii, trivial⟩, trivial⟩⟩
      rw [w64 (by omega) (by omega), Int.pow_succ, Int.mul_assoc]
    · have hi6 : i = 6 - z := by have := of_decide_eq_false h; omega
      subst hi6
      have a1 := hu6 _ hi
      obtain ⟨l1, l2, l3⟩ := last (v * 1000000 + u * 10 ^ (6 - z)) (by omega) (by omega)
      (conv => whnf)
      refine ⟨by omega, ?_⟩
      (conv => whnf)
      rw [w64 (x := v * 1000000) (by omega) (by omega), w64 (x := v * 1000000 + u * 10 ^ (6 - z)) (by omega) (by omega), l1]
      simp only [hN]
      generalize ((v * 1000000 + u * 10 ^ (6 - z)) * 65536 + 500000) / 1000000 = q at *
      refine ask_m (fun h4 => ?_) (fun h4 => ?_)
      · have h4 := of_decide_eq_true h4
        rw [if_pos h4]
        (conv => whnf)
        refine ret0 ?_
        exact ⟨[], ⟨rfl, trivial⟩, trivial⟩
      · have h4 := of_decide_eq_false h4
        rw [if_neg h4]
        (conv => whnf)
        refine call_i (token_signed q b (by omega) (by omega)) ?_
        (conv => whnf)
        (conv => whnf)
        refine ret0 ?_
        exact ⟨[], ⟨rfl, trivial⟩, trivial⟩
  · have h2 : cutB t 46 = false := h2
    rw [if_pos h2] at hN
    obtain ⟨l1, l2, l3⟩ := last (v * 1000000) (by omega) (by omega)
    (conv => whnf)
    refine ⟨by omega, ?_⟩
    (conv => whnf)
    rw [w64 (x := v * 1000000) (by omega) (by omega), l1]
    simp only [hN]
    generalize (v * 1000000 * 65536 + 500000) / 1000000 = q at *
    refine ask_m (fun h4 => ?_) (fun h4 => ?_)
    · have h4 := of_decide_eq_true h4
      rw [if_pos h4]
      (conv => whnf)
      refine ret0 ?_
      exact ⟨[], ⟨rfl, trivial⟩, trivial⟩
    · have h4 := of_decide_eq_false h4
      rw [if_neg h4]
      (conv => whnf)
      refine call_i (token_signed q b (by omega) (by omega)) ?_
      (conv => whnf)
      (conv => whnf)
      refine ret0 ?_
      exact ⟨[], ⟨rfl, trivial⟩, trivial⟩
end Go.Proofs.YtafglmjadbplcaaGreatDoor

/- The reference's Name and Number. -/
namespace Go.Proofs.YtafglmjadbplcaaGreatDoor
open Eng
set_option maxRecDepth 10000
attribute [local irreducible] FnOk loopW idxF retX arrF

theorem allDig_ext {t : ByteArray} {a n : Nat} (h : a + n ≤ t.size) : allDig (t.extract a (a + n)) n = (List.range n).all fun i => digitB (byteAt t (a + i)) := by
  unfold allDig
  rw [Bool.eq_iff_iff, List.all_eq_true, List.all_eq_true]
  refine ⟨fun H i hi => ?_, fun H i hi => ?_⟩
  · have := H i hi
    rwa [byteAt_ext h (by have := List.mem_range.1 hi; omega)] at this
  · rw [byteAt_ext h (by have := List.mem_range.1 hi; omega)]; exact H i hi
theorem dval_ext {t : ByteArray} {j : Nat} (hj : j ≤ t.size) : ∀ i, i ≤ j → dval (t.extract 0 j) i = dval t i
  | 0, _ => rfl
  | i + 1, h => by rw [dval, dval, dval_ext hj i (by omega), byteAt_ext hj (by omega), Nat.zero_add]
theorem allDig_pre {t : ByteArray} {j : Nat} (hj : j ≤ t.size) : allDig (t.extract 0 j) j = allDig t j := by
  have := allDig_ext (t := t) (a := 0) (n := j) (by omega)
  simp only [Nat.zero_add] at this
  rw [this]; rfl
theorem not46 {c : Int} (h : digitB c = true) : c ≠ 46 := by have := digit_bd h; omega
theorem place_eq {t : ByteArray} {j : Nat} (hj : j < t.size) (h : byteAt t j = 46) (hb : ∀ i, i < j → byteAt t i ≠ 46) : placeOfB t 46 = j := by
  rcases place_spec t 46 with ⟨_, h2⟩ | ⟨p, h1, h2, h3, h4⟩
  · exact absurd h (h2 j hj)
  · rw [h1]
    rcases Nat.lt_trichotomy p j with hlt | rfl | hlt
    · exact absurd h3 (hb p hlt)
    · rfl
    · exact absurd h (h4 j hlt)
theorem place_none {t : ByteArray} (h : ∀ i, i < t.size → byteAt t i ≠ 46) : placeOfB t 46 = -1 := by
  rcases place_spec t 46 with ⟨h1, _⟩ | ⟨p, h1, h2, h3, h4⟩
  · exact h1
  · exact absurd h3 (h p h2)
/-- numN, told by the length of the first digits -/
theorem numN_whole {t : ByteArray} (h1 : allDig t t.size = true) (h2 : 1 ≤ t.size) (h3 : t.size ≤ 5) : numN t = some (dval t t.size * 65536) := by
  have hp : placeOfB t 46 = -1 := place_none fun i hi => not46 (allDig_iff.1 h1 i hi)
  have hl : cutL t 46 = t := by rw [cutL, hp, if_neg (by decide)]
  have hc : cutB t 46 = false := by rw [cutB, hp]; rfl
  have hv := dval_15 (by omega) h1
  rw [numN, hl, hc, if_neg (by rw [digOk_mk h2 h3 h1]; simp), if_pos rfl]
  congr 1; omega
theorem numN_first {t : ByteArray} {j : Nat} (hj : j ≤ t.size) (h1 : allDig t j = true) (h2 : j = t.size ∨ digitB (byteAt t j) = false) (h : ¬ (1 ≤ j ∧ j ≤ 5)) : numN t = none := by
  rw [numN, if_pos]
  cases hd : digOk (cutL t 46) 5
  · rfl
  · obtain ⟨g1, g2, g3⟩ := digOk_inv hd
    rcases place_spec t 46 with ⟨p1, p2⟩ | ⟨p, p1, p2, p3, p4⟩
    · have hl : cutL t 46 = t := by rw [cutL, p1, if_neg (by decide)]
      rw [hl] at g1 g2 g3
      have := dpre_one hj h1 h2 (Nat.le_refl _) g3 (.inl rfl)
      omega
    · have hl : cutL t 46 = t.extract 0 p := by rw [cutL, p1, if_pos (by omega), Int.toNat_natCast]
      have hs : (t.extract 0 p).size = p := by rw [ByteArray.size_extract]; omega
      rw [hl, hs] at g1 g2 g3
      rw [allDig_pre (by omega)] at g3
      have h46 : digitB (byteAt t p) = false := by rw [p3]; rfl
      have := dpre_one hj h1 h2 (by omega) g3 (.inr h46)
      omega
theorem numN_other {t : ByteArray} {j : Nat} (hj : j < t.size) (h1 : allDig t j = true) (h2 : digitB (byteAt t j) = false) (h : byteAt t j ≠ 46) : numN t = none := by
  rw [numN, if_pos]
  rcases place_spec t 46 with ⟨p1, p2⟩ | ⟨p, p1, p2, p3, p4⟩
  · have hl : cutL t 46 = t := by rw [cutL, p1, if_neg (by decide)]
    rw [hl]; exact digOk_not hj h2
  · have hjp : j < p := by
      rcases Nat.lt_trichotomy p j with hlt | rfl | hlt
      · exact absurd p3 (not46 (allDig_iff.1 h1 p hlt))
      · exact absurd p3 h
      · exact hlt
    have hl : cutL t 46 = t.extract 0 p := by rw [cutL, p1, if_pos (by omega), Int.toNat_natCast]
    rw [hl]
    refine digOk_not (i := j) (by rw [ByteArray.size_extract]; omega) ?_
    rw [byteAt_ext (by omega) (by omega), Nat.zero_add]; exact h2
theorem numN_point {t : ByteArray} {j : Nat} (hj : j < t.size) (h1 : allDig t j = true) (h46 : byteAt t j = 46) (ha : 1 ≤ j) (hb : j ≤ 5) :
    numN t = if digOk (t.extract (j + 1) t.size) 6 = false then none else some (((dval t j * 1000000 + dval (t.extract (j + 1) t.size) (t.extract (j + 1) t.size).size * 10 ^ (6 - (t.extract (j + 1) t.size).size)) * 65536 + 500000) / 1000000) := by
  have hp := place_eq hj h46 fun i hi => not46 (allDig_iff.1 h1 i hi)
  have hl : cutL t 46 = t.extract 0 j := by rw [cutL, hp, if_pos (by omega), Int.toNat_natCast]
  have hr : cutR t 46 = t.extract (j + 1) t.size := by rw [cutR, hp, if_pos (by omega), Int.toNat_natCast]
  have hc : cutB t 46 = true := by rw [cutB, hp]; exact decide_eq_true (by omega)
  have hs : (t.extract 0 j).size = j := by rw [ByteArray.size_extract]; omega
  have hd : digOk (t.extract 0 j) 5 = true := digOk_mk (by omega) (by omega) (by rw [hs, allDig_pre (by omega)]; exact h1)
  rw [numN, hl, hr, hc, hs, dval_ext (by omega) j (Nat.le_refl _), if_neg (by rw [hd]; simp), if_neg (by simp)]
theorem round_eq {v u : Int} {k : Nat} (h1 : 1 ≤ k) (h6 : k ≤ 6) (hu : 0 ≤ u) : ((v * 1000000 + u * 10 ^ (6 - k)) * 65536 + 500000) / 1000000 = v * 65536 + (2 * u * 65536 + 10 ^ k) / (2 * 10 ^ k) := by
  have h : k = 1 ∨ k = 2 ∨ k = 3 ∨ k = 4 ∨ k = 5 ∨ k = 6 := by omega
  rcases h with rfl | rfl | rfl | rfl | rfl | rfl <;> simp only [Nat.reduceSub, Int.reducePow] <;> omega
end Go.Proofs.YtafglmjadbplcaaGreatDoor

/- Robots: the parts of their check. -/
namespace Go.Proofs.YtafglmjadbplcaaGreatDoor
open Eng
set_option maxRecDepth 10000
attribute [local irreducible] FnOk loopW idxF retX arrF

theorem robot_Find (r : Robot) (nm : ByteArray) (hl : r.joints.length ≤ 4611686018427387904) : FnOk Tryz.prog F.robot_Find [Ro r, Tx nm] [] 0 (I (find r.joints nm 0)) [] 0 := by
  refine fnOk tab mix G.robot_Find rfl rfl (by kernel_rfl) rfl rfl ?_
  (conv => whnf)
  refine loop_intro (fun k : Nat => ⟨[(1, Tx nm), (2, .one (.vptr 0 0)), (8, I r.joints.length), (9, I k)], [(0, bRo r)], 1⟩) (fun k => k ≤ r.joints.length ∧ find (r.joints.drop k) nm k = find r.joints nm 0) (fun k => r.joints.length - k) [] 0 [] ⟨Nat.zero_le _, rfl⟩ ⟨⟨rfl, rfl, eqI (by simp), rfl, trivial⟩, ⟨rfl, trivial⟩⟩ ?_
  rintro k ⟨hk, hf⟩
  (conv => whnf)
  refine ask_m (fun h => ?_) (fun h => ?_)
  · have hlt : k < r.joints.length := by simpa using h
    obtain ⟨j, hj⟩ : ∃ j, r.joints[k]? = some j := ⟨_, List.getElem?_eq_getElem hlt⟩
    have hkk : IntKind.i64.wrap ((k : Int) + 1) = ((k + 1 : Nat) : Int) := by rw [w64] <;> omega
    rw [drop_cons hj, find] at hf
    (conv => whnf)
    refine idx_and (by omega) (by simpa using hj) ?_
    (conv => whnf)
    refine ask_m (fun h => ?_) (fun h => ?_)
    · have h : j.name = nm := of_decide_eq_true h
      rw [if_pos h] at hf
      (conv => whnf)
      refine ret0 ?_
      exact ret_i hf rfl
    · have h : ¬ j.name = nm := of_decide_eq_false h
      rw [if_neg h] at hf
      (conv => whnf)
      exact ⟨k + 1, [], ⟨hlt, hf⟩, by omega, ⟨⟨rfl, rfl, rfl, eqI hkk, trivial⟩, ⟨rfl, trivial⟩⟩⟩
  · have hk : k = r.joints.length := by simp at h; omega
    subst hk
    rw [List.drop_length, find] at hf
    (conv => whnf)
    refine ret0 ?_
    exact ret_i hf rfl
theorem robot_from1 (x m : Int) : FnOk Tryz.prog F.robot_from1 [I x, I m] [] 0 (Bo (from1 x m)) [] 0 := by
  refine fnOk tab mix G.robot_from1 rfl rfl (by kernel_rfl) rfl rfl ?_
  repeat' ((conv => whnf); first | refine ask_m (fun h => ?_) (fun h => ?_) | refine ret0 ?_)
  all_goals exact ret_b (by first | (simp_all [from1]; done) | (simp_all [from1]; omega)) rfl
theorem robot_limit (k : Int) : FnOk Tryz.prog F.robot_limit [I k] [] 0 (I (reach k)) [] 0 := by
  refine fnOk tab mix G.robot_limit rfl rfl (by kernel_rfl) rfl rfl ?_
  repeat' ((conv => whnf); first | refine ask_m (fun h => ?_) (fun h => ?_) | refine ret0 ?_)
  all_goals exact ret_i (by simp_all [reach]) rfl
def inC (x : Int) : Bool := decide (-4194304 ≤ x) && decide (x ≤ 4194304)
def vAt (v : Vec) : Nat → Int
  | 0 => v.x
  | 1 => v.y
  | _ => v.z
theorem inV_at {v : Vec} {k : Nat} (hk : k < 3) (h : inC (vAt v k) = false) : inV v 4194304 = false := by
  obtain rfl | rfl | rfl : k = 0 ∨ k = 1 ∨ k = 2 := by omega
  all_goals (simp only [vAt, inC] at h; unfold inV; rw [h]; simp)
theorem inV_all {v : Vec} (h : ∀ k, k < 3 → inC (vAt v k) = true) : inV v 4194304 = true := by
  have h0 := h 0 (by omega)
  have h1 := h 1 (by omega)
  have h2 := h 2 (by omega)
  simp only [vAt, inC] at h0 h1 h2
  unfold inV; rw [h0, h1, h2]; rfl
theorem arr_vec {te : TI} {v : Vec} {k : Nat} {K : SV → Prop} (ha : te.kind.agg = false) (hs : te.size = 1) (hk : k < 3) (h : K (I (vAt v k))) : arrF te [.dv (.int .i64 v.x), .dv (.int .i64 v.y), .dv (.int .i64 v.z)] k K := by
  obtain rfl | rfl | rfl : k = 0 ∨ k = 1 ∨ k = 2 := by omega
  · exact arr_at ha hs (c := .dv (.int .i64 v.x)) rfl h
  · exact arr_at ha hs (c := .dv (.int .i64 v.y)) rfl h
  · exact arr_at ha hs (c := .dv (.int .i64 v.z)) rfl h
theorem robot_beyond (v : Vec) : FnOk Tryz.prog F.robot_beyond [Ve v] [] 0 (Bo (!inV v 4194304)) [] 0 := by
  refine fnOk tab mix G.robot_beyond rfl rfl (by kernel_rfl) rfl rfl ?_
  (conv => whnf)
  refine loop_intro (fun k : Nat => ⟨[(5, Ve v), (6, I k)], [], 0⟩) (fun k => k ≤ 3 ∧ ∀ i, i < k → inC (vAt v i) = true) (fun k => 3 - k) [] 0 [] ⟨Nat.zero_le _, fun i hi => by omega⟩ ⟨⟨rfl, rfl, trivial⟩, trivial⟩ ?_
  rintro k ⟨hk, hall⟩
  (conv => whnf)
  refine ask_m (fun h => ?_) (fun h => ?_)
  · have hlt : k < 3 := by have := of_decide_eq_true h; omega
    have hkk : IntKind.i64.wrap ((k : Int) + 1) = ((k + 1 : Nat) : Int) := by rw [w64] <;> omega
    (conv => whnf)
    refine ⟨⟨by omega, by omega⟩, ?_⟩
    (conv => whnf)
    rw [Int.toNat_natCast]
    refine arr_vec rfl rfl hlt ?_
    have bad : inC (vAt v k) = false → (!inV v 4194304) = true := fun h => by rw [inV_at hlt h]; rfl
    generalize hx : vAt v k = x at *
    (conv => whnf)
    refine ask_m (fun h => ?_) (fun h => ?_)
    · have h := of_decide_eq_true h
      (conv => whnf)
      refine ret0 ?_
      exact ret_b (bad (by simp only [inC, Bool.and_eq_false_iff, decide_eq_false_iff_not]; omega)).symm rfl
    · have h := of_decide_eq_false h
      (conv => whnf)
      refine ask_m (fun h => ?_) (fun h => ?_)
      · have h := of_decide_eq_true h
        (conv => whnf)
        refine ret0 ?_
        exact ret_b (bad (by simp only [inC, Bool.and_eq_false_iff, decide_eq_false_iff_not]; omega)).symm rfl
      · have h2 := of_decide_eq_false h
        (conv => whnf)
        refine ⟨k + 1, [], ⟨hlt, fun i hi => ?_⟩, by omega, ⟨⟨rfl, eqI hkk, trivial⟩, trivial⟩⟩
        by_cases e : i = k
        · subst e; rw [hx]; simp only [inC, Bool.and_eq_true, decide_eq_true_eq]; omega
        · exact hall i (by omega)
  · have hk : k = 3 := by have := of_decide_eq_false h; omega
    subst hk
    (conv => whnf)
    refine ret0 ?_
    exact ret_b (by rw [inV_all hall]; rfl) rfl
end Go.Proofs.YtafglmjadbplcaaGreatDoor

/- Robots: their check. -/
namespace Go.Proofs.YtafglmjadbplcaaGreatDoor
open Eng
set_option maxRecDepth 10000
attribute [local irreducible] FnOk loopW idxF retX arrF

theorem robot_checkJoint (r : Robot) (i : Nat) (j : Joint) (hj : r.joints[i]? = some j) (hl : r.joints.length ≤ 4611686018427387904) : FnOk Tryz.prog F.robot_checkJoint [Ro r, I i] [] 0 (I (jointErr r.joints i j)) [] 0 := by
  refine fnOk tab mix G.robot_checkJoint rfl rfl (by kernel_rfl) rfl rfl ?_
  have hw : IntKind.i64.wrap (0 - reach j.kind) = - reach j.kind := by
    rcases reach_cases j.kind with h | h | h <;> rw [h] <;> rfl
  have e1 : nameOk j.name = false ∨ find r.joints j.name 0 ≠ i → jointErr r.joints i j = 802 := fun h => by unfold jointErr; rw [if_pos h]
  (conv => whnf)
  refine idx_and (by omega) (by simpa using hj) ?_
  (conv => whnf)
  refine call_i (token_Name j.name) ?_
  (conv => whnf)
  refine ask_m (fun h => ?_) (fun h => ?_)
  · (conv => whnf)
    refine ret0 ?_
    exact ret_i (e1 (.inl (by simpa using h))).symm rfl
  have n1 : nameOk j.name = true := by simpa using h
  (conv => whnf)
  refine call_i (robot_Find r j.name hl) ?_
  (conv => whnf)
  refine ask_m (fun h => ?_) (fun h => ?_)
  · (conv => whnf)
    refine ret0 ?_
    exact ret_i (e1 (.inr (by simpa using h))).symm rfl
  have n2 : find r.joints j.name 0 = i := by simpa using h
  have e2 : jointErr r.joints i j = if j.kind < 0 ∨ 6 < j.kind then 803
      else if j.parent < -1 ∨ (i : Int) ≤ j.parent then 804
      else if inV j.off 4194304 = false then 805
      else if j.hi < j.lo ∨ j.lo < - reach j.kind ∨ reach j.kind < j.hi then 806
      else if (from1 j.weight 1024 && from1 j.speed 1048576 && from1 j.accel 1048576 && from1 j.torque 1099511627776) = false then 807
      else 0 := by unfold jointErr; rw [if_neg (by simp [n1, n2])]
  rw [e2]
  (conv => whnf)
  refine ask_m (fun h => ?_) (fun h => ?_)
  · have h := of_decide_eq_true h
    (conv => whnf)
    refine ret0 ?_
    exact ret_i (by rw [if_pos (.inl h)]) rfl
  have k1 := of_decide_eq_false h
  (conv => whnf)
  refine ask_m (fun h => ?_) (fun h => ?_)
  · have h := of_decide_eq_true h
    (conv => whnf)
    refine ret0 ?_
    exact ret_i (by rw [if_pos (.inr h)]) rfl
  have k2 := of_decide_eq_false h
  rw [if_neg (by omega)]
  (conv => whnf)
  refine ask_m (fun h => ?_) (fun h => ?_)
  · have h := of_decide_eq_true h
    (conv => whnf)
    refine ret0 ?_
    exact ret_i (by rw [if_pos (.inl h)]) rfl
  have p1 := of_decide_eq_false h
  (conv => whnf)
  refine ask_m (fun h => ?_) (fun h => ?_)
  · have h := of_decide_eq_true h
    (conv => whnf)
    refine ret0 ?_
    exact ret_i (by rw [if_pos (.inr h)]) rfl
  have p2 := of_decide_eq_false h
  rw [if_neg (by omega)]
  (conv => whnf)
  refine call_i (robot_beyond j.off) ?_
  (conv => whnf)
  refine ask_m (fun h => ?_) (fun h => ?_)
  · (conv => whnf)
    refine ret0 ?_
    exact ret_i (by rw [if_pos (by simpa using h)]) rfl
  rw [if_neg (by simpa using h)]
  (conv => whnf)
  refine call_i (robot_limit j.kind) ?_
  (conv => whnf)
  refine ask_m (fun h => ?_) (fun h => ?_)
  · have h := of_decide_eq_true h
    (conv => whnf)
    refine ret0 ?_
    exact ret_i (by rw [if_pos (.inl h)]) rfl
  have l1 := of_decide_eq_false h
  (conv => whnf)
  rw [hw]
  refine ask_m (fun h => ?_) (fun h => ?_)
  · have h := of_decide_eq_true h
    (conv => whnf)
    refine ret0 ?_
    exact ret_i (by rw [if_pos (.inr (.inl h))]) rfl
  have l2 := of_decide_eq_false h
  (conv => whnf)
  refine ask_m (fun h => ?_) (fun h => ?_)
  · have h := of_decide_eq_true h
    (conv => whnf)
    refine ret0 ?_
    exact ret_i (by rw [if_pos (.inr (.inr h))]) rfl
  have l3 := of_decide_eq_false h
  rw [if_neg (by rintro (h | h | h) <;> contradiction)]
  (conv => whnf)
  refine call_i (robot_from1 j.weight 1024) ?_
  (conv => whnf)
  refine ask_m (fun h => ?_) (fun h => ?_)
  · (conv => whnf)
    refine ret0 ?_
    exact ret_i (by rw [if_pos (by simp at h; simp [h])]) rfl
  have f1 : from1 j.weight 1024 = true := by simpa using h
  (conv => whnf)
  refine call_i (robot_from1 j.speed 1048576) ?_
  (conv => whnf)
  refine ask_m (fun h => ?_) (fun h => ?_)
  · (conv => whnf)
    refine ret0 ?_
    exact ret_i (by rw [if_pos (by simp at h; simp [h])]) rfl
  have f2 : from1 j.speed 1048576 = true := by simpa using h
  (conv => whnf)
  refine call_i (robot_from1 j.accel 1048576) ?_
  (conv => whnf)
  refine ask_m (fun h => ?_) (fun h => ?_)
  · (conv => whnf)
    refine ret0 ?_
    exact ret_i (by rw [if_pos (by simp at h; simp [h])]) rfl
  have f3 : from1 j.accel 1048576 = true := by simpa using h
  (conv => whnf)
  refine call_i (robot_from1 j.torque 1099511627776) ?_
  (conv => whnf)
  refine ask_m (fun h => ?_) (fun h => ?_)
  · (conv => whnf)
    refine ret0 ?_
    exact ret_i (by rw [if_pos (by simp at h; simp [h])]) rfl
  have f4 : from1 j.torque 1099511627776 = true := by simpa using h
  (conv => whnf)
  refine ret0 ?_
  exact ret_i (by rw [if_neg (by simp [f1, f2, f3, f4])]) rfl
theorem robot_validMass (r : Robot) (m : Mass) : FnOk Tryz.prog F.robot_validMass [Ro r, Ma m] [] 0 (Bo (massOk r.joints.length m)) [] 0 := by
  refine fnOk tab mix G.robot_validMass rfl rfl (by kernel_rfl) rfl rfl ?_
  repeat' ((conv => whnf); first | refine ask_m (fun h => ?_) (fun h => ?_) | refine ret0 ?_ | refine call_i (robot_from1 m.mass 65536) ?_ | refine call_i (robot_beyond m.point) ?_)
  all_goals exact ret_b (by first | (simp_all [massOk]; done) | (simp_all [massOk]; omega)) rfl
theorem robot_Check_1 (r : Robot) (m : Mass) : FnOk Tryz.prog F.robot_Check_1 [Ma m, .one (.vptr 0 0)] [(0, bRo r)] 1 (Bo (!massOk r.joints.length m)) [(0, bRo r)] 1 := by
  refine fnOk tab mix G.robot_Check_1 rfl rfl (by kernel_rfl) rfl rfl ?_
  (conv => whnf)
  refine call_i (robot_validMass r m) ?_
  (conv => whnf)
  refine ret0 ?_
  exact ⟨[], ⟨rfl, trivial⟩, ⟨rfl, trivial⟩⟩
/-- the first mass that is not valid -/
def badMass (n : Nat) : List Mass → Nat → Int
  | [], _ => -1
  | m :: ms, k => if massOk n m then badMass n ms (k + 1) else k
theorem badMass_all (n : Nat) : ∀ (ms : List Mass) (k : Nat), decide (0 ≤ badMass n ms k) = !ms.all (massOk n)
  | [], k => by simp [badMass]
  | m :: ms, k => by
    unfold badMass
    split
    · rename_i h; rw [badMass_all n ms (k + 1)]; simp [h]
    · rename_i h; simp [h]
abbrev Fn1 : SV := .one (.fn F.robot_Check_1 [(0, 0)])
theorem masses_IndexFunc (r : Robot) (ms : List Mass) (hl : ms.length ≤ 4611686018427387904) : FnOk Tryz.prog F.slices_IndexFunc_sapi_Mass_api_Mass [.one (.dv (dMs ms)), Fn1] [(0, bRo r)] 1 (I (badMass r.joints.length ms 0)) [(0, bRo r)] 1 := by
  refine fnOk tab mix G.slices_IndexFunc_sapi_Mass_api_Mass rfl rfl (by kernel_rfl) rfl rfl ?_
  (conv => whnf)
  refine loop_intro (fun k : Nat => ⟨[(0, .one (.dv (dMs ms))), (1, Fn1), (7, I ms.length), (8, I k)], [(0, bRo r)], 1⟩) (fun k => k ≤ ms.length ∧ badMass r.joints.length (ms.drop k) k = badMass r.joints.length ms 0) (fun k => ms.length - k) [] 0 [] ⟨Nat.zero_le _, rfl⟩ ⟨⟨rfl, rfl, eqI (by simp), rfl, trivial⟩, ⟨rfl, trivial⟩⟩ ?_
  rintro k ⟨hk, hf⟩
  (conv => whnf)
  refine ask_m (fun h => ?_) (fun h => ?_)
  · have hlt : k < ms.length := by simpa using h
    obtain ⟨m, hm⟩ : ∃ j, ms[k]? = some j := ⟨_, List.getElem?_eq_getElem hlt⟩
    have hkk : IntKind.i64.wrap ((k : Int) + 1) = ((k + 1 : Nat) : Int) := by rw [w64] <;> omega
    rw [drop_cons hm, badMass] at hf
    (conv => whnf)
    refine idx_and (by omega) (by simpa using hm) ?_
    (conv => whnf)
    refine call_i (robot_Check_1 r m) ?_
    (conv => whnf)
    refine ask_m (fun h => ?_) (fun h => ?_)
    · have h : massOk r.joints.length m = false := by simpa using h
      rw [if_neg (by rw [h]; simp)] at hf
      rw [← hf]
      (conv => whnf)
      refine ret0 ?_
      exact ⟨[], ⟨rfl, trivial⟩, ⟨rfl, trivial⟩⟩
    · have h : massOk r.joints.length m = true := by simpa using h
      rw [if_pos h] at hf
      (conv => whnf)
      exact ⟨k + 1, [], ⟨hlt, hf⟩, by omega, ⟨⟨rfl, rfl, rfl, eqI hkk, trivial⟩, ⟨rfl, trivial⟩⟩⟩
  · have hk : k = ms.length := by simp at h; omega
    subst hk
    rw [List.drop_length, badMass] at hf
    rw [← hf]
    (conv => whnf)
    refine ret0 ?_
    exact ⟨[], ⟨rfl, trivial⟩, ⟨rfl, trivial⟩⟩
theorem masses_ContainsFunc (r : Robot) (ms : List Mass) (hl : ms.length ≤ 4611686018427387904) : FnOk Tryz.prog F.slices_ContainsFunc_sapi_Mass_api_Mass [.one (.dv (dMs ms)), Fn1] [(0, bRo r)] 1 (Bo (!ms.all (massOk r.joints.length))) [(0, bRo r)] 1 := by
  refine fnOk tab mix G.slices_ContainsFunc_sapi_Mass_api_Mass rfl rfl (by kernel_rfl) rfl rfl ?_
  rw [← badMass_all r.joints.length ms 0]
  (conv => whnf)
  refine call_i (masses_IndexFunc r ms hl) ?_
  (conv => whnf)
  refine ret0 ?_
  exact ⟨[], ⟨rfl, trivial⟩, ⟨rfl, trivial⟩⟩
theorem robot_Check (r : Robot) (hj : r.joints.length ≤ 4611686018427387904) (hm : r.masses.length ≤ 4611686018427387904) : FnOk Tryz.prog F.robot_Check [Ro r] [] 0 (I (checkRobot r)) [] 0 := by
  refine fnOk tab mix G.robot_Check rfl rfl (by kernel_rfl) rfl rfl ?_
  (conv => whnf)
  refine ask_m (fun h => ?_) (fun h => ?_)
  · have h : r.joints.length = 0 := by simpa using h
    (conv => whnf)
    refine ret0 ?_
    exact ret_i (by unfold checkRobot; rw [if_pos (.inl h)]) rfl
  have h1 : ¬ r.joints.length = 0 := by simpa using h
  (conv => whnf)
  refine ask_m (fun h => ?_) (fun h => ?_)
  · have h : 10 < r.joints.length := by have := of_decide_eq_true h; simp only [List.length_map] at this; omega
    (conv => whnf)
    refine ret0 ?_
    exact ret_i (by unfold checkRobot; rw [if_pos (.inr h)]) rfl
  have h2 : ¬ 10 < r.joints.length := by have := of_decide_eq_false h; simp only [List.length_map] at this; omega
  have e : checkRobot r = if jointsErr r.joints 0 r.joints ≠ 0 then jointsErr r.joints 0 r.joints
    else if 32 < r.masses.length ∨ r.masses.all (massOk r.joints.length) = false then 808 else 0 := by unfold checkRobot; rw [if_neg (by omega)]
  rw [e]
  (conv => whnf)
  refine loop_intro (fun k : Nat => ⟨[(1, .one (.vptr 0 0)), (17, I r.joints.length), (18, I k)], [(0, bRo r)], 1⟩) (fun k => k ≤ r.joints.length ∧ jointsErr r.joints k (r.joints.drop k) = jointsErr r.joints 0 r.joints) (fun k => r.joints.length - k) [] 0 [] ⟨Nat.zero_le _, rfl⟩ ⟨⟨rfl, eqI (by simp), rfl, trivial⟩, ⟨rfl, trivial⟩⟩ ?_
  rintro k ⟨hk, hf⟩
  (conv => whnf)
  refine ask_m (fun h => ?_) (fun h => ?_)
  · have hlt : k < r.joints.length := by simpa using h
    obtain ⟨j, hjk⟩ : ∃ j, r.joints[k]? = some j := ⟨_, List.getElem?_eq_getElem hlt⟩
    have hkk : IntKind.i64.wrap ((k : Int) + 1) = ((k + 1 : Nat) : Int) := by rw [w64] <;> omega
    rw [drop_cons hjk, jointsErr] at hf
    (conv => whnf)
    refine call_i (robot_checkJoint r k j hjk hj) ?_
    (conv => whnf)
    refine ask_m (fun h => ?_) (fun h => ?_)
    · have h : ¬ jointErr r.joints k j = 0 := by simpa using h
      rw [if_neg h] at hf
      (conv => whnf)
      refine ret0 ?_
      exact ret_i (by rw [← hf, if_pos h]) rfl
    · have h : jointErr r.joints k j = 0 := by simpa using h
      rw [if_pos h] at hf
      (conv => whnf)
      exact ⟨k + 1, [], ⟨hlt, hf⟩, by omega, ⟨⟨rfl, rfl, eqI hkk, trivial⟩, ⟨rfl, trivial⟩⟩⟩
  · have hk : k = r.joints.length := by simp at h; omega
    subst hk
    rw [List.drop_length, jointsErr] at hf
    rw [← hf, if_neg (by simp)]
    (conv => whnf)
    refine ask_m (fun h => ?_) (fun h => ?_)
    · have h : 32 < r.masses.length := by have := of_decide_eq_true h; simp only [List.length_map] at this; omega
      (conv => whnf)
      refine ret0 ?_
      exact ret_i (by rw [if_pos (.inl h)]) rfl
    · have h : ¬ 32 < r.masses.length := by have := of_decide_eq_false h; simp only [List.length_map] at this; omega
      (conv => whnf)
      refine call_i (masses_ContainsFunc r r.masses hm) ?_
      (conv => whnf)
      refine ask_m (fun h => ?_) (fun h => ?_)
      · (conv => whnf)
        refine ret0 ?_
        exact ret_i (by rw [if_pos (.inr (by simpa using h))]) rfl
      · (conv => whnf)
        refine ret0 ?_
        rename_i h32 _
        exact ret_i (by rw [if_neg]; rintro (h' | h'); · contradiction
                        · rw [h'] at h; cases h) rfl
end Go.Proofs.YtafglmjadbplcaaGreatDoor

/- Reading robots: the models; kindOf, numbers. -/
namespace Go.Proofs.YtafglmjadbplcaaGreatDoor
open Eng
set_option maxRecDepth 10000
attribute [local irreducible] FnOk loopW idxF retX arrF findF

def kfind (w : ByteArray) : List ByteArray → Nat → Int
  | [], _ => -1
  | t :: l, k => if t = w then k else kfind w l (k + 1)
def kindI (w : ByteArray) : Int := kfind w kindTab 0
theorem kfind_bd (w : ByteArray) : ∀ (l : List ByteArray) (k : Nat), kfind w l k = -1 ∨ ((k : Int) ≤ kfind w l k ∧ kfind w l k < k + l.length)
  | [], _ => .inl rfl
  | t :: l, k => by
    rw [kfind]
    split
    · right; simp; omega
    · rcases kfind_bd w l (k + 1) with h | h
      · exact .inl h
      · right; simp; omega
theorem kindI_bd (w : ByteArray) : kindI w = -1 ∨ (0 ≤ kindI w ∧ kindI w ≤ 6) := by
  rcases kfind_bd w kindTab 0 with h | ⟨h1, h2⟩
  · exact .inl h
  · have : kindTab.length = 7 := rfl
    exact .inr ⟨h1, by rw [kindI]; omega⟩
def kindR (w : ByteArray) : SV := DgR (if kindI w < 0 then 0 else kindI w) (decide (0 ≤ kindI w))
theorem robot_kindOf (w : ByteArray) : FnOk Tryz.prog F.robot_kindOf [Tx w] [] 0 (DgR (if kindI w < 0 then 0 else kindI w) (decide (0 ≤ kindI w))) [] 0 := by
  refine fnOk tab mix G.robot_kindOf rfl rfl (by kernel_rfl) rfl rfl ?_
  (conv => whnf)
  refine loop_intro (fun k : Nat => ⟨[(0, Tx w), (6, .agg (kindTab.map fun s => .dv (.str s))), (7, I k)], [], 0⟩) (fun k => k ≤ 7 ∧ kfind w (kindTab.drop k) k = kindI w) (fun k => 7 - k) [] 0 [] ⟨Nat.zero_le _, rfl⟩ ⟨⟨rfl, rfl, rfl, trivial⟩, trivial⟩ ?_
  rintro k ⟨hk, hf⟩
  have hkk : IntKind.i64.wrap ((k : Int) + 1) = ((k + 1 : Nat) : Int) := by rw [w64] <;> omega
  (conv => whnf)
  refine ask_m (fun h => ?_) (fun h => ?_)
  · have hlt : k < 7 := by have := of_decide_eq_true h; omega
    obtain ⟨t, ht⟩ : ∃ t, kindTab[k]? = some t := ⟨_, List.getElem?_eq_getElem hlt⟩
    rw [drop_cons ht, kfind] at hf
    (conv => whnf)
    refine ⟨⟨by omega, by show (k : Int) < 7; omega⟩, ?_⟩
    (conv => whnf)
    refine arr_text (tb := kindTab) rfl rfl (by rw [Int.toNat_natCast]; exact ht) ?_
    (conv => whnf)
    refine ask_m (fun he => ?_) (fun he => ?_)
    · have he : t = w := of_decide_eq_true he
      rw [if_pos he] at hf
      rw [← hf]
      (conv => whnf)
      refine ret0 ?_
      exact ⟨[], ⟨by rw [if_neg (by omega), decide_eq_true (by omega)]; rfl, trivial⟩, trivial⟩
    · have he : ¬ t = w := of_decide_eq_false he
      rw [if_neg he] at hf
      (conv => whnf)
      exact ⟨k + 1, [], ⟨hlt, hf⟩, by omega, ⟨⟨rfl, rfl, eqI hkk, trivial⟩, trivial⟩⟩
  · have hk : k = 7 := by have := of_decide_eq_false h; omega
    subst hk
    have hf : (-1 : Int) = kindI w := hf
    rw [← hf]
    (conv => whnf)
    refine ret0 ?_
    exact ⟨[], ⟨rfl, trivial⟩, trivial⟩
/-- numbers, if all of them are -/
def numsOf (f : ByteArray → Int × Bool) : List ByteArray → Option (List Int)
  | [] => some []
  | w :: ws => match (f w).2, numsOf f ws with
    | true, some l => some ((f w).1 :: l)
    | _, _ => none
theorem numsOf_all {f : ByteArray → Int × Bool} : ∀ {ws : List ByteArray}, (ws.all fun w => (f w).2) = true → numsOf f ws = some (ws.map fun w => (f w).1)
  | [], _ => rfl
  | w :: ws, h => by
    rw [List.all_cons, Bool.and_eq_true] at h
    rw [numsOf, h.1, numsOf_all h.2]; rfl
theorem numsOf_not {f : ByteArray → Int × Bool} : ∀ {ws : List ByteArray} {k : Nat} {w : ByteArray}, ws[k]? = some w → (f w).2 = false → numsOf f ws = none
  | [], k, w, h, _ => by simp at h
  | x :: ws, 0, w, h, hf => by
    simp at h; subst h
    rw [numsOf, hf]
  | x :: ws, k + 1, w, h, hf => by
    rw [numsOf, numsOf_not (ws := ws) (by simpa using h) hf]
    cases (f x).2 <;> rfl
abbrev NsR (r : Option (List Int)) : SV := .tup [(false, [.dv (.lst 1 ((r.getD []).map encI))]), (false, [.dv (.bool r.isSome)])]
theorem robot_numbersNumber (ws : List ByteArray) (hl : ws.length ≤ 1000) (hs : ∀ w ∈ ws, w.size ≤ 4611686018427387904) : FnOk Tryz.prog F.robot_numbers [.one (.dv (.lst 1 (ws.map encA))), .one (.fn F.token_Number [])] [] 0 (NsR (numsOf numOf ws)) [] 0 := by
  refine fnOk tab mix G.robot_numbers rfl rfl (by kernel_rfl) rfl rfl ?_
  (conv => whnf)
  refine ⟨⟨by simp, by simp, by simp; omega, by simp; omega⟩, ?_⟩
  (conv => whnf)
  have hr : ∀ n : Nat, List.replicate n ([.int .i64 0] : List DV) = (List.replicate n (0 : Int)).map encI := fun n => by rw [List.map_replicate]; rfl
  refine loop_intro (fun k : Nat => ⟨[(1, .one (.fn F.token_Number [])), (4, .one (.nil 1)), (6, .one (.row 0)), (14, .one (.dv (.lst 1 (ws.map encA)))), (15, I ws.length), (16, I k)], [(0, .rows Y.int64 1 ((((ws.take k).map fun w => (numOf w).1) ++ List.replicate (ws.length - k) 0).map encI))], 1⟩) (fun k => k ≤ ws.length ∧ ((ws.take k).all fun w => (numOf w).2) = true) (fun k => ws.length - k) [] 0 [] ⟨Nat.zero_le _, rfl⟩ ⟨⟨rfl, rfl, rfl, rfl, eqI (by simp), rfl, trivial⟩, ⟨rows_eq (by simp [encI]), trivial⟩⟩ ?_
  rintro k ⟨hk, hall⟩
  have hkk : IntKind.i64.wrap ((k : Int) + 1) = ((k + 1 : Nat) : Int) := by rw [w64] <;> omega
  (conv => whnf)
  refine ask_m (fun h => ?_) (fun h => ?_)
  · have hlt : k < ws.length := by have := of_decide_eq_true h; omega
    obtain ⟨w, hw⟩ : ∃ w, ws[k]? = some w := ⟨_, List.getElem?_eq_getElem hlt⟩
    (conv => whnf)
    refine idx_and (by omega) (by simpa using hw) ?_
    (conv => whnf)
    refine call_i (token_Number w (hs w (List.mem_of_getElem? hw))) ?_
    (conv => whnf)
    cases hb : (numOf w).2 with
    | false =>
      (conv => whnf)
      rw [numsOf_not hw hb]
      (conv => whnf)
      refine retO [.own 4 Y.int64 1, .frz 1] ?_
      (conv => whnf)
      exact ⟨[], ⟨rfl, trivial⟩, trivial⟩
    | true =>
      have hA : (((ws.take k).map fun w => (numOf w).1).map encI).length = k := by rw [List.length_map, List.length_map, List.length_take]; omega
      have hrep : List.replicate (ws.length - k) (0 : Int) = 0 :: List.replicate (ws.length - (k + 1)) 0 := by
        rw [show ws.length - k = (ws.length - (k + 1)) + 1 by omega]; rfl
      have hn : (((ws.take (k + 1)).map fun w => (numOf w).1) ++ List.replicate (ws.length - (k + 1)) 0).map encI = ((ws.take k).map fun w => (numOf w).1).map encI ++ encI (numOf w).1 :: (List.replicate (ws.length - (k + 1)) 0).map encI := by
        rw [map_take1 _ hw, List.append_assoc, List.map_append]; rfl
      rw [hrep, List.map_append, List.map_cons]
      generalize ((ws.take k).map fun w => (numOf w).1).map encI = A at *
      (conv => whnf)
      refine ⟨⟨by omega, by simp [hA]; omega⟩, ?_⟩
      (conv => whnf)
      refine idx_at (r := encI 0) (by rw [Int.toNat_natCast, List.getElem?_append_right (by omega), hA, Nat.sub_self]; rfl) ?_
      (conv => whnf)
      refine ⟨k + 1, [], ⟨hlt, all_take hall hw hb⟩, by omega, ⟨⟨rfl, rfl, rfl, rfl, rfl, eqI hkk, trivial⟩, ⟨rows_eq ?_, trivial⟩⟩⟩
      rw [hn, Int.toNat_natCast]
      subst hA
      simp [encI]
  · have hk : k = ws.length := by have := of_decide_eq_false h; omega
    subst hk
    rw [List.take_length] at hall
    rw [numsOf_all hall, List.take_length, Nat.sub_self, List.replicate_zero, List.append_nil]
    (conv => whnf)
    refine retO [.frz 0] ?_
    (conv => whnf)
    exact ⟨[], ⟨rfl, trivial⟩, trivial⟩
theorem robot_numbersInteger (ws : List ByteArray) (hl : ws.length ≤ 1000) : FnOk Tryz.prog F.robot_numbers [.one (.dv (.lst 1 (ws.map encA))), .one (.fn F.token_Integer [])] [] 0 (NsR (numsOf intOf ws)) [] 0 := by
  refine fnOk tab mix G.robot_numbers rfl rfl (by kernel_rfl) rfl rfl ?_
  (conv => whnf)
  refine ⟨⟨by simp, by simp, by simp; omega, by simp; omega⟩, ?_⟩
  (conv => whnf)
  have hr : ∀ n : Nat, List.replicate n ([.int .i64 0] : List DV) = (List.replicate n (0 : Int)).map encI := fun n => by rw [List.map_replicate]; rfl
  refine loop_intro (fun k : Nat => ⟨[(1, .one (.fn F.token_Integer [])), (4, .one (.nil 1)), (6, .one (.row 0)), (14, .one (.dv (.lst 1 (ws.map encA)))), (15, I ws.length), (16, I k)], [(0, .rows Y.int64 1 ((((ws.take k).map fun w => (intOf w).1) ++ List.replicate (ws.length - k) 0).map encI))], 1⟩) (fun k => k ≤ ws.length ∧ ((ws.take k).all fun w => (intOf w).2) = true) (fun k => ws.length - k) [] 0 [] ⟨Nat.zero_le _, rfl⟩ ⟨⟨rfl, rfl, rfl, rfl, eqI (by simp), rfl, trivial⟩, ⟨rows_eq (by simp [encI]), trivial⟩⟩ ?_
  rintro k ⟨hk, hall⟩
  have hkk : IntKind.i64.wrap ((k : Int) + 1) = ((k + 1 : Nat) : Int) := by rw [w64] <;> omega
  (conv => whnf)
  refine ask_m (fun h => ?_) (fun h => ?_)
  · have hlt : k < ws.length := by have := of_decide_eq_true h; omega
    obtain ⟨w, hw⟩ : ∃ w, ws[k]? = some w := ⟨_, List.getElem?_eq_getElem hlt⟩
    (conv => whnf)
    refine idx_and (by omega) (by simpa using hw) ?_
    (conv => whnf)
    refine call_i (token_Integer w) ?_
    (conv => whnf)
    cases hb : (intOf w).2 with
    | false =>
      (conv => whnf)
      rw [numsOf_not hw hb]
      (conv => whnf)
      refine retO [.own 4 Y.int64 1, .frz 1] ?_
      (conv => whnf)
      exact ⟨[], ⟨rfl, trivial⟩, trivial⟩
    | true =>
      have hA : (((ws.take k).map fun w => (intOf w).1).map encI).length = k := by rw [List.length_map, List.length_map, List.length_take]; omega
      have hrep : List.replicate (ws.length - k) (0 : Int) = 0 :: List.replicate (ws.length - (k + 1)) 0 := by
        rw [show ws.length - k = (ws.length - (k + 1)) + 1 by omega]; rfl
      have hn : (((ws.take (k + 1)).map fun w => (intOf w).1) ++ List.replicate (ws.length - (k + 1)) 0).map encI = ((ws.take k).map fun w => (intOf w).1).map encI ++ encI (intOf w).1 :: (List.replicate (ws.length - (k + 1)) 0).map encI := by
        rw [map_take1 _ hw, List.append_assoc, List.map_append]; rfl
      rw [hrep, List.map_append, List.map_cons]
      generalize ((ws.take k).map fun w => (intOf w).1).map encI = A at *
      (conv => whnf)
      refine ⟨⟨by omega, by simp [hA]; omega⟩, ?_⟩
      (conv => whnf)
      refine idx_at (r := encI 0) (by rw [Int.toNat_natCast, List.getElem?_append_right (by omega), hA, Nat.sub_self]; rfl) ?_
      (conv => whnf)
      refine ⟨k + 1, [], ⟨hlt, all_take hall hw hb⟩, by omega, ⟨⟨rfl, rfl, rfl, rfl, rfl, eqI hkk, trivial⟩, ⟨rows_eq ?_, trivial⟩⟩⟩
      rw [hn, Int.toNat_natCast]
      subst hA
      simp [encI]
  · have hk : k = ws.length := by have := of_decide_eq_false h; omega
    subst hk
    rw [List.take_length] at hall
    rw [numsOf_all hall, List.take_length, Nat.sub_self, List.replicate_zero, List.append_nil]
    (conv => whnf)
    refine retO [.frz 0] ?_
    (conv => whnf)
    exact ⟨[], ⟨rfl, trivial⟩, trivial⟩
end Go.Proofs.YtafglmjadbplcaaGreatDoor

/- Reading robots: joint, limit, mass, statement. -/
namespace Go.Proofs.YtafglmjadbplcaaGreatDoor
open Eng
set_option maxRecDepth 10000
attribute [local irreducible] FnOk loopW idxF retX arrF findF

abbrev dAs (l : List ByteArray) : DV := .lst 1 (l.map encA)
/-- the map of the names -/
def mapE : List Joint → Nat → List Ent
  | [], _ => []
  | j :: js, k => ((false, [.str j.name]), (false, [.int .i64 k])) :: mapE js (k + 1)
theorem mapE_keys : ∀ (js : List Joint) (k : Nat), keysD .string (mapE js k)
  | [], _ => trivial
  | j :: js, k => ⟨trivial, mapE_keys js (k + 1)⟩
theorem find_bd : ∀ (js : List Joint) (w : ByteArray) (k : Nat), find js w k = -1 ∨ ((k : Int) ≤ find js w k ∧ find js w k < k + js.length)
  | [], _, _ => .inl rfl
  | j :: js, w, k => by
    rw [find]; split
    · right; simp; omega
    · rcases find_bd js w (k + 1) with h | h
      · exact .inl h
      · right; simp; omega
theorem find_map (w : ByteArray) : ∀ (js : List Joint) (k : Nat), findD (.str w) (mapE js k) = if find js w k < 0 then none else some ((find js w k).toNat - k, (false, [.int .i64 (find js w k)]))
  | [], k => rfl
  | j :: js, k => by
    rw [mapE, find]
    by_cases h : j.name = w
    · have e : keyEq (.str w) (.str j.name) = true := decide_eq_true h.symm
      simp only [findD, e, if_pos h]
      rw [if_neg (by omega)]; simp
    · have e : keyEq (.str w) (.str j.name) = false := decide_eq_false fun e => h e.symm
      simp only [findD, e, if_neg h]
      rw [find_map w js (k + 1)]
      rcases find_bd js w (k + 1) with h1 | h1
      · rw [h1]; rfl
      · rw [if_neg (by omega), if_neg (by omega)]
        simp; omega
theorem mapE_app : ∀ (js : List Joint) (k : Nat) (j : Joint), mapE (js ++ [j]) k = mapE js k ++ [((false, [.str j.name]), (false, [.int .i64 ((k + js.length : Nat) : Int)]))]
  | [], k, j => rfl
  | x :: js, k, j => by
    rw [List.cons_append, mapE, mapE_app js (k + 1) j, mapE, List.length_cons, show k + 1 + js.length = k + (js.length + 1) by omega]; rfl
def modJ : List Joint → Nat → (Joint → Joint) → List Joint
  | [], _, _ => []
  | j :: js, 0, f => f j :: js
  | j :: js, k + 1, f => j :: modJ js k f
theorem modJ_enc (f : Joint → Joint) : ∀ (js : List Joint) (i : Nat) (j : Joint), js[i]? = some j → (modJ js i f).map encJ = (js.map encJ).set i (encJ (f j))
  | [], i, j, h => by simp at h
  | x :: js, 0, j, h => by simp at h; subst h; rfl
  | x :: js, i + 1, j, h => by
    rw [modJ, List.map_cons, modJ_enc f js i j (by simpa using h)]; rfl
theorem modJ_map (f : Joint → Joint) (hf : ∀ j, (f j).name = j.name) : ∀ (js : List Joint) (i k : Nat), mapE (modJ js i f) k = mapE js k
  | [], _, _ => rfl
  | x :: js, 0, k => by rw [modJ, mapE, mapE, hf]
  | x :: js, i + 1, k => by rw [modJ, mapE, mapE, modJ_map f hf js i]
theorem modJ_len (f : Joint → Joint) : ∀ (js : List Joint) (i : Nat), (modJ js i f).length = js.length
  | [], _ => rfl
  | x :: js, 0 => rfl
  | x :: js, i + 1 => by rw [modJ, List.length_cons, modJ_len f js i, List.length_cons]
def readJ (js : List Joint) (a : List ByteArray) : Int × List Joint := match a with
  | [n, k, p, x, y, z, lo, hi, w] =>
    if nameOk n = false ∨ 0 ≤ find js n 0 then (802, js)
    else if kindI k < 0 then (803, js)
    else if p ≠ worldT ∧ find js p 0 < 0 then (810, js)
    else if ¬ (([x, y, z, lo, hi].all fun w => (numOf w).2) = true ∧ (intOf w).2 = true) then (809, js)
    else (0, js ++ [⟨n, kindI k, if p = worldT then -1 else find js p 0, ⟨(numOf x).1, (numOf y).1, (numOf z).1⟩, (numOf lo).1, (numOf hi).1, (intOf w).1, 65536, 65536, 65536⟩])
  | _ => (0, js)
def limF (s c t : ByteArray) (j : Joint) : Joint := { j with speed := (intOf s).1, accel := (intOf c).1, torque := (intOf t).1 }
def readL (js : List Joint) (a : List ByteArray) : Int × List Joint := match a with
  | [n, s, c, t] =>
    if find js n 0 < 0 then (810, js)
    else if ([s, c, t].all fun w => (intOf w).2) = false then (809, js)
    else (0, modJ js (find js n 0).toNat (limF s c t))
  | _ => (0, js)
def readM (js : List Joint) (ms : List Mass) (a : List ByteArray) : Int × List Mass := match a with
  | [n, m, x, y, z] =>
    if find js n 0 < 0 then (810, ms)
    else if ([m, x, y, z].all fun w => (numOf w).2) = false then (809, ms)
    else (0, ms ++ [⟨find js n 0, (numOf m).1, ⟨(numOf x).1, (numOf y).1, (numOf z).1⟩⟩])
  | _ => (0, ms)
theorem len9 {l : List ByteArray} (h : l.length = 9) : ∃ n k p x y z lo hi w, l = [n, k, p, x, y, z, lo, hi, w] := by
  match l, h with
  | [n, k, p, x, y, z, lo, hi, w], _ => exact ⟨n, k, p, x, y, z, lo, hi, w, rfl⟩
theorem len5 {l : List ByteArray} (h : l.length = 5) : ∃ n m x y z, l = [n, m, x, y, z] := by
  match l, h with
  | [n, m, x, y, z], _ => exact ⟨n, m, x, y, z, rfl⟩
theorem len4 {l : List ByteArray} (h : l.length = 4) : ∃ n s c t, l = [n, s, c, t] := by
  match l, h with
  | [n, s, c, t], _ => exact ⟨n, s, c, t, rfl⟩
abbrev mRd (r : Robot) : List (Nat × Box) := [(0, .vars Y.robot_reader [.row 1, .row 2, .row 3]), (1, .rows Y.Joint 12 (r.joints.map encJ)), (2, .rows Y.Mass 5 (r.masses.map encM)), (3, .mp (mapE r.joints 0))]
abbrev mRd' (r : Robot) : List (Nat × Box) := [(0, .vars Y.robot_reader [.row 4, .row 5, .row 3]), (4, .rows Y.Joint 12 (r.joints.map encJ)), (5, .rows Y.Mass 5 (r.masses.map encM)), (3, .mp (mapE r.joints 0))]
theorem mapU : Tryz.prog.underlying Y.map_string_int = some (.map Y.string Y.int) ∧ Tryz.prog.underlying Y.string = some .string := ⟨by kernel_rfl, by kernel_rfl⟩
theorem zInt : zAgg Tryz.prog Y.int = false := by kernel_rfl
theorem robot_limit_ (r : Robot) (n s c t : ByteArray) (hr : r.joints.length ≤ 1000000000) : FnOk Tryz.prog F.robot_reader_limit [.one (.vptr 0 0), .one (.dv (dAs [n, s, c, t]))] (mRd r) 4 (I (readL r.joints [n, s, c, t]).1) (mRd' ⟨(readL r.joints [n, s, c, t]).2, r.masses⟩) 6 := by
  refine fnOk tab mix G.robot_reader_limit rfl rfl (by kernel_rfl) rfl rfl ?_
  (conv => whnf)
  refine idx_and (xs := [n, s, c, t]) (x := n) (by decide) rfl ?_
  (conv => whnf)
  refine ⟨Y.string, Y.int, .string, ⟨mapU.1, mapU.2, trivial, mapE_keys _ _⟩, ?_⟩
  (conv => whnf)
  refine ⟨zInt, ?_⟩
  (conv => whnf)
  by_cases h : find r.joints n 0 < 0
  · refine find_is (r := none) (by rw [find_map, if_pos h]) ?_
    (conv => whnf)
    rw [readL, if_pos h]
    (conv => whnf)
    refine retO [] ?_
    (conv => whnf)
    exact ⟨[(4, 1), (5, 2)], ⟨rfl, trivial⟩, ⟨rfl, rfl, rfl, rfl, trivial⟩⟩
  refine find_is (by rw [find_map, if_neg h]) ?_
  (conv => whnf)
  refine ⟨⟨by decide, by simp⟩, ?_⟩
  (conv => whnf)
  refine call_i (robot_numbersInteger [s, c, t] (by simp)) ?_
  (conv => whnf)
  cases hall : [s, c, t].all fun w => (intOf w).2 with
  | false =>
    have hno : numsOf intOf [s, c, t] = none := by
      obtain ⟨w, hw, hb⟩ := List.all_eq_false.1 hall
      obtain ⟨k, hk⟩ := List.getElem?_of_mem hw
      exact numsOf_not hk (by simpa using hb)
    rw [hno]
    (conv => whnf)
    rw [readL, if_neg h, if_pos hall]
    (conv => whnf)
    refine retO [] ?_
    (conv => whnf)
    exact ⟨[(4, 1), (5, 2)], ⟨rfl, trivial⟩, ⟨rfl, rfl, rfl, rfl, trivial⟩⟩
  | true =>
    rw [numsOf_all hall]
    rw [readL, if_neg h, if_neg (by rw [hall]; decide)]
    obtain ⟨i, hi⟩ : ∃ i : Nat, find r.joints n 0 = i := ⟨(find r.joints n 0).toNat, by omega⟩
    have hib : i < r.joints.length := by
      rcases find_bd r.joints n 0 with h1 | h1 <;> omega
    obtain ⟨j, hj⟩ : ∃ j, r.joints[i]? = some j := ⟨_, List.getElem?_eq_getElem hib⟩
    have hmod := modJ_enc (limF s c t) r.joints i j hj
    have hmap := modJ_map (limF s c t) (fun _ => rfl) r.joints i 0
    have hjr : (r.joints.map encJ)[i]? = some (encJ j) := by rw [List.getElem?_map, hj]; rfl
    rw [hi, Int.toNat_natCast]
    (conv => whnf)
    refine ⟨⟨by omega, by rw [List.length_map]; omega⟩, ?_⟩
    (conv => whnf)
    rw [Int.toNat_natCast]
    refine idx_and (xs := [s, c, t].map fun w => (intOf w).1) (x := (intOf s).1) (by decide) rfl ?_
    (conv => whnf)
    refine idx_and (xs := [s, c, t].map fun w => (intOf w).1) (x := (intOf c).1) (by decide) rfl ?_
    (conv => whnf)
    refine idx_and (xs := [s, c, t].map fun w => (intOf w).1) (x := (intOf t).1) (by decide) rfl ?_
    (conv => whnf)
    refine idx_at hjr ?_
    (conv => whnf)
    refine idx_at (List.getElem?_set_self (by rw [List.length_map]; exact hib)) ?_
    (conv => whnf)
    refine idx_at (List.getElem?_set_self (by rw [List.length_set, List.length_map]; exact hib)) ?_
    (conv => whnf)
    (conv => whnf)
    refine retO [] ?_
    (conv => whnf)
    refine ⟨[(4, 1), (5, 2)], ⟨rfl, trivial⟩, ⟨rfl, ?_, rfl, ?_, trivial⟩⟩
    · refine rows_eq ?_
      rw [List.set_set, List.set_set, hmod]; rfl
    · rw [hmap]; rfl
theorem robot_mass_ (r : Robot) (n m x y z : ByteArray) (hr : r.joints.length ≤ 1000000000) (hm : r.masses.length ≤ 1000000000) (hs : ∀ w ∈ [m, x, y, z], w.size ≤ 4611686018427387904) : FnOk Tryz.prog F.robot_reader_mass [.one (.vptr 0 0), .one (.dv (dAs [n, m, x, y, z]))] (mRd r) 4 (I (readM r.joints r.masses [n, m, x, y, z]).1) (mRd' ⟨r.joints, (readM r.joints r.masses [n, m, x, y, z]).2⟩) 6 := by
  refine fnOk tab mix G.robot_reader_mass rfl rfl (by kernel_rfl) rfl rfl ?_
  (conv => whnf)
  refine idx_and (xs := [n, m, x, y, z]) (x := n) (by decide) rfl ?_
  (conv => whnf)
  refine ⟨Y.string, Y.int, .string, ⟨mapU.1, mapU.2, trivial, mapE_keys _ _⟩, ?_⟩
  (conv => whnf)
  refine ⟨zInt, ?_⟩
  (conv => whnf)
  by_cases h : find r.joints n 0 < 0
  · refine find_is (r := none) (by rw [find_map, if_pos h]) ?_
    (conv => whnf)
    rw [readM, if_pos h]
    (conv => whnf)
    refine retO [] ?_
    (conv => whnf)
    exact ⟨[(4, 1), (5, 2)], ⟨rfl, trivial⟩, ⟨rfl, rfl, rfl, rfl, trivial⟩⟩
  refine find_is (by rw [find_map, if_neg h]) ?_
  (conv => whnf)
  refine ⟨⟨by decide, by simp⟩, ?_⟩
  (conv => whnf)
  refine call_i (robot_numbersNumber [m, x, y, z] (by simp) hs) ?_
  (conv => whnf)
  cases hall : [m, x, y, z].all fun w => (numOf w).2 with
  | false =>
    have hno : numsOf numOf [m, x, y, z] = none := by
      obtain ⟨w, hw, hb⟩ := List.all_eq_false.1 hall
      obtain ⟨k, hk⟩ := List.getElem?_of_mem hw
      exact numsOf_not hk (by simpa using hb)
    rw [hno]
    (conv => whnf)
    rw [readM, if_neg h, if_pos hall]
    (conv => whnf)
    refine retO [] ?_
    (conv => whnf)
    exact ⟨[(4, 1), (5, 2)], ⟨rfl, trivial⟩, ⟨rfl, rfl, rfl, rfl, trivial⟩⟩
  | true =>
    rw [numsOf_all hall]
    rw [readM, if_neg h, if_neg (by rw [hall]; decide)]
    (conv => whnf)
    refine idx_and (xs := [m, x, y, z].map fun w => (numOf w).1) (x := (numOf m).1) (by decide) rfl ?_
    (conv => whnf)
    refine ⟨⟨by decide, by simp⟩, ?_⟩
    (conv => whnf)
    refine ⟨⟨by decide, by simp⟩, ?_⟩
    (conv => whnf)
    refine ⟨⟨by simp; omega, by simp; omega⟩, ?_⟩
    (conv => whnf)
    (conv => whnf)
    refine retO [] ?_
    (conv => whnf)
    refine ⟨[(4, 1)], ⟨rfl, trivial⟩, ⟨rfl, rfl, rows_eq ?_, rfl, trivial⟩⟩
    rw [List.map_append]; rfl
theorem robot_joint_ (r : Robot) (n k p x y z lo hi w : ByteArray) (hr : r.joints.length ≤ 1000000000) (hs : ∀ w ∈ [x, y, z, lo, hi], w.size ≤ 4611686018427387904) : FnOk Tryz.prog F.robot_reader_joint [.one (.vptr 0 0), .one (.dv (dAs [n, k, p, x, y, z, lo, hi, w]))] (mRd r) 4 (I (readJ r.joints [n, k, p, x, y, z, lo, hi, w]).1) (mRd' ⟨(readJ r.joints [n, k, p, x, y, z, lo, hi, w]).2, r.masses⟩) 6 := by
  refine fnOk tab mix G.robot_reader_joint rfl rfl (by kernel_rfl) rfl rfl ?_
  (conv => whnf)
  have fail : ∀ (e : Int) (q : Int × List Joint), q = (e, r.joints) → q.1 = e ∧ q.2 = r.joints := fun e q h => by rw [h]; exact ⟨rfl, rfl⟩
  refine idx_and (xs := [n, k, p, x, y, z, lo, hi, w]) (x := n) (by decide) rfl ?_
  (conv => whnf)
  refine ⟨Y.string, Y.int, .string, ⟨mapU.1, mapU.2, trivial, mapE_keys _ _⟩, ?_⟩
  (conv => whnf)
  refine ⟨zInt, ?_⟩
  (conv => whnf)
  rcases find_bd r.joints n 0 with h | h
  case inr =>
    refine find_is (by rw [find_map, if_neg (by omega)]) ?_
    (conv => whnf)
    rw [readJ, if_pos (.inr h.1)]
    (conv => whnf)
    refine retO [] ?_
    (conv => whnf)
    exact ⟨[(4, 1), (5, 2)], ⟨rfl, trivial⟩, ⟨rfl, rfl, rfl, rfl, trivial⟩⟩
  refine find_is (r := none) (by rw [find_map, if_pos (by omega)]) ?_
  (conv => whnf)
  refine call_i (token_Name n) ?_
  (conv => whnf)
  cases hn : nameOk n with
  | false =>
    (conv => whnf)
    rw [readJ, if_pos (.inl hn)]
    (conv => whnf)
    refine retO [] ?_
    (conv => whnf)
    exact ⟨[(4, 1), (5, 2)], ⟨rfl, trivial⟩, ⟨rfl, rfl, rfl, rfl, trivial⟩⟩
  | true =>
  rw [readJ, if_neg (by rw [hn]; simp; omega)]
  (conv => whnf)
  refine idx_and (xs := [n, k, p, x, y, z, lo, hi, w]) (x := k) (by decide) rfl ?_
  (conv => whnf)
  refine call_i (robot_kindOf k) ?_
  (conv => whnf)
  by_cases hk : kindI k < 0
  · rw [decide_eq_false (by omega)]
    (conv => whnf)
    rw [if_pos hk]
    (conv => whnf)
    refine retO [] ?_
    (conv => whnf)
    exact ⟨[(4, 1), (5, 2)], ⟨rfl, trivial⟩, ⟨rfl, rfl, rfl, rfl, trivial⟩⟩
  rw [decide_eq_true (by omega), if_neg hk, if_neg hk]
  (conv => whnf)
  refine idx_and (xs := [n, k, p, x, y, z, lo, hi, w]) (x := p) (by decide) rfl ?_
  (conv => whnf)
  refine ⟨Y.string, Y.int, .string, ⟨mapU.1, mapU.2, trivial, mapE_keys _ _⟩, ?_⟩
  (conv => whnf)
  refine ⟨zInt, ?_⟩
  (conv => whnf)
  by_cases hw : p = worldT
  · have hc : ¬ (p ≠ worldT ∧ find r.joints p 0 < 0) := fun h => h.1 hw
    rw [if_neg hc, if_pos hw]
    rcases find_bd r.joints p 0 with hp | hp
    · refine find_is (r := none) (by rw [find_map, if_pos (by omega)]) ?_
      (conv => whnf)
      refine idx_and (xs := [n, k, p, x, y, z, lo, hi, w]) (x := p) (by decide) rfl ?_
      (conv => whnf)
      refine ask_mt (decide_eq_true hw) ?_
      (conv => whnf)
      refine ⟨⟨by decide, by decide, by simp⟩, ?_⟩
      (conv => whnf)
      refine call_i (robot_numbersNumber [x, y, z, lo, hi] (by simp) hs) ?_
      (conv => whnf)
      refine idx_and (xs := [n, k, p, x, y, z, lo, hi, w]) (x := w) (by decide) rfl ?_
      (conv => whnf)
      refine call_i (token_Integer w) ?_
      (conv => whnf)
      cases hall : [x, y, z, lo, hi].all fun w => (numOf w).2 with
      | false =>
        have hno : numsOf numOf [x, y, z, lo, hi] = none := by
          obtain ⟨w, hw, hb⟩ := List.all_eq_false.1 hall
          obtain ⟨k, hk⟩ := List.getElem?_of_mem hw
          exact numsOf_not hk (by simpa using hb)
        rw [hno]
        (conv => whnf)
        rw [if_pos (by simp)]
        (conv => whnf)
        refine retO [] ?_
        (conv => whnf)
        exact ⟨[(4, 1), (5, 2)], ⟨rfl, trivial⟩, ⟨rfl, rfl, rfl, rfl, trivial⟩⟩
      | true =>
      rw [numsOf_all hall]
      (conv => whnf)
      cases hw2 : (intOf w).2 with
      | false =>
        (conv => whnf)
        rw [if_pos (by simp)]
        (conv => whnf)
        refine retO [] ?_
        (conv => whnf)
        exact ⟨[(4, 1), (5, 2)], ⟨rfl, trivial⟩, ⟨rfl, rfl, rfl, rfl, trivial⟩⟩
      | true =>
      rw [if_neg (by simp)]
      (conv => whnf)
      refine ⟨Y.string, Y.int, .string, ⟨mapU.1, mapU.2, trivial, mapE_keys _ _⟩, ?_⟩
      (conv => whnf)
      refine find_is (r := none) (by rw [find_map, if_pos (by omega)]) ?_
      (conv => whnf)
      refine ⟨⟨by decide, by simp⟩, ?_⟩
      (conv => whnf)
      refine ⟨⟨by decide, by simp⟩, ?_⟩
      (conv => whnf)
      refine idx_and (xs := [x, y, z, lo, hi].map fun w => (numOf w).1) (x := (numOf lo).1) (by decide) rfl ?_
      (conv => whnf)
      refine idx_and (xs := [x, y, z, lo, hi].map fun w => (numOf w).1) (x := (numOf hi).1) (by decide) rfl ?_
      (conv => whnf)
      refine ⟨⟨by simp; omega, by simp; omega⟩, ?_⟩
      (conv => whnf)
      (conv => whnf)
      refine retO [] ?_
      (conv => whnf)
      refine ⟨[(5, 2), (4, 5)], ⟨rfl, trivial⟩, ⟨rfl, rows_eq ?_, rfl, ?_, trivial⟩⟩
      · rw [List.map_append]; rfl
      · rw [mapE_app, Nat.zero_add, List.length_map]; rfl
    · refine find_is (by rw [find_map, if_neg (by omega)]) ?_
      (conv => whnf)
      refine idx_and (xs := [n, k, p, x, y, z, lo, hi, w]) (x := p) (by decide) rfl ?_
      (conv => whnf)
      refine ask_mt (decide_eq_true hw) ?_
      (conv => whnf)
      refine ⟨⟨by decide, by decide, by simp⟩, ?_⟩
      (conv => whnf)
      refine call_i (robot_numbersNumber [x, y, z, lo, hi] (by simp) hs) ?_
      (conv => whnf)
      refine idx_and (xs := [n, k, p, x, y, z, lo, hi, w]) (x := w) (by decide) rfl ?_
      (conv => whnf)
      refine call_i (token_Integer w) ?_
      (conv => whnf)
      cases hall : [x, y, z, lo, hi].all fun w => (numOf w).2 with
      | false =>
        have hno : numsOf numOf [x, y, z, lo, hi] = none := by
          obtain ⟨w, hw, hb⟩ := List.all_eq_false.1 hall
          obtain ⟨k, hk⟩ := List.getElem?_of_mem hw
          exact numsOf_not hk (by simpa using hb)
        rw [hno]
        (conv => whnf)
        rw [if_pos (by simp)]
        (conv => whnf)
        refine retO [] ?_
        (conv => whnf)
        exact ⟨[(4, 1), (5, 2)], ⟨rfl, trivial⟩, ⟨rfl, rfl, rfl, rfl, trivial⟩⟩
      | true =>
      rw [numsOf_all hall]
      (conv => whnf)
      cases hw2 : (intOf w).2 with
      | false =>
        (conv => whnf)
        rw [if_pos (by simp)]
        (conv => whnf)
        refine retO [] ?_
        (conv => whnf)
        exact ⟨[(4, 1), (5, 2)], ⟨rfl, trivial⟩, ⟨rfl, rfl, rfl, rfl, trivial⟩⟩
      | true =>
      rw [if_neg (by simp)]
      (conv => whnf)
      refine ⟨Y.string, Y.int, .string, ⟨mapU.1, mapU.2, trivial, mapE_keys _ _⟩, ?_⟩
      (conv => whnf)
      refine find_is (r := none) (by rw [find_map, if_pos (by omega)]) ?_
      (conv => whnf)
      refine ⟨⟨by decide, by simp⟩, ?_⟩
      (conv => whnf)
      refine ⟨⟨by decide, by simp⟩, ?_⟩
      (conv => whnf)
      refine idx_and (xs := [x, y, z, lo, hi].map fun w => (numOf w).1) (x := (numOf lo).1) (by decide) rfl ?_
      (conv => whnf)
      refine idx_and (xs := [x, y, z, lo, hi].map fun w => (numOf w).1) (x := (numOf hi).1) (by decide) rfl ?_
      (conv => whnf)
      refine ⟨⟨by simp; omega, by simp; omega⟩, ?_⟩
      (conv => whnf)
      (conv => whnf)
      refine retO [] ?_
      (conv => whnf)
      refine ⟨[(5, 2), (4, 5)], ⟨rfl, trivial⟩, ⟨rfl, rows_eq ?_, rfl, ?_, trivial⟩⟩
      · rw [List.map_append]; rfl
      · rw [mapE_app, Nat.zero_add, List.length_map]; rfl
  · rw [if_neg hw]
    rcases find_bd r.joints p 0 with hp | hp
    · rw [if_pos ⟨hw, by omega⟩]
      refine find_is (r := none) (by rw [find_map, if_pos (by omega)]) ?_
      (conv => whnf)
      refine idx_and (xs := [n, k, p, x, y, z, lo, hi, w]) (x := p) (by decide) rfl ?_
      (conv => whnf)
      refine ask_mf (decide_eq_false hw) ?_
      (conv => whnf)
      refine retO [] ?_
      (conv => whnf)
      exact ⟨[(4, 1), (5, 2)], ⟨rfl, trivial⟩, ⟨rfl, rfl, rfl, rfl, trivial⟩⟩
    · rw [if_neg (fun h => by omega)]
      refine find_is (by rw [find_map, if_neg (by omega)]) ?_
      (conv => whnf)
      refine idx_and (xs := [n, k, p, x, y, z, lo, hi, w]) (x := p) (by decide) rfl ?_
      (conv => whnf)
      refine ask_mf (decide_eq_false hw) ?_
      (conv => whnf)
      refine ⟨⟨by decide, by decide, by simp⟩, ?_⟩
      (conv => whnf)
      refine call_i (robot_numbersNumber [x, y, z, lo, hi] (by simp) hs) ?_
      (conv => whnf)
      refine idx_and (xs := [n, k, p, x, y, z, lo, hi, w]) (x := w) (by decide) rfl ?_
      (conv => whnf)
      refine call_i (token_Integer w) ?_
      (conv => whnf)
      cases hall : [x, y, z, lo, hi].all fun w => (numOf w).2 with
      | false =>
        have hno : numsOf numOf [x, y, z, lo, hi] = none := by
          obtain ⟨w, hw, hb⟩ := List.all_eq_false.1 hall
          obtain ⟨k, hk⟩ := List.getElem?_of_mem hw
          exact numsOf_not hk (by simpa using hb)
        rw [hno]
        (conv => whnf)
        rw [if_pos (by simp)]
        (conv => whnf)
        refine retO [] ?_
        (conv => whnf)
        exact ⟨[(4, 1), (5, 2)], ⟨rfl, trivial⟩, ⟨rfl, rfl, rfl, rfl, trivial⟩⟩
      | true =>
      rw [numsOf_all hall]
      (conv => whnf)
      cases hw2 : (intOf w).2 with
      | false =>
        (conv => whnf)
        rw [if_pos (by simp)]
        (conv => whnf)
        refine retO [] ?_
        (conv => whnf)
        exact ⟨[(4, 1), (5, 2)], ⟨rfl, trivial⟩, ⟨rfl, rfl, rfl, rfl, trivial⟩⟩
      | true =>
      rw [if_neg (by simp)]
      (conv => whnf)
      refine ⟨Y.string, Y.int, .string, ⟨mapU.1, mapU.2, trivial, mapE_keys _ _⟩, ?_⟩
      (conv => whnf)
      refine find_is (r := none) (by rw [find_map, if_pos (by omega)]) ?_
      (conv => whnf)
      refine ⟨⟨by decide, by simp⟩, ?_⟩
      (conv => whnf)
      refine ⟨⟨by decide, by simp⟩, ?_⟩
      (conv => whnf)
      refine idx_and (xs := [x, y, z, lo, hi].map fun w => (numOf w).1) (x := (numOf lo).1) (by decide) rfl ?_
      (conv => whnf)
      refine idx_and (xs := [x, y, z, lo, hi].map fun w => (numOf w).1) (x := (numOf hi).1) (by decide) rfl ?_
      (conv => whnf)
      refine ⟨⟨by simp; omega, by simp; omega⟩, ?_⟩
      (conv => whnf)
      (conv => whnf)
      refine retO [] ?_
      (conv => whnf)
      refine ⟨[(5, 2), (4, 5)], ⟨rfl, trivial⟩, ⟨rfl, rows_eq ?_, rfl, ?_, trivial⟩⟩
      · rw [List.map_append]; rfl
      · rw [mapE_app, Nat.zero_add, List.length_map]; rfl
end Go.Proofs.YtafglmjadbplcaaGreatDoor

/- Reading robots: statement, Read. -/
namespace Go.Proofs.YtafglmjadbplcaaGreatDoor
open Eng
set_option maxRecDepth 10000
attribute [local irreducible] FnOk loopW idxF retX arrF findF

abbrev StA (s : Stmt) : SV := .agg [.dv (.int .i64 s.line), .dv (.str s.word), .dv (.lst 1 (s.args.map encA))]
def readSt (r : Robot) (s : Stmt) : Int × Robot :=
  if s.word = wJoint then if argsB s.word s.args.length = false then (702, r) else ((readJ r.joints s.args).1, ⟨(readJ r.joints s.args).2, r.masses⟩)
  else if s.word = wLimit then if argsB s.word s.args.length = false then (702, r) else ((readL r.joints s.args).1, ⟨(readL r.joints s.args).2, r.masses⟩)
  else if s.word = wMass then if argsB s.word s.args.length = false then (702, r) else ((readM r.joints r.masses s.args).1, ⟨r.joints, (readM r.joints r.masses s.args).2⟩)
  else (0, r)
theorem args_joint {n : Nat} (h : argsB wJoint n = true) : n = 9 := by
  have e : countsOf wJoint = some ⟨9, 9, 1⟩ := rfl
  rw [argsB, e] at h
  simp [allowB] at h
  omega
theorem args_limit {n : Nat} (h : argsB wLimit n = true) : n = 4 := by
  have e : countsOf wLimit = some ⟨4, 4, 1⟩ := rfl
  rw [argsB, e] at h
  simp [allowB] at h
  omega
theorem args_mass {n : Nat} (h : argsB wMass n = true) : n = 5 := by
  have e : countsOf wMass = some ⟨5, 5, 1⟩ := rfl
  rw [argsB, e] at h
  simp [allowB] at h
  omega
def stOk (s : Stmt) : Prop := ∀ w ∈ s.args, w.size ≤ 4611686018427387904
theorem robot_statement (r : Robot) (s : Stmt) (hr : r.joints.length ≤ 1000000000) (hm : r.masses.length ≤ 1000000000) (hs : stOk s) : FnOk Tryz.prog F.robot_reader_statement [.one (.vptr 0 0), StA s] (mRd r) 4 (I (readSt r s).1) (mRd' (readSt r s).2) 6 := by
  refine fnOk tab mix G.robot_reader_statement rfl rfl (by kernel_rfl) rfl rfl ?_
  (conv => whnf)
  refine ask_m (fun h1 => ?_) (fun h1 => ?_)
  · have h1 : s.word = wJoint := of_decide_eq_true h1
    rw [readSt, if_pos h1, h1]
    (conv => whnf)
    refine call_i (syntax_Arguments wJoint ((s.args.map encA).length)) ?_
    (conv => whnf)
    rw [List.length_map]
    cases ha : argsB wJoint s.args.length with
    | false =>
      (conv => whnf)
      (conv => whnf)
      refine retO [] ?_
      (conv => whnf)
      exact ⟨[(4, 1), (5, 2)], ⟨rfl, trivial⟩, ⟨rfl, rfl, rfl, rfl, trivial⟩⟩
    | true =>
      obtain ⟨n, k, p, x, y, z, lo, hi, w, e⟩ := len9 (args_joint ha)
      rw [e]
      (conv => whnf)
      refine call_i (robot_joint_ r n k p x y z lo hi w hr (fun w hw => hs w (by rw [e]; simp only [List.mem_cons, List.not_mem_nil, or_false] at hw ⊢; rcases hw with h | h | h | h | h <;> simp [h]))) ?_
      (conv => whnf)
      (conv => whnf)
      refine retO [] ?_
      (conv => whnf)
      exact ⟨[(4, 5), (5, 6)], ⟨rfl, trivial⟩, ⟨rfl, rfl, rfl, rfl, trivial⟩⟩
  have h1 : ¬ s.word = wJoint := of_decide_eq_false h1
  rw [readSt, if_neg h1]
  (conv => whnf)
  refine ask_m (fun h2 => ?_) (fun h2 => ?_)
  · have h2 : s.word = wLimit := of_decide_eq_true h2
    rw [if_pos h2, h2]
    (conv => whnf)
    refine call_i (syntax_Arguments wLimit ((s.args.map encA).length)) ?_
    (conv => whnf)
    rw [List.length_map]
    cases ha : argsB wLimit s.args.length with
    | false =>
      (conv => whnf)
      (conv => whnf)
      refine retO [] ?_
      (conv => whnf)
      exact ⟨[(4, 1), (5, 2)], ⟨rfl, trivial⟩, ⟨rfl, rfl, rfl, rfl, trivial⟩⟩
    | true =>
      obtain ⟨n, a, b, c, e⟩ := len4 (args_limit ha)
      rw [e]
      (conv => whnf)
      refine call_i (robot_limit_ r n a b c hr) ?_
      (conv => whnf)
      (conv => whnf)
      refine retO [] ?_
      (conv => whnf)
      exact ⟨[(4, 5), (5, 6)], ⟨rfl, trivial⟩, ⟨rfl, rfl, rfl, rfl, trivial⟩⟩
  have h2 : ¬ s.word = wLimit := of_decide_eq_false h2
  rw [if_neg h2]
  (conv => whnf)
  refine ask_m (fun h3 => ?_) (fun h3 => ?_)
  · have h3 : s.word = wMass := of_decide_eq_true h3
    rw [if_pos h3, h3]
    (conv => whnf)
    refine call_i (syntax_Arguments wMass ((s.args.map encA).length)) ?_
    (conv => whnf)
    rw [List.length_map]
    cases ha : argsB wMass s.args.length with
    | false =>
      (conv => whnf)
      (conv => whnf)
      refine retO [] ?_
      (conv => whnf)
      exact ⟨[(4, 1), (5, 2)], ⟨rfl, trivial⟩, ⟨rfl, rfl, rfl, rfl, trivial⟩⟩
    | true =>
      obtain ⟨n, m, x, y, z, e⟩ := len5 (args_mass ha)
      rw [e]
      (conv => whnf)
      refine call_i (robot_mass_ r n m x y z hr hm (fun w hw => hs w (by rw [e]; exact List.mem_cons_of_mem _ hw))) ?_
      (conv => whnf)
      (conv => whnf)
      refine retO [] ?_
      (conv => whnf)
      exact ⟨[(4, 5), (5, 6)], ⟨rfl, trivial⟩, ⟨rfl, rfl, rfl, rfl, trivial⟩⟩
  have h3 : ¬ s.word = wMass := of_decide_eq_false h3
  rw [if_neg h3]
  (conv => whnf)
  (conv => whnf)
  refine retO [] ?_
  (conv => whnf)
  exact ⟨[(4, 1), (5, 2)], ⟨rfl, trivial⟩, ⟨rfl, rfl, rfl, rfl, trivial⟩⟩
def emptyR : Robot := ⟨[], []⟩
def readAll : Robot → List Stmt → Robot × Int × Int
  | r, [] => (r, 0, 0)
  | r, s :: l => if (readSt r s).1 = 0 then readAll (readSt r s).2 l else (emptyR, (readSt r s).1, s.line)
def readRobot (l : List Stmt) : Robot × Int × Int :=
  if (readAll emptyR l).2.1 ≠ 0 then readAll emptyR l
  else if checkRobot (readAll emptyR l).1 ≠ 0 then (emptyR, checkRobot (readAll emptyR l).1, 0)
  else ((readAll emptyR l).1, 0, 0)
theorem readSt_len (r : Robot) (s : Stmt) : (readSt r s).2.joints.length ≤ r.joints.length + 1 ∧ (readSt r s).2.masses.length ≤ r.masses.length + 1 := by
  have hJ : ∀ a, (readJ r.joints a).2.length ≤ r.joints.length + 1 := fun a => by
    unfold readJ
    repeat' split
    all_goals simp
  have hL : ∀ a, (readL r.joints a).2.length ≤ r.joints.length + 1 := fun a => by
    unfold readL
    repeat' split
    all_goals first | (simp only [modJ_len]; omega) | simp
  have hM : ∀ a, (readM r.joints r.masses a).2.length ≤ r.masses.length + 1 := fun a => by
    unfold readM
    repeat' split
    all_goals simp
  unfold readSt
  repeat' split
  all_goals first
    | exact ⟨hJ _, Nat.le_succ _⟩
    | exact ⟨hL _, Nat.le_succ _⟩
    | exact ⟨Nat.le_succ _, hM _⟩
    | exact ⟨Nat.le_succ _, Nat.le_succ _⟩
abbrev RdR (q : Robot × Int × Int) : SV := .tup [(true, [.dv (dJs q.1.joints), .dv (dMs q.1.masses)]), (true, [.dv (.int .i64 q.2.1), .dv (.int .i64 q.2.2)])]
theorem robot_Read (l : List Stmt) (hl : l.length ≤ 10000000) (hs : ∀ s ∈ l, stOk s) : FnOk Tryz.prog F.robot_Read [.one (.dv (dSts l))] [] 0 (RdR (readRobot l)) [] 0 := by
  refine fnOk tab mix G.robot_Read rfl rfl (by kernel_rfl) rfl rfl ?_
  (conv => whnf)
  refine loop_intro (fun p : Nat × Robot => ⟨[(0, .one (.dv (dSts l))), (2, .one (.vptr 0 0)), (3, .one (.vptr 1 0)), (4, .one (.vptr 2 0)), (11, .one (.dv (dSts l))), (12, I l.length), (13, I p.1)], [(0, .vars Y.Robot [.nil 12, .nil 5]), (1, .vars Y.SourceError [.dv (.int .i64 0), .dv (.int .i64 0)]), (2, .vars Y.robot_reader [.row 4, .row 5, .row 3]), (3, .mp (mapE p.2.joints 0)), (4, .rows Y.Joint 12 (p.2.joints.map encJ)), (5, .rows Y.Mass 5 (p.2.masses.map encM))], 6⟩) (fun p => p.1 ≤ l.length ∧ p.2.joints.length ≤ p.1 ∧ p.2.masses.length ≤ p.1 ∧ readAll p.2 (l.drop p.1) = readAll emptyR l) (fun p => l.length - p.1) [.ownC 3 0 Y.Joint 12, .ownC 3 1 Y.Mass 5] (0, emptyR) [(2, 3), (3, 2)] ⟨Nat.zero_le _, Nat.zero_le _, Nat.zero_le _, rfl⟩ ⟨⟨rfl, rfl, rfl, rfl, rfl, eqI (by simp), rfl, trivial⟩, ⟨rfl, rfl, rfl, rfl, rfl, rfl, trivial⟩⟩ ?_
  rintro ⟨k, r⟩ ⟨hk, hj, hm, hall⟩
  simp only at hk hj hm hall
  have hkk : IntKind.i64.wrap ((k : Int) + 1) = ((k + 1 : Nat) : Int) := by rw [w64] <;> omega
  (conv => whnf)
  refine ask_m (fun hlt => ?_) (fun hlt => ?_)
  · have hlt : k < l.length := by have := of_decide_eq_true hlt; omega
    obtain ⟨s, hsk⟩ : ∃ s, l[k]? = some s := ⟨_, List.getElem?_eq_getElem hlt⟩
    rw [drop_cons hsk, readAll] at hall
    have hlen := readSt_len r s
    (conv => whnf)
    refine idx_and (by omega) (by simpa using hsk) ?_
    (conv => whnf)
    refine call_i (robot_statement r s (by omega) (by omega) (hs s (List.mem_of_getElem? hsk))) ?_
    (conv => whnf)
    refine ask_m (fun he => ?_) (fun he => ?_)
    · have he : ¬ (readSt r s).1 = 0 := by simpa using he
      rw [if_neg he] at hall
      rw [readRobot, ← hall, if_pos he]
      (conv => whnf)
      refine retO [.ownC 0 0 Y.Joint 12, .ownC 0 1 Y.Mass 5, .frz 9, .frz 10] ?_
      (conv => whnf)
      exact ⟨[], ⟨rfl, trivial⟩, trivial⟩
    · have he : (readSt r s).1 = 0 := by simpa using he
      rw [if_pos he] at hall
      (conv => whnf)
      exact ⟨(k + 1, (readSt r s).2), [(4, 7), (5, 8)], ⟨hlt, by simp only; omega, by simp only; omega, hall⟩, by simp only; omega, ⟨⟨rfl, rfl, rfl, rfl, rfl, rfl, eqI hkk, trivial⟩, ⟨rfl, rfl, rfl, rfl, rfl, rfl, trivial⟩⟩⟩
  · have hk : k = l.length := by have := of_decide_eq_false hlt; omega
    subst hk
    rw [List.drop_length, readAll] at hall
    rw [readRobot, ← hall, if_neg (by simp)]
    (conv => whnf)
    refine call_i (robot_Check r (by omega) (by omega)) ?_
    (conv => whnf)
    refine ⟨⟨trivial, trivial⟩, ?_⟩
    (conv => whnf)
    refine ask_m (fun he => ?_) (fun he => ?_)
    · have he : ¬ checkRobot r = 0 := by simpa using he
      rw [if_pos he]
      (conv => whnf)
      refine retO [.ownC 0 0 Y.Joint 12, .ownC 0 1 Y.Mass 5, .frz 6, .frz 7] ?_
      (conv => whnf)
      exact ⟨[], ⟨rfl, trivial⟩, trivial⟩
    · have he : checkRobot r = 0 := by simpa using he
      rw [if_neg (by simp [he])]
      (conv => whnf)
      refine retO [.frz 4, .frz 5] ?_
      (conv => whnf)
      exact ⟨[], ⟨rfl, trivial⟩, trivial⟩
end Go.Proofs.YtafglmjadbplcaaGreatDoor

/- Decimal texts as numbers. -/
namespace Go.Proofs.YtafglmjadbplcaaGreatDoor
open Eng
set_option maxRecDepth 10000

theorem decB_dig (k n : Nat) : allDig (decB k n) k = true := by
  rw [allDig_iff]
  intro i hi
  rw [decB_byte n k i hi]
  have h : ∀ d, d < 10 → digitB (48 + (d : Nat)) = true := by decide
  exact h _ (Nat.mod_lt _ (by decide))
theorem decB_val (k n : Nat) : ∀ i, i ≤ k → dval (decB k n) i = (n / 10 ^ (k - i) % 10 ^ i : Nat)
  | 0, _ => by simp [dval, Nat.mod_one]
  | i + 1, h => by
    rw [dval, decB_val k n i (by omega), decB_byte n k i (by omega)]
    have e1 : n / 10 ^ (k - i) = n / 10 ^ (k - (i + 1)) / 10 := by
      rw [Nat.div_div_eq_div_mul, ← Nat.pow_succ, show (k - (i + 1)).succ = k - i by omega]
    rw [e1, show k - 1 - i = k - (i + 1) by omega]
    generalize n / 10 ^ (k - (i + 1)) = A
    have h1 : A % 10 ^ (i + 1) = (A / 10 % 10 ^ i) * 10 + A % 10 := by
      rw [Nat.pow_succ, Nat.mul_comm (10 ^ i) 10, Nat.mod_mul]; omega
    rw [h1]; omega
theorem dlen_ex {n k m : Nat} (hn : n < 10 ^ m) (hk : k ≤ m) : ∃ j, j ≤ m ∧ n / 10 ^ j = 0 ∧ k ≤ j ∧ ∀ i, i < j → ¬ (n / 10 ^ i = 0 ∧ k ≤ i) := by
  have key : ∀ d j, m - j = d → j ≤ m → (∀ i, i < j → ¬ (n / 10 ^ i = 0 ∧ k ≤ i)) → ∃ j, j ≤ m ∧ n / 10 ^ j = 0 ∧ k ≤ j ∧ ∀ i, i < j → ¬ (n / 10 ^ i = 0 ∧ k ≤ i) := by
    intro d
    induction d with
    | zero =>
      intro j h1 h2 h3
      obtain rfl : j = m := by omega
      exact ⟨j, Nat.le_refl _, Nat.div_eq_of_lt hn, hk, h3⟩
    | succ d ih =>
      intro j h1 h2 h3
      by_cases h : n / 10 ^ j = 0 ∧ k ≤ j
      · exact ⟨j, h2, h.1, h.2, h3⟩
      · exact ih (j + 1) (by omega) (by omega) fun i hi => by
          rcases Nat.lt_or_ge i j with h' | h'
          · exact h3 i h'
          · obtain rfl : i = j := by omega
            exact h
  exact key _ 0 rfl (Nat.zero_le _) fun i hi => by omega
theorem lt_of_div {n j : Nat} (h : n / 10 ^ j = 0) : n < 10 ^ j := by
  rcases Nat.lt_or_ge n (10 ^ j) with h' | h'
  · exact h'
  · have := Nat.div_pos h' (Nat.pow_pos (by decide)); omega
/-- the number of a decimal text with a point -/
theorem numOf_point {j n w f : Nat} (hj1 : 1 ≤ j) (hj5 : j ≤ 5) (hw : w / 10 ^ j = 0) (hn1 : 1 ≤ n) (hn6 : n ≤ 6) (hf : f < 10 ^ n) :
    numOf ((decB j w ++ ⟨#[46]⟩) ++ decB n f) = if 2147483648 < ((w * 1000000 + f * 10 ^ (6 - n)) * 65536 + 500000 : Int) / 1000000 then (0, false) else (((w * 1000000 + f * 10 ^ (6 - n)) * 65536 + 500000 : Int) / 1000000, true) := by
  have hw' := lt_of_div hw
  have s1 : (decB j w).size = j := decB_size j w
  have s2 : (decB n f).size = n := decB_size n f
  have s3 : (decB j w ++ ⟨#[46]⟩).size = j + 1 := by rw [ByteArray.size_append, s1]; rfl
  have s4 : ((decB j w ++ ⟨#[46]⟩) ++ decB n f).size = j + 1 + n := by rw [ByteArray.size_append, s3, s2]
  have b1 : ∀ i, i < j → byteAt ((decB j w ++ ⟨#[46]⟩) ++ decB n f) i = byteAt (decB j w) i := fun i hi => by
    rw [byteAt_app, if_pos (by omega), byteAt_app, if_pos (by omega)]
  have b2 : byteAt ((decB j w ++ ⟨#[46]⟩) ++ decB n f) j = 46 := by
    rw [byteAt_app, if_pos (by omega), byteAt_app, if_neg (by omega), s1, Nat.sub_self]; rfl
  have e : ((decB j w ++ ⟨#[46]⟩) ++ decB n f).extract (j + 1) ((decB j w ++ ⟨#[46]⟩) ++ decB n f).size = decB n f := by
    refine ByteArray.ext_getElem (by rw [ByteArray.size_extract, s4, s2]; omega) fun i hi hi' => ?_
    rw [ByteArray.getElem_extract, ByteArray.getElem_append_right (by omega)]
    congr 1; omega
  generalize (decB j w ++ ⟨#[46]⟩) ++ decB n f = t at *
  have d1 : allDig t j = true := by
    rw [allDig_iff]
    intro i hi
    rw [b1 i hi]; exact allDig_iff.1 (decB_dig j w) i hi
  have v1 : dval t j = w := by
    have : ∀ i, i ≤ j → dval t i = dval (decB j w) i := by
      intro i
      induction i with
      | zero => intro _; rfl
      | succ i ih => intro h; rw [dval, dval, ih (by omega), b1 i (by omega)]
    rw [this j (Nat.le_refl _), decB_val j w j (Nat.le_refl _), Nat.sub_self, Nat.pow_zero, Nat.div_one, Nat.mod_eq_of_lt hw']
  have v2 : dval (decB n f) n = f := by rw [decB_val n f n (Nat.le_refl _), Nat.sub_self, Nat.pow_zero, Nat.div_one, Nat.mod_eq_of_lt hf]
  have hh : headB t 45 = false := by
    have := digit_bd (allDig_iff.1 d1 0 (by omega))
    simp only [headB, Bool.and_eq_false_iff, decide_eq_false_iff_not]
    right
    show ¬ byteAt t 0 = 45
    omega
  have hp := numN_point (t := t) (j := j) (by omega) d1 b2 hj1 hj5
  rw [e, s2, v1, v2, if_neg (by rw [digOk_mk (by omega) (by omega) (by rw [s2]; exact decB_dig n f)]; simp)] at hp
  rw [numOf, tailB, hh, if_neg (by simp), hp]
  simp
end Go.Proofs.YtafglmjadbplcaaGreatDoor

/- Numerals. No program in sight. -/
namespace Go.Proofs.YtafglmjadbplcaaGreatDoor
open Eng
set_option maxRecDepth 100000

/- numerals -/
theorem nd_dl : ∀ f u, u < 10 ^ (f + 1) → dl (f + 1) u 1 = Lib.nDigits u
  | 0, u, h => by
    have : u < 10 := by simpa using h
    rw [Lib.nDigits, dif_pos this, dl, if_neg (by omega)]; rfl
  | f + 1, u, h => by
    rw [Lib.nDigits, dl, if_neg (by omega)]
    split
    · rename_i h10
      rw [Nat.div_eq_of_lt h10, dl, if_pos (by omega)]
    · rename_i h10
      have ih := nd_dl f (u / 10) (by rw [Nat.pow_succ] at h; omega)
      rw [← ih, dl, dl, if_neg (by omega), if_neg (by omega)]
theorem nd_dl20 {u : Nat} (h : u ≤ 9223372036854775807) : dl 20 u 1 = Lib.nDigits u := nd_dl 19 u (Nat.lt_of_le_of_lt h (by decide))
theorem txt_eq' {s t : ByteArray} (hs : s.size = t.size) (h : ∀ i, i < s.size → byteAt s i = byteAt t i) : s = t := by
  refine ByteArray.ext_getElem hs fun i hi hi' => ?_
  have := h i hi
  rw [byteAt_get hi, byteAt_get hi'] at this
  exact UInt8.toNat_inj.1 (Int.ofNat.inj this)
def itT (n : Int) : ByteArray := ⟨(Lib.itoa n).toArray⟩
theorem itT_dec {u : Nat} (h : u ≤ 9223372036854775807) : itT (u : Int) = decT u 1 := by
  have hd : (decT u 1).size = Lib.nDigits u := by rw [decT, decB_size, nd_dl20 h]
  have hs : (itT (u : Int)).size = Lib.nDigits u := by
    rw [itT, Lib.itoa_nonneg]
    show (Lib.decDigits u).toArray.size = _
    rw [List.size_toArray, Lib.decDigits_length]
  refine txt_eq' (hs.trans hd.symm) fun i hi => ?_
  rw [hs] at hi
  have e1 : byteAt (decT u 1) i = 48 + ((u / 10 ^ (Lib.nDigits u - 1 - i) % 10 : Nat) : Int) := by rw [decT, nd_dl20 h, decB_byte _ _ _ hi]
  rw [e1, byteAt_get (by omega)]
  have e2 : (itT (u : Int))[i]'(by omega) = Lib.dg u (Lib.nDigits u - 1 - i) := by
    have : (Lib.decDigits u)[i]'(by rw [Lib.decDigits_length]; exact hi) = Lib.dg u (Lib.nDigits u - 1 - i) := by
      simp [Lib.decDigits_eq]
    rw [← this]
    simp only [itT, Lib.itoa_nonneg]
    rfl
  rw [e2, Lib.dg]
  have : u / 10 ^ (Lib.nDigits u - 1 - i) % 10 < 10 := Nat.mod_lt _ (by decide)
  simp only [UInt8.toNat_ofNat']
  omega
theorem dl_at {n k j : Nat} (hn : n ≤ 9223372036854775807) (hk : k ≤ 20) (h0 : n / 10 ^ j = 0) (h1 : k ≤ j) (h2 : ∀ i, i < j → ¬ (n / 10 ^ i = 0 ∧ k ≤ i)) : dl 20 n k = j := by
  obtain ⟨a, b, c, d⟩ := dl20 hn hk
  rcases Nat.lt_trichotomy (dl 20 n k) j with h | h | h
  · exact absurd ⟨a, b⟩ (h2 _ h)
  · exact h
  · exact absurd ⟨h0, h1⟩ (d j h)
theorem dec5 {v : Nat} (h : v ≤ 99999) : decT v 5 = decB 5 v := by
  rw [decT, dl_at (j := 5) (by omega) (by decide) (Nat.div_eq_of_lt (by show v < 100000; omega)) (by decide) (fun i hi h => by omega)]
theorem dec6 {v : Nat} (h : v ≤ 99999) : decT (100000 + v) 1 = dig 1 ++ decB 5 v := by
  have e : dl 20 (100000 + v) 1 = 6 := dl_at (by omega) (by decide) (Nat.div_eq_of_lt (by show _ < 1000000; omega)) (by decide) fun i hi hh => by
    have : i = 1 ∨ i = 2 ∨ i = 3 ∨ i = 4 ∨ i = 5 := by omega
    obtain ⟨h1, _⟩ := hh
    rcases this with rfl | rfl | rfl | rfl | rfl
    · have : (100000 + v) / 10 = 0 := h1
      omega
    · have : (100000 + v) / 100 = 0 := h1
      omega
    · have : (100000 + v) / 1000 = 0 := h1
      omega
    · have : (100000 + v) / 10000 = 0 := h1
      omega
    · have : (100000 + v) / 100000 = 0 := h1
      omega
  have d5 : (100000 + v) / 10 ^ 5 % 10 = 1 := by show (100000 + v) / 100000 % 10 = 1; omega
  have d4 : (100000 + v) / 10 ^ 4 % 10 = v / 10 ^ 4 % 10 := by show (100000 + v) / 10000 % 10 = v / 10000 % 10; omega
  have d3 : (100000 + v) / 10 ^ 3 % 10 = v / 10 ^ 3 % 10 := by show (100000 + v) / 1000 % 10 = v / 1000 % 10; omega
  have d2 : (100000 + v) / 10 ^ 2 % 10 = v / 10 ^ 2 % 10 := by show (100000 + v) / 100 % 10 = v / 100 % 10; omega
  have d1 : (100000 + v) / 10 ^ 1 % 10 = v / 10 ^ 1 % 10 := by show (100000 + v) / 10 % 10 = v / 10 % 10; omega
  have d0 : (100000 + v) / 10 ^ 0 % 10 = v / 10 ^ 0 % 10 := by show (100000 + v) / 1 % 10 = v / 1 % 10; omega
  rw [decT, e]
  simp only [decB, d5, d4, d3, d2, d1, d0]
theorem tail6 {v : Nat} (h : v ≤ 99999) : (decT (100000 + v) 1).extract 1 (decT (100000 + v) 1).size = decT v 5 := by
  rw [dec5 h, dec6 h]
  have s1 : (dig 1).size = 1 := by decide
  have s2 : (decB 5 v).size = 5 := decB_size 5 v
  refine ByteArray.ext_getElem (by rw [ByteArray.size_extract, ByteArray.size_append]; omega) fun i hi hi' => ?_
  rw [ByteArray.getElem_extract, ByteArray.getElem_append_right (by omega)]
  congr 1; omega

end Go.Proofs.YtafglmjadbplcaaGreatDoor

/- The number of a formatted text. No program in sight. -/
namespace Go.Proofs.YtafglmjadbplcaaGreatDoor
open Eng
set_option maxRecDepth 10000

theorem dec_ext (k v m : Nat) (h : m ≤ k) : (decB k v).extract 0 m = decB m (v / 10 ^ (k - m)) := by
  have s1 : (decB k v).size = k := decB_size k v
  have s2 : ((decB k v).extract 0 m).size = m := by rw [ByteArray.size_extract]; omega
  refine txt_eq' (s2.trans (decB_size m _).symm) fun i hi => ?_
  rw [s2] at hi
  rw [ext_byte (by omega) hi, decB_byte v k i (by omega), decB_byte _ m i hi, Nat.div_div_eq_div_mul, ← Nat.pow_add, show k - m + (m - 1 - i) = k - 1 - i by omega]
theorem trimN_zero (t : ByteArray) : ∀ n i, trimN t n ≤ i → i < n → byteAt t i = 48
  | 0, i, _, h => by omega
  | n + 1, i, h1, h2 => by
    rw [trimN] at h1
    split at h1
    · rename_i h
      rcases Nat.lt_or_ge i n with h3 | h3
      · exact trimN_zero t n i h1 h3
      · have : i = n := by omega
        subst this; exact h
    · omega
theorem frac_dec {v : Nat} (h1 : 1 ≤ v) (h2 : v ≤ 99999) : ∃ m u, 1 ≤ m ∧ m ≤ 5 ∧ (decT v 5).extract 0 (trimN (decT v 5) (decT v 5).size) = decB m u ∧ u * 10 ^ (5 - m) = v := by
  rw [dec5 h2, decB_size]
  have hm := trimN_le (decB 5 v) 5
  have hz := trimN_zero (decB 5 v) 5
  generalize trimN (decB 5 v) 5 = m at *
  have hq : v % 10 ^ (5 - m) = 0 := digs_zero v _ fun i hi => by
    have := hz (4 - i) (by omega) (by omega)
    rw [decB_byte v 5 _ (by omega), show 5 - 1 - (4 - i) = i by omega] at this
    omega
  refine ⟨m, v / 10 ^ (5 - m), ?_, hm, dec_ext 5 v m hm, ?_⟩
  · rcases Nat.eq_zero_or_pos m with rfl | h
    · have : v % 100000 = 0 := hq
      omega
    · exact h
  · exact Nat.div_mul_cancel (Nat.dvd_of_mod_eq_zero hq)
theorem num_fmtS {a : Nat} (ha : a ≤ 2147483648) : numOf (fmtS ByteArray.empty a) = ((a : Int), true) ∧ headB (fmtS ByteArray.empty a) 45 = false := by
  obtain ⟨b1, b2, b3, b4⟩ := dl20 (n := a / 65536) (k := 1) (by omega) (by omega)
  have hj5 : dl 20 (a / 65536) 1 ≤ 5 := by
    rcases Nat.lt_or_ge 5 (dl 20 (a / 65536) 1) with h | h
    · exact absurd ⟨Nat.div_eq_of_lt (by show _ < 100000; omega), by decide⟩ (b4 5 h)
    · exact h
  have hd : decT (a / 65536) 1 = decB (dl 20 (a / 65536) 1) (a / 65536) := rfl
  unfold fmtS
  rw [hd]
  generalize dl 20 (a / 65536) 1 = j at *
  have hhead : ∀ t : ByteArray, byteAt t 0 = byteAt (decB j (a / 65536)) 0 → headB t 45 = false := fun t ht => by
    rw [decB_byte _ j 0 (by omega)] at ht
    simp only [headB, Bool.and_eq_false_iff, decide_eq_false_iff_not]
    right
    show ¬ byteAt t 0 = 45
    omega
  split
  · rename_i h0
    rw [ByteArray.empty_append]
    have hall := decB_dig j (a / 65536)
    have hn := numN_whole (t := decB j (a / 65536)) (by rw [decB_size]; exact hall) (by rw [decB_size]; omega) (by rw [decB_size]; omega)
    rw [decB_size, decB_val j (a / 65536) j (Nat.le_refl _), Nat.sub_self, Nat.pow_zero, Nat.div_one, Nat.mod_eq_of_lt (lt_of_div b1)] at hn
    have hh := hhead _ rfl
    refine ⟨?_, hh⟩
    rw [numOf, tailB, hh, if_neg (by simp), hn]
    simp only
    rw [if_neg (by omega)]
    simp; omega
  · rename_i h0
    obtain ⟨m, u, m1, m5, e, hu⟩ := frac_dec (v := (2 * (a % 65536) * 100000 + 65536) / 131072) (by omega) (by omega)
    rw [fracT, e, ByteArray.empty_append]
    have hlt : u < 10 ^ m := by
      have h5 : (10 : Nat) ^ m * 10 ^ (5 - m) = 100000 := by rw [← Nat.pow_add, show m + (5 - m) = 5 by omega]
      have hp : 0 < (10 : Nat) ^ (5 - m) := Nat.pow_pos (by decide)
      refine Nat.lt_of_mul_lt_mul_right (a := 10 ^ (5 - m)) ?_
      rw [h5, hu]; omega
    have hp := numOf_point (j := j) (n := m) (w := a / 65536) (f := u) b2 hj5 b1 m1 (by omega) hlt
    have h6 : u * 10 ^ (6 - m) = (2 * (a % 65536) * 100000 + 65536) / 131072 * 10 := by rw [show 6 - m = (5 - m) + 1 by omega, Nat.pow_succ, ← Nat.mul_assoc, hu]
    have h7 : ((u : Int) * 10 ^ (6 - m)) = (((2 * (a % 65536) * 100000 + 65536) / 131072 * 10 : Nat) : Int) := by exact_mod_cast h6
    have hr : ((((a / 65536 : Nat) : Int) * 1000000 + (u : Int) * 10 ^ (6 - m)) * 65536 + 500000) / 1000000 = (a : Int) := by
      rw [h7]; omega
    rw [hr, if_neg (by omega)] at hp
    refine ⟨hp, hhead _ ?_⟩
    rw [byteAt_app, if_pos (by rw [ByteArray.size_append, decB_size]; omega), byteAt_app, if_pos (by rw [decB_size]; omega)]
theorem fmtS_app (s : ByteArray) (a : Nat) : fmtS s a = s ++ fmtS ByteArray.empty a := by
  unfold fmtS
  split
  · rw [ByteArray.empty_append]
  · rw [ByteArray.empty_append, ByteArray.append_assoc, ByteArray.append_assoc, ByteArray.append_assoc]
theorem num_neg {t : ByteArray} {v : Int} (h : numOf t = (v, true)) (hh : headB t 45 = false) : numOf (minusT ++ t) = (-v, true) := by
  have hb : headB (minusT ++ t) 45 = true := by
    simp only [headB, Bool.and_eq_true, decide_eq_true_eq]
    refine ⟨by rw [ByteArray.size_append]; show 1 ≤ 1 + _; omega, ?_⟩
    rw [byteAt_app, if_pos (by decide)]; rfl
  have ht : tailB (minusT ++ t) 45 = t := by
    rw [tailB, hb, if_pos rfl]
    refine ByteArray.ext_getElem (by rw [ByteArray.size_extract, ByteArray.size_append]; have : minusT.size = 1 := rfl; omega) fun i hi hi' => ?_
    rw [ByteArray.getElem_extract, ByteArray.getElem_append_right (by show 1 ≤ _; omega)]
    congr 1
    show 1 + i - 1 = i
    omega
  have hn : numN t = some v ∧ ¬ 2147483648 < v := by
    rw [numOf, tailB, hh, if_neg (by simp)] at h
    cases hq : numN t with
    | none => rw [hq] at h; cases h
    | some u =>
      rw [hq] at h
      simp only at h
      split at h
      · cases h
      · rename_i hu
        simp at h
        subst h
        exact ⟨rfl, hu⟩
  rw [numOf, ht, hn.1, hb]
  simp only
  rw [if_neg hn.2]; simp
/-- what is formatted is read again -/
theorem num_fmt (n : Int) : numOf (fmtT n) = (clampI n, true) := by
  have hb : -2147483648 ≤ clampI n ∧ clampI n ≤ 2147483648 := by unfold clampI; omega
  rw [fmtT]
  generalize clampI n = x at *
  obtain ⟨h1, h2⟩ := num_fmtS (a := x.natAbs) (by omega)
  split
  · rename_i h
    rw [fmtS_app, num_neg h1 h2]
    congr 1; omega
  · rename_i h
    rw [h1]
    congr 1; omega
end Go.Proofs.YtafglmjadbplcaaGreatDoor

/- law8: a written robot is read again. No program in sight. -/
namespace Go.Proofs.YtafglmjadbplcaaGreatDoor
open Eng
set_option maxRecDepth 10000

theorem find_take (nm : ByteArray) : ∀ (js : List Joint) (m b : Nat), find (js.take m) nm b = if 0 ≤ find js nm b ∧ find js nm b < b + m then find js nm b else -1
  | [], m, b => by
    rw [List.take_nil, find, if_neg (by omega)]
  | j :: js, 0, b => by
    have := find_bd (j :: js) nm b
    rw [List.take_zero, if_neg (by omega)]; rfl
  | j :: js, m + 1, b => by
    rw [List.take_succ_cons, find, find]
    split
    · rw [if_pos (by omega)]
    · rw [find_take nm js m (b + 1)]
      have e : ((b + 1 : Nat) : Int) + m = b + (m + 1 : Nat) := by omega
      rw [e]
theorem find_app (nm : ByteArray) : ∀ (a b : List Joint) (n : Nat), find (a ++ b) nm n = if 0 ≤ find a nm n then find a nm n else find b nm (n + a.length)
  | [], b, n => by
    rw [List.nil_append, find, if_neg (by decide)]; rfl
  | j :: a, b, n => by
    rw [List.cons_append, find, find]
    split
    · rw [if_pos (by omega)]
    · rw [find_app nm a b (n + 1), List.length_cons, show n + 1 + a.length = n + (a.length + 1) by omega]
theorem modJ_last (f : Joint → Joint) (x : Joint) : ∀ a : List Joint, modJ (a ++ [x]) a.length f = a ++ [f x]
  | [] => rfl
  | j :: a => by
    rw [List.cons_append, List.length_cons, modJ, modJ_last f x a]; rfl
theorem int_dec {w : Nat} (h : w < 1000000000000000) : intOf (decT w 1) = ((w : Int), true) := by
  obtain ⟨b1, b2, b3, b4⟩ := dl20 (n := w) (k := 1) (by omega) (by omega)
  have hj : dl 20 w 1 ≤ 15 := by
    rcases Nat.lt_or_ge 15 (dl 20 w 1) with h' | h'
    · exact absurd ⟨Nat.div_eq_of_lt (by show w < 1000000000000000; exact h), by decide⟩ (b4 15 h')
    · exact h'
  rw [show decT w 1 = decB (dl 20 w 1) w from rfl]
  generalize dl 20 w 1 = j at *
  have hh : headB (decB j w) 45 = false := by
    simp only [headB, Bool.and_eq_false_iff, decide_eq_false_iff_not]
    right
    show ¬ byteAt (decB j w) 0 = 45
    rw [decB_byte _ j 0 (by omega)]
    omega
  have hd : digOk (decB j w) 15 = true := digOk_mk (by rw [decB_size]; omega) (by rw [decB_size]; omega) (by rw [decB_size]; exact decB_dig j w)
  have hv : digV (decB j w) 15 = (w : Int) := by
    rw [digV, hd, if_pos rfl, decB_size, decB_val j w j (Nat.le_refl _), Nat.sub_self, Nat.pow_zero, Nat.div_one, Nat.mod_eq_of_lt (lt_of_div b1)]
  rw [intOf, tailB, hh, if_neg (by simp), if_neg (by simp), hd, hv]
theorem kind_name {k : Int} (h0 : 0 ≤ k) (h6 : k ≤ 6) : kindI (kindN k) = k := by
  obtain ⟨n, rfl⟩ : ∃ n : Nat, k = n := ⟨k.toNat, by omega⟩
  have : ∀ n : Nat, n < 7 → kindI (kindN n) = (n : Int) := by decide
  exact this n (by omega)
theorem clamp_in {x m : Int} (hm : m ≤ 2147483648) (h : -m ≤ x ∧ x ≤ m) : clampI x = x := by unfold clampI; omega
structure JF (js : List Joint) (k : Nat) (j : Joint) : Prop where
  name : nameOk j.name = true
  find : find js j.name 0 = k
  kind : 0 ≤ j.kind ∧ j.kind ≤ 6
  par : -1 ≤ j.parent ∧ j.parent < k
  off : clampI j.off.x = j.off.x ∧ clampI j.off.y = j.off.y ∧ clampI j.off.z = j.off.z
  lim : clampI j.lo = j.lo ∧ clampI j.hi = j.hi
  lims : (1 ≤ j.weight ∧ j.weight ≤ 1024) ∧ (1 ≤ j.speed ∧ j.speed ≤ 1048576) ∧ (1 ≤ j.accel ∧ j.accel ≤ 1048576) ∧ (1 ≤ j.torque ∧ j.torque ≤ 1099511627776)
theorem inV_in {v : Vec} (h : inV v 4194304 = true) : clampI v.x = v.x ∧ clampI v.y = v.y ∧ clampI v.z = v.z := by
  simp only [inV, Bool.and_eq_true, decide_eq_true_eq] at h
  unfold clampI; omega
theorem reach_le (k : Int) : reach k ≤ 4194304 := by
  unfold reach
  repeat' split
  all_goals decide
theorem jf_of {js : List Joint} {k : Nat} {j : Joint} (h : jointErr js k j = 0) : JF js k j := by
  unfold jointErr at h
  split at h
  · exact absurd h (by decide)
  rename_i c1
  split at h
  · exact absurd h (by decide)
  rename_i c2
  split at h
  · exact absurd h (by decide)
  rename_i c3
  split at h
  · exact absurd h (by decide)
  rename_i c4
  split at h
  · exact absurd h (by decide)
  rename_i c5
  split at h
  · exact absurd h (by decide)
  rename_i c6
  have c4 : inV j.off 4194304 = true := by simpa using c4
  have hr := reach_le j.kind
  have c6 : from1 j.weight 1024 = true ∧ from1 j.speed 1048576 = true ∧ from1 j.accel 1048576 = true ∧ from1 j.torque 1099511627776 = true := by simpa using c6
  obtain ⟨w1, w2, w3, w4⟩ := c6
  exact ⟨by cases hn : nameOk j.name with
    | true => rfl
    | false => exact absurd (.inl hn) c1, Classical.byContradiction fun hn => c1 (.inr hn), by omega, by omega, inV_in c4, by unfold clampI; omega, from1_bd w1, from1_bd w2, from1_bd w3, from1_bd w4⟩
theorem link_read {js : List Joint} {k : Nat} {p : Int} (hf : ∀ (i : Nat) j, js[i]? = some j → JF js i j) (h1 : -1 ≤ p) (h2 : p < k) (hk : k ≤ js.length) :
    (p = -1 ∧ linkN js p = worldT) ∨ (linkN js p ≠ worldT ∧ find (js.take k) (linkN js p) 0 = p) := by
  rcases Int.lt_or_le p 0 with h | h
  · have : p = -1 := by omega
    subst this
    exact .inl ⟨rfl, by rw [linkN, if_pos rfl]⟩
  · right
    obtain ⟨i, rfl⟩ : ∃ i : Nat, p = i := ⟨p.toNat, by omega⟩
    obtain ⟨j, hj⟩ : ∃ j, js[i]? = some j := ⟨_, List.getElem?_eq_getElem (by omega)⟩
    have F := hf i j hj
    have e : linkN js (i : Int) = j.name := by
      rw [linkN, if_neg (by omega), Int.toNat_natCast, hj]
    rw [e]
    refine ⟨fun hw => ?_, ?_⟩
    · have := F.name
      rw [hw] at this
      revert this; decide
    · rw [find_take, F.find, if_pos (by omega)]
def base (j : Joint) : Joint := { j with speed := 65536, accel := 65536, torque := 65536 }
theorem step_joint {js : List Joint} (hf : ∀ (i : Nat) j, js[i]? = some j → JF js i j) {k : Nat} {j : Joint} (hk : js[k]? = some j) (ms : List Mass) (ln : Int) :
    readSt ⟨js.take k, ms⟩ ⟨ln, (jB js j)[0]!.1, (jB js j)[0]!.2⟩ = (0, ⟨js.take k ++ [base j], ms⟩) := by
  have F := hf k j hk
  have hkl : k < js.length := (List.getElem?_eq_some_iff.1 hk).1
  have hnf : find (js.take k) j.name 0 = -1 := by rw [find_take, F.find, if_neg (by omega)]
  obtain ⟨w1, w2, w3, w4⟩ := F.lims
  obtain ⟨o1, o2, o3⟩ := F.off
  obtain ⟨l1, l2⟩ := F.lim
  have hw : intOf (decT j.weight.toNat 1) = (j.weight, true) := by rw [int_dec (by omega)]; congr 1; omega
  show readSt ⟨js.take k, ms⟩ ⟨ln, wJoint, [j.name, kindN j.kind, linkN js j.parent, fmtT j.off.x, fmtT j.off.y, fmtT j.off.z, fmtT j.lo, fmtT j.hi, decT j.weight.toNat 1]⟩ = _
  rw [readSt, if_pos rfl, if_neg (by show ¬ argsB wJoint 9 = false; decide)]
  have hp : ¬ (linkN js j.parent ≠ worldT ∧ find (js.take k) (linkN js j.parent) 0 < 0) ∧ (if linkN js j.parent = worldT then -1 else find (js.take k) (linkN js j.parent) 0) = j.parent := by
    rcases link_read hf F.par.1 F.par.2 (by omega) with ⟨h1, h2⟩ | ⟨h1, h2⟩
    · rw [h2]; exact ⟨fun h => h.1 rfl, by rw [if_pos rfl, h1]⟩
    · rw [h2]
      refine ⟨fun h => ?_, by rw [if_neg h1]⟩
      have hp0 : 0 ≤ j.parent := by
        rcases Int.lt_or_le j.parent 0 with h' | h'
        · have : j.parent = -1 := by have := F.par.1; omega
          exact absurd (by rw [this, linkN, if_pos rfl]) h1
        · exact h'
      omega
  have hr : readJ (js.take k) [j.name, kindN j.kind, linkN js j.parent, fmtT j.off.x, fmtT j.off.y, fmtT j.off.z, fmtT j.lo, fmtT j.hi, decT j.weight.toNat 1] = (0, js.take k ++ [base j]) := by
    rw [readJ, if_neg (by rw [hnf, F.name]; simp), kind_name F.kind.1 F.kind.2, if_neg (by have := F.kind.1; omega), if_neg hp.1, if_neg (by simp [num_fmt, hw]), hp.2]
    simp only [num_fmt, hw, o1, o2, o3, l1, l2]
    rfl
  rw [hr]
theorem step_limit {js : List Joint} (hf : ∀ (i : Nat) j, js[i]? = some j → JF js i j) {k : Nat} {j : Joint} (hk : js[k]? = some j) (ms : List Mass) (ln : Int) :
    readSt ⟨js.take k ++ [base j], ms⟩ ⟨ln, (jB js j)[1]!.1, (jB js j)[1]!.2⟩ = (0, ⟨js.take (k + 1), ms⟩) := by
  have F := hf k j hk
  have hkl : k < js.length := (List.getElem?_eq_some_iff.1 hk).1
  have hl : (js.take k).length = k := by rw [List.length_take]; omega
  have hnf : find (js.take k ++ [base j]) j.name 0 = k := by
    rw [find_app, find_take, F.find, if_neg (by omega), hl, find, if_pos (show (base j).name = j.name from rfl)]; simp
  obtain ⟨w1, w2, w3, w4⟩ := F.lims
  have h2 : intOf (decT j.speed.toNat 1) = (j.speed, true) := by rw [int_dec (by omega)]; congr 1; omega
  have h3 : intOf (decT j.accel.toNat 1) = (j.accel, true) := by rw [int_dec (by omega)]; congr 1; omega
  have h4 : intOf (decT j.torque.toNat 1) = (j.torque, true) := by rw [int_dec (by omega)]; congr 1; omega
  show readSt ⟨js.take k ++ [base j], ms⟩ ⟨ln, wLimit, [j.name, decT j.speed.toNat 1, decT j.accel.toNat 1, decT j.torque.toNat 1]⟩ = _
  rw [readSt, if_neg (by show ¬ wLimit = wJoint; decide), if_pos rfl, if_neg (by show ¬ argsB wLimit 4 = false; decide)]
  have hr : readL (js.take k ++ [base j]) [j.name, decT j.speed.toNat 1, decT j.accel.toNat 1, decT j.torque.toNat 1] = (0, js.take (k + 1)) := by
    rw [readL, hnf, if_neg (by omega), if_neg (by simp [h2, h3, h4]), Int.toNat_natCast]
    have e : modJ (js.take k ++ [base j]) k (limF (decT j.speed.toNat 1) (decT j.accel.toNat 1) (decT j.torque.toNat 1)) = js.take k ++ [limF (decT j.speed.toNat 1) (decT j.accel.toNat 1) (decT j.torque.toNat 1) (base j)] := by
      have := modJ_last (limF (decT j.speed.toNat 1) (decT j.accel.toNat 1) (decT j.torque.toNat 1)) (base j) (js.take k)
      rw [hl] at this; exact this
    rw [e, List.take_add_one, hk]
    have e2 : limF (decT j.speed.toNat 1) (decT j.accel.toNat 1) (decT j.torque.toNat 1) (base j) = j := by
      simp only [limF, base, h2, h3, h4]
    rw [e2]; rfl
  rw [hr]
theorem step_mass {js : List Joint} (hf : ∀ (i : Nat) j, js[i]? = some j → JF js i j) {m : Mass} (hm : massOk js.length m = true) (ms : List Mass) (ln : Int) :
    readSt ⟨js, ms⟩ ⟨ln, (mB js m).1, (mB js m).2⟩ = (0, ⟨js, ms ++ [m]⟩) := by
  simp only [massOk, Bool.and_eq_true, decide_eq_true_eq] at hm
  obtain ⟨⟨⟨m1, m2⟩, m3⟩, m4⟩ := hm
  have m3 := from1_bd m3
  obtain ⟨o1, o2, o3⟩ := inV_in m4
  have o4 : clampI m.mass = m.mass := by unfold clampI; omega
  have hl := link_read hf (k := js.length) (p := m.link) (by omega) m2 (Nat.le_refl _)
  rw [List.take_length] at hl
  have hn : find js (linkN js m.link) 0 = m.link := by
    rcases hl with ⟨h, _⟩ | ⟨_, h⟩
    · omega
    · exact h
  show readSt ⟨js, ms⟩ ⟨ln, wMass, [linkN js m.link, fmtT m.mass, fmtT m.point.x, fmtT m.point.y, fmtT m.point.z]⟩ = _
  rw [readSt, if_neg (by show ¬ wMass = wJoint; decide), if_neg (by show ¬ wMass = wLimit; decide), if_pos rfl, if_neg (by show ¬ argsB wMass 5 = false; decide)]
  have hr : readM js ms [linkN js m.link, fmtT m.mass, fmtT m.point.x, fmtT m.point.y, fmtT m.point.z] = (0, ms ++ [m]) := by
    rw [readM, hn, if_neg (by omega), if_neg (by simp [num_fmt])]
    simp only [num_fmt, o1, o2, o3, o4]
  rw [hr]
theorem read_joints {js : List Joint} (hf : ∀ (i : Nat) j, js[i]? = some j → JF js i j) (l : List (ByteArray × List ByteArray)) : ∀ d k n, k + d = js.length → ∃ n', readAll ⟨js.take k, []⟩ (numb n ((js.drop k).flatMap (jB js) ++ l)) = readAll ⟨js, []⟩ (numb n' l)
  | 0, k, n, h => ⟨n, by
    have : k = js.length := by omega
    subst this
    rw [List.drop_length, List.take_length]; rfl⟩
  | d + 1, k, n, h => by
    obtain ⟨j, hj⟩ : ∃ j, js[k]? = some j := ⟨_, List.getElem?_eq_getElem (by omega)⟩
    obtain ⟨n', ih⟩ := read_joints hf l d (k + 1) (n + 1 + 1) (by omega)
    refine ⟨n', ?_⟩
    rw [drop_cons hj, List.flatMap_cons, List.append_assoc]
    have e1 := step_joint hf hj [] ((n : Int) + 1)
    have e2 := step_limit hf hj [] (((n + 1 : Nat) : Int) + 1)
    show readAll ⟨js.take k, []⟩ (⟨(n : Int) + 1, (jB js j)[0]!.1, (jB js j)[0]!.2⟩ :: ⟨((n + 1 : Nat) : Int) + 1, (jB js j)[1]!.1, (jB js j)[1]!.2⟩ :: numb (n + 1 + 1) ((js.drop (k + 1)).flatMap (jB js) ++ l)) = _
    rw [readAll, e1]
    simp only [if_true]
    rw [readAll, e2]
    simp only [if_true]
    exact ih
theorem read_masses {js : List Joint} (hf : ∀ (i : Nat) j, js[i]? = some j → JF js i j) : ∀ (l2 l1 : List Mass) (n : Nat), (∀ m ∈ l2, massOk js.length m = true) → readAll ⟨js, l1⟩ (numb n (l2.map (mB js))) = (⟨js, l1 ++ l2⟩, 0, 0)
  | [], l1, n, _ => by rw [List.append_nil]; rfl
  | m :: l2, l1, n, h => by
    have e1 := step_mass hf (h m (by simp)) l1 ((n : Int) + 1)
    show readAll ⟨js, l1⟩ (⟨(n : Int) + 1, (mB js m).1, (mB js m).2⟩ :: numb (n + 1) (l2.map (mB js))) = _
    rw [readAll, e1]
    simp only [if_true]
    rw [read_masses hf l2 (l1 ++ [m]) (n + 1) fun x hx => h x (by simp [hx]), List.append_assoc]; rfl
theorem jointsErr_at {js : List Joint} : ∀ {l : List Joint} {i : Nat}, jointsErr js i l = 0 → ∀ (k : Nat) (j : Joint), l[k]? = some j → jointErr js (i + k) j = 0
  | [], _, _, k, j, hj => by simp at hj
  | x :: l, i, h, k, j, hj => by
    rw [jointsErr] at h
    split at h
    · rename_i h0
      cases k with
      | zero => simp at hj; subst hj; exact h0
      | succ k =>
        have := jointsErr_at h k j (by simpa using hj)
        rw [← this]; congr 1; omega
    · rename_i h0; exact absurd h h0
/-- what is written is read again -/
theorem read_write {r : Robot} (h : checkRobot r = 0) : readRobot (writeRobot r) = (r, 0, 0) := by
  have h' := h
  unfold checkRobot at h'
  split at h'
  · contradiction
  split at h'
  · contradiction
  rename_i c1 c2
  have c2 : jointsErr r.joints 0 r.joints = 0 := Classical.byContradiction c2
  have hf : ∀ (i : Nat) j, r.joints[i]? = some j → JF r.joints i j := fun i j hj => jf_of (by simpa using jointsErr_at c2 i j hj)
  obtain ⟨_, _, _, f4⟩ := robot_facts h
  obtain ⟨n', hn⟩ := read_joints hf (r.masses.map (mB r.joints)) r.joints.length 0 0 (by omega)
  rw [List.drop_zero, List.take_zero, read_masses hf r.masses [] n' f4, List.nil_append] at hn
  have hn : readAll emptyR (writeRobot r) = (r, 0, 0) := by rw [writeRobot, if_pos h, robB]; exact hn
  rw [readRobot, hn, if_neg (by simp), if_neg (by simp [h])]
end Go.Proofs.YtafglmjadbplcaaGreatDoor

/- Carriers; what valid robots are. No program in sight. -/
namespace Go.Proofs.YtafglmjadbplcaaGreatDoor
open Eng
set_option maxRecDepth 10000

def carStep (acc : List Int) (j : Joint) : List Int := acc ++ [if j.lo = j.hi then acc.getD (j.parent + 1).toNat 0 else (acc.length : Int) - 1]
/-- who carries each link: the world's -1 first -/
def carriers (js : List Joint) : List Int := js.foldl carStep [-1]
theorem car_len (js : List Joint) : (carriers js).length = js.length + 1 := by
  have h : ∀ (js : List Joint) (acc : List Int), (js.foldl carStep acc).length = acc.length + js.length := by
    intro js
    induction js with
    | nil => intro acc; simp
    | cons j js ih => intro acc; rw [List.foldl_cons, ih]; simp [carStep]; omega
  rw [carriers, h]; simp; omega
theorem car_take {js : List Joint} {k : Nat} {j : Joint} (h : js[k]? = some j) : carriers (js.take (k + 1)) = carStep (carriers (js.take k)) j := by
  rw [List.take_add_one, h, carriers, List.foldl_append]; rfl
def downOk (js : List Joint) : Prop := ∀ (k : Nat) (j : Joint), js[k]? = some j → -1 ≤ j.parent ∧ j.parent < (k : Int)
theorem row_set {c rest : List Int} {v w : Int} {k : Nat} (h : c.length = k) : ((c ++ v :: rest).map encI).set k (encI w) = (c ++ w :: rest).map encI := by
  rw [← List.map_set]; subst h; simp
theorem jerr_at {js : List Joint} : ∀ {l : List Joint} {i k : Nat} {j : Joint}, jointsErr js i l = 0 → l[k]? = some j → jointErr js (i + k) j = 0
  | [], _, _, _, _, h => by simp at h
  | x :: l, i, 0, j, h, hj => by
    simp at hj; subst hj
    rw [jointsErr] at h
    split at h
    · assumption
    · contradiction
  | x :: l, i, k + 1, j, h, hj => by
    rw [jointsErr] at h
    split at h
    · have := jerr_at (i := i + 1) (k := k) h (by simpa using hj)
      rw [← this]; congr 1; omega
    · contradiction
theorem robot_good {r : Robot} (h : checkRobot r = 0) : r.joints.length ≤ 10 ∧ 0 < r.joints.length ∧ downOk r.joints := by
  unfold checkRobot at h
  split at h
  · contradiction
  rename_i h1
  split at h
  · contradiction
  rename_i h2
  simp only [ne_eq, Decidable.not_not] at h2
  refine ⟨by omega, by omega, fun k j hj => ?_⟩
  have := jerr_at h2 hj
  rw [Nat.zero_add] at this
  unfold jointErr at this
  (repeat' split at this) <;> first | contradiction | omega
end Go.Proofs.YtafglmjadbplcaaGreatDoor

/- Robots: the chains of joints, and which links carry which. No program in sight. -/
namespace Go.Proofs.YtafglmjadbplcaaGreatDoor
open Eng
set_option maxRecDepth 10000

def chainN (js : List Joint) : Nat → Int → List Int
  | 0, _ => []
  | f + 1, k => if k < 0 then [] else match js[k.toNat]? with
    | none => []
    | some j => chainN js f j.parent ++ [k]
/-- the joints from the world to a link -/
def chain (js : List Joint) (k : Int) : List Int := chainN js (k + 1).toNat k
theorem chainN_neg (js : List Joint) {f : Nat} {k : Int} (h : k < 0) : chainN js f k = [] := by
  cases f with
  | zero => rfl
  | succ f => rw [chainN, if_pos h]
theorem chainN_fuel {js : List Joint} (hd : downOk js) : ∀ (f g : Nat) (k : Int), (k + 1).toNat ≤ f → (k + 1).toNat ≤ g → chainN js f k = chainN js g k
  | 0, g, k, h1, _ => by rw [chainN_neg js (by omega), chainN_neg js (by omega)]
  | f + 1, 0, k, _, h2 => by rw [chainN_neg js (by omega), chainN_neg js (by omega)]
  | f + 1, g + 1, k, h1, h2 => by
    rw [chainN, chainN]
    split
    · rfl
    · cases hj : js[k.toNat]? with
      | none => rfl
      | some j =>
        have := hd _ j hj
        simp only
        rw [chainN_fuel hd f g j.parent (by omega) (by omega)]
theorem chain_neg (js : List Joint) {k : Int} (h : k < 0) : chain js k = [] := chainN_neg js h
theorem chain_step {js : List Joint} (hd : downOk js) {k : Nat} {j : Joint} (hj : js[k]? = some j) : chain js k = chain js j.parent ++ [(k : Int)] := by
  have := hd k j hj
  rw [chain, show ((k : Int) + 1).toNat = k + 1 by omega, chainN, if_neg (by omega), Int.toNat_natCast, hj]
  simp only
  rw [chain, chainN_fuel hd k (j.parent + 1).toNat j.parent (by omega) (Nat.le_refl _)]
theorem link_ind {js : List Joint} (hd : downOk js) {C : Int → Prop} (h0 : C (-1)) (hs : ∀ (k : Nat) (j : Joint), js[k]? = some j → C j.parent → C k) : ∀ (k : Int), -1 ≤ k → k < js.length → C k := by
  have : ∀ (n : Nat) (k : Int), (k + 1).toNat ≤ n → -1 ≤ k → k < js.length → C k := by
    intro n
    induction n with
    | zero =>
      intro k h1 h2 _
      have : k = -1 := by omega
      subst this; exact h0
    | succ n ih =>
      intro k h1 h2 h3
      by_cases hk : k = -1
      · subst hk; exact h0
      · obtain ⟨m, rfl⟩ : ∃ m : Nat, k = m := ⟨k.toNat, by omega⟩
        obtain ⟨j, hj⟩ : ∃ j, js[m]? = some j := ⟨_, List.getElem?_eq_getElem (by omega)⟩
        have := hd m j hj
        exact hs m j hj (ih j.parent (by omega) (by omega) (by omega))
  intro k h1 h2
  exact this _ k (Nat.le_refl _) h1 h2
theorem chain_in {js : List Joint} (hd : downOk js) : ∀ (k : Int), -1 ≤ k → k < js.length → (∀ x ∈ chain js k, 0 ≤ x ∧ x ≤ k) ∧ (chain js k).Nodup ∧ (chain js k).length ≤ (k + 1).toNat := by
  refine link_ind hd ?_ ?_
  · rw [chain_neg js (by omega)]; simp
  · intro k j hj ⟨h1, h2, h3⟩
    have hp := hd k j hj
    rw [chain_step hd hj]
    refine ⟨fun x hx => ?_, ?_, ?_⟩
    · rcases List.mem_append.1 hx with hx | hx
      · have := h1 x hx; omega
      · simp only [List.mem_singleton] at hx; omega
    · rw [List.nodup_append]
      refine ⟨h2, by simp, fun x hx y hy => ?_⟩
      simp only [List.mem_singleton] at hy
      have := h1 x hx
      omega
    · rw [List.length_append]; simp; omega

/- carriers -/
def car (js : List Joint) (k : Int) : Int := (carriers js).getD (k + 1).toNat 0
theorem car_prefix (js : List Joint) (acc : List Int) : ∃ rest, js.foldl carStep acc = acc ++ rest := by
  induction js generalizing acc with
  | nil => exact ⟨[], by simp⟩
  | cons j js ih =>
    obtain ⟨rest, h⟩ := ih (carStep acc j)
    exact ⟨_, by rw [List.foldl_cons, h, carStep, List.append_assoc]⟩
theorem car_split (js : List Joint) (k : Nat) : ∃ rest, carriers js = carriers (js.take k) ++ rest := by
  obtain ⟨rest, h⟩ := car_prefix (js.drop k) (carriers (js.take k))
  refine ⟨rest, ?_⟩
  rw [← h, carriers, carriers, ← List.foldl_append, List.take_append_drop]
theorem car_world (js : List Joint) : car js (-1) = -1 := by
  obtain ⟨rest, h⟩ := car_split js 0
  rw [car, h]
  simp [carriers]
theorem car_step {js : List Joint} (hd : downOk js) {k : Nat} {j : Joint} (hj : js[k]? = some j) : car js k = if j.lo = j.hi then car js j.parent else k := by
  have hp := hd k j hj
  have hk : k < js.length := (List.getElem?_eq_some_iff.1 hj).1
  obtain ⟨r1, h1⟩ := car_split js (k + 1)
  have h2 := car_take hj
  have hl : (carriers (js.take k)).length = k + 1 := by rw [car_len, List.length_take]; omega
  rw [carStep, hl] at h2
  rw [h2] at h1
  have ha : (carriers js)[(k : Int).toNat + 1]? = some (if j.lo = j.hi then (carriers (js.take k)).getD (j.parent + 1).toNat 0 else ((k + 1 : Nat) : Int) - 1) := by
    rw [h1, List.append_assoc, List.getElem?_append_right (by omega)]
    simp [hl]
  have hb : (carriers js)[(j.parent + 1).toNat]? = (carriers (js.take k))[(j.parent + 1).toNat]? := by
    rw [h1, List.append_assoc, List.getElem?_append_left (by omega)]
  have hc : car js j.parent = (carriers (js.take k)).getD (j.parent + 1).toNat 0 := by
    rw [car, List.getD_eq_getElem?_getD, hb, List.getD_eq_getElem?_getD]
  rw [hc, car, List.getD_eq_getElem?_getD, show ((k : Int) + 1).toNat = (k : Int).toNat + 1 by omega, ha, Option.getD_some]
  split
  · rfl
  · omega
/-- the joint can move -/
def mov (js : List Joint) (x : Int) : Bool := match js[x.toNat]? with
  | some j => decide (j.lo ≠ j.hi)
  | none => false
theorem mov_at {js : List Joint} {k : Nat} {j : Joint} (hj : js[k]? = some j) : mov js k = decide (j.lo ≠ j.hi) := by
  rw [mov, Int.toNat_natCast, hj]
theorem car_chain {js : List Joint} (hd : downOk js) : ∀ (k : Int), -1 ≤ k → k < js.length →
    (∀ x, mov js x = true → (x ∈ chain js k ↔ x ∈ chain js (car js k))) ∧ (car js k = -1 ∨ (car js k ∈ chain js k ∧ mov js (car js k) = true)) ∧ (∀ x ∈ chain js k, mov js x = true → x ≤ car js k) := by
  refine link_ind hd ?_ ?_
  · rw [car_world]
    refine ⟨fun _ _ => Iff.rfl, .inl rfl, fun x hx => ?_⟩
    rw [chain_neg js (by omega)] at hx; cases hx
  · intro k j hj ⟨h1, h2, h3⟩
    rw [car_step hd hj]
    have hm := mov_at hj
    by_cases hs : j.lo = j.hi
    · rw [if_pos hs]
      have hm0 : mov js k = false := by rw [hm]; simp [hs]
      have hiff : ∀ x, mov js x = true → (x ∈ chain js k ↔ x ∈ chain js j.parent) := fun x hx => by
        rw [chain_step hd hj, List.mem_append, List.mem_singleton]
        constructor
        · rintro (h | h)
          · exact h
          · subst h; rw [hm0] at hx; cases hx
        · exact .inl
      refine ⟨fun x hx => (hiff x hx).trans (h1 x hx), ?_, fun x hx hmx => h3 x ((hiff x hmx).1 hx) hmx⟩
      rcases h2 with h2 | ⟨h2, h4⟩
      · exact .inl h2
      · exact .inr ⟨(hiff _ h4).2 h2, h4⟩
    · rw [if_neg hs]
      refine ⟨fun _ _ => Iff.rfl, .inr ⟨?_, by rw [hm]; simp [hs]⟩, fun x hx _ => ?_⟩
      · rw [chain_step hd hj]; simp
      · have hk : k < js.length := (List.getElem?_eq_some_iff.1 hj).1
        exact ((chain_in hd k (by omega) (by omega)).1 x hx).2
/-- the joints of exactly one of two chains -/
def btw (js : List Joint) (a b : Int) : List Nat := (List.range 10).filter fun i => decide ((chain js a).count (i : Int) + (chain js b).count (i : Int) = 1)
def rigid (js : List Joint) (a b : Int) : Bool := !(btw js a b).any fun i => mov js i
theorem count_in {l : List Int} (h : l.Nodup) (x : Int) : l.count x = if x ∈ l then 1 else 0 := by
  split
  · rename_i hx
    have h1 := List.nodup_iff_count.1 h x
    have h2 := List.count_pos_iff.2 hx
    omega
  · rename_i hx; exact List.count_eq_zero.2 hx
theorem rigid_iff {js : List Joint} (hl : js.length ≤ 10) (hd : downOk js) {a b : Int} (ha : -1 ≤ a) (ha' : a < js.length) (hb : -1 ≤ b) (hb' : b < js.length) : rigid js a b = decide (car js a = car js b) := by
  obtain ⟨a1, a2, _⟩ := chain_in hd a ha ha'
  obtain ⟨b1, b2, _⟩ := chain_in hd b hb hb'
  obtain ⟨a4, a5, a6⟩ := car_chain hd a ha ha'
  obtain ⟨b4, b5, b6⟩ := car_chain hd b hb hb'
  have key : rigid js a b = true ↔ ∀ x, mov js x = true → (x ∈ chain js a ↔ x ∈ chain js b) := by
    simp only [rigid, Bool.not_eq_true', List.any_eq_false, btw, List.mem_filter, List.mem_range, decide_eq_true_eq, and_imp]
    constructor
    · intro h x hx
      by_cases hxa : x ∈ chain js a
      · by_cases hxb : x ∈ chain js b
        · exact ⟨fun _ => hxb, fun _ => hxa⟩
        · have := a1 x hxa
          refine absurd hx ?_
          have := h x.toNat (by omega) (by rw [show ((x.toNat : Nat) : Int) = x by omega, count_in a2, count_in b2, if_pos hxa, if_neg hxb])
          rwa [show ((x.toNat : Nat) : Int) = x by omega] at this
      · by_cases hxb : x ∈ chain js b
        · have := b1 x hxb
          refine absurd hx ?_
          have := h x.toNat (by omega) (by rw [show ((x.toNat : Nat) : Int) = x by omega, count_in a2, count_in b2, if_neg hxa, if_pos hxb])
          rwa [show ((x.toNat : Nat) : Int) = x by omega] at this
        · exact ⟨fun h => absurd h hxa, fun h => absurd h hxb⟩
    · intro h i _ hc hm
      have := h i hm
      rw [count_in a2, count_in b2] at hc
      by_cases hxa : (i : Int) ∈ chain js a
      · rw [if_pos hxa, if_pos (this.1 hxa)] at hc; omega
      · rw [if_neg hxa, if_neg (fun h => hxa (this.2 h))] at hc; omega
  have key2 : (∀ x, mov js x = true → (x ∈ chain js a ↔ x ∈ chain js b)) ↔ car js a = car js b := by
    constructor
    · intro h
      rcases a5 with a5 | ⟨a5, a7⟩
      · rcases b5 with b5 | ⟨b5, b7⟩
        · rw [a5, b5]
        · have h1 := (h _ b7).2 b5
          have h2 := a6 _ h1 b7
          have h3 := a1 _ h1
          omega
      · have h1 := b6 _ ((h _ a7).1 a5) a7
        have h3 := a1 _ a5
        rcases b5 with b5 | ⟨b5, b7⟩
        · omega
        · have h2 := a6 _ ((h _ b7).2 b5) b7
          omega
    · intro h x hx
      rw [a4 x hx, b4 x hx, h]
  rw [Bool.eq_iff_iff, key, key2, decide_eq_true_eq]
end Go.Proofs.YtafglmjadbplcaaGreatDoor

/- Robots: chains, the joints between two links, rigidity: the walks. -/
namespace Go.Proofs.YtafglmjadbplcaaGreatDoor
open Eng
set_option maxRecDepth 10000
attribute [local irreducible] FnOk loopW idxF retX arrF

abbrev bIs (l : List Int) : Box := .rows 3 1 (l.map encI)
/-- the robot is valid and has the links -/
def hasB (r : Robot) (ks : List Int) : Bool := ks.all (linkOk r.joints.length) && decide (checkRobot r = 0)
/- the count of each joint in the chains -/
def cnt (l : List Int) (i : Nat) : Int := ((l.count (i : Int) : Nat) : Int)
theorem cnt_bd (l : List Int) (i : Nat) : 0 ≤ cnt l i ∧ cnt l i ≤ l.length := by
  have := List.count_le_length (a := (i : Int)) (l := l)
  unfold cnt; omega
abbrev arr10 (c : Nat → Int) : List CV := [.dv (.int .i64 (c 0)), .dv (.int .i64 (c 1)), .dv (.int .i64 (c 2)), .dv (.int .i64 (c 3)), .dv (.int .i64 (c 4)), .dv (.int .i64 (c 5)), .dv (.int .i64 (c 6)), .dv (.int .i64 (c 7)), .dv (.int .i64 (c 8)), .dv (.int .i64 (c 9))]
theorem lt10 {k : Nat} (h : k < 10) : k = 0 ∨ k = 1 ∨ k = 2 ∨ k = 3 ∨ k = 4 ∨ k = 5 ∨ k = 6 ∨ k = 7 ∨ k = 8 ∨ k = 9 := by omega
theorem cnt_snoc {l : List Int} {k i : Nat} (h : l[k]? = some (i : Int)) (j : Nat) : cnt (l.take (k + 1)) j = cnt (l.take k) j + if j = i then 1 else 0 := by
  unfold cnt
  rw [List.take_add_one, h, Option.toList_some, List.count_append, List.count_singleton]
  by_cases h : j = i
  · subst h; simp
  · have : ¬ (i : Int) = (j : Int) := by omega
    simp [h, this]
theorem cnt_app (l l' : List Int) (j : Nat) : cnt (l ++ l') j = cnt l j + cnt l' j := by unfold cnt; rw [List.count_append]; omega
theorem arr10_at (c : Nat → Int) {k : Nat} (h : k < 10) : (arr10 c)[k]? = some (.dv (.int .i64 (c k))) := by
  rcases lt10 h with rfl | rfl | rfl | rfl | rfl | rfl | rfl | rfl | rfl | rfl <;> rfl
/-- the first joint that can move -/
def movAt (js : List Joint) : List Nat → Nat → Int
  | [], _ => -1
  | x :: xs, k => if mov js x then k else movAt js xs (k + 1)
theorem movAt_any (js : List Joint) : ∀ (xs : List Nat) (k : Nat), decide (0 ≤ movAt js xs k) = xs.any fun i => mov js i
  | [], k => by simp [movAt]
  | x :: xs, k => by
    unfold movAt
    split
    · rename_i h; simp [h]
    · rename_i h; rw [movAt_any js xs (k + 1)]; simp [h]
def encN (n : Nat) : List DV := [.int .i64 (n : Int)]
abbrev Ln (xs : List Nat) : SV := .one (.dv (.lst 1 (xs.map encN)))
end Go.Proofs.YtafglmjadbplcaaGreatDoor

/- mk.SameRobot and what it calls. -/
namespace Go.Proofs.YtafglmjadbplcaaGreatDoor
open Eng
set_option maxRecDepth 10000
attribute [local irreducible] FnOk loopW idxF retX arrF

deriving instance DecidableEq for Joint
deriving instance DecidableEq for Mass
deriving instance DecidableEq for Shape
deriving instance DecidableEq for Robot
deriving instance DecidableEq for Scene
theorem cmp_mk_Same_Mass : cmpB Tryz.prog 8 Y.Mass = true ∧ Tryz.prog.eqGuardType Tryz.prog.depth Y.Mass = false := ⟨by kernel_rfl, by kernel_rfl⟩
theorem mk_Same_Mass (a b : List Mass) (ha : a.length ≤ 4611686018427387904) (hb : b.length ≤ 4611686018427387904) : FnOk Tryz.prog F.mk_Same_api_Mass [.one (.dv (.lst 5 (a.map encM))), .one (.dv (.lst 5 (b.map encM)))] [] 0 (Bo (decide (a = b))) [] 0 := by
  refine fnOk tab mix G.mk_Same_api_Mass rfl rfl (by kernel_rfl) rfl rfl ?_
  (conv => whnf)
  refine ask_m (fun h => ?_) (fun h => ?_)
  · (conv => whnf)
    refine ret0 ?_
    refine ret_b (Eq.symm (decide_eq_false ?_)) rfl
    rintro rfl
    simp at h
  have hl : a.length = b.length := by simp at h; omega
  (conv => whnf)
  refine loop_intro (fun k : Nat => ⟨[(0, .one (.dv (.lst 5 (a.map encM)))), (1, .one (.dv (.lst 5 (b.map encM)))), (5, I k)], [], 0⟩) (fun k => k ≤ a.length ∧ a.take k = b.take k) (fun k => a.length - k) [] 0 [] ⟨Nat.zero_le _, rfl⟩ ⟨⟨rfl, rfl, rfl, trivial⟩, trivial⟩ ?_
  rintro k ⟨hk, hall⟩
  (conv => whnf)
  refine ask_m (fun h => ?_) (fun h => ?_)
  · have hlt : k < a.length := by simpa using h
    obtain ⟨x, hx⟩ : ∃ j, a[k]? = some j := ⟨_, List.getElem?_eq_getElem hlt⟩
    obtain ⟨y, hy⟩ : ∃ j, b[k]? = some j := ⟨_, List.getElem?_eq_getElem (by omega)⟩
    have hkk : IntKind.i64.wrap ((k : Int) + 1) = ((k + 1 : Nat) : Int) := by rw [w64] <;> omega
    (conv => whnf)
    refine idx_and (by omega) (by simpa using hx) ?_
    (conv => whnf)
    refine idx_and (by omega) (by simpa using hy) ?_
    (conv => whnf)
    refine ⟨cmp_mk_Same_Mass, ?_⟩
    (conv => whnf)
    refine ask_m (fun h => ?_) (fun h => ?_)
    · (conv => whnf)
      refine ret0 ?_
      refine ret_b (Eq.symm (decide_eq_false (ne_at hx hy ?_))) rfl
      rintro rfl
      simp at h
    · skip
      have e : x = y := by
        obtain ⟨a1, a2, ⟨a3, a4, a5⟩⟩ := x
        obtain ⟨b1, b2, ⟨b3, b4, b5⟩⟩ := y
        simp at h; simp [h]
      subst e
      (conv => whnf)
      exact ⟨k + 1, [], ⟨hlt, take_same hall hx hy⟩, by omega, ⟨⟨rfl, rfl, eqI hkk, trivial⟩, trivial⟩⟩
  · have hk : k = a.length := by simp at h; omega
    subst hk
    rw [List.take_length, hl, List.take_length] at hall
    (conv => whnf)
    refine ret0 ?_
    exact ret_b (decide_eq_true hall).symm rfl
theorem cmp_mk_Same_Joint : cmpB Tryz.prog 8 Y.Joint = true ∧ Tryz.prog.eqGuardType Tryz.prog.depth Y.Joint = false := ⟨by kernel_rfl, by kernel_rfl⟩
theorem mk_Same_Joint (a b : List Joint) (ha : a.length ≤ 4611686018427387904) (hb : b.length ≤ 4611686018427387904) : FnOk Tryz.prog F.mk_Same_api_Joint [.one (.dv (.lst 12 (a.map encJ))), .one (.dv (.lst 12 (b.map encJ)))] [] 0 (Bo (decide (a = b))) [] 0 := by
  refine fnOk tab mix G.mk_Same_api_Joint rfl rfl (by kernel_rfl) rfl rfl ?_
  (conv => whnf)
  refine ask_m (fun h => ?_) (fun h => ?_)
  · (conv => whnf)
    refine ret0 ?_
    refine ret_b (Eq.symm (decide_eq_false ?_)) rfl
    rintro rfl
    simp at h
  have hl : a.length = b.length := by simp at h; omega
  (conv => whnf)
  refine loop_intro (fun k : Nat => ⟨[(0, .one (.dv (.lst 12 (a.map encJ)))), (1, .one (.dv (.lst 12 (b.map encJ)))), (5, I k)], [], 0⟩) (fun k => k ≤ a.length ∧ a.take k = b.take k) (fun k => a.length - k) [] 0 [] ⟨Nat.zero_le _, rfl⟩ ⟨⟨rfl, rfl, rfl, trivial⟩, trivial⟩ ?_
  rintro k ⟨hk, hall⟩
  (conv => whnf)
  refine ask_m (fun h => ?_) (fun h => ?_)
  · have hlt : k < a.length := by simpa using h
    obtain ⟨x, hx⟩ : ∃ j, a[k]? = some j := ⟨_, List.getElem?_eq_getElem hlt⟩
    obtain ⟨y, hy⟩ : ∃ j, b[k]? = some j := ⟨_, List.getElem?_eq_getElem (by omega)⟩
    have hkk : IntKind.i64.wrap ((k : Int) + 1) = ((k + 1 : Nat) : Int) := by rw [w64] <;> omega
    (conv => whnf)
    refine idx_and (by omega) (by simpa using hx) ?_
    (conv => whnf)
    refine idx_and (by omega) (by simpa using hy) ?_
    (conv => whnf)
    refine ⟨cmp_mk_Same_Joint, ?_⟩
    (conv => whnf)
    refine ask_m (fun h => ?_) (fun h => ?_)
    · (conv => whnf)
      refine ret0 ?_
      refine ret_b (Eq.symm (decide_eq_false (ne_at hx hy ?_))) rfl
      rintro rfl
      simp at h
    · skip
      have e : x = y := by
        obtain ⟨a1, a2, a3, ⟨a4, a5, a6⟩, a7, a8, a9, a10, a11, a12⟩ := x
        obtain ⟨b1, b2, b3, ⟨b4, b5, b6⟩, b7, b8, b9, b10, b11, b12⟩ := y
        simp at h; simp [h]
      subst e
      (conv => whnf)
      exact ⟨k + 1, [], ⟨hlt, take_same hall hx hy⟩, by omega, ⟨⟨rfl, rfl, eqI hkk, trivial⟩, trivial⟩⟩
  · have hk : k = a.length := by simp at h; omega
    subst hk
    rw [List.take_length, hl, List.take_length] at hall
    (conv => whnf)
    refine ret0 ?_
    exact ret_b (decide_eq_true hall).symm rfl
theorem mk_SameRobot (a b : Robot) (ha : a.joints.length ≤ 4611686018427387904 ∧ a.masses.length ≤ 4611686018427387904) (hb : b.joints.length ≤ 4611686018427387904 ∧ b.masses.length ≤ 4611686018427387904) : FnOk Tryz.prog F.mk_SameRobot [Ro a, Ro b] [] 0 (Bo (decide (a = b))) [] 0 := by
  refine fnOk tab mix G.mk_SameRobot rfl rfl (by kernel_rfl) rfl rfl ?_
  (conv => whnf)
  obtain ⟨j, m⟩ := a
  obtain ⟨j', m'⟩ := b
  refine call_i (mk_Same_Joint j j' ha.1 hb.1) ?_
  (conv => whnf)
  by_cases h1 : j = j'
  · rw [decide_eq_true h1]
    (conv => whnf)
    refine call_i (mk_Same_Mass m m' ha.2 hb.2) ?_
    (conv => whnf)
    (conv => whnf)
    refine ret0 ?_
    exact ret_b (by simp [h1]) rfl
  · rw [decide_eq_false h1]
    (conv => whnf)
    refine ret0 ?_
    exact ret_b (by simp [h1]) rfl
end Go.Proofs.YtafglmjadbplcaaGreatDoor

/- law8: Chain, awake, RobotChainSteps. -/
namespace Go.Proofs.YtafglmjadbplcaaGreatDoor
open Eng
set_option maxRecDepth 10000
attribute [local irreducible] FnOk loopW idxF retX arrF findF

def chainOf (r : Robot) (k : Int) : List Int := if hasB r [k] then chain r.joints k else []
theorem has_good {r : Robot} {ks : List Int} (h : hasB r ks = true) : checkRobot r = 0 ∧ ∀ k ∈ ks, -1 ≤ k ∧ k < r.joints.length := by
  simp only [hasB, Bool.and_eq_true, List.all_eq_true, decide_eq_true_eq] at h
  exact ⟨h.2, fun k hk => link_bd (h.1 k hk)⟩
def baseT : ByteArray := ⟨#[98, 97, 115, 101]⟩
def one8 : Robot := ⟨[⟨baseT, 3, -1, ⟨0, 0, 0⟩, -16384, 16384, 1, 65536, 65536, 65536⟩], []⟩
def st8 : Stmt := ⟨1, wJoint, [baseT, ⟨#[116, 117, 114, 110, 122]⟩, worldT, ⟨#[48]⟩, ⟨#[48]⟩, ⟨#[48]⟩, ⟨#[45, 48, 46, 50, 53]⟩, ⟨#[48, 46, 50, 53]⟩, ⟨#[49]⟩]⟩
theorem read_one : readRobot [st8] = (one8, 0, 0) := by decide +kernel
theorem st8_ok : ∀ s ∈ [st8], stOk s := by
  have h : stOk st8 := by unfold stOk; decide
  intro s hs
  simp only [List.mem_singleton] at hs
  subst hs; exact h
theorem one_ok : checkRobot one8 = 0 := by decide
/- the joints of a chain -/
theorem chain_last {js : List Joint} (hd : downOk js) {k : Nat} (hk : k < js.length) : (chain js k)[(chain js k).length - 1]? = some (k : Int) ∧ 0 < (chain js k).length := by
  obtain ⟨j, hj⟩ : ∃ j, js[k]? = some j := ⟨_, List.getElem?_eq_getElem hk⟩
  rw [chain_step hd hj]
  simp
theorem chain_par {js : List Joint} (hd : downOk js) : ∀ k : Int, -1 ≤ k → k < js.length → ∀ (i : Nat) (x : Int), (chain js k)[i]? = some x → 0 ≤ x ∧ x < js.length ∧ ∃ j, js[x.toNat]? = some j ∧ j.parent = if i = 0 then -1 else (chain js k).getD (i - 1) 0 := by
  refine link_ind hd ?_ ?_
  · intro i x h
    rw [chain_neg js (by decide)] at h
    simp at h
  · intro k j hj ih i x h
    have hkl : k < js.length := (List.getElem?_eq_some_iff.1 hj).1
    rw [chain_step hd hj] at h ⊢
    rcases Nat.lt_or_ge i (chain js j.parent).length with hi | hi
    · rw [List.getElem?_append_left hi] at h
      obtain ⟨h1, h2, j', h3, h4⟩ := ih i x h
      refine ⟨h1, h2, j', h3, ?_⟩
      rw [h4]
      split
      · rfl
      · rw [List.getD_eq_getElem?_getD, List.getD_eq_getElem?_getD, List.getElem?_append_left (by omega)]
    · have hi2 : i = (chain js j.parent).length := by
        have := (List.getElem?_eq_some_iff.1 h).1
        simp at this; omega
      rw [List.getElem?_append_right hi, hi2, Nat.sub_self] at h
      simp at h
      subst h
      refine ⟨by omega, by omega, j, by simpa using hj, ?_⟩
      obtain ⟨d1, d2⟩ := hd k j hj
      rcases (by omega : j.parent < 0 ∨ 0 ≤ j.parent) with hp | hp
      · have hp : j.parent = -1 := by omega
        rw [hp, chain_neg js (by decide)] at hi2
        rw [if_pos (by simpa using hi2), hp]
      · obtain ⟨p, hpe⟩ : ∃ p : Nat, j.parent = p := ⟨j.parent.toNat, by omega⟩
        rw [hpe] at hi2 ⊢
        obtain ⟨l1, l2⟩ := chain_last hd (k := p) (by omega)
        rw [if_neg (by omega), hi2, List.getD_eq_getElem?_getD, List.getElem?_append_left (by omega), l1]; rfl
theorem chain_len {js : List Joint} (hd : downOk js) : ∀ k : Int, -1 ≤ k → k < js.length → ((chain js k).length : Int) ≤ k + 1 := by
  refine link_ind hd ?_ ?_
  · rw [chain_neg js (by decide)]; decide
  · intro k j hj ih
    obtain ⟨d1, d2⟩ := hd k j hj
    rw [chain_step hd hj, List.length_append, List.length_singleton]; omega
end Go.Proofs.YtafglmjadbplcaaGreatDoor

/- The reference's Chain, member, Between, Rigid. -/
namespace Go.Proofs.YtafglmjadbplcaaGreatDoor
open Eng
set_option maxRecDepth 10000
attribute [local irreducible] FnOk loopW idxF retX arrF

def hasR (r : Robot) (ks : List Int) : Bool := ks.all (linkOk r.joints.length) && decide (checkRobot r = 0)
theorem hasR_good {r : Robot} {ks : List Int} (h : hasR r ks = true) : checkRobot r = 0 ∧ ∀ k ∈ ks, -1 ≤ k ∧ k < r.joints.length := by
  simp only [hasR, Bool.and_eq_true, List.all_eq_true, decide_eq_true_eq] at h
  exact ⟨h.2, fun k hk => link_bd (h.1 k hk)⟩
def chainR (r : Robot) (k : Int) : List Int := if hasR r [k] then chain r.joints k else []
theorem chain_len' {js : List Joint} (hd : downOk js) : ∀ k : Int, -1 ≤ k → k < js.length → ((chain js k).length : Int) ≤ k + 1 := by
  refine link_ind hd ?_ ?_
  · rw [chain_neg js (by decide)]; decide
  · intro k j hj ih
    obtain ⟨d1, d2⟩ := hd k j hj
    rw [chain_step hd hj, List.length_append, List.length_singleton]; omega
abbrev bIn (l : List Int) : Box := .rows Y.int 1 (l.map encI)
def btwP (js : List Joint) (a b : Int) (i : Nat) : Bool := decide ((chain js a).count (i : Int) + (chain js b).count (i : Int) = 1)
theorem btwP_out {js : List Joint} (hd : downOk js) {a b : Int} (a1 : -1 ≤ a) (a2 : a < js.length) (b1 : -1 ≤ b) (b2 : b < js.length) {i : Nat} (hi : js.length ≤ i) : btwP js a b i = false := by
  have h1 : (i : Int) ∉ chain js a := fun h => by have := (chain_in hd a a1 a2).1 _ h; omega
  have h2 : (i : Int) ∉ chain js b := fun h => by have := (chain_in hd b b1 b2).1 _ h; omega
  rw [btwP, List.count_eq_zero.2 h1, List.count_eq_zero.2 h2]; rfl
theorem btwP_mem {js : List Joint} (hd : downOk js) {a b : Int} (a1 : -1 ≤ a) (a2 : a < js.length) (b1 : -1 ≤ b) (b2 : b < js.length) (i : Nat) : btwP js a b i = (decide ((i : Int) ∈ chain js a) != decide ((i : Int) ∈ chain js b)) := by
  rw [btwP, count_in (chain_in hd a a1 a2).2.1, count_in (chain_in hd b b1 b2).2.1]
  by_cases h1 : (i : Int) ∈ chain js a <;> by_cases h2 : (i : Int) ∈ chain js b <;> simp [h1, h2]
theorem filter_one (P : Nat → Bool) (x : Nat) : [x].filter P = if P x then [x] else [] := by cases h : P x <;> simp [h]
theorem filter_range {P : Nat → Bool} {n : Nat} (h : ∀ i, n ≤ i → P i = false) : ∀ d, (List.range (n + d)).filter P = (List.range n).filter P
  | 0 => rfl
  | d + 1 => by
    rw [← Nat.add_assoc, List.range_succ, List.filter_append, filter_range h d, filter_one, h _ (by omega)]; simp
theorem btw_eq {js : List Joint} (hl : js.length ≤ 10) (hd : downOk js) {a b : Int} (a1 : -1 ≤ a) (a2 : a < js.length) (b1 : -1 ≤ b) (b2 : b < js.length) : (List.range js.length).filter (btwP js a b) = btw js a b := by
  have := filter_range (P := btwP js a b) (n := js.length) (fun i hi => btwP_out hd a1 a2 b1 b2 hi) (10 - js.length)
  rw [show js.length + (10 - js.length) = 10 by omega] at this
  exact this.symm
def btwR (r : Robot) (a b : Int) : List Int := if hasR r [a, b] then (btw r.joints a b).map fun (i : Nat) => (i : Int) else []
def rigidR (r : Robot) (a b : Int) : Bool := hasR r [a, b] && rigid r.joints a b
theorem lo_hi {r : Robot} (h : checkRobot r = 0) {k : Nat} {j : Joint} (hj : r.joints[k]? = some j) : j.lo ≤ j.hi := ((robot_facts h).2.1 k j hj).2.2.2.2.1.1
end Go.Proofs.YtafglmjadbplcaaGreatDoor

/- law8: Between, Rigid, Find; RobotBetween, RobotChains. -/
namespace Go.Proofs.YtafglmjadbplcaaGreatDoor
open Eng
set_option maxRecDepth 10000
attribute [local irreducible] FnOk loopW idxF retX arrF findF

theorem chainR_len (r : Robot) (k : Int) : (chainR r k).length ≤ 100 := by
  rw [chainR]
  split
  · rename_i h
    obtain ⟨h1, h2⟩ := hasR_good h
    obtain ⟨g1, g2, g3⟩ := robot_good h1
    have h3 := h2 k (by simp)
    have := chain_len g3 k h3.1 h3.2
    omega
  · simp
theorem btw_len (js : List Joint) (a b : Int) : (btw js a b).length ≤ 10 := by
  have := List.length_filter_le (btwP js a b) (List.range 10)
  rw [List.length_range] at this
  exact this
theorem btwR_len (r : Robot) (a b : Int) : (btwR r a b).length ≤ 100 := by
  rw [btwR]
  split
  · have := btw_len r.joints a b
    rw [List.length_map]; omega
  · simp
theorem btw_sym (js : List Joint) (a b : Int) : btw js a b = btw js b a := by
  rw [btw, btw]
  refine List.filter_congr fun i _ => ?_
  rw [Nat.add_comm]
theorem btw_self {js : List Joint} (a : Int) : btw js a a = [] := by
  rw [btw, List.filter_eq_nil_iff]
  intro i _
  simp; omega
theorem mem_btw {js : List Joint} (hl : js.length ≤ 10) (hd : downOk js) {a b : Int} (a1 : -1 ≤ a) (a2 : a < js.length) (b1 : -1 ≤ b) (b2 : b < js.length) (i : Nat) (hi : i < 10) : ((i : Int) ∈ (btw js a b).map fun (i : Nat) => (i : Int)) ↔ (decide ((i : Int) ∈ chain js a) != decide ((i : Int) ∈ chain js b)) = true := by
  rw [← btwP_mem hd a1 a2 b1 b2 i]
  constructor
  · intro h
    obtain ⟨k, hk, e⟩ := List.mem_map.1 h
    have : k = i := by omega
    subst this
    exact (List.mem_filter.1 hk).2
  · intro h
    exact List.mem_map.2 ⟨i, List.mem_filter.2 ⟨List.mem_range.2 hi, h⟩, rfl⟩
theorem bxor3 : ∀ p q s : Bool, (p != q) = true → decide ((p != s) = true) ≠ decide ((s != q) = true) := by
  intro p q s h
  cases p <;> cases q <;> cases s <;> first | (exact absurd h (by decide)) | decide
end Go.Proofs.YtafglmjadbplcaaGreatDoor

/- ref.numbers, ref.readJoint. -/
namespace Go.Proofs.YtafglmjadbplcaaGreatDoor
open Eng
set_option maxRecDepth 10000
attribute [local irreducible] FnOk loopW idxF retX arrF findF

def refJ (js : List Joint) (n k p x y z lo hi w : ByteArray) : Joint × Int :=
  if nameOk n = false ∨ 0 ≤ find js n 0 then (⟨n, 0, 0, ⟨0, 0, 0⟩, 0, 0, 0, 65536, 65536, 65536⟩, 802)
  else if kindI k < 0 then (⟨n, kindI k, 0, ⟨0, 0, 0⟩, 0, 0, 0, 65536, 65536, 65536⟩, 803)
  else if p ≠ worldT ∧ find js p 0 < 0 then (⟨n, kindI k, find js p 0, ⟨0, 0, 0⟩, 0, 0, 0, 65536, 65536, 65536⟩, 810)
  else if ¬ (([x, y, z, lo, hi].all fun w => (numOf w).2) = true ∧ (intOf w).2 = true) then (⟨n, kindI k, if p = worldT then -1 else find js p 0, ⟨0, 0, 0⟩, 0, 0, 0, 65536, 65536, 65536⟩, 809)
  else (⟨n, kindI k, if p = worldT then -1 else find js p 0, ⟨(numOf x).1, (numOf y).1, (numOf z).1⟩, (numOf lo).1, (numOf hi).1, (intOf w).1, 65536, 65536, 65536⟩, 0)
theorem refJ_read (js : List Joint) (n k p x y z lo hi w : ByteArray) : (refJ js n k p x y z lo hi w).2 = (readJ js [n, k, p, x, y, z, lo, hi, w]).1 ∧ ((readJ js [n, k, p, x, y, z, lo, hi, w]).1 = 0 → (readJ js [n, k, p, x, y, z, lo, hi, w]).2 = js ++ [(refJ js n k p x y z lo hi w).1]) := by
  unfold refJ readJ
  simp only
  split
  · exact ⟨rfl, fun h => absurd h (by show ¬ (802 : Int) = 0; decide)⟩
  split
  · exact ⟨rfl, fun h => absurd h (by show ¬ (803 : Int) = 0; decide)⟩
  split
  · exact ⟨rfl, fun h => absurd h (by show ¬ (810 : Int) = 0; decide)⟩
  split
  · exact ⟨rfl, fun h => absurd h (by show ¬ (809 : Int) = 0; decide)⟩
  · exact ⟨rfl, fun _ => rfl⟩
theorem neW {p : ByteArray} (h : p ≠ worldT) : (!decide (p = worldT)) = true := by simp [h]
theorem eqW {p : ByteArray} (h : p = worldT) : (!decide (p = worldT)) = false := by simp [h]
abbrev JR (q : Joint × Int) : SV := .tup [(true, (encJ q.1).map CV.dv), (false, [.dv (.int .i64 q.2)])]
end Go.Proofs.YtafglmjadbplcaaGreatDoor

/- ref.ReadRobot. -/
namespace Go.Proofs.YtafglmjadbplcaaGreatDoor
open Eng
set_option maxRecDepth 10000
attribute [local irreducible] FnOk loopW idxF retX arrF findF

theorem isLit {w c d : ByteArray} (h : w = c) (e : c = d) : decide (w = d) = true := decide_eq_true (h.trans e)
theorem noLit {w c d : ByteArray} (h : w ≠ c) (e : c = d) : decide (w = d) = false := decide_eq_false (by rw [← e]; exact h)
theorem flJ (q : Joint × Int) : FlatS (JR q) := by
  intro t ht c hc
  simp only [List.mem_cons, List.not_mem_nil, or_false] at ht
  rcases ht with rfl | rfl
  · simp only [encJ, List.map_cons, List.map_nil, List.mem_cons, List.not_mem_nil, or_false] at hc
    rcases hc with rfl | rfl | rfl | rfl | rfl | rfl | rfl | rfl | rfl | rfl | rfl | rfl <;> trivial
  · simp only [List.mem_cons, List.not_mem_nil, or_false] at hc
    subst hc; trivial
end Go.Proofs.YtafglmjadbplcaaGreatDoor

/- Reading scenes: the models. No program in sight. -/
namespace Go.Proofs.YtafglmjadbplcaaGreatDoor
open Eng
set_option maxRecDepth 10000

def linkI (js : List Joint) (w : ByteArray) : Int := if w = worldT then -1 else find js w 0
def linkB (js : List Joint) (w : ByteArray) : Bool := decide (w = worldT) || decide (0 ≤ find js w 0)
/-- points of coordinates -/
def ptsOf : List Int → List Vec
  | a :: b :: c :: l => ⟨a, b, c⟩ :: ptsOf l
  | _ => []
structure Acc where
  shapes : List Shape
  skips : List Skip
def acc0 : Acc := ⟨[], []⟩
def readSh (js : List Joint) (q : Acc) : List ByteArray → Int × Acc
  | n :: rd :: cs =>
    if linkB js n = false then (810, q)
    else if ((rd :: cs).all fun w => (numOf w).2) = false then (809, q)
    else (0, ⟨q.shapes ++ [⟨linkI js n, (numOf rd).1, ptsOf (cs.map fun w => (numOf w).1)⟩], q.skips⟩)
  | _ => (0, q)
def readSk (js : List Joint) (q : Acc) : List ByteArray → Int × Acc
  | [a, b] => if (linkB js a && linkB js b) = false then (810, q) else (0, ⟨q.shapes, q.skips ++ [⟨linkI js a, linkI js b⟩]⟩)
  | _ => (0, q)
def readSc (js : List Joint) (q : Acc) (s : Stmt) : Int × Acc :=
  if ¬ s.word = wShape ∧ ¬ s.word = wSkip then (0, q)
  else if argsB s.word s.args.length = false then (702, q)
  else if s.word = wShape then readSh js q s.args
  else readSk js q s.args
def readAcc (js : List Joint) : Acc → List Stmt → Acc × Int × Int
  | q, [] => (q, 0, 0)
  | q, s :: l => if (readSc js q s).1 = 0 then readAcc js (readSc js q s).2 l else (acc0, (readSc js q s).1, s.line)
def noScene : Scene := ⟨⟨[], []⟩, [], []⟩
def sceneOf (r : Robot) (q : Acc) : Scene := ⟨r, q.shapes, q.skips⟩
def readScene (l : List Stmt) : Scene × Int × Int :=
  if (readRobot l).2.1 ≠ 0 then (noScene, (readRobot l).2)
  else if (readAcc (readRobot l).1.joints acc0 l).2.1 ≠ 0 then (noScene, (readAcc (readRobot l).1.joints acc0 l).2)
  else if checkScene (sceneOf (readRobot l).1 (readAcc (readRobot l).1.joints acc0 l).1) ≠ 0 then (noScene, checkScene (sceneOf (readRobot l).1 (readAcc (readRobot l).1.joints acc0 l).1), 0)
  else (sceneOf (readRobot l).1 (readAcc (readRobot l).1.joints acc0 l).1, 0, 0)
theorem args_shape {n : Nat} (h : argsB wShape n = true) : 5 ≤ n ∧ n ≤ 26 ∧ (n - 2) % 3 = 0 := by
  have e : countsOf wShape = some ⟨5, 26, 3⟩ := rfl
  rw [argsB, e] at h
  simp [allowB] at h
  omega
theorem args_skip {n : Nat} (h : argsB wSkip n = true) : n = 2 := by
  have e : countsOf wSkip = some ⟨2, 2, 1⟩ := rfl
  rw [argsB, e] at h
  simp [allowB] at h
  omega
/-- rows of points of which the first k coordinates are set -/
def cAt (xs : List Int) (k i : Nat) : DV := .int .i64 (if i < k then xs.getD i 0 else 0)
def fillP (xs : List Int) (m k : Nat) : List (List DV) := (List.range m).map fun j => [cAt xs k (3 * j), cAt xs k (3 * j + 1), cAt xs k (3 * j + 2)]
theorem fillP_len (xs : List Int) (m k : Nat) : (fillP xs m k).length = m := by simp [fillP]
theorem fillP_at {xs : List Int} {m k j : Nat} (h : j < m) : (fillP xs m k)[j]? = some [cAt xs k (3 * j), cAt xs k (3 * j + 1), cAt xs k (3 * j + 2)] := by
  rw [fillP, List.getElem?_map, List.getElem?_range h]; rfl
theorem cAt_ne {xs : List Int} {k i : Nat} (h : i ≠ k) : cAt xs (k + 1) i = cAt xs k i := by
  unfold cAt
  by_cases h1 : i < k
  · rw [if_pos h1, if_pos (by omega)]
  · rw [if_neg h1, if_neg (by omega)]
theorem cAt_eq {xs : List Int} {k : Nat} {x : Int} (h : xs[k]? = some x) : cAt xs (k + 1) k = .int .i64 x := by
  unfold cAt
  rw [if_pos (by omega), List.getD_eq_getElem?_getD, h]; rfl
theorem fillP_set {xs : List Int} {m k : Nat} {x : Int} (h : xs[k]? = some x) (hk : k < 3 * m) :
    (fillP xs m k).set (k / 3) (([cAt xs k (3 * (k / 3)), cAt xs k (3 * (k / 3) + 1), cAt xs k (3 * (k / 3) + 2)] : List DV).set (k % 3) (.int .i64 x)) = fillP xs m (k + 1) := by
  apply List.ext_getElem?
  intro j
  by_cases hj : j < m
  · rw [fillP_at hj]
    by_cases e : j = k / 3
    · subst e
      rw [List.getElem?_set_self (by rw [fillP_len]; exact hj)]
      have h3 : k % 3 = 0 ∨ k % 3 = 1 ∨ k % 3 = 2 := by omega
      congr 1
      rcases h3 with h3 | h3 | h3
      · rw [h3, cAt_ne (i := 3 * (k / 3) + 1) (by omega), cAt_ne (i := 3 * (k / 3) + 2) (by omega), ← cAt_eq h, show 3 * (k / 3) = k by omega]; rfl
      · rw [h3, cAt_ne (i := 3 * (k / 3)) (by omega), cAt_ne (i := 3 * (k / 3) + 2) (by omega), ← cAt_eq h, show 3 * (k / 3) + 1 = k by omega]; rfl
      · rw [h3, cAt_ne (i := 3 * (k / 3)) (by omega), cAt_ne (i := 3 * (k / 3) + 1) (by omega), ← cAt_eq h, show 3 * (k / 3) + 2 = k by omega]; rfl
    · rw [List.getElem?_set_ne (fun h' => e h'.symm), fillP_at hj, cAt_ne (by omega), cAt_ne (by omega), cAt_ne (by omega)]
  · rw [List.getElem?_eq_none (by rw [List.length_set, fillP_len]; omega), List.getElem?_eq_none (by rw [fillP_len]; omega)]
theorem ptsOf_fill : ∀ (m : Nat) (xs : List Int), xs.length = 3 * m → (ptsOf xs).map encV = fillP xs m xs.length
  | 0, xs, h => by
    have : xs = [] := List.length_eq_zero_iff.1 (by omega)
    subst this; rfl
  | m + 1, xs, h => by
    match xs, h with
    | a :: b :: c :: l, h =>
      have ih := ptsOf_fill m l (by simp at h; omega)
      rw [ptsOf, List.map_cons, ih, fillP, fillP, List.range_succ_eq_map, List.map_cons, List.map_map]
      congr 1
      · apply List.map_congr_left
        intro j hj
        have hj := List.mem_range.1 hj
        have key : ∀ d, d < 3 → cAt l l.length (3 * j + d) = cAt (a :: b :: c :: l) (a :: b :: c :: l).length (3 * (j + 1) + d) := fun d hd => by
          unfold cAt
          have hl : l.length = 3 * m := by simp at h; omega
          rw [if_pos (by omega), if_pos (by simp only [List.length_cons]; omega)]
          rw [show 3 * (j + 1) + d = 3 * j + d + 1 + 1 + 1 by omega]
          simp [List.getD_eq_getElem?_getD]
        have k0 := key 0 (by omega)
        have k1 := key 1 (by omega)
        have k2 := key 2 (by omega)
        simp only [Nat.add_zero] at k0
        simp only [Function.comp_def]
        rw [k0, k1, k2]
theorem encV_ok : encV ⟨1, 2, 3⟩ = [.int .i64 1, .int .i64 2, .int .i64 3] := rfl
end Go.Proofs.YtafglmjadbplcaaGreatDoor

/- A written scene is read again. No program in sight. -/
namespace Go.Proofs.YtafglmjadbplcaaGreatDoor
open Eng
set_option maxRecDepth 10000

theorem other_st {r : Robot} {s : Stmt} (h1 : s.word ≠ wJoint) (h2 : s.word ≠ wLimit) (h3 : s.word ≠ wMass) : readSt r s = (0, r) := by
  rw [readSt, if_neg h1, if_neg h2, if_neg h3]
theorem readAll_rest : ∀ (l : List (ByteArray × List ByteArray)) (n : Nat) (r : Robot), (∀ p ∈ l, p.1 = wShape ∨ p.1 = wSkip) → readAll r (numb n l) = (r, 0, 0)
  | [], _, _, _ => rfl
  | p :: l, n, r, h => by
    have hp := h p (by simp)
    have e : readSt r ⟨(n : Int) + 1, p.1, p.2⟩ = (0, r) := by
      rcases hp with hp | hp
      · exact other_st (by show p.1 ≠ _; rw [hp]; decide) (by show p.1 ≠ _; rw [hp]; decide) (by show p.1 ≠ _; rw [hp]; decide)
      · exact other_st (by show p.1 ≠ _; rw [hp]; decide) (by show p.1 ≠ _; rw [hp]; decide) (by show p.1 ≠ _; rw [hp]; decide)
    show readAll r (⟨(n : Int) + 1, p.1, p.2⟩ :: numb (n + 1) l) = _
    rw [readAll, e]
    simp only [if_true]
    exact readAll_rest l (n + 1) r fun q hq => h q (by simp [hq])
theorem read_masses2 {js : List Joint} (hf : ∀ (i : Nat) j, js[i]? = some j → JF js i j) {l : List (ByteArray × List ByteArray)} (hl : ∀ p ∈ l, p.1 = wShape ∨ p.1 = wSkip) : ∀ (l2 l1 : List Mass) (n : Nat), (∀ m ∈ l2, massOk js.length m = true) → readAll ⟨js, l1⟩ (numb n (l2.map (mB js) ++ l)) = (⟨js, l1 ++ l2⟩, 0, 0)
  | [], l1, n, _ => by rw [List.append_nil]; exact readAll_rest l n _ hl
  | m :: l2, l1, n, h => by
    have e1 := step_mass hf (h m (by simp)) l1 ((n : Int) + 1)
    show readAll ⟨js, l1⟩ (⟨(n : Int) + 1, (mB js m).1, (mB js m).2⟩ :: numb (n + 1) (l2.map (mB js) ++ l)) = _
    rw [readAll, e1]
    simp only [if_true]
    rw [read_masses2 hf hl l2 (l1 ++ [m]) (n + 1) fun x hx => h x (by simp [hx]), List.append_assoc]; rfl
theorem acc_skip {js : List Joint} (l' : List (ByteArray × List ByteArray)) : ∀ (l : List (ByteArray × List ByteArray)) (n : Nat) (q : Acc), (∀ p ∈ l, ¬ p.1 = wShape ∧ ¬ p.1 = wSkip) → ∃ n', readAcc js q (numb n (l ++ l')) = readAcc js q (numb n' l')
  | [], n, q, _ => ⟨n, rfl⟩
  | p :: l, n, q, h => by
    obtain ⟨n', ih⟩ := acc_skip l' l (n + 1) q fun x hx => h x (by simp [hx])
    refine ⟨n', ?_⟩
    have hp := h p (by simp)
    have e : readSc js q ⟨(n : Int) + 1, p.1, p.2⟩ = (0, q) := by rw [readSc, if_pos hp]
    show readAcc js q (⟨(n : Int) + 1, p.1, p.2⟩ :: numb (n + 1) (l ++ l')) = _
    rw [readAcc, e]
    simp only [if_true]
    exact ih
theorem link_rd {js : List Joint} (hf : ∀ (i : Nat) j, js[i]? = some j → JF js i j) {k : Int} (h1 : -1 ≤ k) (h2 : k < js.length) : linkI js (linkN js k) = k ∧ linkB js (linkN js k) = true := by
  have := link_read hf (k := js.length) h1 h2 (Nat.le_refl _)
  rw [List.take_length] at this
  rcases this with ⟨h, e⟩ | ⟨h, e⟩
  · rw [linkI, linkB, e]; exact ⟨by rw [if_pos rfl, h], by simp⟩
  · rw [linkI, linkB, if_neg h, e]
    refine ⟨rfl, ?_⟩
    have : 0 ≤ k := by
      rcases Int.lt_or_le k 0 with h' | h'
      · have : k = -1 := by omega
        exact absurd (by rw [this, linkN, if_pos rfl]) h
      · exact h'
    simp [this]
theorem pts_back : ∀ l : List Vec, (∀ p ∈ l, inV p 4194304 = true) → ((l.flatMap ptB).all fun w => (numOf w).2) = true ∧ ptsOf ((l.flatMap ptB).map fun w => (numOf w).1) = l
  | [], _ => ⟨rfl, rfl⟩
  | p :: l, h => by
    obtain ⟨h1, h2⟩ := pts_back l fun q hq => h q (by simp [hq])
    obtain ⟨o1, o2, o3⟩ := inV_in (h p (by simp))
    rw [List.flatMap_cons]
    refine ⟨?_, ?_⟩
    · rw [List.all_append, h1]
      simp [ptB, num_fmt]
    · rw [List.map_append]
      simp only [ptB, List.map_cons, List.map_nil, num_fmt, o1, o2, o3]
      show ptsOf (p.x :: p.y :: p.z :: ((l.flatMap ptB).map fun w => (numOf w).1)) = _
      rw [ptsOf, h2]
theorem pts_length : ∀ l : List Vec, (l.flatMap ptB).length = 3 * l.length
  | [] => rfl
  | p :: l => by rw [List.flatMap_cons, List.length_append, pts_length l, List.length_cons]; show 3 + _ = _; omega
theorem shape_n {k : Nat} (h1 : 1 ≤ k) (h8 : k ≤ 8) : argsB wShape ((2 + 3 * k : Nat) : Int) = true := by
  have : ∀ k : Nat, k ≤ 8 → 1 ≤ k → argsB wShape ((2 + 3 * k : Nat) : Int) = true := by decide
  exact this k h8 h1
theorem acc_shapes {js : List Joint} (hf : ∀ (i : Nat) j, js[i]? = some j → JF js i j) (l' : List (ByteArray × List ByteArray)) : ∀ (l : List Shape) (n : Nat) (q : Acc), (∀ x ∈ l, linkOk js.length x.link = true ∧ 1 ≤ x.points.length ∧ x.points.length ≤ 8 ∧ (1 ≤ x.radius ∧ x.radius ≤ 1048576) ∧ ∀ p ∈ x.points, inV p 4194304 = true) → ∃ n', readAcc js q (numb n (l.map (shB js) ++ l')) = readAcc js ⟨q.shapes ++ l, q.skips⟩ (numb n' l')
  | [], n, q, _ => ⟨n, by simp⟩
  | x :: l, n, q, h => by
    obtain ⟨h1, h2, h3, h4, h5⟩ := h x (by simp)
    have h1 := link_bd h1
    obtain ⟨e1, e2⟩ := link_rd hf h1.1 h1.2
    obtain ⟨e3, e4⟩ := pts_back x.points h5
    have e5 : clampI x.radius = x.radius := by unfold clampI; omega
    obtain ⟨n', ih⟩ := acc_shapes hf l' l (n + 1) ⟨q.shapes ++ [x], q.skips⟩ fun y hy => h y (by simp [hy])
    refine ⟨n', ?_⟩
    have e : readSc js q ⟨(n : Int) + 1, (shB js x).1, (shB js x).2⟩ = (0, ⟨q.shapes ++ [x], q.skips⟩) := by
      show readSc js q ⟨(n : Int) + 1, wShape, linkN js x.link :: fmtT x.radius :: x.points.flatMap ptB⟩ = _
      have hlen : ((linkN js x.link :: fmtT x.radius :: x.points.flatMap ptB).length : Int) = ((2 + 3 * x.points.length : Nat) : Int) := by
        simp only [List.length_cons, pts_length]; omega
      rw [readSc, if_neg (by simp), hlen, shape_n h2 h3, if_neg (by simp), if_pos rfl, readSh, e2, if_neg (by simp), if_neg (by rw [List.all_cons, e3, num_fmt]; simp), e1, e4, num_fmt, e5]
    show readAcc js q (⟨(n : Int) + 1, (shB js x).1, (shB js x).2⟩ :: numb (n + 1) (l.map (shB js) ++ l')) = _
    rw [readAcc, e]
    simp only [if_true]
    rw [ih, List.append_assoc]; rfl
theorem acc_skips {js : List Joint} (hf : ∀ (i : Nat) j, js[i]? = some j → JF js i j) : ∀ (l : List Skip) (n : Nat) (q : Acc), (∀ k ∈ l, linkOk js.length k.a = true ∧ linkOk js.length k.b = true) → readAcc js q (numb n (l.map (skB js))) = (⟨q.shapes, q.skips ++ l⟩, 0, 0)
  | [], n, q, _ => by simp [numb, readAcc]
  | x :: l, n, q, h => by
    obtain ⟨h1, h2⟩ := h x (by simp)
    have h1 := link_bd h1
    have h2 := link_bd h2
    obtain ⟨e1, e2⟩ := link_rd hf h1.1 h1.2
    obtain ⟨e3, e4⟩ := link_rd hf h2.1 h2.2
    have e : readSc js q ⟨(n : Int) + 1, (skB js x).1, (skB js x).2⟩ = (0, ⟨q.shapes, q.skips ++ [x]⟩) := by
      show readSc js q ⟨(n : Int) + 1, wSkip, [linkN js x.a, linkN js x.b]⟩ = _
      rw [readSc, if_neg (by simp), if_neg (by show ¬ argsB wSkip 2 = false; decide), if_neg (by show ¬ wSkip = wShape; decide), readSk, e2, e4, if_neg (by simp), e1, e3]
    show readAcc js q (⟨(n : Int) + 1, (skB js x).1, (skB js x).2⟩ :: numb (n + 1) (l.map (skB js))) = _
    rw [readAcc, e]
    simp only [if_true]
    rw [acc_skips hf l (n + 1) ⟨q.shapes, q.skips ++ [x]⟩ fun y hy => h y (by simp [hy]), List.append_assoc]; rfl
/-- what is written is read again -/
theorem read_scene {s : Scene} (h : checkScene s = 0) : readScene (writeScene s) = (s, 0, 0) := by
  obtain ⟨hr, _, g3, _, g5⟩ := scene_facts h
  have h' := hr
  unfold checkRobot at h'
  split at h'
  · contradiction
  split at h'
  · contradiction
  rename_i c1 c2
  have c2 : jointsErr s.robot.joints 0 s.robot.joints = 0 := Classical.byContradiction c2
  have hf : ∀ (i : Nat) j, s.robot.joints[i]? = some j → JF s.robot.joints i j := fun i j hj => jf_of (by simpa using jointsErr_at c2 i j hj)
  obtain ⟨_, _, _, f4⟩ := robot_facts hr
  have hrest : ∀ p ∈ s.shapes.map (shB s.robot.joints) ++ s.skips.map (skB s.robot.joints), p.1 = wShape ∨ p.1 = wSkip := fun p hp => by
    rcases List.mem_append.1 hp with hp | hp
    · obtain ⟨x, _, rfl⟩ := List.mem_map.1 hp; exact .inl rfl
    · obtain ⟨x, _, rfl⟩ := List.mem_map.1 hp; exact .inr rfl
  have hscB : scB s = s.robot.joints.flatMap (jB s.robot.joints) ++ (s.robot.masses.map (mB s.robot.joints) ++ (s.shapes.map (shB s.robot.joints) ++ s.skips.map (skB s.robot.joints))) := by
    rw [scB, robB]; simp only [List.append_assoc]
  have hR : readRobot (writeScene s) = (s.robot, 0, 0) := by
    obtain ⟨n', hn⟩ := read_joints hf (s.robot.masses.map (mB s.robot.joints) ++ (s.shapes.map (shB s.robot.joints) ++ s.skips.map (skB s.robot.joints))) s.robot.joints.length 0 0 (by omega)
    rw [List.drop_zero, List.take_zero, read_masses2 hf hrest s.robot.masses [] n' f4, List.nil_append] at hn
    have hn : readAll emptyR (writeScene s) = (s.robot, 0, 0) := by rw [writeScene, if_pos h, hscB]; exact hn
    rw [readRobot, hn, if_neg (by simp), if_neg (by simp [hr])]
  have hA : readAcc s.robot.joints acc0 (writeScene s) = (⟨s.shapes, s.skips⟩, 0, 0) := by
    have hrob : ∀ p ∈ s.robot.joints.flatMap (jB s.robot.joints) ++ s.robot.masses.map (mB s.robot.joints), ¬ p.1 = wShape ∧ ¬ p.1 = wSkip := fun p hp => by
      rcases List.mem_append.1 hp with hp | hp
      · obtain ⟨j, _, hp⟩ := List.mem_flatMap.1 hp
        simp only [jB, List.mem_cons, List.not_mem_nil, or_false] at hp
        rcases hp with rfl | rfl
        · exact ⟨by show ¬ wJoint = wShape; decide, by show ¬ wJoint = wSkip; decide⟩
        · exact ⟨by show ¬ wLimit = wShape; decide, by show ¬ wLimit = wSkip; decide⟩
      · obtain ⟨x, _, rfl⟩ := List.mem_map.1 hp
        exact ⟨by show ¬ wMass = wShape; decide, by show ¬ wMass = wSkip; decide⟩
    have e1 : scB s = (s.robot.joints.flatMap (jB s.robot.joints) ++ s.robot.masses.map (mB s.robot.joints)) ++ (s.shapes.map (shB s.robot.joints) ++ s.skips.map (skB s.robot.joints)) := by rw [hscB]; simp only [List.append_assoc]
    rw [writeScene, if_pos h, e1]
    obtain ⟨n1, i1⟩ := acc_skip (s.shapes.map (shB s.robot.joints) ++ s.skips.map (skB s.robot.joints)) _ 0 acc0 hrob
    obtain ⟨n2, i2⟩ := acc_shapes hf (s.skips.map (skB s.robot.joints)) s.shapes n1 acc0 g3
    rw [i1, i2, acc_skips hf s.skips n2 _ g5]
    simp [acc0]
  have e : sceneOf s.robot ⟨s.shapes, s.skips⟩ = s := rfl
  rw [readScene, hR]
  simp only
  rw [if_neg (by simp), hA]
  simp only
  rw [if_neg (by simp), e, if_neg (by simp [h])]
end Go.Proofs.YtafglmjadbplcaaGreatDoor

/- Scenes: their check, and the skipped pairs. -/
namespace Go.Proofs.YtafglmjadbplcaaGreatDoor
open Eng
set_option maxRecDepth 10000
attribute [local irreducible] FnOk loopW idxF retX arrF

theorem scene_isLink (s : Scene) (k : Int) : FnOk Tryz.prog F.scene_isLink [Sc s, I k] [] 0 (Bo (linkOk s.robot.joints.length k)) [] 0 := by
  refine fnOk tab mix G.scene_isLink rfl rfl (by kernel_rfl) rfl rfl ?_
  repeat' ((conv => whnf); first | refine ask_m (fun h => ?_) (fun h => ?_) | refine ret0 ?_)
  all_goals exact ret_b (by first | (simp_all [linkOk]; done) | (simp_all [linkOk]; omega)) rfl
theorem scene_checkShape (s : Scene) (x : Shape) (hx : x.points.length ≤ 4611686018427387904) : FnOk Tryz.prog F.scene_checkShape [Sc s, Sh x] [] 0 (I (shapeErr s.robot.joints.length x)) [] 0 := by
  refine fnOk tab mix G.scene_checkShape rfl rfl (by kernel_rfl) rfl rfl ?_
  have e1 : linkOk s.robot.joints.length x.link = false ∨ x.radius < 1 ∨ 1048576 < x.radius ∨ x.points.length < 1 ∨ 8 < x.points.length → shapeErr s.robot.joints.length x = 902 := fun h => by unfold shapeErr; rw [if_pos h]
  (conv => whnf)
  refine call_i (scene_isLink s x.link) ?_
  (conv => whnf)
  refine ask_m (fun h => ?_) (fun h => ?_)
  · (conv => whnf)
    refine ret0 ?_
    exact ret_i (e1 (.inl (by simpa using h))).symm rfl
  have k1 : linkOk s.robot.joints.length x.link = true := by simpa using h
  (conv => whnf)
  refine ask_m (fun h => ?_) (fun h => ?_)
  · (conv => whnf)
    refine ret0 ?_
    exact ret_i (e1 (.inr (.inl (of_decide_eq_true h)))).symm rfl
  have k2 := of_decide_eq_false h
  (conv => whnf)
  refine ask_m (fun h => ?_) (fun h => ?_)
  · (conv => whnf)
    refine ret0 ?_
    exact ret_i (e1 (.inr (.inr (.inl (of_decide_eq_true h))))).symm rfl
  have k3 := of_decide_eq_false h
  (conv => whnf)
  refine ask_m (fun h => ?_) (fun h => ?_)
  · have h : x.points.length < 1 := by have := of_decide_eq_true h; simp only [List.length_map] at this; omega
    (conv => whnf)
    refine ret0 ?_
    exact ret_i (e1 (.inr (.inr (.inr (.inl h))))).symm rfl
  have k4 : ¬ x.points.length < 1 := by have := of_decide_eq_false h; simp only [List.length_map] at this; omega
  (conv => whnf)
  refine ask_m (fun h => ?_) (fun h => ?_)
  · have h : 8 < x.points.length := by have := of_decide_eq_true h; simp only [List.length_map] at this; omega
    (conv => whnf)
    refine ret0 ?_
    exact ret_i (e1 (.inr (.inr (.inr (.inr h))))).symm rfl
  have k5 : ¬ 8 < x.points.length := by have := of_decide_eq_false h; simp only [List.length_map] at this; omega
  have e2 : shapeErr s.robot.joints.length x = if x.points.all (inV · 4194304) = false then 805 else 0 := by
    unfold shapeErr; rw [if_neg]; rintro (h | h | h | h | h)
    · rw [k1] at h; cases h
    all_goals contradiction
  rw [e2]
  (conv => whnf)
  refine loop_intro (fun k : Nat => ⟨[(37, .one (.dv (dVs x.points))), (38, I x.points.length), (39, I k)], [], 0⟩) (fun k => k ≤ x.points.length ∧ (x.points.take k).all (inV · 4194304) = true) (fun k => x.points.length - k) [] 0 [] ⟨Nat.zero_le _, rfl⟩ ⟨⟨rfl, eqI (by simp), rfl, trivial⟩, trivial⟩ ?_
  rintro k ⟨hk, hall⟩
  (conv => whnf)
  refine ask_m (fun h => ?_) (fun h => ?_)
  · have hlt : k < x.points.length := by simpa using h
    obtain ⟨p, hp⟩ : ∃ j, x.points[k]? = some j := ⟨_, List.getElem?_eq_getElem hlt⟩
    have hkk : IntKind.i64.wrap ((k : Int) + 1) = ((k + 1 : Nat) : Int) := by rw [w64] <;> omega
    (conv => whnf)
    refine idx_and (by omega) (by simpa using hp) ?_
    (conv => whnf)
    refine loop_intro (fun i : Nat => ⟨[(37, .one (.dv (dVs x.points))), (38, I x.points.length), (39, I k), (43, Ve p), (44, I i)], [], 0⟩) (fun i => i ≤ 3 ∧ ∀ c, c < i → inC (vAt p c) = true) (fun i => 3 - i) [] 0 [] ⟨Nat.zero_le _, fun i hi => by omega⟩ ⟨⟨rfl, rfl, rfl, rfl, rfl, trivial⟩, trivial⟩ ?_
    rintro i ⟨hi, halli⟩
    (conv => whnf)
    refine ask_m (fun h => ?_) (fun h => ?_)
    · have hlti : i < 3 := by have := of_decide_eq_true h; omega
      have hii : IntKind.i64.wrap ((i : Int) + 1) = ((i + 1 : Nat) : Int) := by rw [w64] <;> omega
      have bad : inC (vAt p i) = false → (if x.points.all (inV · 4194304) = false then (805 : Int) else 0) = 805 := fun h => by
        rw [if_pos (all_not (f := (inV · 4194304)) hp (inV_at hlti h))]
      (conv => whnf)
      refine ⟨⟨by omega, by omega⟩, ?_⟩
      (conv => whnf)
      rw [Int.toNat_natCast]
      refine arr_vec rfl rfl hlti ?_
      generalize hv : vAt p i = v at *
      (conv => whnf)
      refine ask_m (fun h => ?_) (fun h => ?_)
      · have h := of_decide_eq_true h
        (conv => whnf)
        refine ret0 ?_
        exact ret_i (bad (by simp only [inC, Bool.and_eq_false_iff, decide_eq_false_iff_not]; omega)).symm rfl
      have h1 := of_decide_eq_false h
      (conv => whnf)
      refine ask_m (fun h => ?_) (fun h => ?_)
      · have h := of_decide_eq_true h
        (conv => whnf)
        refine ret0 ?_
        exact ret_i (bad (by simp only [inC, Bool.and_eq_false_iff, decide_eq_false_iff_not]; omega)).symm rfl
      have h2 := of_decide_eq_false h
      (conv => whnf)
      refine ⟨i + 1, [], ⟨hlti, fun c hc => ?_⟩, by omega, ⟨⟨rfl, rfl, rfl, rfl, eqI hii, trivial⟩, trivial⟩⟩
      by_cases e : c = i
      · subst e; rw [hv]; simp only [inC, Bool.and_eq_true, decide_eq_true_eq]; omega
      · exact halli c (by omega)
    · have hi : i = 3 := by have := of_decide_eq_false h; omega
      subst hi
      (conv => whnf)
      exact ⟨k + 1, [], ⟨hlt, all_take hall hp (inV_all halli)⟩, by omega, ⟨⟨rfl, rfl, eqI hkk, trivial⟩, trivial⟩⟩
  · have hk : k = x.points.length := by simp at h; omega
    subst hk
    rw [List.take_length] at hall
    (conv => whnf)
    refine ret0 ?_
    exact ret_i (by rw [if_neg (by rw [hall]; simp)]) rfl
/-- a scene whose lists are no longer than memory -/
theorem scene_Check (s : Scene) (hs : small s) : FnOk Tryz.prog F.scene_Check [Sc s] [] 0 (I (checkScene s)) [] 0 := by
  refine fnOk tab mix G.scene_Check rfl rfl (by kernel_rfl) rfl rfl ?_
  obtain ⟨s1, s2, s3, s4, s5⟩ := hs
  (conv => whnf)
  refine call_i (robot_Check s.robot s1 s2) ?_
  (conv => whnf)
  refine ask_m (fun h => ?_) (fun h => ?_)
  · have h : ¬ checkRobot s.robot = 0 := by simpa using h
    (conv => whnf)
    refine ret0 ?_
    exact ret_i (by unfold checkScene; rw [if_pos h]) rfl
  have h0 : checkRobot s.robot = 0 := by simpa using h
  have e : checkScene s = if 24 < s.shapes.length then 901
    else if shapesErr s.robot.joints.length s.shapes ≠ 0 then shapesErr s.robot.joints.length s.shapes
    else if 64 < s.skips.length then 903
    else if (s.skips.all (skipOk s.robot.joints.length)) = false then 903
    else 0 := by unfold checkScene; rw [if_neg (by rw [h0]; simp)]; rfl
  rw [e]
  (conv => whnf)
  refine ask_m (fun h => ?_) (fun h => ?_)
  · have h : 24 < s.shapes.length := by have := of_decide_eq_true h; simp only [List.length_map] at this; omega
    (conv => whnf)
    refine ret0 ?_
    exact ret_i (by rw [if_pos h]) rfl
  have h1 : ¬ 24 < s.shapes.length := by have := of_decide_eq_false h; simp only [List.length_map] at this; omega
  rw [if_neg h1]
  (conv => whnf)
  refine loop_intro (fun k : Nat => ⟨[(1, .one (.vptr 0 0)), (20, .one (.dv (dShs s.shapes))), (21, I s.shapes.length), (22, I k)], [(0, bSc s)], 1⟩) (fun k => k ≤ s.shapes.length ∧ shapesErr s.robot.joints.length (s.shapes.drop k) = shapesErr s.robot.joints.length s.shapes) (fun k => s.shapes.length - k) [] 0 [] ⟨Nat.zero_le _, rfl⟩ ⟨⟨rfl, rfl, eqI (by simp), rfl, trivial⟩, ⟨rfl, trivial⟩⟩ ?_
  rintro k ⟨hk, hf⟩
  (conv => whnf)
  refine ask_m (fun h => ?_) (fun h => ?_)
  · have hlt : k < s.shapes.length := by simpa using h
    obtain ⟨x, hx⟩ : ∃ j, s.shapes[k]? = some j := ⟨_, List.getElem?_eq_getElem hlt⟩
    have hkk : IntKind.i64.wrap ((k : Int) + 1) = ((k + 1 : Nat) : Int) := by rw [w64] <;> omega
    rw [drop_cons hx, shapesErr] at hf
    (conv => whnf)
    refine idx_and (by omega) (by simpa using hx) ?_
    (conv => whnf)
    refine call_i (scene_checkShape s x (s5 x (List.mem_of_getElem? hx))) ?_
    (conv => whnf)
    refine ask_m (fun h => ?_) (fun h => ?_)
    · have h : ¬ shapeErr s.robot.joints.length x = 0 := by simpa using h
      rw [if_neg h] at hf
      (conv => whnf)
      refine ret0 ?_
      exact ret_i (by rw [← hf, if_pos h]) rfl
    · have h : shapeErr s.robot.joints.length x = 0 := by simpa using h
      rw [if_pos h] at hf
      (conv => whnf)
      exact ⟨k + 1, [], ⟨hlt, hf⟩, by omega, ⟨⟨rfl, rfl, rfl, eqI hkk, trivial⟩, ⟨rfl, trivial⟩⟩⟩
  have hk : k = s.shapes.length := by simp at h; omega
  subst hk
  rw [List.drop_length, shapesErr] at hf
  rw [← hf, if_neg (by simp)]
  (conv => whnf)
  refine ask_m (fun h => ?_) (fun h => ?_)
  · have h : 64 < s.skips.length := by have := of_decide_eq_true h; simp only [List.length_map] at this; omega
    (conv => whnf)
    refine ret0 ?_
    exact ret_i (by rw [if_pos h]) rfl
  have h2 : ¬ 64 < s.skips.length := by have := of_decide_eq_false h; simp only [List.length_map] at this; omega
  rw [if_neg h2]
  (conv => whnf)
  refine loop_intro (fun k : Nat => ⟨[(1, .one (.vptr 0 0)), (38, .one (.dv (dSks s.skips))), (39, I s.skips.length), (40, I k)], [(0, bSc s)], 1⟩) (fun k => k ≤ s.skips.length ∧ (s.skips.take k).all (skipOk s.robot.joints.length) = true) (fun k => s.skips.length - k) [] 0 [] ⟨Nat.zero_le _, rfl⟩ ⟨⟨rfl, rfl, eqI (by simp), rfl, trivial⟩, ⟨rfl, trivial⟩⟩ ?_
  rintro k ⟨hk, hall⟩
  (conv => whnf)
  refine ask_m (fun h => ?_) (fun h => ?_)
  · have hlt : k < s.skips.length := by simpa using h
    obtain ⟨x, hx⟩ : ∃ j, s.skips[k]? = some j := ⟨_, List.getElem?_eq_getElem hlt⟩
    have hkk : IntKind.i64.wrap ((k : Int) + 1) = ((k + 1 : Nat) : Int) := by rw [w64] <;> omega
    have bad : skipOk s.robot.joints.length x = false → (if (s.skips.all (skipOk s.robot.joints.length)) = false then (903 : Int) else 0) = 903 := fun h => by rw [if_pos (all_not hx h)]
    (conv => whnf)
    refine idx_and (by omega) (by simpa using hx) ?_
    (conv => whnf)
    refine call_i (scene_isLink s x.a) ?_
    (conv => whnf)
    refine ask_m (fun h => ?_) (fun h => ?_)
    · (conv => whnf)
      refine ret0 ?_
      exact ret_i (bad (by simp at h; simp [skipOk, h])).symm rfl
    have ha : linkOk s.robot.joints.length x.a = true := by simpa using h
    (conv => whnf)
    refine call_i (scene_isLink s x.b) ?_
    (conv => whnf)
    refine ask_m (fun h => ?_) (fun h => ?_)
    · (conv => whnf)
      refine ret0 ?_
      exact ret_i (bad (by simp at h; simp [skipOk, h])).symm rfl
    have hb : linkOk s.robot.joints.length x.b = true := by simpa using h
    (conv => whnf)
    exact ⟨k + 1, [], ⟨hlt, all_take hall hx (by simp [skipOk, ha, hb])⟩, by omega, ⟨⟨rfl, rfl, rfl, eqI hkk, trivial⟩, ⟨rfl, trivial⟩⟩⟩
  · have hk : k = s.skips.length := by simp at h; omega
    subst hk
    rw [List.take_length] at hall
    (conv => whnf)
    refine ret0 ?_
    exact ret_i (by rw [if_neg (by rw [hall]; simp)]) rfl
/-- a skip has the links, in either order -/
def isSkip (a b : Int) (k : Skip) : Bool := (decide (k.a = a) && decide (k.b = b)) || (decide (k.a = b) && decide (k.b = a))
def skipped (s : Scene) (a b : Int) : Bool := s.skips.any (isSkip a b)
theorem cmpSkip : cmpB Tryz.prog 8 Y.Skip = true ∧ Tryz.prog.eqGuardType Tryz.prog.depth Y.Skip = false := ⟨by kernel_rfl, by kernel_rfl⟩
theorem scene_Skipped (s : Scene) (a b : Int) (hs : s.skips.length ≤ 4611686018427387904) : FnOk Tryz.prog F.scene_Skipped [Sc s, I a, I b] [] 0 (Bo (skipped s a b)) [] 0 := by
  refine fnOk tab mix G.scene_Skipped rfl rfl (by kernel_rfl) rfl rfl ?_
  (conv => whnf)
  refine loop_intro (fun k : Nat => ⟨[(1, I a), (2, I b), (10, .one (.dv (dSks s.skips))), (11, I s.skips.length), (12, I k)], [], 0⟩) (fun k => k ≤ s.skips.length ∧ (s.skips.take k).any (isSkip a b) = false) (fun k => s.skips.length - k) [] 0 [] ⟨Nat.zero_le _, rfl⟩ ⟨⟨rfl, rfl, rfl, eqI (by simp), rfl, trivial⟩, trivial⟩ ?_
  rintro k ⟨hk, hall⟩
  (conv => whnf)
  refine ask_m (fun h => ?_) (fun h => ?_)
  · have hlt : k < s.skips.length := by simpa using h
    obtain ⟨x, hx⟩ : ∃ j, s.skips[k]? = some j := ⟨_, List.getElem?_eq_getElem hlt⟩
    have hkk : IntKind.i64.wrap ((k : Int) + 1) = ((k + 1 : Nat) : Int) := by rw [w64] <;> omega
    (conv => whnf)
    refine idx_and (by omega) (by simpa using hx) ?_
    (conv => whnf)
    refine ⟨cmpSkip, ?_⟩
    (conv => whnf)
    refine ask_m (fun h => ?_) (fun h => ?_)
    · (conv => whnf)
      refine ret0 ?_
      exact ret_b (any_yes hx (by simp at h; simp [isSkip, h])).symm rfl
    (conv => whnf)
    refine ⟨cmpSkip, ?_⟩
    (conv => whnf)
    refine ask_m (fun h2 => ?_) (fun h2 => ?_)
    · (conv => whnf)
      refine ret0 ?_
      exact ret_b (any_yes hx (by simp at h2; simp [isSkip, h2])).symm rfl
    · (conv => whnf)
      exact ⟨k + 1, [], ⟨hlt, any_take hall hx (by simp at h h2; simp [isSkip]; exact ⟨h, h2⟩)⟩, by omega, ⟨⟨rfl, rfl, rfl, rfl, eqI hkk, trivial⟩, trivial⟩⟩
  · have hk : k = s.skips.length := by simp at h; omega
    subst hk
    rw [List.take_length] at hall
    (conv => whnf)
    refine ret0 ?_
    exact ret_b hall.symm rfl
end Go.Proofs.YtafglmjadbplcaaGreatDoor

/- Scenes: the carriers of the links, and the pairs. -/
namespace Go.Proofs.YtafglmjadbplcaaGreatDoor
open Eng
set_option maxRecDepth 10000
attribute [local irreducible] FnOk loopW idxF retX arrF

theorem scene_carriers (r : Robot) (hn : r.joints.length ≤ 1000) (hd : downOk r.joints) : FnOk Tryz.prog F.scene_carriers [Ro r] [] 0 (.one (.row 0)) [(0, .rows 3 1 ((carriers r.joints).map encI))] 1 := by
  refine fnOk tab mix G.scene_carriers rfl rfl (by kernel_rfl) rfl rfl ?_
  (conv => whnf)
  have hw : IntKind.i64.wrap ((r.joints.length : Int) + 1) = ((r.joints.length + 1 : Nat) : Int) := by rw [w64] <;> omega
  rw [List.length_map, hw]
  refine ⟨⟨by omega, by omega, by show (8 : Int) * _ ≤ _; omega, by omega⟩, ?_⟩
  (conv => whnf)
  refine ⟨⟨by omega, by simp⟩, ?_⟩
  (conv => whnf)
  refine idx_at (r := [.int .i64 0]) (by simp) ?_
  (conv => whnf)
  refine loop_intro (fun k : Nat => ⟨[(1, .one (.vptr 0 0)), (3, .one (.row 1)), (14, .one (.dv (dJs r.joints))), (15, I r.joints.length), (16, I k)], [(0, bRo r), (1, .rows 3 1 ((carriers (r.joints.take k) ++ List.replicate (r.joints.length - k) 0).map encI))], 2⟩) (fun k => k ≤ r.joints.length) (fun k => r.joints.length - k) [] 0 [] (Nat.zero_le _) ⟨⟨rfl, rfl, rfl, eqI (by simp), rfl, trivial⟩, ⟨rfl, ?_, trivial⟩⟩ ?_
  · show Box.rows 3 1 _ = Box.rows 3 1 _
    congr 1
    rw [Int.toNat_natCast, List.replicate_succ]
    simp [carriers, encI]
  rintro k hk
  (conv => whnf)
  refine ask_m (fun h => ?_) (fun h => ?_)
  · have hlt : k < r.joints.length := by simpa using h
    obtain ⟨j, hj⟩ : ∃ j, r.joints[k]? = some j := ⟨_, List.getElem?_eq_getElem hlt⟩
    have hkk : IntKind.i64.wrap ((k : Int) + 1) = ((k + 1 : Nat) : Int) := by rw [w64] <;> omega
    obtain ⟨d1, d2⟩ := hd k j hj
    have hpp : IntKind.i64.wrap (j.parent + 1) = (((j.parent + 1).toNat : Nat) : Int) := by rw [w64] <;> omega
    have hcl : (carriers (r.joints.take k)).length = k + 1 := by rw [car_len, List.length_take]; omega
    have hct := car_take hj
    obtain ⟨m, hm⟩ : ∃ m, r.joints.length - k = m + 1 := ⟨r.joints.length - k - 1, by omega⟩
    have hm2 : r.joints.length - (k + 1) = m := by omega
    rw [carStep, hcl] at hct
    generalize hc : carriers (r.joints.take k) = c at *
    rw [hm, List.replicate_succ]
    (conv => whnf)
    refine idx_and (by omega) (by simpa using hj) ?_
    (conv => whnf)
    rw [hkk]
    refine ⟨⟨by omega, by simp; omega⟩, ?_⟩
    (conv => whnf)
    rw [Int.toNat_natCast]
    refine idx_at (r := encI 0) (by simp [hcl]) ?_
    (conv => whnf)
    refine ask_m (fun h => ?_) (fun h => ?_)
    · have h := of_decide_eq_true h
      rw [if_pos h] at hct
      have hset : ((c ++ 0 :: List.replicate m 0).map encI).set (k + 1) [.int .i64 (k : Int)] = (c ++ (k : Int) :: List.replicate m 0).map encI := row_set hcl
      obtain ⟨x, hx⟩ : ∃ x, c[(j.parent + 1).toNat]? = some x := ⟨_, List.getElem?_eq_getElem (by omega)⟩
      have hxd : c.getD (j.parent + 1).toNat 0 = x := by rw [List.getD_eq_getElem?_getD, hx]; rfl
      rw [hxd] at hct
      (conv => whnf)
      rw [hset, hpp]
      refine ⟨⟨by omega, by simp; omega⟩, ?_⟩
      (conv => whnf)
      rw [Int.toNat_natCast]
      refine idx_map (x := x) (by rw [List.getElem?_append_left (by omega)]; exact hx) ?_
      (conv => whnf)
      refine ⟨⟨by omega, by simp; omega⟩, ?_⟩
      (conv => whnf)
      refine idx_map (x := (k : Int)) (by rw [hkk, Int.toNat_natCast]; simp [hcl]) ?_
      (conv => whnf)
      refine ⟨k + 1, [], hlt, by omega, ⟨⟨rfl, rfl, rfl, rfl, eqI hkk, trivial⟩, ⟨rfl, ?_, trivial⟩⟩⟩
      show Box.rows 3 1 _ = Box.rows 3 1 _
      rw [hkk, Int.toNat_natCast, hct, hm2, List.append_assoc]
      exact congrArg _ (row_set hcl)
    · have h := of_decide_eq_false h
      rw [if_neg h] at hct
      (conv => whnf)
      refine ⟨k + 1, [], hlt, by omega, ⟨⟨rfl, rfl, rfl, rfl, eqI hkk, trivial⟩, ⟨rfl, ?_, trivial⟩⟩⟩
      show Box.rows 3 1 _ = Box.rows 3 1 _
      rw [hct, hm2, List.append_assoc, show ((k + 1 : Nat) : Int) - 1 = k by omega]
      exact congrArg _ (row_set hcl)
  · have hk : k = r.joints.length := by simp at h; omega
    subst hk
    (conv => whnf)
    refine ret0 ?_
    rw [Nat.sub_self, List.take_length]
    simp only [List.replicate_zero, List.append_nil]
    exact ⟨[(0, 1)], ⟨rfl, trivial⟩, ⟨rfl, trivial⟩⟩
theorem serr_at {n : Nat} : ∀ {l : List Shape} {x : Shape}, shapesErr n l = 0 → x ∈ l → shapeErr n x = 0
  | [], _, _, h => by cases h
  | y :: l, x, h, hx => by
    rw [shapesErr] at h
    split at h
    · rcases List.mem_cons.1 hx with e | e
      · subst e; assumption
      · exact serr_at h e
    · contradiction
theorem scene_good {s : Scene} (h : checkScene s = 0) : checkRobot s.robot = 0 ∧ s.shapes.length ≤ 24 ∧ (∀ x ∈ s.shapes, -1 ≤ x.link ∧ x.link < s.robot.joints.length) ∧ s.skips.length ≤ 64 := by
  unfold checkScene at h
  split at h
  · contradiction
  rename_i h1
  split at h
  · contradiction
  split at h
  · contradiction
  rename_i h2
  split at h
  · contradiction
  simp only [ne_eq, Decidable.not_not] at h1 h2
  refine ⟨h1, by omega, fun x hx => ?_, by omega⟩
  have := serr_at h2 hx
  unfold shapeErr at this
  split at this
  · contradiction
  rename_i h3
  have h4 : linkOk s.robot.joints.length x.link = true := by
    cases h5 : linkOk s.robot.joints.length x.link
    · exact absurd (.inl h5) h3
    · rfl
  simp [linkOk] at h4
  exact h4
def carr (s : Scene) (k : Int) : Int := (carriers s.robot.joints).getD (k + 1).toNat 0
def wanted (s : Scene) (x y : Shape) : Bool := !(decide (carr s x.link = carr s y.link)) && !(skipped s x.link y.link)
def wantAt (s : Scene) (i j : Nat) : Bool := decide (i < j) && match s.shapes[i]?, s.shapes[j]? with
  | some x, some y => wanted s x y
  | _, _ => false
def pairRow (s : Scene) (i j : Nat) : List Pair := ((List.range j).filter (wantAt s i)).map fun (j : Nat) => ⟨(i : Int), (j : Int)⟩
def pairsTo (s : Scene) (k : Nat) : List Pair := (List.range k).flatMap fun i => pairRow s i s.shapes.length
def pairs (s : Scene) : List Pair := if checkScene s = 0 then pairsTo s s.shapes.length else []
theorem pairRow_self (s : Scene) (i : Nat) : pairRow s i (i + 1) = [] := by
  unfold pairRow
  rw [List.map_eq_nil_iff, List.filter_eq_nil_iff]
  intro j hj
  have := List.mem_range.1 hj
  simp [wantAt]; omega
theorem pairRow_succ (s : Scene) (i j : Nat) : pairRow s i (j + 1) = pairRow s i j ++ if wantAt s i j then [⟨(i : Int), (j : Int)⟩] else [] := by
  unfold pairRow
  rw [List.range_succ, List.filter_append, List.map_append]
  congr 1
  by_cases h : wantAt s i j <;> simp [h]
theorem pairsTo_succ (s : Scene) (k : Nat) : pairsTo s (k + 1) = pairsTo s k ++ pairRow s k s.shapes.length := by
  unfold pairsTo; rw [List.range_succ]; simp
theorem pairRow_len (s : Scene) (i j : Nat) : (pairRow s i j).length ≤ j := by
  unfold pairRow; rw [List.length_map]; exact Nat.le_trans (List.length_filter_le _ _) (by simp)
theorem pairsTo_len (s : Scene) (k : Nat) : (pairsTo s k).length ≤ k * s.shapes.length := by
  induction k with
  | zero => simp [pairsTo]
  | succ k ih => rw [pairsTo_succ, List.length_append, Nat.succ_mul]; have := pairRow_len s k s.shapes.length; omega
abbrev bPa (l : List Pair) : Box := .rows Y.Pair 2 (l.map encPa)
theorem scene_Pairs (s : Scene) (hs : small s) : FnOk Tryz.prog F.scene_Pairs [Sc s] [] 0 (.one (.row 0)) [(0, bPa (pairs s))] 1 := by
  refine fnOk tab mix G.scene_Pairs rfl rfl (by kernel_rfl) rfl rfl ?_
  (conv => whnf)
  refine call_i (scene_Check s hs) ?_
  (conv => whnf)
  refine ask_m (fun h => ?_) (fun h => ?_)
  · have h : ¬ checkScene s = 0 := by simpa using h
    (conv => whnf)
    refine retO [.own 2 Y.Pair 2] ?_
    (conv => whnf)
    have e : pairs s = [] := by unfold pairs; rw [if_neg h]
    rw [e]
    exact ⟨[(0, 1)], ⟨rfl, trivial⟩, ⟨rfl, trivial⟩⟩
  have h0 : checkScene s = 0 := by simpa using h
  obtain ⟨g1, g2, g3, g4⟩ := scene_good h0
  obtain ⟨g5, g6, g7⟩ := robot_good g1
  have e : pairs s = pairsTo s s.shapes.length := by unfold pairs; rw [if_pos h0]
  rw [e]
  (conv => whnf)
  refine call_i (scene_carriers s.robot (by omega) g7) ?_
  (conv => whnf)
  have hcl := car_len s.robot.joints
  have hcar : ∀ k : Int, -1 ≤ k → k < s.robot.joints.length → (carriers s.robot.joints)[(k + 1).toNat]? = some (carr s k) := fun k h1 h2 => by
    have h3 : (k + 1).toNat < (carriers s.robot.joints).length := by omega
    rw [carr, List.getD_eq_getElem?_getD, List.getElem?_eq_getElem h3]; rfl
  refine loop_intro (fun k : Nat => ⟨[(1, .one (.vptr 0 0)), (3, .one (.row 1)), (4, .one (.row 2)), (17, .one (.dv (dShs s.shapes))), (18, I s.shapes.length), (19, I k)], [(0, bSc s), (1, .rows 3 1 ((carriers s.robot.joints).map encI)), (2, bPa (pairsTo s k))], 3⟩) (fun k => k ≤ s.shapes.length) (fun k => s.shapes.length - k) [.own 4 Y.Pair 2] 0 [] (Nat.zero_le _) ⟨⟨rfl, rfl, rfl, rfl, eqI (by simp), rfl, trivial⟩, ⟨rfl, rfl, rfl, trivial⟩⟩ ?_
  rintro k hk
  (conv => whnf)
  refine ask_m (fun h => ?_) (fun h => ?_)
  · have hlt : k < s.shapes.length := by simpa using h
    obtain ⟨x, hx⟩ : ∃ j, s.shapes[k]? = some j := ⟨_, List.getElem?_eq_getElem hlt⟩
    have hkk : IntKind.i64.wrap ((k : Int) + 1) = ((k + 1 : Nat) : Int) := by rw [w64] <;> omega
    obtain ⟨x1, x2⟩ := g3 x (List.mem_of_getElem? hx)
    have hxl : IntKind.i64.wrap (x.link + 1) = x.link + 1 := by rw [w64] <;> omega
    (conv => whnf)
    refine idx_and (by omega) (by simpa using hx) ?_
    (conv => whnf)
    refine loop_intro (fun j : Nat => ⟨[(1, .one (.vptr 0 0)), (3, .one (.row 1)), (4, .one (.row 2)), (17, .one (.dv (dShs s.shapes))), (18, I s.shapes.length), (19, I k), (5, I k), (6, .one (.vptr 3 0)), (7, I j)], [(0, bSc s), (1, .rows 3 1 ((carriers s.robot.joints).map encI)), (2, bPa (pairsTo s k ++ pairRow s k j)), (3, .vars Y.Shape [.dv (.int .i64 x.link), .dv (.int .i64 x.radius), .dv (dVs x.points)])], 4⟩) (fun j => k < j ∧ j ≤ s.shapes.length) (fun j => s.shapes.length - j) [] (k + 1) [] ⟨by omega, by omega⟩ ⟨⟨rfl, rfl, rfl, rfl, rfl, rfl, rfl, rfl, eqI hkk, trivial⟩, ⟨rfl, rfl, ?_, rfl, trivial⟩⟩ ?_
    · show bPa _ = bPa _
      rw [pairRow_self, List.append_nil]
    rintro j ⟨hj1, hj2⟩
    (conv => whnf)
    refine ask_m (fun h => ?_) (fun h => ?_)
    · have hlj : j < s.shapes.length := by simpa using h
      obtain ⟨y, hy⟩ : ∃ y, s.shapes[j]? = some y := ⟨_, List.getElem?_eq_getElem hlj⟩
      have hjj : IntKind.i64.wrap ((j : Int) + 1) = ((j + 1 : Nat) : Int) := by rw [w64] <;> omega
      obtain ⟨y1, y2⟩ := g3 y (List.mem_of_getElem? hy)
      have hyl : IntKind.i64.wrap (y.link + 1) = y.link + 1 := by rw [w64] <;> omega
      have hw : wantAt s k j = wanted s x y := by simp [wantAt, hx, hy, hj1]
      (conv => whnf)
      refine idx_and (by omega) (by simpa using hy) ?_
      (conv => whnf)
      rw [hxl]
      refine ⟨⟨by omega, by simp; omega⟩, ?_⟩
      (conv => whnf)
      refine idx_map (hcar _ x1 x2) ?_
      (conv => whnf)
      rw [hyl]
      refine ⟨⟨by omega, by simp; omega⟩, ?_⟩
      (conv => whnf)
      refine idx_map (hcar _ y1 y2) ?_
      (conv => whnf)
      have hjl := pairsTo_len s k
      have hjr := pairRow_len s k j
      have hbig : (pairsTo s k ++ pairRow s k j).length ≤ 1000 := by
        rw [List.length_append]
        have := Nat.mul_le_mul (show k ≤ 24 by omega) g2
        omega
      generalize hb : (carr s x.link == carr s y.link) = b
      cases b with
      | true =>
        have hwf : wantAt s k j = false := by rw [hw, wanted]; simp at hb; simp [hb]
        (conv => whnf)
        refine ⟨j + 1, [], ⟨by omega, by omega⟩, by omega, ⟨⟨rfl, rfl, rfl, rfl, rfl, rfl, rfl, rfl, eqI hjj, trivial⟩, ⟨rfl, rfl, ?_, rfl, trivial⟩⟩⟩
        have e2 : pairRow s k (j + 1) = pairRow s k j := by rw [pairRow_succ, hwf]; simp
        rw [e2]; rfl
      | false =>
        (conv => whnf)
        refine call_i (scene_Skipped s x.link y.link (by omega)) ?_
        (conv => whnf)
        generalize hb2 : skipped s x.link y.link = b2
        have hwf : wantAt s k j = !b2 := by rw [hw, wanted, hb2]; simp at hb; simp [hb]
        refine ask_m (fun h => ?_) (fun h => ?_)
        · have e2 : pairRow s k (j + 1) = pairRow s k j ++ [⟨(k : Int), (j : Int)⟩] := by rw [pairRow_succ, hwf, h]; rfl
          (conv => whnf)
          rw [List.length_append] at hbig
          refine ⟨⟨by simp; omega, by simp; omega⟩, ?_⟩
          (conv => whnf)
          refine ⟨j + 1, [(2, 6)], ⟨by omega, by omega⟩, by omega, ⟨⟨rfl, rfl, rfl, rfl, rfl, rfl, rfl, rfl, eqI hjj, trivial⟩, ⟨rfl, rfl, ?_, rfl, trivial⟩⟩⟩
          show Box.rows Y.Pair 2 _ = Box.rows Y.Pair 2 _
          refine congrArg _ ?_
          rw [e2, ← List.append_assoc, List.map_append (l₁ := pairsTo s k ++ pairRow s k j)]; rfl
        · have e2 : pairRow s k (j + 1) = pairRow s k j := by rw [pairRow_succ, hwf, h]; simp
          (conv => whnf)
          refine ⟨j + 1, [], ⟨by omega, by omega⟩, by omega, ⟨⟨rfl, rfl, rfl, rfl, rfl, rfl, rfl, rfl, eqI hjj, trivial⟩, ⟨rfl, rfl, ?_, rfl, trivial⟩⟩⟩
          rw [e2]; rfl
    · have hj : j = s.shapes.length := by simp at h; omega
      subst hj
      (conv => whnf)
      refine ⟨k + 1, [], hlt, by omega, ⟨⟨rfl, rfl, rfl, rfl, rfl, eqI hkk, trivial⟩, ⟨rfl, rfl, ?_, trivial⟩⟩⟩
      rw [pairsTo_succ]; rfl
  · have hk : k = s.shapes.length := by simp at h; omega
    subst hk
    (conv => whnf)
    refine ret0 ?_
    exact ⟨[(0, 2)], ⟨rfl, trivial⟩, ⟨rfl, trivial⟩⟩
end Go.Proofs.YtafglmjadbplcaaGreatDoor

/- scene.Read. -/
namespace Go.Proofs.YtafglmjadbplcaaGreatDoor
open Eng
set_option maxRecDepth 10000
attribute [local irreducible] FnOk loopW idxF retX arrF findF

abbrev LkR (js : List Joint) (w : ByteArray) : SV := .tup [(false, [.dv (.int .i64 (linkI js w))]), (false, [.dv (.bool (linkB js w))])]
theorem scene_findLink (r : Robot) (w : ByteArray) (hr : r.joints.length ≤ 1000000000) : FnOk Tryz.prog F.scene_findLink [Ro r, Tx w] [] 0 (LkR r.joints w) [] 0 := by
  by_cases h : w = worldT
  · have e1 : linkI r.joints w = -1 := if_pos h
    have e2 : linkB r.joints w = true := by simp [linkB, h]
    simp only [LkR, e1, e2]
    refine fnOk tab mix G.scene_findLink rfl rfl (by kernel_rfl) rfl rfl ?_
    (conv => whnf)
    refine ask_mt (decide_eq_true h) ?_
    (conv => whnf)
    refine ret0 ?_
    exact ⟨[], ⟨rfl, trivial⟩, trivial⟩
  · have e1 : linkI r.joints w = find r.joints w 0 := if_neg h
    have e2 : linkB r.joints w = decide (0 ≤ find r.joints w 0) := by simp [linkB, h]
    simp only [LkR, e1, e2]
    refine fnOk tab mix G.scene_findLink rfl rfl (by kernel_rfl) rfl rfl ?_
    (conv => whnf)
    refine ask_mf (decide_eq_false h) ?_
    (conv => whnf)
    refine call_i (robot_Find r w (by omega)) ?_
    (conv => whnf)
    (conv => whnf)
    refine ret0 ?_
    exact ⟨[], ⟨rfl, trivial⟩, trivial⟩
abbrev mSc (r : Robot) (q : Acc) : List (Nat × Box) := [(0, .vars Y.Scene [.dv (dJs r.joints), .dv (dMs r.masses), .row 1, .row 2]), (1, .rows Y.Shape 3 (q.shapes.map encSh)), (2, .rows Y.Skip 2 (q.skips.map encSk))]
abbrev mSc' (r : Robot) (q : Acc) : List (Nat × Box) := [(0, .vars Y.Scene [.dv (dJs r.joints), .dv (dMs r.masses), .row 3, .row 4]), (3, .rows Y.Shape 3 (q.shapes.map encSh)), (4, .rows Y.Skip 2 (q.skips.map encSk))]
theorem scene_addSkip (r : Robot) (q : Acc) (a b : ByteArray) (hr : r.joints.length ≤ 1000000000) (hq : q.skips.length ≤ 1000000000) : FnOk Tryz.prog F.scene_addSkip [.one (.vptr 0 0), .one (.dv (dAs [a, b]))] (mSc r q) 3 (I (readSk r.joints q [a, b]).1) (mSc' r (readSk r.joints q [a, b]).2) 5 := by
  refine fnOk tab mix G.scene_addSkip rfl rfl (by kernel_rfl) rfl rfl ?_
  (conv => whnf)
  refine idx_and (xs := [a, b]) (x := a) (by decide) rfl ?_
  (conv => whnf)
  refine call_i (scene_findLink r a hr) ?_
  (conv => whnf)
  refine idx_and (xs := [a, b]) (x := b) (by decide) rfl ?_
  (conv => whnf)
  refine call_i (scene_findLink r b hr) ?_
  (conv => whnf)
  rw [readSk]
  cases h1 : linkB r.joints a with
  | false =>
    (conv => whnf)
    (conv => whnf)
    refine retO [] ?_
    (conv => whnf)
    exact ⟨[(3, 1), (4, 2)], ⟨rfl, trivial⟩, ⟨rfl, rfl, rfl, trivial⟩⟩
  | true =>
    (conv => whnf)
    cases h2 : linkB r.joints b with
    | false =>
      (conv => whnf)
      (conv => whnf)
      refine retO [] ?_
      (conv => whnf)
      exact ⟨[(3, 1), (4, 2)], ⟨rfl, trivial⟩, ⟨rfl, rfl, rfl, trivial⟩⟩
    | true =>
      (conv => whnf)
      refine ⟨⟨by simp; omega, by simp; omega⟩, ?_⟩
      (conv => whnf)
      (conv => whnf)
      refine retO [] ?_
      (conv => whnf)
      exact ⟨[(3, 1), (4, 4)], ⟨rfl, trivial⟩, ⟨rfl, rfl, rows_eq (by rw [if_neg (by decide), List.map_append]; rfl), trivial⟩⟩
theorem scene_addShape (r : Robot) (q : Acc) (n rd : ByteArray) (cs : List ByteArray) (m : Nat) (hcs : cs.length = 3 * m) (hm : m ≤ 1000) (hr : r.joints.length ≤ 1000000000) (hq : q.shapes.length ≤ 1000000000) (hs : ∀ w ∈ rd :: cs, w.size ≤ 4611686018427387904) : FnOk Tryz.prog F.scene_addShape [.one (.vptr 0 0), .one (.dv (dAs (n :: rd :: cs)))] (mSc r q) 3 (I (readSh r.joints q (n :: rd :: cs)).1) (mSc' r (readSh r.joints q (n :: rd :: cs)).2) 5 := by
  refine fnOkG [(17, [.frz 3])] tab mix G.scene_addShape rfl rfl (by kernel_rfl) rfl rfl ?_
  (conv => whnf)
  refine idx_and (xs := n :: rd :: cs) (x := n) (by decide) rfl ?_
  (conv => whnf)
  refine call_i (scene_findLink r n hr) ?_
  (conv => whnf)
  rw [readSh]
  cases h1 : linkB r.joints n with
  | false =>
    (conv => whnf)
    (conv => whnf)
    refine retO [] ?_
    (conv => whnf)
    exact ⟨[(3, 1), (4, 2)], ⟨rfl, trivial⟩, ⟨rfl, rfl, rfl, trivial⟩⟩
  | true =>
  rw [if_neg (by decide)]
  (conv => whnf)
  refine idx_and (xs := n :: rd :: cs) (x := rd) (by decide) rfl ?_
  (conv => whnf)
  refine call_i (token_Number rd (hs rd (by simp))) ?_
  (conv => whnf)
  cases h2 : (numOf rd).2 with
  | false =>
    rw [if_pos (by rw [List.all_cons, h2]; rfl)]
    (conv => whnf)
    (conv => whnf)
    refine retO [] ?_
    (conv => whnf)
    exact ⟨[(3, 1), (4, 2)], ⟨rfl, trivial⟩, ⟨rfl, rfl, rfl, trivial⟩⟩
  | true =>
  rw [List.all_cons, h2, Bool.true_and]
  have ed : IntKind.i64.wrap ((((cs.map encA).length : Nat) : Int).tdiv 3) = (m : Int) := by
    rw [List.length_map, hcs, Int.tdiv_eq_ediv_of_nonneg (by omega), w64] <;> omega
  (conv => whnf)
  refine ⟨⟨by decide, by simp; omega⟩, ?_⟩
  (conv => whnf)
  have es : List.drop (Int.toNat 2) (List.take ((n :: rd :: cs).map encA).length ((n :: rd :: cs).map encA)) = cs.map encA := by rw [List.take_length]; rfl
  rw [es]
  refine ⟨(by decide : (3 : Int) ≠ 0), ?_⟩
  (conv => whnf)
  rw [ed]
  refine ⟨⟨by omega, by omega, by show (24 : Int) * _ ≤ _; omega, by omega⟩, ?_⟩
  (conv => whnf)
  obtain ⟨xs, hxs⟩ : ∃ xs, xs = cs.map fun w => (numOf w).1 := ⟨_, rfl⟩
  refine loop_intro (fun k : Nat => ⟨[(0, .one (.vptr 0 0)), (5, I (linkI r.joints n)), (7, I (numOf rd).1), (10, .one (.row 3)), (43, .one (.dv (dAs cs))), (44, I cs.length), (45, I k)], [(0, .vars Y.Scene [.dv (dJs r.joints), .dv (dMs r.masses), .row 1, .row 2]), (1, .rows Y.Shape 3 (q.shapes.map encSh)), (2, .rows Y.Skip 2 (q.skips.map encSk)), (3, .rows Y.Vec 3 (fillP xs m k))], 4⟩) (fun k => k ≤ cs.length ∧ ((cs.take k).all fun w => (numOf w).2) = true) (fun k => cs.length - k) [] 0 [] ⟨Nat.zero_le _, rfl⟩ ⟨⟨rfl, rfl, rfl, rfl, rfl, eqI (by simp), rfl, trivial⟩, ⟨rfl, rfl, rfl, rows_eq ?_, trivial⟩⟩ ?_
  · rw [Int.toNat_natCast]
    refine (List.eq_replicate_iff.2 ⟨fillP_len _ _ _, fun b hb => ?_⟩).symm
    obtain ⟨j, _, rfl⟩ := List.mem_map.1 hb
    simp [cAt]
  rintro k ⟨hk, hall⟩
  have hkk : IntKind.i64.wrap ((k : Int) + 1) = ((k + 1 : Nat) : Int) := by rw [w64] <;> omega
  (conv => whnf)
  refine ask_m (fun hlt => ?_) (fun hlt => ?_)
  · have hlt : k < cs.length := by have := of_decide_eq_true hlt; omega
    obtain ⟨w, hw⟩ : ∃ w, cs[k]? = some w := ⟨_, List.getElem?_eq_getElem hlt⟩
    have hx : xs[k]? = some (numOf w).1 := by rw [hxs, List.getElem?_map, hw]; rfl
    (conv => whnf)
    refine idx_and (by omega) (by simpa using hw) ?_
    (conv => whnf)
    refine call_i (token_Number w (hs w (by simp [List.mem_of_getElem? hw]))) ?_
    (conv => whnf)
    cases hb : (numOf w).2 with
    | false =>
      rw [if_pos (all_not hw hb)]
      (conv => whnf)
      (conv => whnf)
      refine retO [] ?_
      (conv => whnf)
      exact ⟨[(3, 1), (4, 2)], ⟨rfl, trivial⟩, ⟨rfl, rfl, rfl, trivial⟩⟩
    | true =>
      have hk3 : k / 3 < m := by omega
      have q1 : IntKind.i64.wrap ((k : Int).tdiv 3) = ((k / 3 : Nat) : Int) := by rw [Int.tdiv_eq_ediv_of_nonneg (by omega), w64 (by omega) (by omega)]; omega
      have q2 : (k : Int).tmod 3 = ((k % 3 : Nat) : Int) := by rw [Int.tmod_eq_emod_of_nonneg (by omega)]; omega
      have hst := fillP_set hx (m := m) (by omega)
      (conv => whnf)
      refine ⟨(by decide : (3 : Int) ≠ 0), ?_⟩
      (conv => whnf)
      rw [q1]
      refine ⟨(by decide : (3 : Int) ≠ 0), ?_⟩
      (conv => whnf)
      rw [q2]
      refine ⟨⟨by omega, by rw [fillP_len]; omega⟩, ?_⟩
      (conv => whnf)
      refine ⟨⟨by omega, by show _ < (3 : Int); omega⟩, ?_⟩
      (conv => whnf)
      rw [Int.toNat_natCast, Int.toNat_natCast]
      refine idx_at (fillP_at hk3) ?_
      have h3 : k % 3 = 0 ∨ k % 3 = 1 ∨ k % 3 = 2 := by omega
      rcases h3 with h3 | h3 | h3
      all_goals
        rw [h3] at hst ⊢
        (conv => whnf)
        exact ⟨k + 1, [], ⟨hlt, all_take hall hw hb⟩, by omega, ⟨⟨rfl, rfl, rfl, rfl, rfl, rfl, eqI hkk, trivial⟩, ⟨rfl, rfl, rfl, rows_eq (by rw [← hst]; rfl), trivial⟩⟩⟩
  · have hk : k = cs.length := by have := of_decide_eq_false hlt; omega
    subst hk
    rw [List.take_length] at hall
    rw [if_neg (by rw [hall]; decide)]
    have hf := ptsOf_fill m xs (by rw [hxs, List.length_map, hcs])
    have hxl : xs.length = cs.length := by rw [hxs, List.length_map]
    rw [hxl] at hf
    rw [← hf, ← hxs]
    (conv => whnf)
    refine ⟨⟨by simp; omega, by simp; omega⟩, ?_⟩
    (conv => whnf)
    (conv => whnf)
    refine retO [] ?_
    (conv => whnf)
    exact ⟨[(3, 5), (4, 2)], ⟨rfl, trivial⟩, ⟨rfl, rows_eq (by rw [List.map_append]; rfl), rfl, trivial⟩⟩
end Go.Proofs.YtafglmjadbplcaaGreatDoor

/- scene.add, scene.Read. -/
namespace Go.Proofs.YtafglmjadbplcaaGreatDoor
open Eng
set_option maxRecDepth 10000
attribute [local irreducible] FnOk loopW idxF retX arrF findF

theorem len_shape {l : List ByteArray} (h : argsB wShape (l.length : Int) = true) : ∃ n rd cs m, l = n :: rd :: cs ∧ cs.length = 3 * m ∧ m ≤ 8 := by
  obtain ⟨h1, h2, h3⟩ := args_shape h
  match l, h1, h2, h3 with
  | n :: rd :: cs, h1, h2, h3 =>
    simp only [List.length_cons] at h1 h2 h3
    exact ⟨n, rd, cs, cs.length / 3, rfl, by omega, by omega⟩
theorem len_skip {l : List ByteArray} (h : argsB wSkip (l.length : Int) = true) : ∃ a b, l = [a, b] := by
  have h1 := args_skip h
  match l, h1 with
  | [a, b], _ => exact ⟨a, b, rfl⟩
theorem scene_add (r : Robot) (q : Acc) (s : Stmt) (hr : r.joints.length ≤ 1000000000) (hq : q.shapes.length ≤ 1000000000) (hq2 : q.skips.length ≤ 1000000000) (hs : stOk s) : FnOk Tryz.prog F.scene_add [.one (.vptr 0 0), StA s] (mSc r q) 3 (I (readSc r.joints q s).1) (mSc' r (readSc r.joints q s).2) 5 := by
  refine fnOk tab mix G.scene_add rfl rfl (by kernel_rfl) rfl rfl ?_
  (conv => whnf)
  by_cases h1 : s.word = wShape
  · have d1 : decide (s.word = (⟨#[115, 104, 97, 112, 101]⟩ : ByteArray)) = true := isLit h1 rfl
    rw [d1]
    (conv => whnf)
    refine call_i (syntax_Arguments s.word ((s.args.map encA).length)) ?_
    (conv => whnf)
    rw [List.length_map]
    cases ha : argsB s.word (s.args.length : Int) with
    | false =>
      have hst : readSc r.joints q s = (702, q) := by rw [readSc, if_neg (by simp [h1]), if_pos ha]
      rw [hst]
      (conv => whnf)
      (conv => whnf)
      refine retO [] ?_
      (conv => whnf)
      exact ⟨[(3, 1), (4, 2)], ⟨rfl, trivial⟩, ⟨rfl, rfl, rfl, trivial⟩⟩
    | true =>
      obtain ⟨n, rd, cs, m, e, e1, e2⟩ := len_shape (by rw [h1] at ha; exact ha)
      have hst : readSc r.joints q s = readSh r.joints q (n :: rd :: cs) := by rw [readSc, if_neg (by simp [h1]), if_neg (by rw [ha]; decide), if_pos h1, e]
      rw [hst, e]
      (conv => whnf)
      rw [d1]
      (conv => whnf)
      refine call_i (scene_addShape r q n rd cs m e1 (by omega) hr hq (fun w hw => hs w (by rw [e]; exact List.mem_cons_of_mem _ hw))) ?_
      (conv => whnf)
      (conv => whnf)
      refine retO [] ?_
      (conv => whnf)
      exact ⟨[(3, 4), (4, 5)], ⟨rfl, trivial⟩, ⟨rfl, rfl, rfl, trivial⟩⟩
  have d1 : decide (s.word = (⟨#[115, 104, 97, 112, 101]⟩ : ByteArray)) = false := noLit h1 rfl
  rw [d1]
  (conv => whnf)
  by_cases h2 : s.word = wSkip
  · have d2 : decide (s.word = (⟨#[115, 107, 105, 112]⟩ : ByteArray)) = true := isLit h2 rfl
    rw [d2]
    (conv => whnf)
    refine call_i (syntax_Arguments s.word ((s.args.map encA).length)) ?_
    (conv => whnf)
    rw [List.length_map]
    cases ha : argsB s.word (s.args.length : Int) with
    | false =>
      have hst : readSc r.joints q s = (702, q) := by rw [readSc, if_neg (by simp [h2]), if_pos ha]
      rw [hst]
      (conv => whnf)
      (conv => whnf)
      refine retO [] ?_
      (conv => whnf)
      exact ⟨[(3, 1), (4, 2)], ⟨rfl, trivial⟩, ⟨rfl, rfl, rfl, trivial⟩⟩
    | true =>
      obtain ⟨a, b, e⟩ := len_skip (by rw [h2] at ha; exact ha)
      have hst : readSc r.joints q s = readSk r.joints q [a, b] := by rw [readSc, if_neg (by simp [h2]), if_neg (by rw [ha]; decide), if_neg h1, e]
      rw [hst, e]
      (conv => whnf)
      rw [d1]
      (conv => whnf)
      refine call_i (scene_addSkip r q a b hr hq2) ?_
      (conv => whnf)
      (conv => whnf)
      refine retO [] ?_
      (conv => whnf)
      exact ⟨[(3, 4), (4, 5)], ⟨rfl, trivial⟩, ⟨rfl, rfl, rfl, trivial⟩⟩
  have d2 : decide (s.word = (⟨#[115, 107, 105, 112]⟩ : ByteArray)) = false := noLit h2 rfl
  rw [d2]
  (conv => whnf)
  have hst : readSc r.joints q s = (0, q) := by rw [readSc, if_pos ⟨h1, h2⟩]
  rw [hst]
  (conv => whnf)
  refine retO [] ?_
  (conv => whnf)
  exact ⟨[(3, 1), (4, 2)], ⟨rfl, trivial⟩, ⟨rfl, rfl, rfl, trivial⟩⟩
theorem readSc_len (js : List Joint) (q : Acc) (s : Stmt) : (readSc js q s).2.shapes.length ≤ q.shapes.length + 1 ∧ (readSc js q s).2.skips.length ≤ q.skips.length + 1 := by
  have h1 : ∀ a, (readSh js q a).2.shapes.length ≤ q.shapes.length + 1 ∧ (readSh js q a).2.skips.length ≤ q.skips.length + 1 := fun a => by
    unfold readSh
    repeat' split
    all_goals simp
  have h2 : ∀ a, (readSk js q a).2.shapes.length ≤ q.shapes.length + 1 ∧ (readSk js q a).2.skips.length ≤ q.skips.length + 1 := fun a => by
    unfold readSk
    repeat' split
    all_goals simp
  unfold readSc
  repeat' split
  all_goals first
    | exact h1 _
    | exact h2 _
    | exact ⟨Nat.le_succ _, Nat.le_succ _⟩
theorem ptsOf_len : ∀ (n : Nat) (l : List Int), l.length ≤ n → (ptsOf l).length ≤ l.length
  | _, [], _ => Nat.le_refl _
  | _, [_], _ => Nat.zero_le _
  | _, [_, _], _ => Nat.zero_le _
  | 0, _ :: _ :: _ :: _, h => by simp at h
  | n + 1, a :: b :: c :: l, h => by
    have := ptsOf_len n l (by simp at h; omega)
    rw [ptsOf]
    simp only [List.length_cons]
    omega
theorem readSc_pts (js : List Joint) (q : Acc) (s : Stmt) (hq : ∀ x ∈ q.shapes, x.points.length ≤ 26) : ∀ x ∈ (readSc js q s).2.shapes, x.points.length ≤ 26 := by
  unfold readSc
  split
  · exact hq
  split
  · exact hq
  rename_i h1 h2
  split
  · rename_i h3
    have h2 : argsB wShape (s.args.length : Int) = true := by rw [h3] at h2; simpa using h2
    obtain ⟨n, rd, cs, m, e, e1, e2⟩ := len_shape h2
    rw [e, readSh]
    split
    · exact hq
    split
    · exact hq
    · intro x hx
      rcases List.mem_append.1 hx with hx | hx
      · exact hq x hx
      · simp only [List.mem_singleton] at hx
        subst hx
        have := ptsOf_len _ (cs.map fun w => (numOf w).1) (Nat.le_refl _)
        rw [List.length_map] at this
        simp only
        omega
  · unfold readSk
    split
    · split
      · exact hq
      · exact hq
    · exact hq
abbrev ScR (p : Scene × Int × Int) : SV := .tup [(true, [.dv (dJs p.1.robot.joints), .dv (dMs p.1.robot.masses), .dv (dShs p.1.shapes), .dv (dSks p.1.skips)]), (true, [.dv (.int .i64 p.2.1), .dv (.int .i64 p.2.2)])]
theorem readRobot_bd (l : List Stmt) : (readRobot l).1.joints.length ≤ l.length ∧ (readRobot l).1.masses.length ≤ l.length := by
  have key : ∀ (l : List Stmt) (r : Robot), (readAll r l).1.joints.length ≤ r.joints.length + l.length ∧ (readAll r l).1.masses.length ≤ r.masses.length + l.length := fun l => by
    induction l with
    | nil => intro r; exact ⟨Nat.le_refl _, Nat.le_refl _⟩
    | cons s l ih =>
      intro r
      rw [readAll]
      split
      · obtain ⟨h1, h2⟩ := ih (readSt r s).2
        obtain ⟨h3, h4⟩ := readSt_len r s
        rw [List.length_cons]; omega
      · exact ⟨Nat.zero_le _, Nat.zero_le _⟩
  obtain ⟨h1, h2⟩ := key l emptyR
  simp only [emptyR, List.length_nil, Nat.zero_add] at h1 h2
  rw [readRobot]
  split
  · exact ⟨h1, h2⟩
  · split
    · exact ⟨Nat.zero_le _, Nat.zero_le _⟩
    · exact ⟨h1, h2⟩
theorem scene_Read (l : List Stmt) (hl : l.length ≤ 10000000) (hs : ∀ s ∈ l, stOk s) : FnOk Tryz.prog F.scene_Read [.one (.dv (dSts l))] [] 0 (ScR (readScene l)) [] 0 := by
  have hR := robot_Read l hl hs
  obtain ⟨b1, b2⟩ := readRobot_bd l
  have hS : readScene l = if (readRobot l).2.1 ≠ 0 then (noScene, (readRobot l).2)
    else if (readAcc (readRobot l).1.joints acc0 l).2.1 ≠ 0 then (noScene, (readAcc (readRobot l).1.joints acc0 l).2)
    else if checkScene (sceneOf (readRobot l).1 (readAcc (readRobot l).1.joints acc0 l).1) ≠ 0 then (noScene, checkScene (sceneOf (readRobot l).1 (readAcc (readRobot l).1.joints acc0 l).1), 0)
    else (sceneOf (readRobot l).1 (readAcc (readRobot l).1.joints acc0 l).1, 0, 0) := rfl
  rw [hS]
  clear hS
  generalize readRobot l = R at *
  obtain ⟨r, c, ln⟩ := R
  simp only at b1 b2 ⊢
  refine fnOk tab mix G.scene_Read rfl rfl (by kernel_rfl) rfl rfl ?_
  (conv => whnf)
  refine call_i (hR) ?_
  (conv => whnf)
  refine ask_m (fun h => ?_) (fun h => ?_)
  · have h : c ≠ 0 := by simpa using h
    rw [if_pos h]
    (conv => whnf)
    refine retO [.ownC 0 0 Y.Joint 12, .ownC 0 1 Y.Mass 5, .ownC 0 2 Y.Shape 3, .ownC 0 3 Y.Skip 2, .frz 4, .frz 5, .frz 6, .frz 7] ?_
    (conv => whnf)
    exact ⟨[], ⟨rfl, trivial⟩, trivial⟩
  have h : c = 0 := by simpa using h
  rw [if_neg (by simp [h])]
  (conv => whnf)
  refine loop_intro (fun p : Nat × Acc => ⟨[(0, .one (.dv (dSts l))), (2, .one (.vptr 0 0)), (3, .one (.vptr 1 0)), (6, .one (.vptr 4 0)), (23, .one (.dv (dSts l))), (24, I l.length), (25, I p.1)], [(0, .vars Y.Scene [.nil 12, .nil 5, .nil 3, .nil 2]), (1, .vars Y.SourceError [.dv (.int .i64 0), .dv (.int .i64 0)]), (4, .vars Y.Scene [.dv (dJs r.joints), .dv (dMs r.masses), .row 5, .row 6]), (5, .rows Y.Shape 3 (p.2.shapes.map encSh)), (6, .rows Y.Skip 2 (p.2.skips.map encSk))], 7⟩) (fun p => p.1 ≤ l.length ∧ p.2.shapes.length ≤ p.1 ∧ p.2.skips.length ≤ p.1 ∧ readAcc r.joints p.2 (l.drop p.1) = readAcc r.joints acc0 l ∧ ∀ x ∈ p.2.shapes, x.points.length ≤ 26) (fun p => l.length - p.1) [.ownC 4 2 Y.Shape 3, .ownC 4 3 Y.Skip 2] (0, acc0) [] ⟨Nat.zero_le _, Nat.zero_le _, Nat.zero_le _, rfl, (fun x hx => by cases hx)⟩ ⟨⟨rfl, rfl, rfl, rfl, rfl, eqI (by simp), rfl, trivial⟩, ⟨rfl, rfl, rfl, rfl, rfl, trivial⟩⟩ ?_
  rintro ⟨k, q⟩ ⟨hk, hj, hm, hall, hpt⟩
  simp only at hk hj hm hall hpt
  have hkk : IntKind.i64.wrap ((k : Int) + 1) = ((k + 1 : Nat) : Int) := by rw [w64] <;> omega
  (conv => whnf)
  refine ask_m (fun hlt => ?_) (fun hlt => ?_)
  · have hlt : k < l.length := by have := of_decide_eq_true hlt; omega
    obtain ⟨s, hsk⟩ : ∃ s, l[k]? = some s := ⟨_, List.getElem?_eq_getElem hlt⟩
    rw [drop_cons hsk, readAcc] at hall
    have hlen := readSc_len r.joints q s
    (conv => whnf)
    refine idx_and (by omega) (by simpa using hsk) ?_
    (conv => whnf)
    refine call_i (scene_add r q s (by omega) (by omega) (by omega) (hs s (List.mem_of_getElem? hsk))) ?_
    (conv => whnf)
    refine ask_m (fun he => ?_) (fun he => ?_)
    · have he : ¬ (readSc r.joints q s).1 = 0 := by simpa using he
      rw [if_neg he] at hall
      rw [← hall, if_pos he]
      (conv => whnf)
      refine retO [.ownC 0 0 Y.Joint 12, .ownC 0 1 Y.Mass 5, .ownC 0 2 Y.Shape 3, .ownC 0 3 Y.Skip 2, .frz 10, .frz 11, .frz 12, .frz 13] ?_
      (conv => whnf)
      exact ⟨[], ⟨rfl, trivial⟩, trivial⟩
    · have he : (readSc r.joints q s).1 = 0 := by simpa using he
      rw [if_pos he] at hall
      (conv => whnf)
      exact ⟨(k + 1, (readSc r.joints q s).2), [(5, 8), (6, 9)], ⟨hlt, by simp only; omega, by simp only; omega, hall, readSc_pts r.joints q s hpt⟩, by simp only; omega, ⟨⟨rfl, rfl, rfl, rfl, rfl, rfl, eqI hkk, trivial⟩, ⟨rfl, rfl, rfl, rfl, rfl, trivial⟩⟩⟩
  · have hk : k = l.length := by have := of_decide_eq_false hlt; omega
    subst hk
    rw [List.drop_length, readAcc] at hall
    rw [← hall, if_neg (by simp)]
    (conv => whnf)
    have hsm : small (sceneOf r q) := ⟨by show r.joints.length ≤ _; omega, by show r.masses.length ≤ _; omega, by show q.shapes.length ≤ _; omega, by show q.skips.length ≤ _; omega, fun x hx => by have := hpt x hx; omega⟩
    refine call_i (scene_Check (sceneOf r q) hsm) ?_
    (conv => whnf)
    refine ⟨⟨trivial, trivial⟩, ?_⟩
    (conv => whnf)
    refine ask_m (fun he => ?_) (fun he => ?_)
    · have he : ¬ checkScene (sceneOf r q) = 0 := by simpa using he
      rw [if_pos he]
      (conv => whnf)
      refine retO [.ownC 0 0 Y.Joint 12, .ownC 0 1 Y.Mass 5, .ownC 0 2 Y.Shape 3, .ownC 0 3 Y.Skip 2, .frz 7, .frz 8, .frz 9, .frz 10] ?_
      (conv => whnf)
      exact ⟨[], ⟨rfl, trivial⟩, trivial⟩
    · have he : checkScene (sceneOf r q) = 0 := by simpa using he
      rw [if_neg (by simp [he])]
      (conv => whnf)
      refine retO [.frz 5, .frz 6] ?_
      (conv => whnf)
      exact ⟨[], ⟨rfl, trivial⟩, trivial⟩
end Go.Proofs.YtafglmjadbplcaaGreatDoor

/-
  DERIVED: THE SHELF's CONTRACTS AT THIS DUMP, IN PLAIN WORDS (tools/lay-plain.mjs out of 'YtafglmjadbplcaaGreatDoorShS.lean', which tools/lay-shelf.mjs wrote): THE SAME DECLARATIONS UNDER THE SAME NAMES: 'import', 'namespace', 'open', 'def', 'theorem' AND NOTHING ELSE: no command of the shelf's: FOR A HAND-IN. Each laying: the table of numbers ('.._ren') and one theorem, a field a fact of the dump's own or the kernel's comparison; each contract: ONE APPLICATION.
-/
namespace Go.Proofs
open Go.Shelf
def Tryz.lays246_ren : Go.Shelf.Ren := ⟨fun | 246 => 66 | 283 => 84 | 284 => 85 | 285 => 86 | 286 => 87 | 129 => 101 | 317 => 100 | 318 => 102 | 319 => 103 | 320 => 104 | 337 => 110 | 338 => 111 | n => n, fun | 2 => 2 | 3 => 3 | 9 => 9 | 4 => 4 | 171 => 148 | 0 => 0 | 53 => 149 | 37 => 152 | 5 => 5 | 173 => 153 | 212 => 170 | 51 => 171 | 20 => 20 | 213 => 172 | 46 => 173 | 232 => 180 | 233 => 181 | n => n, fun | 17 => 1 | 18 => 2 | 19 => 3 | n => n⟩
theorem Tryz.lays246 : Go.Proofs.LaysM.n246 Tryz.prog Tryz.lays246_ren := {
  mixed := by kernel_rfl
  f129 := Tryz.func101.trans (congrArg some (by kernel_rfl))
  f246 := Tryz.func66.trans (congrArg some (by kernel_rfl))
  f283 := Tryz.func84.trans (congrArg some (by kernel_rfl))
  f284 := Tryz.func85.trans (congrArg some (by kernel_rfl))
  f285 := Tryz.func86.trans (congrArg some (by kernel_rfl))
  f286 := Tryz.func87.trans (congrArg some (by kernel_rfl))
  f317 := Tryz.func100.trans (congrArg some (by kernel_rfl))
  f318 := Tryz.func102.trans (congrArg some (by kernel_rfl))
  f319 := Tryz.func103.trans (congrArg some (by kernel_rfl))
  f320 := Tryz.func104.trans (congrArg some (by kernel_rfl))
  f337 := Tryz.func110.trans (congrArg some (by kernel_rfl))
  f338 := Tryz.func111.trans (congrArg some (by kernel_rfl))
  t0 := Tryz.underlying0
  a0 := Tryz.isAgg0
  z0 := Tryz.sizeOf0
  v0 := Tryz.zeroValue0
  t2 := Tryz.underlying2
  a2 := Tryz.isAgg2
  z2 := Tryz.sizeOf2
  v2 := Tryz.zeroValue2
  t3 := Tryz.underlying3
  a3 := Tryz.isAgg3
  z3 := Tryz.sizeOf3
  v3 := Tryz.zeroValue3
  t4 := Tryz.underlying4
  a4 := Tryz.isAgg4
  z4 := Tryz.sizeOf4
  v4 := Tryz.zeroValue4
  t5 := Tryz.underlying5
  a5 := Tryz.isAgg5
  z5 := Tryz.sizeOf5
  v5 := Tryz.zeroValue5
  t9 := Tryz.underlying9
  a9 := Tryz.isAgg9
  z9 := Tryz.sizeOf9
  v9 := Tryz.zeroValue9
  t20 := Tryz.underlying20
  a20 := Tryz.isAgg20
  z20 := Tryz.sizeOf20
  v20 := Tryz.zeroValue20
  t37 := Tryz.underlying152
  a37 := Tryz.isAgg152
  z37 := Tryz.sizeOf152
  v37 := Tryz.zeroValue152
  t46 := Tryz.underlying173
  a46 := Tryz.isAgg173
  z46 := Tryz.sizeOf173
  v46 := Tryz.zeroValue173
  t51 := Tryz.underlying171
  a51 := Tryz.isAgg171
  z51 := Tryz.sizeOf171
  v51 := Tryz.zeroValue171
  t53 := Tryz.underlying149
  a53 := Tryz.isAgg149
  z53 := Tryz.sizeOf149
  v53 := Tryz.zeroValue149
  t171 := Tryz.underlying148
  a171 := Tryz.isAgg148
  z171 := Tryz.sizeOf148
  v171 := Tryz.zeroValue148
  t173 := Tryz.underlying153
  a173 := Tryz.isAgg153
  z173 := Tryz.sizeOf153
  v173 := Tryz.zeroValue153
  t212 := Tryz.underlying170
  a212 := Tryz.isAgg170
  z212 := Tryz.sizeOf170
  v212 := Tryz.zeroValue170
  t213 := Tryz.underlying172
  a213 := Tryz.isAgg172
  z213 := Tryz.sizeOf172
  t232 := Tryz.underlying180
  a232 := Tryz.isAgg180
  z232 := Tryz.sizeOf180
  v232 := Tryz.zeroValue180
  t233 := Tryz.underlying181
  a233 := Tryz.isAgg181
  z233 := Tryz.sizeOf181
  v233 := Tryz.zeroValue181
  g17 := by kernel_rfl
  g18 := by kernel_rfl
  g19 := by kernel_rfl
  i0 := by kernel_rfl
  i2 := by kernel_rfl
  i3 := by kernel_rfl
  i4 := by kernel_rfl
  i5 := by kernel_rfl
  i9 := by kernel_rfl
  i20 := by kernel_rfl
  i37 := by kernel_rfl
  i46 := by kernel_rfl
  i51 := by kernel_rfl
  i53 := by kernel_rfl
  i171 := by kernel_rfl
  i173 := by kernel_rfl
  i212 := by kernel_rfl
  i232 := by kernel_rfl
  i233 := by kernel_rfl
  m17 := by kernel_rfl
  m18 := by kernel_rfl
  m19 := by kernel_rfl }
end Go.Proofs

/- strconv.FormatInt, strings.TrimRight, token.Format. -/
namespace Go.Proofs.YtafglmjadbplcaaGreatDoor
open Eng Go.RowKit
set_option maxRecDepth 100000

/- the bridge -/
theorem gPow : Tryz.prog.globalNamed "internal/strconv.uint64pow10" = some 1 := by kernel_rfl
theorem vPow : lkv GLV 1 = some (Lib.pow10Tab.map fun z => Value.int .u64 z) := by kernel_rfl
theorem mem00 {w0 w w' : World} {X Z A : Nat → Prop} {β : Nat → Value} {m : List (Nat × Box)} (h : MemRel w0 X Z A m β w) (hos : w'.os = w.os) (htp : w'.tape = w.tape) (hout : w'.output = w.output) (hsz : w.heap.size ≤ w'.heap.size) (hh : ∀ k, k < w0.heap.size → ¬ X k → w'.heap[k]? = w.heap[k]?) :
    MemRel w0 X Z A [] β w' :=
  ⟨fun b => ⟨trivial, fun hd => absurd rfl hd⟩, fun b => trivial, fun b b' k hb => absurd rfl hb, fun b k hb => absurd rfl hb, ⟨hos.trans h.ext.os, htp.trans h.ext.tape, hout.trans h.ext.output, Nat.le_trans h.ext.size hsz, fun k hk hX => by rw [hh k hk hX]; exact h.ext.block k hk hX⟩, h.new, fun b sz k hb => by cases hb⟩
theorem intl_FormatInt (n : Int) (h0 : -9223372036854775808 ≤ n) (h1 : n ≤ 9223372036854775807) : FnOk Tryz.prog F.internal_strconv_FormatInt [I n, I 10] [] 0 (Tx (itT n)) [] 0 := by
  refine ⟨by kernel_rfl, fun w Z vs β hargs hmem => ?_⟩
  obtain ⟨v, r, rfl, hv, hr⟩ := all2_cons hargs
  obtain ⟨v2, r, rfl, hv2, hr⟩ := all2_cons hr
  obtain rfl := all2_nil hr
  cases hv
  cases hv2
  obtain ⟨hg, _, _, t, fr, hb⟩ := hmem.new.glob _ _ vPow
  have htab : Lib.TabIs Tryz.prog w "internal/strconv.uint64pow10" .u64 Lib.pow10Tab := by
    unfold Lib.TabIs World.var?
    rw [gPow, Option.bind_some, hb]
  refine (Any.internal_strconv_FormatInt_10 Tryz.lays246 n h0 h1 w htab).mono ?_
  rintro e w' ⟨rfl, k, os, rfl⟩
  refine ⟨_, β, rfl, .str _, trivial, mem00 hmem rfl rfl rfl ?_ ?_, fun b _ hd => absurd rfl hd⟩
  · show w.heap.size ≤ (w.heap ++ os).size
    rw [Array.size_append]; omega
  · intro j hj _
    show (w.heap ++ os)[j]? = w.heap[j]?
    rw [Array.getElem?_append_left hj]
attribute [local irreducible] FnOk loopW idxF retX arrF
theorem strconv_FormatInt (n : Int) (h0 : -9223372036854775808 ≤ n) (h1 : n ≤ 9223372036854775807) : FnOk Tryz.prog F.strconv_FormatInt [I n, I 10] [] 0 (Tx (itT n)) [] 0 := by
  refine fnOk tab mix G.strconv_FormatInt rfl rfl (by kernel_rfl) rfl rfl ?_
  (conv => whnf)
  refine call_i (intl_FormatInt n h0 h1) ?_
  (conv => whnf)
  (conv => whnf)
  refine ret0 ?_
  exact ret_dv rfl rfl
def zeroT : ByteArray := ⟨#[48]⟩
theorem st_trimRightByte (t : ByteArray) (ht : t.size ≤ 4611686018427387904) : FnOk Tryz.prog F.strings_trimRightByte [Tx t, .one (.dv (.int .u8 48))] [] 0 (Tx (t.extract 0 (trimN t t.size))) [] 0 := by
  refine fnOk tab mix G.strings_trimRightByte rfl rfl (by kernel_rfl) rfl rfl ?_
  (conv => whnf)
  refine loop_intro (fun k : Nat => ⟨[(0, Tx (t.extract 0 k)), (1, .one (.dv (.int .u8 48)))], [], 0⟩) (fun k => k ≤ t.size ∧ trimN t k = trimN t t.size) (fun k => k) [] t.size [] ⟨Nat.le_refl _, rfl⟩ ⟨⟨congrArg Tx (by simp), rfl, trivial⟩, trivial⟩ ?_
  rintro k ⟨hk, htr⟩
  have hsz : (t.extract 0 k).size = k := by simp; omega
  have hk1 : IntKind.i64.wrap (((t.extract 0 k).size : Int) - 1) = ((k - 1 : Nat) : Int) → True := fun _ => trivial
  cases k with
  | zero =>
    have g : decide ((0 : Int) < (((t.extract 0 0).size : Nat) : Int)) = false := decide_eq_false (by rw [hsz]; decide)
    have htr : 0 = trimN t t.size := htr
    rw [← htr]
    (conv => whnf)
    rw [g]
    (conv => whnf)
    refine ret0 ?_
    exact ret_dv rfl rfl
  | succ k =>
    have g : decide ((0 : Int) < (((t.extract 0 (k + 1)).size : Nat) : Int)) = true := decide_eq_true (by rw [hsz]; omega)
    have hk1 : IntKind.i64.wrap (((t.extract 0 (k + 1)).size : Int) - 1) = (k : Int) := by rw [hsz, w64] <;> omega
    (conv => whnf)
    rw [g]
    (conv => whnf)
    rw [hk1]
    refine ⟨⟨by omega, by rw [hsz]; omega⟩, ?_⟩
    (conv => whnf)
    rw [Int.toNat_natCast, ext_byte hk (by omega)]
    rw [trimN] at htr
    refine ask_m (fun h8 => ?_) (fun h8 => ?_)
    · have h8 : byteAt t k = 48 := by simpa using h8
      rw [if_pos h8] at htr
      (conv => whnf)
      rw [hk1]
      refine ⟨⟨by omega, by rw [hsz]; omega⟩, ?_⟩
      (conv => whnf)
      rw [Int.toNat_natCast]
      exact ⟨k, [], ⟨by omega, htr⟩, by omega, ⟨⟨congrArg Tx (ext_ext (by omega) hk), rfl, trivial⟩, trivial⟩⟩
    · have h8 : ¬ byteAt t k = 48 := by simpa using h8
      rw [if_neg h8] at htr
      rw [← htr]
      (conv => whnf)
      refine ret0 ?_
      exact ret_dv rfl rfl
theorem st_TrimRight (t : ByteArray) (h0 : 0 < t.size) (ht : t.size ≤ 4611686018427387904) : FnOk Tryz.prog F.strings_TrimRight [Tx t, Tx zeroT] [] 0 (Tx (t.extract 0 (trimN t t.size))) [] 0 := by
  have g : decide (t = (⟨#[]⟩ : ByteArray)) = false := decide_eq_false (by rintro rfl; exact absurd h0 (by decide))
  refine fnOk tab mix G.strings_TrimRight rfl rfl (by kernel_rfl) rfl rfl ?_
  (conv => whnf)
  rw [g]
  (conv => whnf)
  refine ⟨⟨by decide, by decide⟩, ?_⟩
  (conv => whnf)
  refine ⟨⟨by decide, by decide⟩, ?_⟩
  (conv => whnf)
  refine call_i (st_trimRightByte t ht) ?_
  (conv => whnf)
  (conv => whnf)
  refine ret0 ?_
  exact ret_dv rfl rfl
theorem token_Format (n : Int) : FnOk Tryz.prog F.token_Format [I n] [] 0 (Tx (fmtT n)) [] 0 := by
  refine fnOk tab mix G.token_Format rfl rfl (by kernel_rfl) rfl rfl ?_
  (conv => whnf)
  have hX : min (max n (-2147483648 : Int)) 2147483648 = clampI n := by unfold clampI; omega
  rw [hX]
  have hb : -2147483648 ≤ clampI n ∧ clampI n ≤ 2147483648 := by unfold clampI; omega
  have hF : fmtT n = fmtS (if clampI n < 0 then minusT else ByteArray.empty) (clampI n).natAbs := rfl
  rw [hF]
  clear hX hF
  generalize clampI n = x at *
  refine ask_m (fun h => ?_) (fun h => ?_)
  case' refine_1 =>
    have h : x < 0 := by simpa using h
    rw [if_pos h]
    obtain ⟨a, ha⟩ : ∃ a : Nat, x = - (a : Int) := ⟨x.natAbs, by omega⟩
    have hna : x.natAbs = a := by omega
    have hw : IntKind.i64.wrap (0 - x) = (a : Int) := by rw [w64] <;> omega
    rw [hna]
    have hsg : minusT.size ≤ 1 := by decide
    obtain ⟨sgn, hsgn⟩ : ∃ sgn : ByteArray, sgn = minusT := ⟨_, rfl⟩
    rw [← hsgn]
    have hab : a ≤ 2147483648 := by omega
    (conv => whnf)
    rw [hw]
  case' refine_2 =>
    have h : ¬ x < 0 := by simpa using h
    rw [if_neg h]
    obtain ⟨a, ha⟩ : ∃ a : Nat, x = (a : Int) := ⟨x.natAbs, by omega⟩
    have hna : x.natAbs = a := by omega
    rw [hna]
    have hsg : ByteArray.empty.size ≤ 1 := by decide
    obtain ⟨sgn, hsgn⟩ : ∃ sgn : ByteArray, sgn = ByteArray.empty := ⟨_, rfl⟩
    rw [← hsgn]
    have hab : a ≤ 2147483648 := by omega
    subst ha
    (conv => whnf)
  all_goals
    have q1 : IntKind.i64.wrap ((a : Int).tdiv 65536) = ((a / 65536 : Nat) : Int) := by rw [Int.tdiv_eq_ediv_of_nonneg (by omega), w64 (by omega) (by omega)]; omega
    have q2 : (a : Int).tmod 65536 = ((a % 65536 : Nat) : Int) := by rw [Int.tmod_eq_emod_of_nonneg (by omega)]; omega
    have z1 := decT_size (n := a / 65536) (k := 1) (by omega) (by omega)
    have i1 := itT_dec (u := a / 65536) (by omega)
    refine ⟨(by decide : (65536 : Int) ≠ 0), ?_⟩
    (conv => whnf)
    rw [q1]
    refine call_i (strconv_FormatInt ((a / 65536 : Nat) : Int) (by omega) (by omega)) ?_
    (conv => whnf)
    rw [i1]
    refine ⟨(Nat.le_trans (Nat.add_le_add hsg z1.1) (by decide)), ?_⟩
    (conv => whnf)
    refine ⟨(by decide : (65536 : Int) ≠ 0), ?_⟩
    (conv => whnf)
    rw [q2]
    refine ask_m (fun h0 => ?_) (fun h0 => ?_)
    · have h0 : a % 65536 = 0 := by simp at h0; omega
      (conv => whnf)
      refine ret0 ?_
      exact ret_dv (by rw [fmtS, if_pos h0, hsgn]; rfl) rfl
    have h0 : ¬ a % 65536 = 0 := by simp at h0; omega
    rw [fmtS, if_neg h0]
    have hf1 : 1 ≤ a % 65536 ∧ a % 65536 ≤ 65535 := by omega
    generalize a % 65536 = f at *
    have q3 : IntKind.i64.wrap ((IntKind.i64.wrap (IntKind.i64.wrap ((f : Int) * 100000) + 32768)).tdiv 65536) = (((2 * f * 100000 + 65536) / 131072 : Nat) : Int) := by
      rw [w64 (x := (f : Int) * 100000) (by omega) (by omega), w64 (x := (f : Int) * 100000 + 32768) (by omega) (by omega), Int.tdiv_eq_ediv_of_nonneg (by omega), w64 (by omega) (by omega)]; omega
    have hv : 1 ≤ (2 * f * 100000 + 65536) / 131072 ∧ (2 * f * 100000 + 65536) / 131072 ≤ 99999 := by omega
    rw [fracT]
    obtain ⟨v, hv0⟩ : ∃ v, v = (2 * f * 100000 + 65536) / 131072 := ⟨_, rfl⟩
    rw [← hv0] at hv q3 ⊢
    clear hv0
    have q4 : IntKind.i64.wrap (100000 + (v : Int)) = ((100000 + v : Nat) : Int) := by rw [w64] <;> omega
    have i2 := itT_dec (u := 100000 + v) (by omega)
    have z2 := decT_size (n := v) (k := 5) (by omega) (by omega)
    have z3 := decT_size (n := 100000 + v) (k := 1) (by omega) (by omega)
    have z4 := tail6 hv.2
    rw [← hsgn] at hsg
    generalize decT (a / 65536) 1 = d at *
    (conv => whnf)
    refine ⟨(by decide : (65536 : Int) ≠ 0), ?_⟩
    (conv => whnf)
    rw [q3]
    have s0 : (⟨#[]⟩ : ByteArray).size = 0 := rfl
    have s1 : (⟨#[45]⟩ : ByteArray).size = 1 := rfl
    have s2 : (⟨#[46]⟩ : ByteArray).size = 1 := rfl
    refine ⟨(by rw [ByteArray.size_append]; omega), ?_⟩
    (conv => whnf)
    rw [q4]
    refine call_i (strconv_FormatInt ((100000 + v : Nat) : Int) (by omega) (by omega)) ?_
    (conv => whnf)
    rw [i2]
    refine ⟨⟨by decide, by omega⟩, ?_⟩
    (conv => whnf)
    rw [show (decT (100000 + v) 1).extract (1 : Int).toNat (decT (100000 + v) 1).size = decT v 5 from z4]
    refine call_i (st_TrimRight (decT v 5) (by omega) (by omega)) ?_
    (conv => whnf)
    have z5 := trimN_le (decT v 5) (decT v 5).size
    refine ⟨(by rw [ByteArray.size_append, ByteArray.size_append, ByteArray.size_extract]; omega), ?_⟩
    (conv => whnf)
    (conv => whnf)
    refine ret0 ?_
    exact ret_dv (by rw [hsgn]; rfl) rfl
end Go.Proofs.YtafglmjadbplcaaGreatDoor
