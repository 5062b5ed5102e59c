/- ref.Split; words alike. -/
import Derived.Test.YtgnblfojpcjgmaaSp2
namespace Go.Proofs.Ytgnblfojpcjgmaa
open Eng
set_option maxRecDepth 10000
attribute [local irreducible] FnOk loopW idxF retX arrF

deriving instance DecidableEq for Word
def permB (c : Int) : Bool := decide (c = 32) || decide (c = 9) || decide (c = 10) || (decide (33 ≤ c) && decide (c ≤ 126))
theorem ref_permitted (c : Int) : FnOk Try.prog F.ref6_permitted [By c] [] 0 (Bo (permB c)) [] 0 := by
  refine fnOk tab mix G.ref6_permitted rfl rfl (by kernel_rfl) rfl rfl ?_
  repeat' ((conv => whnf); first | refine ask_m (fun h => ?_) (fun h => ?_) | refine ret0 ?_)
  all_goals exact ret_b (by first | (simp_all [permB]; done) | (simp_all [permB]; omega)) rfl
theorem ref_inWord (c : Int) : FnOk Try.prog F.ref6_inWord [By c] [] 0 (Bo (wordB c)) [] 0 := by
  refine fnOk tab mix G.ref6_inWord rfl rfl (by kernel_rfl) rfl rfl ?_
  repeat' ((conv => whnf); first | refine ask_m (fun h => ?_) (fun h => ?_) | refine ret0 ?_)
  all_goals exact ret_b (by by_cases h35 : c = 35 <;> first | (simp_all [wordB]; done) | (simp_all [wordB]; omega)) rfl
theorem ref_Split (s : ByteArray) : FnOk Try.prog F.ref6_Split [Tx s] [] 0 (SpR (splitOf s)) [] 0 := by
  refine fnOk tab mix G.ref6_Split rfl rfl (by kernel_rfl) rfl rfl ?_
  (conv => whnf)
  refine ask_m (fun h => ?_) (fun h => ?_)
  · have h : 16384 < s.size := by simp at h; omega
    have e : splitOf s = ([], 601, 0) := by rw [splitOf, if_pos h]
    rw [e]
    (conv => whnf)
    refine retO [.own 2 Y.Word 3, .frz 1] ?_
    (conv => whnf)
    exact ⟨[], ⟨rfl, trivial⟩, trivial⟩
  have hs : ¬ 16384 < s.size := by simp at h; omega
  have hsp : splitOf s = if (autoAt s s.size).bad then ([], 601, (autoAt s s.size).line) else (fin s (autoAt s s.size) s.size, 0, 0) := by rw [splitOf, if_neg hs]
  (conv => whnf)
  refine loop_intro (fun p : Nat × SS => ⟨[(0, Tx s), (3, .one (.vptr 0 0)), (4, .one (.row 1)), (5, I p.2.line), (6, I p.2.bgn), (7, Bo p.2.com), (8, I p.1)], [(0, vE 0 0), (1, bWs (fin s p.2 p.1))], 2⟩)
    (fun p => p.1 ≤ s.size ∧ autoAt s p.1 = p.2 ∧ p.2.bad = false ∧ (0 ≤ p.2.ws → p.1 = s.size ∨ wordB (byteAt s p.1) = false)) (fun p => s.size - p.1) [.own 4 Y.Word 3] (0, ⟨1, 0, false, -1, [], false⟩) [] ⟨Nat.zero_le _, rfl, rfl, fun h => absurd h (by decide)⟩ ⟨⟨rfl, rfl, rfl, rfl, rfl, rfl, rfl, trivial⟩, ⟨rfl, rfl, trivial⟩⟩ ?_
  rintro ⟨k, st⟩ ⟨hk, hst, hbad, hwk⟩
  simp only at hk hst hbad hwk
  have hi := auto_inv s k
  rw [hst] at hi
  (conv => whnf)
  refine ask_m (fun h => ?_) (fun h => ?_)
  · have hlt : k < s.size := by simp at h; omega
    have hstep := auto_succ s k
    rw [hst, stepS, if_neg (by rw [hbad]; simp)] at hstep
    have hkk : IntKind.i64.wrap ((k : Int) + 1) = ((k + 1 : Nat) : Int) := by rw [w64] <;> omega
    have hll : IntKind.i64.wrap (st.line + 1) = st.line + 1 := by rw [w64] <;> (have := hi.line1; have := hi.line2; omega)
    have hfl := fin_len s st k
    have hle := hi.len
    (conv => whnf)
    refine ⟨⟨by omega, by omega⟩, ?_⟩
    (conv => whnf)
    rw [Int.toNat_natCast]
    generalize hc : byteAt s k = c at *
    have hnf : ∀ (st' : SS) (j : Nat), st'.ws = -1 → fin s st' j = st'.words := fun st' j h => by rw [fin, if_neg (by rw [h]; decide)]
    refine ask_m (fun h10 => ?_) (fun h10 => ?_)
    · have h10 : c = 10 := by simpa using h10
      rw [if_pos h10] at hstep
      (conv => whnf)
      rw [hll, hkk]
      refine ⟨(k + 1, ⟨st.line + 1, k + 1, false, -1, fin s st k, false⟩), [], ⟨hlt, hstep, rfl, fun h => absurd (show (0 : Int) ≤ -1 from h) (by decide)⟩, by simp only; omega, ⟨⟨rfl, rfl, rfl, rfl, rfl, rfl, rfl, trivial⟩, ⟨rfl, ?_, trivial⟩⟩⟩
      exact (congrArg bWs (hnf ⟨st.line + 1, k + 1, false, -1, fin s st k, false⟩ (k + 1) rfl)).symm
    have h10 : ¬ c = 10 := by simpa using h10
    rw [if_neg h10] at hstep
    (conv => whnf)
    refine ask_m (fun hcm => ?_) (fun hcm => ?_)
    · have hcm : st.com = true := hcm
      rw [if_pos hcm] at hstep
      have hw := hi.com hcm
      (conv => whnf)
      rw [hkk]
      refine ⟨(k + 1, st), [], ⟨hlt, hstep, hbad, fun h => absurd (show 0 ≤ st.ws from h) (by omega)⟩, by simp only; omega, ⟨⟨rfl, rfl, rfl, rfl, rfl, rfl, rfl, trivial⟩, ⟨rfl, ?_, trivial⟩⟩⟩
      show bWs _ = bWs _
      simp only
      rw [hnf st _ hw, hnf st _ hw]
    have hcm : st.com = false := hcm
    rw [if_neg (by rw [hcm]; simp)] at hstep
    (conv => whnf)
    refine ask_m (fun h35 => ?_) (fun h35 => ?_)
    · have h35 : c = 35 := by simpa using h35
      rw [if_neg (by omega), if_pos h35] at hstep
      (conv => whnf)
      rw [hkk]
      refine ⟨(k + 1, ⟨st.line, st.bgn, true, -1, fin s st k, false⟩), [], ⟨hlt, hstep, rfl, fun h => absurd (show (0 : Int) ≤ -1 from h) (by decide)⟩, by simp only; omega, ⟨⟨rfl, rfl, rfl, rfl, rfl, rfl, rfl, trivial⟩, ⟨rfl, ?_, trivial⟩⟩⟩
      exact (congrArg bWs (hnf ⟨st.line, st.bgn, true, -1, fin s st k, false⟩ (k + 1) rfl)).symm
    have h35 : ¬ c = 35 := by simpa using h35
    (conv => whnf)
    refine call_i (ref_permitted c) ?_
    (conv => whnf)
    refine ask_m (fun hp => ?_) (fun hp => ?_)
    · have hp : permB c = false := by simpa using hp
      have hw : wordB c = false := by
        simp [permB] at hp
        rcases hq : wordB c with _ | _
        · rfl
        · simp [wordB] at hq; omega
      have h329 : ¬ (c = 32 ∨ c = 9) := by simp [permB] at hp; omega
      rw [if_neg h329, if_neg h35, if_pos hw] at hstep
      have hB : (autoAt s (k + 1)).bad = true := by rw [hstep]
      have := auto_bad hB (s.size - (k + 1))
      rw [show k + 1 + (s.size - (k + 1)) = s.size by omega] at this
      rw [hsp, this, if_pos hB, hstep]
      (conv => whnf)
      refine retO [.own 2 Y.Word 3, .frz 2] ?_
      (conv => whnf)
      exact ⟨[], ⟨rfl, trivial⟩, trivial⟩
    have hp : permB c = true := by simpa using hp
    (conv => whnf)
    refine call_i (ref_inWord c) ?_
    (conv => whnf)
    refine ask_m (fun hw => ?_) (fun hw => ?_)
    · have hw : wordB c = true := hw
      have hws : st.ws = -1 := by
        have := hi.ws0
        rcases Int.lt_or_le st.ws 0 with h | h
        · omega
        · rcases hwk h with h | h
          · omega
          · rw [hw] at h; contradiction
      have h329 : ¬ (c = 32 ∨ c = 9) := by simp [wordB] at hw; omega
      rw [if_neg h329, if_neg h35, if_neg (by rw [hw]; simp), if_pos (by omega)] at hstep
      have hfin : fin s st k = st.words := hnf st k hws
      rw [hfin]
      (conv => whnf)
      refine loop_intro (fun j : Nat => ⟨[(0, Tx s), (3, .one (.vptr 0 0)), (4, .one (.row 1)), (5, I st.line), (6, I st.bgn), (7, Bo st.com), (8, I k), (10, I j)], [(0, vE 0 0), (1, bWs st.words)], 2⟩)
        (fun j => k ≤ j ∧ j ≤ s.size ∧ (j = k ∨ autoAt s j = ⟨st.line, st.bgn, false, k, st.words, false⟩)) (fun j => s.size - j) [] k [] ⟨Nat.le_refl _, hk, .inl rfl⟩ ⟨⟨rfl, rfl, rfl, rfl, rfl, rfl, rfl, rfl, trivial⟩, ⟨rfl, rfl, trivial⟩⟩ ?_
      rintro j ⟨hj1, hj2, hj3⟩
      -- where the word ends
      have stop : k < j → (j = s.size ∨ wordB (byteAt s j) = false) → ∀ Q : Prop, Q → Q := fun _ _ _ q => q
      (conv => whnf)
      refine ask_m (fun hjn => ?_) (fun hjn => ?_)
      · have hjn : j < s.size := by simp at hjn; omega
        have hjj : IntKind.i64.wrap ((j : Int) + 1) = ((j + 1 : Nat) : Int) := by rw [w64] <;> omega
        (conv => whnf)
        refine ⟨⟨by omega, by omega⟩, ?_⟩
        (conv => whnf)
        rw [Int.toNat_natCast]
        refine call_i (ref_inWord (byteAt s j)) ?_
        (conv => whnf)
        refine ask_m (fun hwj => ?_) (fun hwj => ?_)
        · have hwj : wordB (byteAt s j) = true := hwj
          (conv => whnf)
          refine ⟨j + 1, [], ⟨by omega, hjn, .inr ?_⟩, by omega, ⟨⟨rfl, rfl, rfl, rfl, rfl, rfl, rfl, eqI hjj, trivial⟩, ⟨rfl, rfl, trivial⟩⟩⟩
          rcases hj3 with rfl | hj3
          · exact hstep
          · have hl := wordB_low hwj
            have hne : ¬ byteAt s j = 10 ∧ ¬ (byteAt s j = 32 ∨ byteAt s j = 9) ∧ ¬ byteAt s j = 35 := by simp [wordB] at hwj; omega
            rw [auto_succ, hj3, stepS, if_neg (by simp), if_neg hne.1, if_neg (by simp), if_neg hne.2.1, if_neg hne.2.2, if_neg (by rw [hwj]; simp), if_neg (by show ¬ (k : Int) < 0; omega)]
        · have hwj : wordB (byteAt s j) = false := hwj
          have hkj : k < j := by
            rcases Nat.lt_or_ge k j with h | h
            · exact h
            · obtain rfl : j = k := by omega
              rw [hc, hw] at hwj; contradiction
          have hj3 := hj3.resolve_left (by omega)
          (conv => whnf)
          refine ⟨⟨by omega, by omega, by omega⟩, ?_⟩
          (conv => whnf)
          rw [w64 (x := (k : Int) - st.bgn) (by have := hi.bgn0; have := hi.bgn1; omega) (by have := hi.bgn0; omega), w64 (x := (k : Int) - st.bgn + 1) (by have := hi.bgn0; have := hi.bgn1; omega) (by have := hi.bgn0; omega), Int.toNat_natCast, Int.toNat_natCast]
          refine ⟨⟨by simp; omega, by simp; omega⟩, ?_⟩
          (conv => whnf)
          refine ⟨(j, ⟨st.line, st.bgn, false, k, st.words, false⟩), [(1, 3)], ⟨hj2, hj3, rfl, fun _ => .inr hwj⟩, by simp only; omega, ⟨⟨rfl, rfl, rfl, rfl, rfl, eqB hcm, rfl, trivial⟩, ⟨rfl, ?_, trivial⟩⟩⟩
          show Box.rows Y.Word 3 _ = Box.rows Y.Word 3 _
          refine congrArg _ ?_
          simp only [fin]
          rw [if_pos (by omega), List.map_append, Int.toNat_natCast]; rfl
      · have hjn : j = s.size := by simp at hjn; omega
        have hkj : k < j := by omega
        have hj3 := hj3.resolve_left (by omega)
        (conv => whnf)
        refine ⟨⟨by omega, by omega, by omega⟩, ?_⟩
        (conv => whnf)
        rw [w64 (x := (k : Int) - st.bgn) (by have := hi.bgn0; have := hi.bgn1; omega) (by have := hi.bgn0; omega), w64 (x := (k : Int) - st.bgn + 1) (by have := hi.bgn0; have := hi.bgn1; omega) (by have := hi.bgn0; omega), Int.toNat_natCast, Int.toNat_natCast]
        refine ⟨⟨by simp; omega, by simp; omega⟩, ?_⟩
        (conv => whnf)
        refine ⟨(j, ⟨st.line, st.bgn, false, k, st.words, false⟩), [(1, 3)], ⟨hj2, hj3, rfl, fun _ => .inl hjn⟩, by simp only; omega, ⟨⟨rfl, rfl, rfl, rfl, rfl, eqB hcm, rfl, trivial⟩, ⟨rfl, ?_, trivial⟩⟩⟩
        show Box.rows Y.Word 3 _ = Box.rows Y.Word 3 _
        refine congrArg _ ?_
        simp only [fin]
        rw [if_pos (by omega), List.map_append, Int.toNat_natCast]; rfl
    · have hw : wordB c = false := hw
      have h329 : c = 32 ∨ c = 9 := by simp [permB] at hp; simp [wordB] at hw; omega
      rw [if_pos h329] at hstep
      (conv => whnf)
      rw [hkk]
      refine ⟨(k + 1, ⟨st.line, st.bgn, false, -1, fin s st k, false⟩), [], ⟨hlt, hstep, rfl, fun h => absurd (show (0 : Int) ≤ -1 from h) (by decide)⟩, by simp only; omega, ⟨⟨rfl, rfl, rfl, rfl, rfl, eqB hcm, rfl, trivial⟩, ⟨rfl, ?_, trivial⟩⟩⟩
      exact (congrArg bWs (hnf ⟨st.line, st.bgn, false, -1, fin s st k, false⟩ (k + 1) rfl)).symm
  · have hk : k = s.size := by simp at h; omega
    subst hk
    rw [hst, if_neg (by rw [hbad]; simp)] at hsp
    rw [hsp]
    (conv => whnf)
    refine retO [.frz 1] ?_
    (conv => whnf)
    exact ⟨[], ⟨rfl, trivial⟩, trivial⟩
end Go.Proofs.Ytgnblfojpcjgmaa
