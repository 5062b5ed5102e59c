/- token.Split. -/
import Derived.Test.YtgnblfojpcjgmaaSp1
namespace Go.Proofs.Ytgnblfojpcjgmaa
open Eng
set_option maxRecDepth 10000
attribute [local irreducible] FnOk loopW idxF retX arrF

abbrev vE (e l : Int) : Box := .vars Y.SourceError [.dv (.int .i64 e), .dv (.int .i64 l)]
abbrev SpR (r : List Word × Int × Int) : SV := .tup [(false, [.dv (dWs r.1)]), (true, [.dv (.int .i64 r.2.1), .dv (.int .i64 r.2.2)])]
abbrev FnS : SV := .one (.fn F.token_Split_1 [(5, 0), (2, 0), (0, 0), (3, 0), (4, 0)])
theorem token_Split (s : ByteArray) : FnOk Try.prog F.token_Split [Tx s] [] 0 (SpR (splitOf s)) [] 0 := by
  refine fnOk tab mix G.token_Split rfl rfl (by kernel_rfl) rfl rfl ?_
  (conv => whnf)
  refine ask_m (fun h => ?_) (fun h => ?_)
  · have h : 16384 < s.size := by simp at h; omega
    have e : splitOf s = ([], 601, 0) := by rw [splitOf, if_pos h]
    rw [e]
    (conv => whnf)
    refine retO [.own 2 Y.Word 3, .frz 2] ?_
    (conv => whnf)
    exact ⟨[], ⟨rfl, trivial⟩, trivial⟩
  have hs : ¬ 16384 < s.size := by simp at h; omega
  have hsp : splitOf s = if (autoAt s s.size).bad then ([], 601, (autoAt s s.size).line) else (fin s (autoAt s s.size) s.size, 0, 0) := by rw [splitOf, if_neg hs]
  (conv => whnf)
  refine loop_intro (fun p : Nat × SS => ⟨[(1, .one (.vptr 0 0)), (3, .one (.vptr 1 0)), (4, .one (.vptr 2 0)), (5, .one (.vptr 3 0)), (6, .one (.vptr 4 0)), (7, Bo p.2.com), (8, .one (.vptr 5 0)), (9, FnS), (18, .one (.vptr 6 0))],
    [(0, .vars Y.string [.dv (.str s)]), (1, vE 0 0), (2, .vars Y.s_Word [.row 7]), (3, vI p.2.line), (4, vI p.2.bgn), (5, vI p.2.ws), (6, .iter s p.1), (7, bWs p.2.words)], 8⟩)
    (fun p => p.1 ≤ s.size ∧ autoAt s p.1 = p.2 ∧ p.2.bad = false) (fun p => s.size - p.1) [.ownC 2 0 Y.Word 3] (0, ⟨1, 0, false, -1, [], false⟩) [] ⟨Nat.zero_le _, rfl, rfl⟩ ⟨⟨rfl, rfl, rfl, rfl, rfl, rfl, rfl, rfl, rfl, trivial⟩, ⟨rfl, rfl, rfl, rfl, rfl, rfl, rfl, rfl, trivial⟩⟩ ?_
  rintro ⟨k, st⟩ ⟨hk, hst, hbad⟩
  simp only at hk hst hbad
  have hi := auto_inv s k
  rw [hst] at hi
  (conv => whnf)
  refine ask_m (fun h => ?_) (fun h => ?_)
  · have hlt : k < s.size := of_decide_eq_true h
    have hstep := auto_succ s k
    have hskip := auto_skip (s := s) (k := k) hlt (by rw [hst]; exact hbad)
    have hend := dec_end (s := s) (k := k) hlt
    rw [hst] at hstep hskip
    rw [stepS, if_neg (by rw [hbad]; simp)] at hstep
    have F : (byteAt s k = ((Utf8.decode s k).1 : Int) ∧ (Utf8.decode s k).2 = 1) ∨ (128 ≤ byteAt s k ∧ 128 ≤ (Utf8.decode s k).1) := by
      by_cases hb : byteAt s k < 128
      · rw [dec_low hlt hb]; have := byteAt_bd s k; exact .inl ⟨by simp only; omega, rfl⟩
      · exact .inr ⟨by omega, (dec_high hlt (by omega)).1⟩
    have hw1 : 1 ≤ (Utf8.decode s k).2 := by
      by_cases hb : byteAt s k < 128
      · rw [dec_low hlt hb]; exact Nat.le_refl _
      · exact (dec_high hlt (by omega)).2
    have hkk : IntKind.i64.wrap ((k : Int) + 1) = ((k + 1 : Nat) : Int) := by rw [w64] <;> omega
    have hll : IntKind.i64.wrap (st.line + 1) = st.line + 1 := by rw [w64] <;> (have := hi.line1; have := hi.line2; omega)
    generalize ((Utf8.decode s k).1 : Nat) = c at *
    generalize (Utf8.decode s k).2 = w at *
    (conv => whnf)
    refine ask_m (fun h10 => ?_) (fun h10 => ?_)
    · have h10 : (c : Int) = 10 := by simpa using h10
      obtain ⟨hb, rfl⟩ : byteAt s k = 10 ∧ w = 1 := by omega
      rw [if_pos hb] at hstep
      (conv => whnf)
      refine call_i (token_Split_1 s k st hk (by omega) hi) ?_
      (conv => whnf)
      rw [hll, hkk]
      refine ⟨(k + 1, ⟨st.line + 1, k + 1, false, -1, fin s st k, false⟩), [(7, 8)], ⟨hlt, hstep, rfl⟩, by simp only; omega, ⟨⟨rfl, rfl, rfl, rfl, rfl, rfl, rfl, rfl, rfl, trivial⟩, ⟨rfl, rfl, rfl, rfl, rfl, rfl, rfl, rfl, trivial⟩⟩⟩
    have h10 : ¬ (c : Int) = 10 := by simpa using h10
    have hb10 : ¬ byteAt s k = 10 := by omega
    rw [if_neg hb10] at hstep
    (conv => whnf)
    refine ask_m (fun hcm => ?_) (fun hcm => ?_)
    · have hcm : st.com = true := hcm
      have e := hskip hcm hb10 w (Nat.le_refl _) hw1
      (conv => whnf)
      refine ⟨(k + w, st), [], ⟨hend hw1, e, hbad⟩, by simp only; omega, ⟨⟨rfl, rfl, rfl, rfl, rfl, rfl, rfl, rfl, rfl, trivial⟩, ⟨rfl, rfl, rfl, rfl, rfl, rfl, rfl, rfl, trivial⟩⟩⟩
    have hcm : st.com = false := hcm
    rw [if_neg (by rw [hcm]; simp)] at hstep
    (conv => whnf)
    have sp : ((c : Int) = 32 ∨ (c : Int) = 9) → w = 1 ∧ autoAt s (k + 1) = ⟨st.line, st.bgn, false, -1, fin s st k, false⟩ := fun hc => by
      have hb : byteAt s k = 32 ∨ byteAt s k = 9 := by omega
      rw [if_pos hb] at hstep
      exact ⟨by omega, hstep⟩
    refine ask_m (fun h32 => ?_) (fun h32 => ?_)
    · obtain ⟨rfl, e⟩ := sp (.inl (by simpa using h32))
      (conv => whnf)
      refine ask_mt h32 ?_
      (conv => whnf)
      refine call_i (token_Split_1 s k st hk (by omega) hi) ?_
      (conv => whnf)
      refine ⟨(k + 1, ⟨st.line, st.bgn, false, -1, fin s st k, false⟩), [(7, 8)], ⟨hlt, e, rfl⟩, by simp only; omega, ⟨⟨rfl, rfl, rfl, rfl, rfl, eqB hcm, rfl, rfl, rfl, trivial⟩, ⟨rfl, rfl, rfl, rfl, rfl, rfl, rfl, rfl, trivial⟩⟩⟩
    have h32 : ¬ (c : Int) = 32 := by simpa using h32
    (conv => whnf)
    refine ask_m (fun h9 => ?_) (fun h9 => ?_)
    · obtain ⟨rfl, e⟩ := sp (.inr (by simpa using h9))
      (conv => whnf)
      refine call_i (token_Split_1 s k st hk (by omega) hi) ?_
      (conv => whnf)
      refine ⟨(k + 1, ⟨st.line, st.bgn, false, -1, fin s st k, false⟩), [(7, 8)], ⟨hlt, e, rfl⟩, by simp only; omega, ⟨⟨rfl, rfl, rfl, rfl, rfl, eqB hcm, rfl, rfl, rfl, trivial⟩, ⟨rfl, rfl, rfl, rfl, rfl, rfl, rfl, rfl, trivial⟩⟩⟩
    have h9 : ¬ (c : Int) = 9 := by simpa using h9
    rw [if_neg (by omega)] at hstep
    (conv => whnf)
    refine ask_m (fun h35 => ?_) (fun h35 => ?_)
    · have h35 : (c : Int) = 35 := by simpa using h35
      obtain ⟨hb, rfl⟩ : byteAt s k = 35 ∧ w = 1 := by omega
      rw [if_pos hb] at hstep
      (conv => whnf)
      refine call_i (token_Split_1 s k st hk (by omega) hi) ?_
      (conv => whnf)
      refine ⟨(k + 1, ⟨st.line, st.bgn, true, -1, fin s st k, false⟩), [(7, 8)], ⟨hlt, hstep, rfl⟩, by simp only; omega, ⟨⟨rfl, rfl, rfl, rfl, rfl, rfl, rfl, rfl, rfl, trivial⟩, ⟨rfl, rfl, rfl, rfl, rfl, rfl, rfl, rfl, trivial⟩⟩⟩
    have h35 : ¬ (c : Int) = 35 := by simpa using h35
    rw [if_neg (by omega)] at hstep
    (conv => whnf)
    refine call_i (token_isWord c) ?_
    (conv => whnf)
    refine ask_m (fun hwd => ?_) (fun hwd => ?_)
    · have hwd : wordB c = false := by simpa using hwd
      have hb : wordB (byteAt s k) = false := by
        rcases hq : wordB (byteAt s k) with _ | _
        · rfl
        · have := wordB_low hq
          rw [show byteAt s k = (c : Int) by omega] at hq
          rw [hq] at hwd; contradiction
      rw [if_pos hb] at hstep
      have hB : (autoAt s (k + 1)).bad = true := by rw [hstep]
      have := auto_bad hB (s.size - (k + 1))
      rw [show k + 1 + (s.size - (k + 1)) = s.size by omega] at this
      rw [hsp, this, if_pos hB, hstep]
      (conv => whnf)
      refine retO [.own 2 Y.Word 3, .frz 8] ?_
      (conv => whnf)
      exact ⟨[], ⟨rfl, trivial⟩, trivial⟩
    have hwd : wordB c = true := by simpa using hwd
    have hc := wordB_low hwd
    obtain ⟨hb, rfl⟩ : byteAt s k = c ∧ w = 1 := by omega
    rw [if_neg (by rw [hb, hwd]; simp)] at hstep
    (conv => whnf)
    refine ask_m (fun hws => ?_) (fun hws => ?_)
    · have hws : st.ws < 0 := of_decide_eq_true hws
      rw [if_pos hws] at hstep
      (conv => whnf)
      refine ⟨(k + 1, ⟨st.line, st.bgn, false, k, st.words, false⟩), [], ⟨hlt, hstep, rfl⟩, by simp only; omega, ⟨⟨rfl, rfl, rfl, rfl, rfl, eqB hcm, rfl, rfl, rfl, trivial⟩, ⟨rfl, rfl, rfl, rfl, rfl, rfl, rfl, rfl, trivial⟩⟩⟩
    · have hws : ¬ st.ws < 0 := of_decide_eq_false hws
      rw [if_neg hws] at hstep
      (conv => whnf)
      refine ⟨(k + 1, st), [], ⟨hlt, hstep, hbad⟩, by simp only; omega, ⟨⟨rfl, rfl, rfl, rfl, rfl, rfl, rfl, rfl, rfl, trivial⟩, ⟨rfl, rfl, rfl, rfl, rfl, rfl, rfl, rfl, trivial⟩⟩⟩
  · have hk : k = s.size := by have := of_decide_eq_false h; omega
    subst hk
    rw [hst, if_neg (by rw [hbad]; simp)] at hsp
    (conv => whnf)
    refine call_i (token_Split_1 s s.size st (Nat.le_refl _) (by omega) hi) ?_
    (conv => whnf)
    rw [hsp]
    (conv => whnf)
    refine retO [.frz 8] ?_
    (conv => whnf)
    exact ⟨[], ⟨rfl, trivial⟩, trivial⟩
end Go.Proofs.Ytgnblfojpcjgmaa
