/- Names and small numbers: what the code of the chapters 6, 8 and 9 asks of them. -/
import Derived.Test.YtgakendcmakndaaCo2
namespace Go.Proofs.Ytgakendcmakndaa
open Eng
set_option maxRecDepth 10000
attribute [local irreducible] FnOk loopW idxF retX arrF

abbrev Ru (c : Int) : SV := .one (.dv (.int .i32 c))
abbrev By (c : Int) : SV := .one (.dv (.int .u8 c))
theorem token_isLetter (c : Int) : FnOk Try.prog F.token_isLetter [Ru c] [] 0 (Bo (letterB c)) [] 0 := by
  refine fnOk tab mix G.token_isLetter rfl rfl (by kernel_rfl) rfl rfl ?_
  repeat' ((conv => whnf); first | refine ask_m (fun h => ?_) (fun h => ?_) | refine ret0 ?_)
  all_goals exact ret_b (by first | (simp_all [letterB]; done) | (simp_all [letterB]; omega)) rfl
theorem token_isDigit (c : Int) : FnOk Try.prog F.token_isDigit [Ru c] [] 0 (Bo (digitB c)) [] 0 := by
  refine fnOk tab mix G.token_isDigit rfl rfl (by kernel_rfl) rfl rfl ?_
  repeat' ((conv => whnf); first | refine ask_m (fun h => ?_) (fun h => ?_) | refine ret0 ?_)
  all_goals exact ret_b (by first | (simp_all [digitB]; done) | (simp_all [digitB]; omega)) rfl
theorem byteAt_get {s : ByteArray} {i : Nat} (h : i < s.size) : byteAt s i = ((s[i]'h).toNat : Int) := by
  unfold byteAt; rw [getElem?_pos s i h]; rfl
theorem byteAt_bd (s : ByteArray) (i : Nat) : 0 ≤ byteAt s i ∧ byteAt s i < 256 := by
  unfold byteAt
  have := (s[i]?.getD 0).toNat_lt
  omega
theorem nameB_low {i : Nat} {c : Int} (h : nameB i c = true) : c < 128 := by
  simp only [nameB, letterB, digitB, Bool.or_eq_true, Bool.and_eq_true, decide_eq_true_eq] at h
  omega
theorem dec_name {s : ByteArray} {i : Nat} (h : i < s.size) : nameB i (Utf8.decode s i).1 = nameB i (byteAt s i) ∧ (nameB i (byteAt s i) = true → (Utf8.decode s i).2 = 1) := by
  have hb := byteAt_get h
  by_cases ha : (s[i]'h).toNat < 128
  · rw [decode_ascii s i h ha, hb]; exact ⟨rfl, fun _ => rfl⟩
  · have := (decode_high s i h (by omega)).1
    have h1 : nameB i (byteAt s i) = false := by
      rcases hn : nameB i (byteAt s i) with _ | _
      · rfl
      · have := nameB_low hn; omega
    have h2 : nameB i ((Utf8.decode s i).1 : Int) = false := by
      rcases hn : nameB i ((Utf8.decode s i).1 : Int) with _ | _
      · rfl
      · have := nameB_low hn; omega
    rw [h1, h2]; exact ⟨rfl, fun h => by cases h⟩
theorem names_take {s : ByteArray} {k : Nat} (h : ((List.range k).all fun i => nameB i (byteAt s i)) = true) (hk : nameB k (byteAt s k) = true) : ((List.range (k + 1)).all fun i => nameB i (byteAt s i)) = true := by
  rw [List.range_succ, List.all_append, h]; simp [hk]
theorem name_not {s : ByteArray} {k : Nat} (hk : k < s.size) (h : nameB k (byteAt s k) = false) : nameOk s = false := by
  have : ((List.range s.size).all fun i => nameB i (byteAt s i)) = false := by
    rw [List.all_eq_false]; exact ⟨k, by simpa using hk, by simp [h]⟩
  simp [nameOk, this]
theorem token_Name (s : ByteArray) : FnOk Try.prog F.token_Name [Tx s] [] 0 (Bo (nameOk s)) [] 0 := by
  refine fnOk tab mix G.token_Name rfl rfl (by kernel_rfl) rfl rfl ?_
  (conv => whnf)
  refine ask_m (fun h => ?_) (fun h => ?_)
  · (conv => whnf)
    refine ret0 ?_
    exact ret_b (by have : s.size = 0 := by simpa using h
                    simp [nameOk, this]) rfl
  have h1 : 1 ≤ s.size := by have : ¬ (s.size : Int) = 0 := by simpa using h
                             omega
  (conv => whnf)
  refine ask_m (fun h => ?_) (fun h => ?_)
  · (conv => whnf)
    refine ret0 ?_
    exact ret_b (by have : ¬ s.size ≤ 16 := by have := of_decide_eq_true h; omega
                    simp [nameOk, this]) rfl
  have h2 : s.size ≤ 16 := by have := of_decide_eq_false h; omega
  (conv => whnf)
  refine ask_m (fun h => ?_) (fun h => ?_)
  · (conv => whnf)
    refine ret0 ?_
    exact ret_b (by have : s = worldT := of_decide_eq_true h
                    subst this; rfl) rfl
  have h3 : decide (s = worldT) = false := h
  (conv => whnf)
  refine loop_intro (fun k : Nat => ⟨[(18, .one (.vptr 0 0))], [(0, .iter s k)], 1⟩) (fun k => k ≤ s.size ∧ ((List.range k).all fun i => nameB i (byteAt s i)) = true) (fun k => s.size - k) [] 0 [] ⟨Nat.zero_le _, rfl⟩ ⟨⟨rfl, trivial⟩, ⟨rfl, trivial⟩⟩ ?_
  rintro k ⟨hk, hall⟩
  (conv => whnf)
  refine ask_m (fun h => ?_) (fun h => ?_)
  · have hlt : k < s.size := of_decide_eq_true h
    obtain ⟨d1, d2⟩ := dec_name hlt
    have bad : nameB k ((Utf8.decode s k).1 : Int) = false → nameOk s = false := fun h => name_not hlt (by rw [← d1]; exact h)
    have good : nameB k ((Utf8.decode s k).1 : Int) = true → (Utf8.decode s k).2 = 1 ∧ ((List.range (k + 1)).all fun i => nameB i (byteAt s i)) = true := fun h => by
      rw [d1] at h
      exact ⟨d2 h, names_take hall h⟩
    generalize ((Utf8.decode s k).1 : Nat) = c at *
    generalize (Utf8.decode s k).2 = w at *
    (conv => whnf)
    refine call_i (token_isLetter c) ?_
    (conv => whnf)
    refine ask_m (fun hl => ?_) (fun hl => ?_)
    · have hl : letterB c = false := by simpa using hl
      (conv => whnf)
      refine ask_m (fun h0 => ?_) (fun h0 => ?_)
      · have h0 : k = 0 := by simpa using h0
        (conv => whnf)
        refine ret0 ?_
        exact ret_b (bad (by simp [nameB, hl, h0])).symm rfl
      have h0 : k ≠ 0 := by simpa using h0
      (conv => whnf)
      refine call_i (token_isDigit c) ?_
      (conv => whnf)
      refine ask_m (fun hd => ?_) (fun hd => ?_)
      · have hd : digitB c = false := by simpa using hd
        (conv => whnf)
        refine ask_m (fun hu => ?_) (fun hu => ?_)
        · have hu : ¬ (c : Int) = 95 := by simpa using hu
          (conv => whnf)
          refine ret0 ?_
          exact ret_b (bad (by simp [nameB, hl, hd, hu])).symm rfl
        · have hu : (c : Int) = 95 := by simpa using hu
          obtain ⟨rfl, g⟩ := good (by simp [nameB, h0, hu])
          (conv => whnf)
          exact ⟨k + 1, [], ⟨hlt, g⟩, by omega, ⟨⟨rfl, trivial⟩, ⟨rfl, trivial⟩⟩⟩
      · have hd : digitB c = true := by simpa using hd
        obtain ⟨rfl, g⟩ := good (by simp [nameB, h0, hd])
        (conv => whnf)
        exact ⟨k + 1, [], ⟨hlt, g⟩, by omega, ⟨⟨rfl, trivial⟩, ⟨rfl, trivial⟩⟩⟩
    · have hl : letterB c = true := by simpa using hl
      obtain ⟨rfl, g⟩ := good (by simp [nameB, hl])
      (conv => whnf)
      exact ⟨k + 1, [], ⟨hlt, g⟩, by omega, ⟨⟨rfl, trivial⟩, ⟨rfl, trivial⟩⟩⟩
  · have hk : k = s.size := by have := of_decide_eq_false h; omega
    subst hk
    (conv => whnf)
    refine ret0 ?_
    exact ret_b (by simp [nameOk, h1, h2, h3, hall]) rfl
end Go.Proofs.Ytgakendcmakndaa
