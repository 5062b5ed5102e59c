/- Words of a description: the automaton, and token.Split. -/
import Derived.Test.YtgnblfojpcjgmaaTb
namespace Go.Proofs.Ytgnblfojpcjgmaa
open Eng
set_option maxRecDepth 10000
attribute [local irreducible] FnOk loopW idxF retX arrF

structure Word where
  text : ByteArray
  line : Int
  col : Int
def encW (w : Word) : List DV := [.str w.text, .int .i64 w.line, .int .i64 w.col]
abbrev dWs (l : List Word) : DV := .lst 3 (l.map encW)
abbrev bWs (l : List Word) : Box := .rows Y.Word 3 (l.map encW)
def wordB (c : Int) : Bool := decide (33 ≤ c) && decide (c ≤ 126) && !decide (c = 35)
structure SS where
  line : Int
  bgn : Int
  com : Bool
  ws : Int
  words : List Word
  bad : Bool
/-- the words, a word that is being read ended at i -/
def fin (s : ByteArray) (st : SS) (i : Nat) : List Word := if 0 ≤ st.ws then st.words ++ [⟨s.extract st.ws.toNat i, st.line, st.ws - st.bgn + 1⟩] else st.words
def stepS (s : ByteArray) (st : SS) (i : Nat) : SS :=
  if st.bad then st
  else if byteAt s i = 10 then ⟨st.line + 1, i + 1, false, -1, fin s st i, false⟩
  else if st.com then st
  else if byteAt s i = 32 ∨ byteAt s i = 9 then ⟨st.line, st.bgn, false, -1, fin s st i, false⟩
  else if byteAt s i = 35 then ⟨st.line, st.bgn, true, -1, fin s st i, false⟩
  else if wordB (byteAt s i) = false then ⟨st.line, st.bgn, false, st.ws, st.words, true⟩
  else if st.ws < 0 then ⟨st.line, st.bgn, false, i, st.words, false⟩
  else st
def autoAt (s : ByteArray) (k : Nat) : SS := (List.range k).foldl (stepS s) ⟨1, 0, false, -1, [], false⟩
theorem auto_succ (s : ByteArray) (k : Nat) : autoAt s (k + 1) = stepS s (autoAt s k) k := by
  unfold autoAt; rw [List.range_succ, List.foldl_append]; rfl
theorem auto_bad {s : ByteArray} {k : Nat} (h : (autoAt s k).bad = true) : ∀ d, autoAt s (k + d) = autoAt s k
  | 0 => rfl
  | d + 1 => by rw [← Nat.add_assoc, auto_succ, auto_bad h d, stepS, if_pos h]
structure Inv (st : SS) (k : Nat) : Prop where
  line1 : 1 ≤ st.line
  line2 : st.line ≤ k + 1
  bgn0 : 0 ≤ st.bgn
  bgn1 : st.bgn ≤ k
  ws0 : -1 ≤ st.ws
  ws1 : st.ws < k
  wsb : 0 ≤ st.ws → st.bgn ≤ st.ws
  len : st.words.length ≤ k
  com : st.com = true → st.ws = -1
theorem fin_len (s : ByteArray) (st : SS) (i : Nat) : (fin s st i).length ≤ st.words.length + 1 := by
  unfold fin; split <;> simp
theorem auto_inv (s : ByteArray) (k : Nat) : Inv (autoAt s k) k := by
  induction k with
  | zero => show Inv ⟨1, 0, false, -1, [], false⟩ 0; exact ⟨by decide, by decide, by decide, by decide, by decide, by decide, by decide, by decide, by decide⟩
  | succ k ih =>
    rw [auto_succ]
    have hf := fin_len s (autoAt s k) k
    obtain ⟨h1, h2, h3, h4, h5, h6, h7, h8, h9⟩ := ih
    generalize autoAt s k = st at *
    unfold stepS
    repeat' split
    all_goals first
      | exact ⟨by omega, by omega, by omega, by omega, by omega, by omega, by omega, by omega, h9⟩
      | exact ⟨by simp only; omega, by simp only; omega, by simp only; omega, by simp only; omega, by simp only; omega, by simp only; omega, by simp only; omega, by simp only; omega, by simp⟩
/-- what Split answers: the words, the error and its line -/
def splitOf (s : ByteArray) : List Word × Int × Int :=
  if 16384 < s.size then ([], 601, 0)
  else if (autoAt s s.size).bad then ([], 601, (autoAt s s.size).line)
  else (fin s (autoAt s s.size) s.size, 0, 0)
theorem wordB_low {c : Int} (h : wordB c = true) : c < 128 := by
  simp [wordB] at h; omega
theorem token_isWord (c : Int) : FnOk Try.prog F.token_isWord [Ru c] [] 0 (Bo (wordB c)) [] 0 := by
  refine fnOk tab mix G.token_isWord rfl rfl (by kernel_rfl) rfl rfl ?_
  repeat' ((conv => whnf); first | refine ask_m (fun h => ?_) (fun h => ?_) | refine ret0 ?_)
  all_goals exact ret_b (by by_cases h35 : c = 35 <;> first | (simp_all [wordB]; done) | (simp_all [wordB]; omega)) rfl
abbrev vI (n : Int) : Box := .vars Y.int [.dv (.int .i64 n)]
theorem token_Split_1 (s : ByteArray) (e : Nat) (st : SS) (he : e ≤ s.size) (hs : s.size ≤ 16384) (hi : Inv st e) : FnOk Try.prog F.token_Split_1 [I e, .one (.vptr 0 0), .one (.vptr 1 0), .one (.vptr 2 0), .one (.vptr 3 0), .one (.vptr 4 0)]
    [(0, vI st.ws), (1, .vars Y.s_Word [.row 5]), (2, .vars Y.string [.dv (.str s)]), (3, vI st.line), (4, vI st.bgn), (5, bWs st.words)] 6 (.tup [])
    [(0, vI (-1)), (1, .vars Y.s_Word [.row 6]), (2, .vars Y.string [.dv (.str s)]), (3, vI st.line), (4, vI st.bgn), (6, bWs (fin s st e))] 7 := by
  refine fnOk tab mix G.token_Split_1 rfl rfl (by kernel_rfl) rfl rfl ?_
  (conv => whnf)
  obtain ⟨h1, h2, h3, h4, h5, h6, h7, h8, h9⟩ := hi
  refine ask_m (fun h => ?_) (fun h => ?_)
  · have h : 0 ≤ st.ws := by simpa using h
    have hf : fin s st e = st.words ++ [⟨s.extract st.ws.toNat e, st.line, st.ws - st.bgn + 1⟩] := by rw [fin, if_pos h]
    (conv => whnf)
    refine ⟨⟨by omega, by omega, by omega⟩, ?_⟩
    (conv => whnf)
    rw [w64 (x := st.ws - st.bgn) (by omega) (by omega), w64 (x := st.ws - st.bgn + 1) (by omega) (by omega), Int.toNat_natCast]
    refine ⟨⟨by simp; omega, by simp; omega⟩, ?_⟩
    (conv => whnf)
    (conv => whnf)
    refine ret0 ?_
    refine ⟨[(6, 7)], ⟨rfl, trivial⟩, ⟨rfl, rfl, rfl, rfl, rfl, ?_, trivial⟩⟩
    rw [hf]
    show Box.rows Y.Word 3 _ = Box.rows Y.Word 3 _
    rw [List.map_append]; rfl
  · have h : ¬ 0 ≤ st.ws := by simpa using h
    have hf : fin s st e = st.words := by rw [fin, if_neg h]
    (conv => whnf)
    refine ret0 ?_
    rw [hf]
    exact ⟨[(6, 5)], ⟨rfl, trivial⟩, ⟨rfl, rfl, rfl, rfl, rfl, rfl, trivial⟩⟩
theorem dec_low {s : ByteArray} {i : Nat} (h : i < s.size) (hl : byteAt s i < 128) : Utf8.decode s i = ((byteAt s i).toNat, 1) := by
  have hb := byteAt_get h
  rw [decode_ascii s i h (by omega), hb]; rfl
theorem dec_high {s : ByteArray} {i : Nat} (h : i < s.size) (hl : 128 ≤ byteAt s i) : 128 ≤ (Utf8.decode s i).1 ∧ 1 ≤ (Utf8.decode s i).2 := by
  have hb := byteAt_get h
  exact decode_high s i h (by omega)
theorem get_byte {s : ByteArray} {i : Nat} (h : i < s.size) : ((s.get! i).toNat : Int) = byteAt s i := by
  have := get_at s i h
  rw [Nat.add_zero] at this
  rw [byteAt_get h, this]
/-- the bytes of a sign of several bytes are high -/
theorem dec_bytes {s : ByteArray} {i d : Nat} (h : i < s.size) (hd : d < (Utf8.decode s i).2) : i + d < s.size ∧ (1 ≤ d → 128 ≤ byteAt s (i + d)) := by
  have key : ∀ k, (decide (i + k < s.size) && (s.get! (i + k)).toNat / 64 == 2) = true → i + k < s.size ∧ (1 ≤ k → 128 ≤ byteAt s (i + k)) := fun k hk => by
    rw [Bool.and_eq_true] at hk
    have h1 : i + k < s.size := of_decide_eq_true hk.1
    have h2 : (s.get! (i + k)).toNat / 64 = 2 := by simpa using hk.2
    exact ⟨h1, fun _ => by rw [← get_byte h1]; omega⟩
  have k0 : i + 0 < s.size ∧ (1 ≤ 0 → 128 ≤ byteAt s (i + 0)) := ⟨h, fun h => by omega⟩
  simp only [Utf8.decode] at hd
  split at hd
  · simp only at hd; obtain rfl : d = 0 := by omega
    exact k0
  split at hd
  · rename_i hc
    rw [Bool.and_eq_true] at hc
    have hd : d < 2 := by split at hd <;> simp only at hd <;> omega
    rcases (show d = 0 ∨ d = 1 by omega) with rfl | rfl
    · exact k0
    · exact key 1 hc.2
  split at hd
  · rename_i hc
    rw [Bool.and_eq_true, Bool.and_eq_true] at hc
    have hd : d < 3 := by split at hd <;> simp only at hd <;> omega
    rcases (show d = 0 ∨ d = 1 ∨ d = 2 by omega) with rfl | rfl | rfl
    · exact k0
    · exact key 1 hc.1.2
    · exact key 2 hc.2
  split at hd
  · rename_i hc
    rw [Bool.and_eq_true, Bool.and_eq_true, Bool.and_eq_true] at hc
    have hd : d < 4 := by split at hd <;> simp only at hd <;> omega
    rcases (show d = 0 ∨ d = 1 ∨ d = 2 ∨ d = 3 by omega) with rfl | rfl | rfl | rfl
    · exact k0
    · exact key 1 hc.1.1.2
    · exact key 2 hc.1.2
    · exact key 3 hc.2
  · simp only at hd; obtain rfl : d = 0 := by omega
    exact k0
/-- a sign in a comment that ends no line changes nothing -/
theorem auto_skip {s : ByteArray} {k : Nat} (hk : k < s.size) (hb : (autoAt s k).bad = false) (hc : (autoAt s k).com = true) (h10 : byteAt s k ≠ 10) : ∀ d, d ≤ (Utf8.decode s k).2 → 1 ≤ (Utf8.decode s k).2 → autoAt s (k + d) = autoAt s k
  | 0, _, _ => rfl
  | d + 1, hd, h1 => by
    have ih := auto_skip hk hb hc h10 d (by omega) h1
    have hne : byteAt s (k + d) ≠ 10 := by
      rcases Nat.eq_zero_or_pos d with rfl | hp
      · exact h10
      · have := (dec_bytes hk (d := d) (by omega)).2 hp
        omega
    rw [← Nat.add_assoc, auto_succ, ih, stepS, if_neg (by rw [hb]; simp), if_neg hne, if_pos hc]
theorem dec_end {s : ByteArray} {k : Nat} (hk : k < s.size) (h1 : 1 ≤ (Utf8.decode s k).2) : k + (Utf8.decode s k).2 ≤ s.size := by
  have := (dec_bytes hk (d := (Utf8.decode s k).2 - 1) (by omega)).1
  omega
end Go.Proofs.Ytgnblfojpcjgmaa
