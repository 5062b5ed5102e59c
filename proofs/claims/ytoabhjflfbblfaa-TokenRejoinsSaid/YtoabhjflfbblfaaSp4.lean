/- Where the words of a description stand. No program in sight. -/
import Derived.Test.YtoabhjflfbblfaaSp3
namespace Go.Proofs.Ytoabhjflfbblfaa
open Eng
set_option maxRecDepth 10000

/-- the line, and where it begins, after k bytes -/
def lb (s : ByteArray) : Nat → Int × Int
  | 0 => (1, 0)
  | k + 1 => if byteAt s k = 10 then ((lb s k).1 + 1, (k : Int) + 1) else lb s k
theorem byteAt_out {s : ByteArray} {k : Nat} (hk : s.size ≤ k) : byteAt s k = 0 := by
  unfold byteAt; rw [getElem?_neg s k (by omega)]; rfl
theorem lb_mono (s : ByteArray) (i : Nat) : ∀ d, (lb s i).1 ≤ (lb s (i + d)).1 ∧ ((lb s (i + d)).1 = (lb s i).1 → lb s (i + d) = lb s i)
  | 0 => ⟨Int.le_refl _, fun _ => rfl⟩
  | d + 1 => by
    obtain ⟨h1, h2⟩ := lb_mono s i d
    rw [← Nat.add_assoc, lb]
    split
    · simp only; exact ⟨by omega, fun h => by omega⟩
    · exact ⟨h1, h2⟩
theorem lb_le {s : ByteArray} {i p : Nat} (h : i ≤ p) : (lb s i).1 ≤ (lb s p).1 ∧ ((lb s p).1 = (lb s i).1 → lb s p = lb s i) := by
  have := lb_mono s i (p - i)
  rwa [show i + (p - i) = p by omega] at this
theorem lb_bd (s : ByteArray) : ∀ k, 1 ≤ (lb s k).1 ∧ (lb s k).1 ≤ k + 1 ∧ 0 ≤ (lb s k).2 ∧ (lb s k).2 ≤ k
  | 0 => by show 1 ≤ (1 : Int) ∧ (1 : Int) ≤ 0 + 1 ∧ (0 : Int) ≤ 0 ∧ (0 : Int) ≤ 0; decide
  | k + 1 => by
    have := lb_bd s k
    rw [lb]; split
    · simp only; omega
    · omega
/-- the word from x.1 to x.2 -/
def wd (s : ByteArray) (x : Nat × Nat) : Word := ⟨s.extract x.1 x.2, (lb s x.1).1, x.1 - (lb s x.1).2 + 1⟩
structure Spans (s : ByteArray) (st : SS) (k : Nat) (sp : List (Nat × Nat)) : Prop where
  words : st.words = sp.map (wd s)
  in_ : ∀ x ∈ sp, x.1 < x.2 ∧ x.2 ≤ k
  up : sp.Pairwise fun a b => a.1 < b.1
  line : st.line = (lb s k).1
  bgn : st.bgn = (lb s k).2
  ws : 0 ≤ st.ws → (∀ x ∈ sp, (x.1 : Int) < st.ws) ∧ lb s st.ws.toNat = (st.line, st.bgn)
theorem spans_fin {s : ByteArray} {st : SS} {k : Nat} {sp : List (Nat × Nat)} (h : Spans s st k sp) (hi : Inv st k) : ∃ sp' : List (Nat × Nat), fin s st k = sp'.map (wd s) ∧ (∀ x ∈ sp', x.1 < x.2 ∧ x.2 ≤ k) ∧ sp'.Pairwise fun a b => a.1 < b.1 := by
  unfold fin
  split
  · rename_i h0
    obtain ⟨w1, w2⟩ := h.ws h0
    have hw1 := hi.ws1
    obtain ⟨p, hp⟩ : ∃ p : Nat, st.ws = p := ⟨st.ws.toNat, by omega⟩
    refine ⟨sp ++ [(p, k)], ?_, fun x hx => ?_, ?_⟩
    · rw [h.words, List.map_append]
      congr 1
      rw [hp, Int.toNat_natCast] at w2 ⊢
      simp only [List.map_cons, List.map_nil, wd, w2]
    · rcases List.mem_append.1 hx with hx | hx
      · exact h.in_ x hx
      · simp only [List.mem_singleton] at hx
        subst hx
        exact ⟨by simp only; omega, Nat.le_refl _⟩
    · rw [List.pairwise_append]
      refine ⟨h.up, by simp, fun a ha b hb => ?_⟩
      simp only [List.mem_singleton] at hb
      subst hb
      have := w1 a ha
      simp only; omega
  · exact ⟨sp, h.words, h.in_, h.up⟩
theorem bad_before {s : ByteArray} {k : Nat} (h : (autoAt s (k + 1)).bad = false) : (autoAt s k).bad = false := by
  cases hb : (autoAt s k).bad
  · rfl
  · rw [auto_bad hb 1, hb] at h; exact h
theorem auto_spans (s : ByteArray) : ∀ k, (autoAt s k).bad = false → ∃ sp, Spans s (autoAt s k) k sp
  | 0, _ => ⟨[], rfl, by simp, by simp, rfl, rfl, fun h => absurd (show (0 : Int) ≤ -1 from h) (by decide)⟩
  | k + 1, hb => by
    obtain ⟨sp, h⟩ := auto_spans s k (bad_before hb)
    have hi := auto_inv s k
    have hb0 := bad_before hb
    rw [auto_succ] at hb ⊢
    generalize autoAt s k = st at *
    have wide : ∀ {sp : List (Nat × Nat)}, (∀ x ∈ sp, x.1 < x.2 ∧ x.2 ≤ k) → ∀ x ∈ sp, x.1 < x.2 ∧ x.2 ≤ k + 1 := fun h x hx => ⟨(h x hx).1, Nat.le_succ_of_le (h x hx).2⟩
    have lbn : byteAt s k ≠ 10 → lb s (k + 1) = lb s k := fun h => by rw [lb, if_neg h]
    obtain ⟨sp', f1, f2, f3⟩ := spans_fin h hi
    unfold stepS at hb ⊢
    rw [if_neg (by rw [hb0]; simp)] at hb ⊢
    split
    · rename_i h10
      refine ⟨sp', f1, wide f2, f3, ?_, ?_, fun h => absurd (show (0 : Int) ≤ -1 from h) (by decide)⟩
      · rw [lb, if_pos h10, h.line]
      · rw [lb, if_pos h10]
    · rename_i h10
      rw [if_neg h10] at hb
      split
      · exact ⟨sp, h.words, wide h.in_, h.up, by rw [lbn h10]; exact h.line, by rw [lbn h10]; exact h.bgn, h.ws⟩
      · rename_i hc
        rw [if_neg hc] at hb
        split
        · exact ⟨sp', f1, wide f2, f3, by rw [lbn h10]; exact h.line, by rw [lbn h10]; exact h.bgn, fun h => absurd (show (0 : Int) ≤ -1 from h) (by decide)⟩
        · rename_i h9
          rw [if_neg h9] at hb
          split
          · exact ⟨sp', f1, wide f2, f3, by rw [lbn h10]; exact h.line, by rw [lbn h10]; exact h.bgn, fun h => absurd (show (0 : Int) ≤ -1 from h) (by decide)⟩
          · rename_i h35
            rw [if_neg h35] at hb
            split
            · rename_i hw
              rw [if_pos hw] at hb
              simp at hb
            · split
              · refine ⟨sp, h.words, wide h.in_, h.up, by rw [lbn h10]; exact h.line, by rw [lbn h10]; exact h.bgn, fun _ => ⟨fun x hx => ?_, ?_⟩⟩
                · have := h.in_ x hx
                  show (x.1 : Int) < (k : Int)
                  omega
                · show lb s (k : Int).toNat = _
                  rw [Int.toNat_natCast, h.line, h.bgn]
              · exact ⟨sp, h.words, wide h.in_, h.up, by rw [lbn h10]; exact h.line, by rw [lbn h10]; exact h.bgn, h.ws⟩
/-- the words of a description without an error stand where they say -/
theorem split_spans {s : ByteArray} (h : (splitOf s).2.1 = 0) : s.size ≤ 16384 ∧ ∃ sp : List (Nat × Nat), (splitOf s).1 = sp.map (wd s) ∧ (∀ x ∈ sp, x.1 < x.2 ∧ x.2 ≤ s.size) ∧ sp.Pairwise fun a b => a.1 < b.1 := by
  unfold splitOf at h ⊢
  split at h
  · simp at h
  · rename_i h1
    rw [if_neg h1]
    split at h
    · simp at h
    · rename_i h2
      rw [if_neg h2]
      obtain ⟨sp, hs⟩ := auto_spans s s.size (by simpa using h2)
      exact ⟨by omega, spans_fin hs (auto_inv s s.size)⟩
theorem split_err (s : ByteArray) : (splitOf s).2.1 = 0 ∨ ((splitOf s).2.1 = 601 ∧ (splitOf s).1 = []) := by
  unfold splitOf
  repeat' split
  · exact .inr ⟨rfl, rfl⟩
  · exact .inr ⟨rfl, rfl⟩
  · exact .inl rfl
end Go.Proofs.Ytoabhjflfbblfaa
