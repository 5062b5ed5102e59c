import Derived.Test.YtejjkajknmhplaaX12
namespace Go.Proofs.Ytejjkajknmhplaa
open Eng
set_option maxRecDepth 10000
attribute [local irreducible] FnOk loopW idxF retX

theorem flatI (t : Nat) (xs : List Int) : FlatB (.rows t 1 (xs.map encI)) := by
  intro r hr d hd
  obtain ⟨x, _, rfl⟩ := List.mem_map.1 hr
  simp [encI] at hd; subst hd; trivial
theorem flatP (t : Nat) (xs : List Phase) : FlatB (.rows t 3 (xs.map encP)) := by
  intro r hr d hd
  obtain ⟨x, _, rfl⟩ := List.mem_map.1 hr
  simp [encP] at hd; rcases hd with rfl | rfl | rfl <;> trivial
theorem flatR (t : Nat) (xs : List Row) : FlatB (.rows t 4 (xs.map encR)) := by
  intro r hr d hd
  obtain ⟨x, _, rfl⟩ := List.mem_map.1 hr
  simp [encR] at hd; rcases hd with rfl | rfl | rfl | rfl <;> trivial
theorem flatG3 (b : Bool) : FlatS (G3 b) := by
  intro t ht c hc
  simp at ht
  rcases ht with rfl | rfl | rfl <;> simp at hc <;> subst hc <;> trivial
def exTop : List Int := [0, 9, 9, 9, 0]
theorem ex_ok : (great exTop (ramps 5 4)).2.2 = true := by kernel_rfl
theorem ex_x : (great exTop (ramps 5 4)).1 = [0, 4, 8, 4, 0] := by kernel_rfl
theorem ex_ph : phases [0, 4, 8, 4, 0] = [⟨1, 0, 2⟩, ⟨2, 2, 4⟩] := by kernel_rfl
theorem ex_pr : proves exTop (ramps 5 4) [0, 4, 8, 4, 0] (great exTop (ramps 5 4)).2.1 = true := by kernel_rfl
theorem ex_great : ∃ s, great exTop (ramps 5 4) = ([0, 4, 8, 4, 0], s, true) ∧ proves exTop (ramps 5 4) [0, 4, 8, 4, 0] s = true := by
  refine ⟨(great exTop (ramps 5 4)).2.1, ?_, ex_pr⟩
  rw [← ex_x, ← ex_ok]
theorem f14_ok : FnOk Try.prog 14 [] [] 0 (Bo true) [] 0 := by
  refine fnOk tab mix Try.func14 rfl rfl (by kernel_rfl) rfl rfl ?_
  obtain ⟨s, hg, hpr⟩ := ex_great
  have h19 := f19_ok exTop (ramps 5 4) (by decide) (by decide)
  rw [hg] at h19
  have h24 := f24_ok [0, 4, 8, 4, 0] (by decide)
  rw [ex_ph] at h24
  have h33 := f33_ok exTop (ramps 5 4) [0, 4, 8, 4, 0] s (by decide) (by decide)
  rw [hpr] at h33
  (conv => whnf)
  refine call_i (f23_ok 5 4 (by decide)) ?_
  (conv => whnf)
  refine call_i h19 ?_
  (conv => whnf)
  refine ⟨⟨flatG3 _, flatI _ _, flatI _ _, trivial⟩, ?_⟩
  (conv => whnf)
  refine call_i h24 ?_
  (conv => whnf)
  refine ⟨⟨trivial, flatP _ _, trivial⟩, ?_⟩
  (conv => whnf)
  refine call_i (f34_ok [0, 4, 8, 4, 0] [0, 4, 8, 4, 0] (by decide)) ?_
  (conv => whnf)
  refine ⟨⟨trivial, trivial⟩, ?_⟩
  (conv => whnf)
  refine call_i h33 ?_
  (conv => whnf)
  refine ⟨⟨trivial, trivial⟩, ?_⟩
  (conv => whnf)
  refine call_i (f26_ok [⟨1, 0, 2⟩, ⟨2, 2, 4⟩] [⟨1, 0, 2⟩, ⟨2, 2, 4⟩] (by decide)) ?_
  (conv => whnf)
  refine ⟨⟨trivial, trivial⟩, ?_⟩
  (conv => whnf)
  refine ret0 ?_
  exact ret_b (by decide) rfl
theorem f13_ok (a : List Int) (b : List Row) (c d : List Int) : FnOk Try.prog 13 [Li a, Lr b, Li c, Li d] [] 0 (Bo (decide ((a.length : Int) ≤ 70) && decide ((b.length : Int) ≤ 60) && decide ((c.length : Int) ≤ 70) && decide ((d.length : Int) ≤ 200))) [] 0 := by
  refine fnOk tab mix Try.func13 rfl rfl (by kernel_rfl) rfl rfl ?_
  repeat' ((conv => whnf); first | refine ask_m (fun h => ?_) (fun h => ?_) | refine ret0 ?_)
  all_goals exact ret_b (by first | (simp_all; done) | (simp_all; omega)) rfl
def lenPR (n : Nat) : PR → Prop
  | .over => True
  | .neg s => s.length ≤ 16384
  | .go x s _ => x.length = n ∧ s.length ≤ 16384
theorem pass_len : ∀ (rs : List Row) (i : Int) (x s : List Int) (ch : Bool), s.length ≤ 16384 → lenPR x.length (pass rs i x s ch) := by
  intro rs
  induction rs with
  | nil => intro i x s ch h; exact ⟨rfl, h⟩
  | cons r rs ih =>
    intro i x s ch h
    unfold pass
    split
    · exact ih _ _ _ _ h
    · split
      · trivial
      · split
        · simp only [lenPR, List.length_append, List.length_cons, List.length_nil]; omega
        · rename_i a m _ _ _
          have := ih (i + 1) (x.set a.toNat m) (s ++ [i]) true (by simp; omega)
          rw [List.length_set] at this
          exact this
theorem outer_len (rows : List Row) : ∀ (n : Nat) (x s : List Int), s.length ≤ 16384 → (outer rows n x s).1.length ≤ x.length ∧ (outer rows n x s).2.1.length ≤ 16384 := by
  intro n
  induction n with
  | zero => intro x s h; simp [outer]
  | succ n ih =>
    intro x s h
    have hp := pass_len rows 0 x s false h
    unfold outer
    revert hp
    cases pass rows 0 x s false with
    | over => intro _; simp
    | neg s' => intro hp; exact ⟨by simp, hp⟩
    | go x' s' ch =>
      rintro ⟨h1, h2⟩
      cases ch with
      | true => rw [← h1]; exact ih x' s' h2
      | false =>
        simp only [fin]
        split
        · simp only; omega
        · simp only [List.length_nil]; omega
theorem great_len (a : List Int) (b : List Row) : (great a b).1.length ≤ a.length ∧ (great a b).2.1.length ≤ 16384 := by
  unfold great
  split
  · exact outer_len b _ _ _ (by simp)
  · simp
theorem f16_ok (a : List Int) (b : List Row) (hb : b.length ≤ 4611686018427387904) (ha : a.length ≤ 17592186044416) : FnOk Try.prog 16 [Li a, Lr b] [] 0 (Bo true) [] 0 := by
  refine fnOk tab mix Try.func16 rfl rfl (by kernel_rfl) rfl rfl ?_
  have hlen := great_len a b
  (conv => whnf)
  refine call_i (f19_ok a b hb ha) ?_
  (conv => whnf)
  refine call_i (f29_ok a b hb ha) ?_
  (conv => whnf)
  refine ask_mt (by simp) ?_
  (conv => whnf)
  refine call_i (f34_ok _ _ (by omega)) ?_
  (conv => whnf)
  refine ⟨⟨trivial, trivial⟩, ?_⟩
  (conv => whnf)
  refine ask_mt (by simp) ?_
  (conv => whnf)
  refine call_i (f39_ok _ _ (by omega)) ?_
  (conv => whnf)
  refine ⟨⟨trivial, trivial⟩, ?_⟩
  (conv => whnf)
  refine ret0 ?_
  exact ret_b (by simp) rfl
end Go.Proofs.Ytejjkajknmhplaa
