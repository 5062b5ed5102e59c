import Derived.Test.YtejjkajknmhplaaX13
namespace Go.Proofs.Ytejjkajknmhplaa
open Eng
set_option maxRecDepth 10000
attribute [local irreducible] FnOk loopW idxF retX

/-- a source of which j numbers have been asked -/
abbrev SrcJ (l : List Int) (j : Nat) : Box := Src l (min j l.length)
theorem nxt_min {l : List Int} {j : Nat} {m : Int} : nxt l (min j l.length) m = nxt l j m := by
  unfold nxt
  by_cases h : j < l.length
  · rw [Nat.min_eq_left (by omega)]
  · rw [Nat.min_eq_right (by omega), List.getElem?_eq_none (Nat.le_refl _), List.getElem?_eq_none (by omega)]
theorem adv_min {l : List Int} {j : Nat} : adv l (min j l.length) = min (j + 1) l.length := by
  unfold adv; split <;> omega
theorem nxt_bd {l : List Int} {j : Nat} {m : Int} (hm : 0 < m) : 0 ≤ nxt l j m ∧ nxt l j m < m := by
  unfold nxt; split
  · exact ⟨Int.emod_nonneg _ (by omega), Int.emod_lt_of_pos _ (by omega)⟩
  · omega
theorem f37_j (l : List Int) (j : Nat) (m : Int) (hm : 0 < m) (hm2 : m ≤ 4611686018427387904) (hl : l.length ≤ 4611686018427387904) : FnOk Try.prog 37 [.one (.vptr 0 0), I m] [(0, SrcJ l j)] 1 (I (nxt l j m)) [(0, SrcJ l (j + 1))] 1 := by
  have := f37_ok l (min j l.length) m hm hm2 hl (by omega)
  rw [nxt_min, adv_min] at this
  exact this
theorem f38_j (l : List Int) (j : Nat) (m M : Int) (hM : 2 * m + 1 = M) (hm : 0 < m) (hm2 : m ≤ 1152921504606846976) (hl : l.length ≤ 4611686018427387904) : FnOk Try.prog 38 [.one (.vptr 0 0), I m] [(0, SrcJ l j)] 1 (I (nxt l j M - m)) [(0, SrcJ l (j + 1))] 1 := by
  have := f38_ok l (min j l.length) m hm hm2 hl (by omega)
  rw [nxt_min, adv_min, hM] at this
  exact this
theorem f36_j (l : List Int) : FnOk Try.prog 36 [Li l] [] 0 (.one (.vptr 0 0)) [(0, SrcJ l 0)] 1 := by
  show FnOk Try.prog 36 [Li l] [] 0 (.one (.vptr 0 0)) [(0, Src l (min 0 l.length))] 1
  rw [Nat.zero_min]
  exact f36_ok l
theorem range_enc {α : Type} {f : Nat → α} {enc : α → List DV} {k : Nat} : ((List.range (k + 1)).map f).map enc = ((List.range k).map f).map enc ++ [enc (f k)] := by
  simp [List.range_succ]

def limN (l : List Int) : Nat := (2 + nxt l 0 7).toNat
theorem limN_bd (l : List Int) : 2 ≤ limN l ∧ limN l ≤ 8 ∧ (limN l : Int) = 2 + nxt l 0 7 := by
  have := nxt_bd (l := l) (j := 0) (m := 7) (by omega)
  unfold limN; omega
def limTop (l : List Int) : List Int := (List.range (limN l)).map fun i => nxt l (1 + i) 30
def limC (l : List Int) : Nat := (nxt l (1 + limN l) 12).toNat
def limRow (l : List Int) (i : Nat) : Row :=
  let j := 2 + limN l + 4 * i
  let a := nxt l (j + 1) 7 - 3
  let b := nxt l (j + 2) 7 - 3
  ⟨nxt l j (limN l - 1), a, if 0 < a ∧ 0 < b then -b else b, nxt l (j + 3) 41 - 20 + 12⟩
def limRows (l : List Int) : List Row := (List.range (limC l)).map (limRow l)
abbrev L2 : SV := .tup [(false, [.row 0]), (false, [.row 1])]
theorem f15_ok (l : List Int) (hl : l.length ≤ 4611686018427387904) : FnOk Try.prog 15 [Li l] [] 0 L2 [(0, .rows 2 1 ((limTop l).map encI)), (1, .rows 25 4 ((limRows l).map encR))] 2 := by
  refine fnOk tab mix Try.func15 rfl rfl (by kernel_rfl) rfl rfl ?_
  obtain ⟨n1, n2, n3⟩ := limN_bd l
  have hn : IntKind.i64.wrap (2 + nxt l 0 7) = (limN l : Int) := by rw [w64] <;> omega
  (conv => whnf)
  refine call_i (f36_j l) ?_
  (conv => whnf)
  refine call_i (f37_j l 0 7 (by omega) (by omega) hl) ?_
  (conv => whnf)
  refine loop_intro (fun i : Nat => ⟨[(4, .one (.vptr 0 0)), (5, I (limN l)), (6, .one (.row 1)), (7, I i)], [(0, SrcJ l (1 + i)), (1, .rows 2 1 (((List.range i).map fun i => nxt l (1 + i) 30).map encI))], 2⟩) (fun i => i ≤ limN l) (fun i => limN l - i) [.own 6 2 1] 0 [] (Nat.zero_le _) ⟨⟨rfl, eqI hn, rfl, rfl, trivial⟩, ⟨rfl, rfl, trivial⟩⟩ ?_
  rintro i hi
  (conv => whnf)
  refine ask_m (fun h => ?_) (fun h => ?_)
  · have hlt : i < limN l := by simpa using h
    have hkk : IntKind.i64.wrap ((i : Int) + 1) = ((i + 1 : Nat) : Int) := by rw [w64] <;> omega
    (conv => whnf)
    refine call_i (f37_j l (1 + i) 30 (by omega) (by omega) hl) ?_
    (conv => whnf)
    refine ⟨⟨by simp; omega, by simp; omega⟩, ?_⟩
    (conv => whnf)
    refine ⟨i + 1, [(0, 0), (1, 3)], hlt, by omega, ⟨⟨rfl, rfl, rfl, eqI hkk, trivial⟩, ⟨rfl, ?_, trivial⟩⟩⟩
    rw [range_enc]; rfl
  have hi : i = limN l := by simp at h; omega
  subst hi
  (conv => whnf)
  refine call_i (f37_j l (1 + limN l) 12 (by omega) (by omega) hl) ?_
  have c1 := nxt_bd (l := l) (j := 1 + limN l) (m := 12) (by omega)
  have hc : (limC l : Int) = nxt l (1 + limN l) 12 := by unfold limC; omega
  (conv => whnf)
  refine loop_intro (fun i : Nat => ⟨[(4, .one (.vptr 0 0)), (5, I (limN l)), (6, .one (.row 1)), (8, .one (.row 2)), (9, I ((limC l : Int) - i))], [(0, SrcJ l (2 + limN l + 4 * i)), (1, .rows 2 1 ((limTop l).map encI)), (2, .rows 25 4 (((List.range i).map (limRow l)).map encR))], 3⟩) (fun i => i ≤ limC l) (fun i => limC l - i) [.own 8 25 4] 0 [] (Nat.zero_le _) ⟨⟨rfl, rfl, rfl, rfl, eqI (by rw [hc]; simp), trivial⟩, ⟨by rw [show 2 + limN l + 4 * 0 = 1 + limN l + 1 by omega]; rfl, rfl, rfl, trivial⟩⟩ ?_
  rintro i hi
  (conv => whnf)
  refine ask_m (fun h => ?_) (fun h => ?_)
  · have hlt : i < limC l := by simp at h; omega
    have hkk : IntKind.i64.wrap ((limC l : Int) - i - 1) = (limC l : Int) - (i + 1 : Nat) := by rw [w64] <;> omega
    have hn1 : IntKind.i64.wrap ((limN l : Int) - 1) = (limN l : Int) - 1 := by rw [w64] <;> omega
    (conv => whnf)
    rw [hn1]
    refine call_i (f37_j l (2 + limN l + 4 * i) ((limN l : Int) - 1) (by omega) (by omega) hl) ?_
    (conv => whnf)
    refine call_i (f38_j l (2 + limN l + 4 * i + 1) 3 7 rfl (by omega) (by omega) hl) ?_
    (conv => whnf)
    refine call_i (f38_j l (2 + limN l + 4 * i + 2) 3 7 rfl (by omega) (by omega) hl) ?_
    (conv => whnf)
    refine call_i (f38_j l (2 + limN l + 4 * i + 3) 20 41 rfl (by omega) (by omega) hl) ?_
    have b1 := nxt_bd (l := l) (j := 2 + limN l + 4 * i + 1) (m := 7) (by omega)
    have b2 := nxt_bd (l := l) (j := 2 + limN l + 4 * i + 2) (m := 7) (by omega)
    have b3 := nxt_bd (l := l) (j := 2 + limN l + 4 * i + 3) (m := 41) (by omega)
    have w1 : IntKind.i64.wrap (nxt l (2 + limN l + 4 * i + 3) 41 - 20 + 12) = nxt l (2 + limN l + 4 * i + 3) 41 - 20 + 12 := by rw [w64] <;> omega
    have w2 : IntKind.i64.wrap (0 - (nxt l (2 + limN l + 4 * i + 2) 7 - 3)) = - (nxt l (2 + limN l + 4 * i + 2) 7 - 3) := by rw [w64] <;> omega
    have hj : 2 + limN l + 4 * (i + 1) = 2 + limN l + 4 * i + 3 + 1 := by omega
    (conv => whnf)
    rw [w1]
    refine ask_m (fun ha => ?_) (fun ha => ?_)
    · have ha : 0 < nxt l (2 + limN l + 4 * i + 1) 7 - 3 := of_decide_eq_true ha
      (conv => whnf)
      refine ask_m (fun hb => ?_) (fun hb => ?_)
      · have hb : 0 < nxt l (2 + limN l + 4 * i + 2) 7 - 3 := of_decide_eq_true hb
        (conv => whnf)
        rw [w2]
        refine ⟨⟨by simp; omega, by simp; omega⟩, ?_⟩
        (conv => whnf)
        refine ⟨i + 1, [(0, 0), (1, 1), (2, 5)], hlt, by omega, ⟨⟨rfl, rfl, rfl, rfl, eqI hkk, trivial⟩, ⟨by rw [hj]; rfl, rfl, ?_, trivial⟩⟩⟩
        rw [range_enc, limRow]
        simp only [if_pos (And.intro ha hb)]
        rfl
      · have hb : ¬ 0 < nxt l (2 + limN l + 4 * i + 2) 7 - 3 := of_decide_eq_false hb
        (conv => whnf)
        refine ⟨⟨by simp; omega, by simp; omega⟩, ?_⟩
        (conv => whnf)
        refine ⟨i + 1, [(0, 0), (1, 1), (2, 5)], hlt, by omega, ⟨⟨rfl, rfl, rfl, rfl, eqI hkk, trivial⟩, ⟨by rw [hj]; rfl, rfl, ?_, trivial⟩⟩⟩
        rw [range_enc, limRow]
        simp only [if_neg (fun h : _ ∧ _ => hb h.2)]
        rfl
    · have ha : ¬ 0 < nxt l (2 + limN l + 4 * i + 1) 7 - 3 := of_decide_eq_false ha
      (conv => whnf)
      refine ⟨⟨by simp; omega, by simp; omega⟩, ?_⟩
      (conv => whnf)
      refine ⟨i + 1, [(0, 0), (1, 1), (2, 5)], hlt, by omega, ⟨⟨rfl, rfl, rfl, rfl, eqI hkk, trivial⟩, ⟨by rw [hj]; rfl, rfl, ?_, trivial⟩⟩⟩
      rw [range_enc, limRow]
      simp only [if_neg (fun h : _ ∧ _ => ha h.1)]
      rfl
  · have hi : i = limC l := by simp at h; omega
    subst hi
    (conv => whnf)
    refine ret0 ?_
    exact ⟨[(0, 1), (1, 2)], ⟨rfl, trivial⟩, ⟨rfl, rfl, trivial⟩⟩
end Go.Proofs.Ytejjkajknmhplaa
