/- law6: TokenPlaces. -/
import Derived.Test.YtoabhjflfbblfaaLb
import Derived.Test.YtoabhjflfbblfaaSp4
namespace Go.Proofs.Ytoabhjflfbblfaa
open Eng
set_option maxRecDepth 10000
attribute [local irreducible] FnOk loopW idxF retX arrF

set_option maxHeartbeats 2000000 in
theorem law6_Places (s : ByteArray) (xs : List Int) (hs : s.size ≤ 140737488351232) (hx : bytesOk xs) : FnOk Try.prog F.law6_TokenPlaces [Tx s, Lb xs] [] 0 (Bo true) [] 0 := by
  refine fnOk tab mix G.law6_TokenPlaces rfl rfl (by kernel_rfl) rfl rfl ?_
  (conv => whnf)
  refine call_i (law6_typical xs hx) ?_
  (conv => whnf)
  have := typical_size xs
  refine ⟨by omega, ?_⟩
  (conv => whnf)
  generalize typical xs ++ s = t at *
  refine call_i (token_Split t) ?_
  (conv => whnf)
  rcases split_err t with h0 | ⟨h0, h1⟩
  rotate_left
  · rw [h0, h1]
    (conv => whnf)
    refine call_i (law6_awake) ?_
    (conv => whnf)
    (conv => whnf)
    refine ret0 ?_
    exact ret_b rfl rfl
  obtain ⟨hsz, sp, e, hin, hup⟩ := split_spans h0
  rw [h0, e]
  have hlen : sp.length ≤ 16385 := by have := split_len t; rw [e, List.length_map] at this; exact this
  (conv => whnf)
  refine loop_intro (fun p : Nat × Nat => ⟨[(5, Tx t), (6, .one (.dv (dWs (sp.map (wd t))))), (8, I (lb t p.1).1), (9, I (lb t p.1).2), (10, I p.2), (11, I p.1)], [], 0⟩)
    (fun p => p.1 ≤ t.size + 1 ∧ p.2 ≤ sp.length ∧ (∀ (j : Nat) (x : Nat × Nat), sp[j]? = some x → (j < p.2 → x.1 < p.1) ∧ (p.2 ≤ j → p.1 ≤ x.1))) (fun p => t.size + 1 - p.1) [] (0, 0) [] ⟨Nat.zero_le _, Nat.zero_le _, fun j x _ => ⟨fun h => absurd h (Nat.not_lt_zero _), fun _ => Nat.zero_le _⟩⟩ ⟨⟨rfl, rfl, rfl, rfl, rfl, rfl, trivial⟩, trivial⟩ ?_
  rintro ⟨i, c⟩ ⟨hi, hc, hinv⟩
  simp only at hi hc hinv
  have hb := lb_bd t i
  (conv => whnf)
  refine ask_m (fun h => ?_) (fun h => ?_)
  · have hit : i ≤ t.size := by have := of_decide_eq_true h; omega
    have hii : IntKind.i64.wrap ((i : Int) + 1) = ((i + 1 : Nat) : Int) := by rw [w64] <;> omega
    (conv => whnf)
    refine loop_intro (fun c : Nat => ⟨[(5, Tx t), (6, .one (.dv (dWs (sp.map (wd t))))), (8, I (lb t i).1), (9, I (lb t i).2), (10, I c), (11, I i)], [], 0⟩)
      (fun c => c ≤ sp.length ∧ (∀ (j : Nat) (x : Nat × Nat), sp[j]? = some x → (j < c → x.1 < i + 1) ∧ (c ≤ j → i ≤ x.1))) (fun c => sp.length - c) [] c [] ⟨hc, fun j x hx => ⟨fun h => Nat.lt_succ_of_lt ((hinv j x hx).1 h), (hinv j x hx).2⟩⟩ ⟨⟨rfl, rfl, rfl, rfl, rfl, rfl, trivial⟩, trivial⟩ ?_
    clear hc hinv
    rintro c ⟨hc, hinv⟩
    have hcc : IntKind.i64.wrap ((c : Int) + 1) = ((c + 1 : Nat) : Int) := by rw [w64] <;> omega
    -- on to the next byte
    have leave : (∀ x, sp[c]? = some x → x.1 ≠ i) → ∀ (j : Nat) (x : Nat × Nat), sp[j]? = some x → (j < c → x.1 < i + 1) ∧ (c ≤ j → i + 1 ≤ x.1) := fun hne j x hx => ⟨(hinv j x hx).1, fun hj => by
      have hcl : c < sp.length := by have := (List.getElem?_eq_some_iff.1 hx).1; omega
      have h1 := (hinv c _ (List.getElem?_eq_getElem hcl)).2 (Nat.le_refl _)
      have h2 := hne _ (List.getElem?_eq_getElem hcl)
      rcases Nat.lt_or_ge c j with h3 | h3
      · obtain ⟨hj1, hj2⟩ := List.getElem?_eq_some_iff.1 hx
        have := List.pairwise_iff_getElem.1 hup c j hcl hj1 h3
        rw [hj2] at this
        omega
      · obtain rfl : j = c := by omega
        rw [List.getElem?_eq_getElem hcl] at hx
        injection hx with hx
        rw [hx] at h1 h2; omega⟩
    have next : byteAt t i ≠ 10 ∨ i = t.size → lb t (i + 1) = lb t i ∨ i = t.size := fun h => by
      rcases h with h | h
      · exact .inl (by rw [lb, if_neg h])
      · exact .inr h
    (conv => whnf)
    refine ask_m (fun hcl => ?_) (fun hcl => ?_)
    · have hcl : c < sp.length := by simp at hcl; omega
      obtain ⟨x, hxc⟩ : ∃ x, sp[c]? = some x := ⟨_, List.getElem?_eq_getElem hcl⟩
      obtain ⟨q1, q2⟩ := hin x (List.mem_of_getElem? hxc)
      have hxi := (hinv c x hxc).2 (Nat.le_refl _)
      have hwd : (sp.map (wd t))[c]? = some (wd t x) := by rw [List.getElem?_map, hxc]; rfl
      have hbx := lb_bd t x.1
      obtain ⟨l1, l2⟩ := lb_le (s := t) hxi
      have w1 : IntKind.i64.wrap (IntKind.i64.wrap ((i : Int) - (lb t i).2) + 1) = (i : Int) - (lb t i).2 + 1 := by rw [w64 (x := (i : Int) - (lb t i).2) (by omega) (by omega), w64] <;> omega
      (conv => whnf)
      refine idx_and (by omega) (by simpa using hwd) ?_
      (conv => whnf)
      rw [show (wd t x).line = (lb t x.1).1 from rfl]
      refine ask_m (fun hln => ?_) (fun hln => ?_)
      · have hln : (lb t x.1).1 = (lb t i).1 := by simpa using hln
        have hlb := l2 hln
        (conv => whnf)
        refine idx_and (by omega) (by simpa using hwd) ?_
        (conv => whnf)
        rw [w1, show (wd t x).col = (x.1 : Int) - (lb t x.1).2 + 1 from rfl, hlb]
        refine ask_m (fun hcol => ?_) (fun hcol => ?_)
        · have hcol : (x.1 : Int) - (lb t i).2 + 1 = (i : Int) - (lb t i).2 + 1 := by simpa using hcol
          have hxe : x.1 = i := by omega
          have htx : (wd t x).text = t.extract i x.2 := by rw [← hxe]; rfl
          have hts : (t.extract i x.2).size = x.2 - i := by rw [ByteArray.size_extract]; omega
          (conv => whnf)
          refine idx_and (by omega) (by simpa using hwd) ?_
          (conv => whnf)
          rw [htx]
          refine ask_mf (decide_eq_false (by omega)) ?_
          (conv => whnf)
          rw [w64 (x := (t.size : Int) - i) (by omega) (by omega)]
          refine ask_mf (decide_eq_false (by omega)) ?_
          (conv => whnf)
          have w2 : IntKind.i64.wrap ((i : Int) + ((t.extract i x.2).size : Int)) = ((x.2 : Nat) : Int) := by rw [w64] <;> omega
          rw [w2]
          refine ⟨⟨by omega, by omega, by omega⟩, ?_⟩
          (conv => whnf)
          rw [Int.toNat_natCast, Int.toNat_natCast, decide_eq_true rfl]
          (conv => whnf)
          refine ⟨c + 1, [], ⟨hcl, fun j y hy => ⟨fun hj => ?_, fun hj => (hinv j y hy).2 (by omega)⟩⟩, by omega, ⟨⟨rfl, rfl, rfl, rfl, eqI hcc, rfl, trivial⟩, trivial⟩⟩
          rcases Nat.lt_or_ge j c with h3 | h3
          · exact (hinv j y hy).1 h3
          · obtain rfl : j = c := by omega
            rw [hxc] at hy; injection hy with hy; subst hy; omega
        · have hcol : ¬ (x.1 : Int) - (lb t i).2 + 1 = (i : Int) - (lb t i).2 + 1 := by simpa using hcol
          have hl := leave fun y hy => by rw [hxc] at hy; injection hy with hy; subst hy; omega
          (conv => whnf)
          refine ask_m (fun hlt => ?_) (fun hlt => ?_)
          · have hlt : i < t.size := by have := of_decide_eq_true hlt; omega
            (conv => whnf)
            refine ⟨⟨by omega, by omega⟩, ?_⟩
            (conv => whnf)
            rw [Int.toNat_natCast]
            refine ask_m (fun h10 => ?_) (fun h10 => ?_)
            · have h10 : byteAt t i = 10 := by simpa using h10
              (conv => whnf)
              refine ⟨(i + 1, c), [], ⟨by simp only; omega, hc, hl⟩, by simp only; omega, ⟨⟨rfl, rfl, eqI ?_, eqI ?_, rfl, eqI hii, trivial⟩, trivial⟩⟩
              · simp only; rw [lb, if_pos h10, w64] <;> omega
              · simp only; rw [lb, if_pos h10, hii]; simp
            · have h10 : ¬ byteAt t i = 10 := by simpa using h10
              (conv => whnf)
              refine ⟨(i + 1, c), [], ⟨by simp only; omega, hc, hl⟩, by simp only; omega, ⟨⟨rfl, rfl, eqI ?_, eqI ?_, rfl, eqI hii, trivial⟩, trivial⟩⟩
              · simp only; rw [lb, if_neg h10]
              · simp only; rw [lb, if_neg h10]
          · have hlt : ¬ i < t.size := by have := of_decide_eq_false hlt; omega
            have h10 : ¬ byteAt t i = 10 := by rw [byteAt_out (by omega)]; decide
            (conv => whnf)
            refine ⟨(i + 1, c), [], ⟨by simp only; omega, hc, hl⟩, by simp only; omega, ⟨⟨rfl, rfl, eqI ?_, eqI ?_, rfl, eqI hii, trivial⟩, trivial⟩⟩
            · simp only; rw [lb, if_neg h10]
            · simp only; rw [lb, if_neg h10]
      · have hln : ¬ (lb t x.1).1 = (lb t i).1 := by simpa using hln
        have hl := leave fun y hy => by
          rw [hxc] at hy; injection hy with hy; subst hy
          intro e; rw [e] at hln; exact hln rfl
        (conv => whnf)
        refine ask_m (fun hlt => ?_) (fun hlt => ?_)
        · have hlt : i < t.size := by have := of_decide_eq_true hlt; omega
          (conv => whnf)
          refine ⟨⟨by omega, by omega⟩, ?_⟩
          (conv => whnf)
          rw [Int.toNat_natCast]
          refine ask_m (fun h10 => ?_) (fun h10 => ?_)
          · have h10 : byteAt t i = 10 := by simpa using h10
            (conv => whnf)
            refine ⟨(i + 1, c), [], ⟨by simp only; omega, hc, hl⟩, by simp only; omega, ⟨⟨rfl, rfl, eqI ?_, eqI ?_, rfl, eqI hii, trivial⟩, trivial⟩⟩
            · simp only; rw [lb, if_pos h10, w64] <;> omega
            · simp only; rw [lb, if_pos h10, hii]; simp
          · have h10 : ¬ byteAt t i = 10 := by simpa using h10
            (conv => whnf)
            refine ⟨(i + 1, c), [], ⟨by simp only; omega, hc, hl⟩, by simp only; omega, ⟨⟨rfl, rfl, eqI ?_, eqI ?_, rfl, eqI hii, trivial⟩, trivial⟩⟩
            · simp only; rw [lb, if_neg h10]
            · simp only; rw [lb, if_neg h10]
        · have hlt : ¬ i < t.size := by have := of_decide_eq_false hlt; omega
          have h10 : ¬ byteAt t i = 10 := by rw [byteAt_out (by omega)]; decide
          (conv => whnf)
          refine ⟨(i + 1, c), [], ⟨by simp only; omega, hc, hl⟩, by simp only; omega, ⟨⟨rfl, rfl, eqI ?_, eqI ?_, rfl, eqI hii, trivial⟩, trivial⟩⟩
          · simp only; rw [lb, if_neg h10]
          · simp only; rw [lb, if_neg h10]
    · have hcl : c = sp.length := by simp at hcl; omega
      have hl := leave fun y hy => by have := (List.getElem?_eq_some_iff.1 hy).1; omega
      (conv => whnf)
      refine ask_m (fun hlt => ?_) (fun hlt => ?_)
      · have hlt : i < t.size := by have := of_decide_eq_true hlt; omega
        (conv => whnf)
        refine ⟨⟨by omega, by omega⟩, ?_⟩
        (conv => whnf)
        rw [Int.toNat_natCast]
        refine ask_m (fun h10 => ?_) (fun h10 => ?_)
        · have h10 : byteAt t i = 10 := by simpa using h10
          (conv => whnf)
          refine ⟨(i + 1, c), [], ⟨by simp only; omega, hc, hl⟩, by simp only; omega, ⟨⟨rfl, rfl, eqI ?_, eqI ?_, rfl, eqI hii, trivial⟩, trivial⟩⟩
          · simp only; rw [lb, if_pos h10, w64] <;> omega
          · simp only; rw [lb, if_pos h10, hii]; simp
        · have h10 : ¬ byteAt t i = 10 := by simpa using h10
          (conv => whnf)
          refine ⟨(i + 1, c), [], ⟨by simp only; omega, hc, hl⟩, by simp only; omega, ⟨⟨rfl, rfl, eqI ?_, eqI ?_, rfl, eqI hii, trivial⟩, trivial⟩⟩
          · simp only; rw [lb, if_neg h10]
          · simp only; rw [lb, if_neg h10]
      · have hlt : ¬ i < t.size := by have := of_decide_eq_false hlt; omega
        have h10 : ¬ byteAt t i = 10 := by rw [byteAt_out (by omega)]; decide
        (conv => whnf)
        refine ⟨(i + 1, c), [], ⟨by simp only; omega, hc, hl⟩, by simp only; omega, ⟨⟨rfl, rfl, eqI ?_, eqI ?_, rfl, eqI hii, trivial⟩, trivial⟩⟩
        · simp only; rw [lb, if_neg h10]
        · simp only; rw [lb, if_neg h10]
  · have hit : i = t.size + 1 := by have := of_decide_eq_false h; omega
    have hce : c = sp.length := by
      rcases Nat.lt_or_ge c sp.length with h' | h'
      · have h1 := (hinv c _ (List.getElem?_eq_getElem h')).2 (Nat.le_refl _)
        have h2 := hin _ (List.getElem_mem h')
        omega
      · omega
    subst hce
    (conv => whnf)
    refine call_i (law6_awake) ?_
    (conv => whnf)
    (conv => whnf)
    refine ret0 ?_
    exact ret_b (by simp) rfl
end Go.Proofs.Ytoabhjflfbblfaa
