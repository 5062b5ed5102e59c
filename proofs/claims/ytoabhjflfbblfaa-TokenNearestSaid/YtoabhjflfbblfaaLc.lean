/- law6: TokenNearest. -/
import Derived.Test.YtoabhjflfbblfaaLb
import Derived.Test.YtoabhjflfbblfaaNu5
namespace Go.Proofs.Ytoabhjflfbblfaa
open Eng
set_option maxRecDepth 10000
attribute [local irreducible] FnOk loopW idxF retX arrF

theorem tyB_uint16 {n : Nat} {ds : List DV} (h : Typed T (n + 1) Y.uint16 ds) : ∃ a, ds = [.int .u16 a] ∧ 0 ≤ a ∧ a < 65536 := by
  obtain ⟨a, h1, h2⟩ := h
  have h' : IntKind.u16.min ≤ a ∧ a ≤ IntKind.u16.max := by simpa [Lit.wf] using h2
  have e1 : IntKind.u16.min = 0 := by decide
  have e2 : IntKind.u16.max = 65535 := by decide
  exact ⟨a, h1, by omega, by omega⟩
abbrev Us (c : Int) : SV := .one (.dv (.int .u16 c))
theorem law6_Nearest (a b c : Int) (ha : 0 ≤ a ∧ a < 65536) (hb : 0 ≤ b ∧ b < 65536) (hc : 0 ≤ c ∧ c < 256) : FnOk Try.prog F.law6_TokenNearest [Us a, Us b, By c] [] 0 (Bo true) [] 0 := by
  refine fnOk tab mix G.law6_TokenNearest rfl rfl (by kernel_rfl) rfl rfl ?_
  (conv => whnf)
  obtain ⟨n, hn⟩ : ∃ n : Nat, c % 4 + 1 = n := ⟨(c % 4 + 1).toNat, by omega⟩
  refine ⟨by decide, ?_⟩
  (conv => whnf)
  rw [u8mod hc.1 (by decide), w64 (x := c % 4) (by omega) (by omega), w64 (x := c % 4 + 1) (by omega) (by omega), hn]
  have hn1 : 1 ≤ n := by omega
  have hn4 : n ≤ 4 := by omega
  have p4 : ∀ i, i ≤ 4 → (0 : Int) < 10 ^ i ∧ (10 : Int) ^ i ≤ 10000 := fun i hi => by
    have := pow_mono hi
    have e : (10 : Int) ^ 4 = 10000 := by decide
    exact ⟨Int.pow_pos (by decide), by omega⟩
  refine loop_intro (fun i : Nat => ⟨[(0, Us a), (1, Us b), (7, I n), (8, I (10 ^ i)), (9, I i)], [], 0⟩) (fun i => i ≤ n) (fun i => n - i) [] 0 [] (Nat.zero_le _) ⟨⟨rfl, rfl, rfl, rfl, rfl, trivial⟩, trivial⟩ ?_
  rintro i hi
  (conv => whnf)
  refine ask_m (fun h => ?_) (fun h => ?_)
  · have hlt : i < n := by have := of_decide_eq_true h; omega
    have hii : IntKind.i64.wrap ((i : Int) + 1) = ((i + 1 : Nat) : Int) := by rw [w64] <;> omega
    have q := p4 (i + 1) (by omega)
    rw [Int.pow_succ] at q
    (conv => whnf)
    refine ⟨i + 1, [], hlt, by omega, ⟨⟨rfl, rfl, rfl, eqI ?_, eqI hii, trivial⟩, trivial⟩⟩
    rw [w64 (by omega) (by omega), Int.pow_succ]
  · have hin : i = n := by have := of_decide_eq_false h; omega
    subst hin
    have q := p4 i (by omega)
    obtain ⟨w, hw⟩ : ∃ w : Nat, a % 32000 = w := ⟨(a % 32000).toNat, by omega⟩
    have f0 := Int.emod_nonneg b (b := (10 : Int) ^ i) (by omega)
    have f1 := Int.emod_lt_of_pos b q.1
    obtain ⟨f, hf⟩ : ∃ f : Nat, b % 10 ^ i = f := ⟨(b % 10 ^ i).toNat, by omega⟩
    rw [hf] at f0 f1
    have hft : f < 10 ^ i := by exact_mod_cast f1
    obtain ⟨j, j5, jw, j1, jmin⟩ := dlen_ex (n := w) (k := 1) (m := 5) (by omega) (by decide)
    (conv => whnf)
    refine ⟨by decide, ?_⟩
    (conv => whnf)
    refine ⟨by omega, ?_⟩
    (conv => whnf)
    rw [Int.tmod_eq_emod_of_nonneg ha.1, hw, w64 (x := (w : Int)) (by omega) (by omega), w64 (x := b) (by omega) (by omega), Int.tmod_eq_emod_of_nonneg hb.1, hf]
    refine call_i (ref_Decimal w 1 j (by omega) jw j1 (by omega) jmin) ?_
    (conv => whnf)
    refine ⟨by rw [decB_size]; show j + 1 ≤ _; omega, ?_⟩
    (conv => whnf)
    refine call_i (ref_Decimal f i i (by omega) (Nat.div_eq_of_lt hft) (Nat.le_refl _) (by omega) (fun k hk h => by omega)) ?_
    (conv => whnf)
    refine ⟨by rw [ByteArray.size_append, decB_size, decB_size]; show j + 1 + _ ≤ _; omega, ?_⟩
    (conv => whnf)
    have sz : ((decB j w ++ ⟨#[46]⟩) ++ decB i f).size ≤ 4611686018427387904 := by rw [ByteArray.size_append, ByteArray.size_append, decB_size, decB_size]; show j + 1 + i ≤ _; omega
    refine call_i (token_Number ((decB j w ++ ⟨#[46]⟩) ++ decB i f) sz) ?_
    (conv => whnf)
    rw [numOf_point j1 j5 jw hn1 (by omega) hft]
    have hi4 : i = 1 ∨ i = 2 ∨ i = 3 ∨ i = 4 := by omega
    have key : ∃ v : Int, ((w * 1000000 + f * 10 ^ (6 - i)) * 65536 + 500000 : Int) / 1000000 = v ∧ 0 ≤ v ∧ v ≤ 2147483648 ∧ 2 * (v * 10 ^ i - (w * 10 ^ i + f) * 65536) ≤ 10 ^ i ∧ -2 * (v * 10 ^ i - (w * 10 ^ i + f) * 65536) < 10 ^ i := by
      refine ⟨_, rfl, ?_⟩
      rcases hi4 with rfl | rfl | rfl | rfl <;> simp only [Nat.reduceSub, Int.reducePow] at * <;> omega
    obtain ⟨v, e, v0, v1, k1, k2⟩ := key
    rw [e, if_neg (by omega)]
    have m1 : 0 ≤ v * 10 ^ i ∧ v * 10 ^ i ≤ 2147483648 * 10000 := ⟨Int.mul_nonneg v0 (by omega), Int.mul_le_mul v1 q.2 (by omega) (by decide)⟩
    have m2 : 0 ≤ (w : Int) * 10 ^ i ∧ (w : Int) * 10 ^ i ≤ 32000 * 10000 := ⟨Int.mul_nonneg (by omega) (by omega), Int.mul_le_mul (by omega) q.2 (by omega) (by decide)⟩
    generalize (10 : Int) ^ i = ten at *
    generalize v * ten = vt at *
    generalize (w : Int) * ten = wt at *
    (conv => whnf)
    refine call_i (law6_awake) ?_
    (conv => whnf)
    rw [w64 (x := vt) (by omega) (by omega), w64 (x := wt) (by omega) (by omega), w64 (x := wt + f) (by omega) (by omega), w64 (x := (wt + f) * 65536) (by omega) (by omega), w64 (x := vt - (wt + f) * 65536) (by omega) (by omega), w64 (x := 2 * (vt - (wt + f) * 65536)) (by omega) (by omega), decide_eq_true k1]
    (conv => whnf)
    rw [w64 (x := -2 * (vt - (wt + f) * 65536)) (by omega) (by omega), decide_eq_true k2]
    (conv => whnf)
    refine ret0 ?_
    exact ret_b rfl rfl
end Go.Proofs.Ytoabhjflfbblfaa
