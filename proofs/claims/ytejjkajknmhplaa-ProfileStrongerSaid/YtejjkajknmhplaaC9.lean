/- For every input, ProfileStronger returns true and leaves its arguments as they were. Conditions: none beyond the given statement. -/
import Derived.Test.YtejjkajknmhplaaX17
namespace Go.Proofs.Ytejjkajknmhplaa
open Eng
set_option maxRecDepth 10000
theorem idx_at {rows : List (List DV)} {i : Nat} {r : List DV} {K : List DV → Prop} (h : rows[i]? = some r) (k : K r) : idxF rows i K := ⟨r, h, k⟩
attribute [local irreducible] FnOk loopW idxF retX

structure Mod (r : Row) : Prop where
  cell : r.cell = 0
  a : -40 ≤ r.a ∧ r.a ≤ 40
  b : -40 ≤ r.b ∧ r.b ≤ 40
  c : -100000 < r.c ∧ r.c < 100000
def dot (r : Row) (p q : Int) : Int := r.a * p + r.b * q
def holdsAt (p q : Int) (r : Row) : Bool := decide (dot r p q ≤ r.c)
theorem split_mod {r : Row} (h : Mod r) (ha : -20 ≤ r.a ∧ r.a ≤ 20) (hb : -20 ≤ r.b ∧ r.b ≤ 20) : (split r).2 = true ∧ 0 < (split r).1.length ∧ (∀ s ∈ (split r).1, Mod s ∧ ¬ (0 < s.a ∧ 0 < s.b)) ∧
    ∀ p q : Int, 0 ≤ p → 0 ≤ q → (split r).1.all (holdsAt p q) = true → dot r p q ≤ r.c := by
  obtain ⟨h1, h2, h3, h4⟩ := h
  have hbd : bounded r = true := bounded_iff.2 (by omega)
  unfold split
  rw [if_pos ⟨hbd, by omega⟩]
  split
  · rename_i hp
    refine ⟨rfl, by simp, fun s hs => ?_, fun p q hp0 hq0 hall => ?_⟩
    · simp only [List.mem_cons, List.not_mem_nil, or_false] at hs
      rcases hs with rfl | rfl
      · exact ⟨⟨h1, by simp only; omega, by simp only; omega, h4⟩, by simp only; omega⟩
      · exact ⟨⟨h1, by simp only; omega, by simp only; omega, h4⟩, by simp only; omega⟩
    · simp only [List.all_cons, List.all_nil, Bool.and_true, Bool.and_eq_true, holdsAt, dot, decide_eq_true_eq, Int.zero_mul, Int.add_zero, Int.zero_add, Int.add_mul] at hall
      simp only [dot]
      rcases Int.le_total p q with h | h
      · have := mul_le_pos (b := r.a) (by omega) h; omega
      · have := mul_le_pos (b := r.b) (by omega) h; omega
  · rename_i hp
    refine ⟨rfl, by simp, fun s hs => ?_, fun p q _ _ hall => ?_⟩
    · simp only [List.mem_cons, List.not_mem_nil, or_false] at hs
      subst hs
      exact ⟨⟨h1, h2, h3, h4⟩, hp⟩
    · simpa [holdsAt] using hall
theorem f9_ok (a b c x y : Int) : FnOk Try.prog 9 [I a, I b, I c, I x, I y] [] 0 (Bo true) [] 0 := by
  refine fnOk tab mix Try.func9 rfl rfl (by kernel_rfl) rfl rfl ?_
  have ha : 0 ≤ a % 41 ∧ a % 41 < 41 := by omega
  have hb : 0 ≤ b % 41 ∧ b % 41 < 41 := by omega
  have hx : 0 ≤ x % 4097 ∧ x % 4097 < 4097 := by omega
  have hy : 0 ≤ y % 4097 ∧ y % 4097 < 4097 := by omega
  have hc := tmod_pos (x := c) (m := 100000) (by omega)
  have wa : IntKind.i64.wrap (a % 41 - 20) = a % 41 - 20 := by rw [w64] <;> omega
  have wb : IntKind.i64.wrap (b % 41 - 20) = b % 41 - 20 := by rw [w64] <;> omega
  have hm : Mod ⟨0, a % 41 - 20, b % 41 - 20, c.tmod 100000⟩ := ⟨rfl, by simp only; omega, by simp only; omega, by simp only; omega⟩
  obtain ⟨s1, s2, s3, s4⟩ := split_mod hm (by simp only; omega) (by simp only; omega)
  have sl := split_len ⟨0, a % 41 - 20, b % 41 - 20, c.tmod 100000⟩
  (conv => whnf)
  refine call_i (f22_ok a 41 (by decide) (by decide)) ?_
  (conv => whnf)
  refine call_i (f22_ok b 41 (by decide) (by decide)) ?_
  (conv => whnf)
  refine ⟨by decide, ?_⟩
  (conv => whnf)
  rw [wa, wb]
  refine call_i (f28_ok ⟨0, a % 41 - 20, b % 41 - 20, c.tmod 100000⟩) ?_
  generalize hL : split ⟨0, a % 41 - 20, b % 41 - 20, c.tmod 100000⟩ = L at *
  obtain ⟨L, ok⟩ := L
  simp only at s1 s2 s3 s4 sl
  subst s1
  (conv => whnf)
  refine ask_mf (by simp; intro h; subst h; simp at s2) ?_
  (conv => whnf)
  refine call_i (f22_ok x 4097 (by decide) (by decide)) ?_
  (conv => whnf)
  refine call_i (f22_ok y 4097 (by decide) (by decide)) ?_
  have s4 := s4 (x % 4097) (y % 4097) hx.1 hy.1
  generalize x % 4097 = p at *
  generalize y % 4097 = q at *
  (conv => whnf)
  refine loop_intro (fun i : Nat => ⟨[(11, .one (.vptr 0 0)), (12, .one (.row 1)), (14, .one (.row 2)), (15, I i)], [(0, .vars 25 [.dv (.int .i64 0), .dv (.int .i64 (a % 41 - 20)), .dv (.int .i64 (b % 41 - 20)), .dv (.int .i64 (c.tmod 100000))]), (1, .rows 25 4 (L.map encR)), (2, .rows 2 1 [encI p, encI q])], 3⟩) (fun i => i ≤ L.length ∧ (L.take i).all (holdsAt p q) = true) (fun i => L.length - i) [] 0 [] ⟨Nat.zero_le _, rfl⟩ ⟨⟨rfl, rfl, rfl, rfl, trivial⟩, ⟨rfl, rfl, rfl, trivial⟩⟩ ?_
  rintro i ⟨hi, hall⟩
  have hkk : IntKind.i64.wrap ((i : Int) + 1) = ((i + 1 : Nat) : Int) := by rw [w64] <;> omega
  (conv => whnf)
  refine ask_m (fun h => ?_) (fun h => ?_)
  · have hlt : i < L.length := by simpa using h
    obtain ⟨r, hr⟩ : ∃ r, L[i]? = some r := ⟨_, List.getElem?_eq_getElem hlt⟩
    obtain ⟨⟨r1, r2, r3, r4⟩, r5⟩ := s3 r (List.mem_of_getElem? hr)
    have hidx : (0 : Int) ≤ i ∧ (i : Int) < (L.map encR).length := ⟨by omega, by simpa using hlt⟩
    have hr' : L[(i : Int).toNat]? = some r := by simpa using hr
    have m1 := mul_bd (A := 40) (B := 4097) r2 (show -4097 ≤ p ∧ p ≤ 4097 by omega)
    have m2 := mul_bd (A := 40) (B := 4097) r3 (show -4097 ≤ q ∧ q ≤ 4097 by omega)
    have w1 : IntKind.i64.wrap (r.a * p) = r.a * p := by rw [w64] <;> omega
    have w2 : IntKind.i64.wrap (r.b * q) = r.b * q := by rw [w64] <;> omega
    have w3 : IntKind.i64.wrap (r.a * p + r.b * q) = r.a * p + r.b * q := by rw [w64] <;> omega
    (conv => whnf)
    refine ⟨hidx, ?_⟩
    (conv => whnf)
    refine idx_map hr' ?_
    (conv => whnf)
    refine ask_mf (by rw [r1]; rfl) ?_
    (conv => whnf)
    refine ⟨hidx, ?_⟩
    (conv => whnf)
    refine idx_map hr' ?_
    (conv => whnf)
    refine ask_m (fun h => ?_) (fun h => ?_)
    · have h := of_decide_eq_true h
      (conv => whnf)
      refine ⟨hidx, ?_⟩
      (conv => whnf)
      refine idx_map hr' ?_
      (conv => whnf)
      refine ask_mf (by simp only [decide_eq_false_iff_not]; omega) ?_
      (conv => whnf)
      refine ⟨hidx, ?_⟩
      (conv => whnf)
      refine idx_map hr' ?_
      (conv => whnf)
      refine ⟨⟨by decide, by simp⟩, ?_⟩
      (conv => whnf)
      refine idx_at (r := encI p) rfl ?_
      (conv => whnf)
      refine ⟨hidx, ?_⟩
      (conv => whnf)
      refine idx_map hr' ?_
      (conv => whnf)
      refine ⟨⟨by decide, by simp⟩, ?_⟩
      (conv => whnf)
      refine idx_at (r := encI q) rfl ?_
      (conv => whnf)
      refine ⟨hidx, ?_⟩
      (conv => whnf)
      refine idx_map hr' ?_
      (conv => whnf)
      rw [w1, w2, w3]
      refine ask_m (fun h => ?_) (fun h => ?_)
      · (conv => whnf)
        refine call_i f14_ok ?_
        (conv => whnf)
        refine ret0 ?_
        exact ret_b rfl rfl
      · have h := of_decide_eq_false h
        have hh : holdsAt p q r = true := by unfold holdsAt dot; exact decide_eq_true (Int.not_lt.1 h)
        (conv => whnf)
        exact ⟨i + 1, [], ⟨hlt, all_take hall hr hh⟩, by omega, ⟨⟨rfl, rfl, rfl, eqI hkk, trivial⟩, ⟨rfl, rfl, rfl, trivial⟩⟩⟩
    · have h := of_decide_eq_false h
      (conv => whnf)
      refine ⟨hidx, ?_⟩
      (conv => whnf)
      refine idx_map hr' ?_
      (conv => whnf)
      refine ⟨⟨by decide, by simp⟩, ?_⟩
      (conv => whnf)
      refine idx_at (r := encI p) rfl ?_
      (conv => whnf)
      refine ⟨hidx, ?_⟩
      (conv => whnf)
      refine idx_map hr' ?_
      (conv => whnf)
      refine ⟨⟨by decide, by simp⟩, ?_⟩
      (conv => whnf)
      refine idx_at (r := encI q) rfl ?_
      (conv => whnf)
      refine ⟨hidx, ?_⟩
      (conv => whnf)
      refine idx_map hr' ?_
      (conv => whnf)
      rw [w1, w2, w3]
      refine ask_m (fun h => ?_) (fun h => ?_)
      · (conv => whnf)
        refine call_i f14_ok ?_
        (conv => whnf)
        refine ret0 ?_
        exact ret_b rfl rfl
      · have h := of_decide_eq_false h
        have hh : holdsAt p q r = true := by unfold holdsAt dot; exact decide_eq_true (Int.not_lt.1 h)
        (conv => whnf)
        exact ⟨i + 1, [], ⟨hlt, all_take hall hr hh⟩, by omega, ⟨⟨rfl, rfl, rfl, eqI hkk, trivial⟩, ⟨rfl, rfl, rfl, trivial⟩⟩⟩
  · have hi : i = L.length := by simp at h; omega
    subst hi
    rw [List.take_length] at hall
    have hfin := s4 hall
    have m1 := mul_bd (a := a % 41 - 20) (b := p) (A := 40) (B := 4097) (by omega) (by omega)
    have m2 := mul_bd (a := b % 41 - 20) (b := q) (A := 40) (B := 4097) (by omega) (by omega)
    have w1 : IntKind.i64.wrap ((a % 41 - 20) * p) = (a % 41 - 20) * p := by rw [w64] <;> omega
    have w2 : IntKind.i64.wrap ((b % 41 - 20) * q) = (b % 41 - 20) * q := by rw [w64] <;> omega
    have w3 : IntKind.i64.wrap ((a % 41 - 20) * p + (b % 41 - 20) * q) = (a % 41 - 20) * p + (b % 41 - 20) * q := by rw [w64] <;> omega
    (conv => whnf)
    refine call_i f14_ok ?_
    (conv => whnf)
    refine ⟨⟨by decide, by simp⟩, ?_⟩
    (conv => whnf)
    refine idx_at (r := encI p) rfl ?_
    (conv => whnf)
    refine ⟨⟨by decide, by simp⟩, ?_⟩
    (conv => whnf)
    refine idx_at (r := encI q) rfl ?_
    (conv => whnf)
    rw [w1, w2, w3]
    refine ret0 ?_
    exact ret_b (by simpa [dot] using hfin) rfl
theorem law9 (dss : List (List DV)) (h : All2 (fun t ds => Typed T 8 t ds) [3, 3, 2, 2, 2] dss) : FnOk Try.prog 9 (mkSs T [3, 3, 2, 2, 2] dss) [] 0 (Bo true) [] 0 := by
  obtain ⟨a, q, rfl, ha, h⟩ := all2_cons h
  obtain ⟨b, q, rfl, hb, h⟩ := all2_cons h
  obtain ⟨c, q, rfl, hc, h⟩ := all2_cons h
  obtain ⟨d, q, rfl, hd, h⟩ := all2_cons h
  obtain ⟨e, q, rfl, he, h⟩ := all2_cons h
  obtain rfl := all2_nil h
  obtain ⟨a, rfl⟩ := typed3 ha
  obtain ⟨b, rfl⟩ := typed3 hb
  obtain ⟨c, rfl⟩ := typed2 hc
  obtain ⟨d, rfl⟩ := typed2 hd
  obtain ⟨e, rfl⟩ := typed2 he
  exact f9_ok a b c d e 
theorem lifted9 (os : Os) (started : os.Started) (H : Type) (enc : TypeId × Value → H) :
    ReturnsInHanded {} Try.checked os 9 .any (Rows.profileStrongerSpec.pre6 enc Try.prog Try.f9 Rows.profileStrongerRow.domain false) (Rows.profileStrongerSpec.post enc Try.prog Try.f9 false true false false) := by
  refine returnsInHanded_of_change_sized (C := Try.checked) own started (by kernel_rfl) Try.func9
    (ChangeSpec.witness6 (enc := enc) (C := Try.checked) false ⟨#[], #[.int .i64 0, .int .i64 0, .int .i64 0, .int .i64 0, .int .i64 0], []⟩ 8 (by kernel_rfl) (by kernel_rfl) (by kernel_rfl) (by kernel_rfl)) ?_
  intro W base args ds gs before hval hW _ hsz _
  exact law_contract (T := T) (n := 8) (tb := 4) (ts := [3, 3, 2, 2, 2]) tab laid rfl rfl (by kernel_rfl) rfl (by kernel_rfl) (fun ds hd => by
    match ds, hd with
    | [_, _, _, _, _], _ => rfl) law9 hval hW hsz
/-- For every input ProfileStronger returns true. -/
theorem profileStronger_holds : Rows.ProfileStrongerSaid :=
  OpenClaim.holds_of_wide 9 Try.f9 rfl rfl rfl rfl rfl rfl rfl ⟨rfl, rfl, rfl, rfl, rfl⟩ rfl rfl rfl rfl rfl (by kernel_rfl) Try.func9 (by kernel_rfl)
    (of_decide_eq_true (by kernel_rfl)) (by unfold Func.isWrapper; first | (rw [if_pos (by decide +kernel)]; kernel_rfl) | (rw [if_neg (by decide +kernel)]; exact ⟨rfl, rfl⟩))
    (fun os started H enc _ => lifted9 os started H enc)
end Go.Proofs.Ytejjkajknmhplaa
