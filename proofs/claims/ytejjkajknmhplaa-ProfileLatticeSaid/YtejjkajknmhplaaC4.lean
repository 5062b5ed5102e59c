/- For every input, ProfileLattice returns true and leaves its arguments as they were. Conditions: none beyond the given statement. -/
import Derived.Test.YtejjkajknmhplaaX17
namespace Go.Proofs.Ytejjkajknmhplaa
open Eng
set_option maxRecDepth 10000
attribute [local irreducible] FnOk loopW idxF retX

def join (a b : List Int) (k : Nat) : List Int := (List.range k).map fun i : Nat => max (lv a i) (lv b i)
theorem lv_out {x : List Int} {i : Int} (h : ¬ i.toNat < x.length) : lv x i = 0 := by
  simp [lv, List.getD_eq_getElem?_getD, List.getElem?_eq_none (show x.length ≤ i.toNat by omega)]
theorem join_lv {a b : List Int} (hl : a.length = b.length) (i : Int) : lv (join a b a.length) i = max (lv a i) (lv b i) := by
  by_cases h : i.toNat < a.length
  · have := lv_range (f := fun i : Nat => max (lv a i) (lv b i)) h
    simp only [join]
    have e : ∀ x : List Int, lv x i = lv x (i.toNat : Int) := fun x => by unfold lv; rw [Int.toNat_natCast]
    rw [e, this, ← e, ← e]
  · rw [lv_out (x := join a b a.length) (by simpa [join] using h), lv_out h, lv_out (x := b) (by omega)]; rfl
theorem lattice {top : List Int} {rows : List Row} {a b : List Int} (ha : feas top rows a = true) (hb : feas top rows b = true) : feas top rows (join a b a.length) = true := by
  obtain ⟨hv, a1, a2, a3⟩ := feas_iff.1 ha
  obtain ⟨_, b1, b2, b3⟩ := feas_iff.1 hb
  have hl : a.length = b.length := by omega
  refine feas_iff.2 ⟨hv, by simp [join, a1], fun i => ?_, fun r hr => ?_⟩
  · rw [join_lv hl]
    have := a2 i
    have := b2 i
    omega
  · have h1 := a3 r hr
    have h2 := b3 r hr
    have hp := ((valid_iff.1 hv).2.2.2.2 r hr).2
    simp only [sat, decide_eq_true_eq] at h1 h2 ⊢
    rw [join_lv hl, join_lv hl]
    have m1 : lv a r.cell ≤ max (lv a r.cell) (lv b r.cell) := by omega
    have m2 : lv b r.cell ≤ max (lv a r.cell) (lv b r.cell) := by omega
    have m3 : lv a (r.cell + 1) ≤ max (lv a (r.cell + 1)) (lv b (r.cell + 1)) := by omega
    have m4 : lv b (r.cell + 1) ≤ max (lv a (r.cell + 1)) (lv b (r.cell + 1)) := by omega
    by_cases h : 0 < r.a
    · have hb0 : r.b ≤ 0 := by omega
      have k1 := mul_le_neg hb0 m3
      have k2 := mul_le_neg hb0 m4
      rcases Int.le_total (lv a r.cell) (lv b r.cell) with h | h
      · rw [show max (lv a r.cell) (lv b r.cell) = lv b r.cell by omega]; omega
      · rw [show max (lv a r.cell) (lv b r.cell) = lv a r.cell by omega]; omega
    · have ha0 : r.a ≤ 0 := by omega
      have k1 := mul_le_neg ha0 m1
      have k2 := mul_le_neg ha0 m2
      rcases Int.le_total (lv a (r.cell + 1)) (lv b (r.cell + 1)) with h | h
      · rw [show max (lv a (r.cell + 1)) (lv b (r.cell + 1)) = lv b (r.cell + 1) by omega]; omega
      · rw [show max (lv a (r.cell + 1)) (lv b (r.cell + 1)) = lv a (r.cell + 1) by omega]; omega
theorem f4_ok (l m n : List Int) (hl : l.length ≤ 17592186044416) (hm : m.length ≤ 17592186044416) (hn : n.length ≤ 17592186044416) : FnOk Try.prog 4 [Li l, Li m, Li n] [] 0 (Bo true) [] 0 := by
  refine fnOk tab mix Try.func4 rfl rfl (by kernel_rfl) rfl rfl ?_
  have ht := lim_tame l
  have hr := limRows_len l
  have ht1 := ht.1
  have hla := lowered_len (limTop l) (limRows l) m
  have hlb := lowered_len (limTop l) (limRows l) n
  (conv => whnf)
  refine call_i (f15_ok l (by omega)) ?_
  (conv => whnf)
  refine call_i (f17_ok (limTop l) (limRows l) m ht (by omega) (by omega)) ?_
  (conv => whnf)
  refine ⟨⟨trivial, flatI _ _, trivial⟩, ?_⟩
  (conv => whnf)
  refine call_i (f17_ok (limTop l) (limRows l) n ht (by omega) (by omega)) ?_
  (conv => whnf)
  refine ⟨⟨trivial, flatI _ _, trivial⟩, ?_⟩
  (conv => whnf)
  refine call_i (f18_ok (limTop l) (limRows l) (lowered (limTop l) (limRows l) m) (by omega)) ?_
  (conv => whnf)
  refine ⟨⟨trivial, trivial⟩, ?_⟩
  (conv => whnf)
  refine ask_m (fun h => ?_) (fun h => ?_)
  · (conv => whnf)
    refine call_i f14_ok ?_
    (conv => whnf)
    refine ret0 ?_
    exact ret_b rfl rfl
  have hfa : feas (limTop l) (limRows l) (lowered (limTop l) (limRows l) m) = true := by simpa using h
  (conv => whnf)
  refine call_i (f18_ok (limTop l) (limRows l) (lowered (limTop l) (limRows l) n) (by omega)) ?_
  (conv => whnf)
  refine ⟨⟨trivial, trivial⟩, ?_⟩
  (conv => whnf)
  refine ask_m (fun h => ?_) (fun h => ?_)
  · (conv => whnf)
    refine call_i f14_ok ?_
    (conv => whnf)
    refine ret0 ?_
    exact ret_b rfl rfl
  have hfb : feas (limTop l) (limRows l) (lowered (limTop l) (limRows l) n) = true := by simpa using h
  have ha1 := (feas_iff.1 hfa).2.1
  have hb1 := (feas_iff.1 hfb).2.1
  have hjoin := lattice hfa hfb
  generalize lowered (limTop l) (limRows l) m = a at *
  generalize lowered (limTop l) (limRows l) n = b at *
  (conv => whnf)
  refine loop_intro (fun i : Nat => ⟨[(7, .one (.row 0)), (8, .one (.row 1)), (9, .one (.row 2)), (10, .one (.row 3)), (11, .one (.row 4)), (12, I i)], [(0, .rows 2 1 ((limTop l).map encI)), (1, .rows 25 4 ((limRows l).map encR)), (2, .rows 2 1 (a.map encI)), (3, .rows 2 1 (b.map encI)), (4, .rows 2 1 ((join a b i).map encI))], 5⟩) (fun i => i ≤ a.length) (fun i => a.length - i) [(11, 2, 1)] 0 [] (Nat.zero_le _) ⟨⟨rfl, rfl, rfl, rfl, rfl, rfl, trivial⟩, ⟨rfl, rfl, rfl, rfl, rfl, trivial⟩⟩ ?_
  rintro i hi
  (conv => whnf)
  refine ask_m (fun h => ?_) (fun h => ?_)
  · have hlt : i < a.length := by simpa using h
    have hkk : IntKind.i64.wrap ((i : Int) + 1) = ((i + 1 : Nat) : Int) := by rw [w64] <;> omega
    (conv => whnf)
    refine ⟨⟨by omega, by simpa using hlt⟩, ?_⟩
    (conv => whnf)
    refine idx_map (lv_some (x := a) (i := (i : Int)) (by simpa using hlt)) ?_
    (conv => whnf)
    refine ⟨⟨by omega, by simp only [List.length_map]; omega⟩, ?_⟩
    (conv => whnf)
    refine idx_map (lv_some (x := b) (i := (i : Int)) (by simp; omega)) ?_
    (conv => whnf)
    refine ⟨⟨by simp [join]; omega, by simp [join]; omega⟩, ?_⟩
    (conv => whnf)
    refine ⟨i + 1, [(0, 0), (1, 1), (2, 2), (3, 3), (4, 6)], hlt, by omega, ⟨⟨rfl, rfl, rfl, rfl, rfl, eqI hkk, trivial⟩, ⟨rfl, rfl, rfl, rfl, ?_, trivial⟩⟩⟩
    unfold join
    rw [range_enc]; rfl
  · have hi : i = a.length := by simp at h; omega
    subst hi
    (conv => whnf)
    refine call_i f14_ok ?_
    (conv => whnf)
    refine call_i (f18_ok (limTop l) (limRows l) (join a b a.length) (by omega)) ?_
    (conv => whnf)
    refine ⟨⟨trivial, trivial⟩, ?_⟩
    (conv => whnf)
    refine ret0 ?_
    exact ret_b hjoin rfl
theorem law4 (dss : List (List DV)) (h : All2 (fun t ds => Typed T 8 t ds) [26, 26, 26] dss) : FnOk Try.prog 4 (mkSs T [26, 26, 26] dss) [] 0 (Bo true) [] 0 := by
  obtain ⟨a, q, rfl, ha, h⟩ := all2_cons h
  obtain ⟨b, q, rfl, hb, h⟩ := all2_cons h
  obtain ⟨c, q, rfl, hc, h⟩ := all2_cons h
  obtain rfl := all2_nil h
  obtain ⟨a, rfl, ka⟩ := typed26 ha
  obtain ⟨b, rfl, kb⟩ := typed26 hb
  obtain ⟨c, rfl, kc⟩ := typed26 hc
  exact f4_ok a b c ka kb kc
theorem lifted4 (os : Os) (started : os.Started) (H : Type) (enc : TypeId × Value → H) :
    ReturnsInHanded {} Try.checked os 4 .any (Rows.profileLatticeSpec.pre6 enc Try.prog Try.f4 Rows.profileLatticeRow.domain false) (Rows.profileLatticeSpec.post enc Try.prog Try.f4 false true false false) := by
  refine returnsInHanded_of_change_sized (C := Try.checked) own started (by kernel_rfl) Try.func4
    (ChangeSpec.witness6 (enc := enc) (C := Try.checked) false ⟨#[], #[.slice none 0 0, .slice none 0 0, .slice none 0 0], []⟩ 8 (by kernel_rfl) (by kernel_rfl) (by kernel_rfl) (by kernel_rfl)) ?_
  intro W base args ds gs before hval hW _ hsz _
  exact law_contract (T := T) (n := 8) (tb := 4) (ts := [26, 26, 26]) tab laid rfl rfl (by kernel_rfl) rfl (by kernel_rfl) (fun ds hd => by
    match ds, hd with
    | [_, _, _], _ => rfl) law4 hval hW hsz
/-- For every input ProfileLattice returns true. -/
theorem profileLattice_holds : Rows.ProfileLatticeSaid :=
  OpenClaim.holds_of_wide 4 Try.f4 rfl rfl rfl rfl rfl rfl rfl ⟨rfl, rfl, rfl, rfl, rfl⟩ rfl rfl rfl rfl rfl (by kernel_rfl) Try.func4 (by kernel_rfl)
    (of_decide_eq_true (by kernel_rfl)) (by unfold Func.isWrapper; first | (rw [if_pos (by decide +kernel)]; kernel_rfl) | (rw [if_neg (by decide +kernel)]; exact ⟨rfl, rfl⟩))
    (fun os started H enc _ => lifted4 os started H enc)
end Go.Proofs.Ytejjkajknmhplaa
