/- For every input, ProfileSafe returns true and leaves its arguments as they were. Conditions: none beyond the given statement. -/
import Derived.Test.YtejjkajknmhplaaX18
namespace Go.Proofs.Ytejjkajknmhplaa
open Eng
set_option maxRecDepth 10000
attribute [local irreducible] FnOk loopW idxF retX

theorem f12_ok (l m st : List Int) (hl : l.length ≤ 17592186044416) (hm : m.length ≤ 17592186044416) (hst : st.length ≤ 17592186044416) : FnOk Try.prog 12 [Li l, Li m, Li st] [] 0 (Bo true) [] 0 := by
  refine fnOk tab mix Try.func12 rfl rfl (by kernel_rfl) rfl rfl ?_
  have ht := lim_tame l
  have hr := limRows_len l
  have ht1 := ht.1
  have hla := lowered_len (limTop l) (limRows l) m
  have hv := lim_valid l
  (conv => whnf)
  refine call_i (f15_ok l (by omega)) ?_
  generalize limTop l = top at *
  generalize limRows l = rows at *
  (conv => whnf)
  refine loop_intro (fun p : Nat × List Int => ⟨[(1, Li m), (2, Li st), (7, .one (.row 0)), (8, .one (.row 1)), (9, .one (.row 2)), (10, I p.1)], [(0, .rows 2 1 (top.map encI)), (1, .rows 25 4 (rows.map encR)), (2, .rows 3 1 (p.2.map encI))], 3⟩) (fun p => p.1 ≤ st.length ∧ p.1 ≤ 40 ∧ p.2.length ≤ p.1 ∧ ∀ i ∈ p.2, goodStep rows i) (fun p => st.length - p.1) [(9, 3, 1)] (0, []) [] ⟨Nat.zero_le _, Nat.zero_le _, Nat.zero_le _, fun i hi => by cases hi⟩ ⟨⟨rfl, rfl, rfl, rfl, rfl, rfl, trivial⟩, ⟨rfl, rfl, rfl, trivial⟩⟩ ?_
  rintro ⟨k, s⟩ ⟨hk, hk40, hsl, hgood⟩
  simp only at hk hk40 hsl hgood
  have hkk : IntKind.i64.wrap ((k : Int) + 1) = ((k + 1 : Nat) : Int) := by rw [w64] <;> omega
  have hcont : k < st.length → k < 40 → ((k + 1 ≤ st.length ∧ k + 1 ≤ 40 ∧ s.length ≤ k + 1 ∧ ∀ i ∈ s, goodStep rows i) : Prop) := fun h1 h2 => ⟨h1, h2, by omega, hgood⟩
  (conv => whnf)
  refine ask_m (fun h => ?_) (fun h => ?_)
  rotate_left
  · obtain ⟨z, hz⟩ := rep_good hv s top rfl hgood
    have hre := replay_yes hv (by omega) hz
    have hzl := (replay_ok (show (replay top rows s).2 = true by rw [hre])).2.2.2.1
    have hbel : ∀ y, feas top rows y = true → below y z := fun y hy => by
      have := replay_below (s := s) hy (by rw [hre])
      rw [hre] at this; exact this
    rw [hre] at hzl
    simp only at hzl
    (conv => whnf)
    have h35 := f35_ok top rows s (by omega)
    rw [hre] at h35
    refine call_i h35 ?_
    (conv => whnf)
    refine ⟨⟨flatR2 _, flatI _ _, trivial⟩, ?_⟩
    (conv => whnf)
    refine ask_mf (by simp; omega) ?_
    (conv => whnf)
    refine call_i (f17_ok top rows m ht (by omega) (by omega)) ?_
    (conv => whnf)
    refine ⟨⟨trivial, flatI _ _, trivial⟩, ?_⟩
    (conv => whnf)
    refine call_i (f20_ok top rows (lowered top rows m) (by omega)) ?_
    (conv => whnf)
    refine ⟨⟨trivial, trivial⟩, ?_⟩
    (conv => whnf)
    refine ask_m (fun hf => ?_) (fun hf => ?_)
    · (conv => whnf)
      refine call_i f14_ok ?_
      (conv => whnf)
      refine ret0 ?_
      exact ret_b rfl rfl
    have hf : feas top rows (lowered top rows m) = true := by simpa using hf
    have hb := hbel _ hf
    have hbl := hb.1
    have href := safe_refutes (s := s) hf
    generalize lowered top rows m = y at *
    (conv => whnf)
    refine loop_intro (fun i : Nat => ⟨[(7, .one (.row 0)), (8, .one (.row 1)), (9, .one (.row 2)), (12, .one (.row 3)), (14, .one (.row 4)), (15, I i)], [(0, .rows 2 1 (top.map encI)), (1, .rows 25 4 (rows.map encR)), (2, .rows 3 1 (s.map encI)), (3, .rows 2 1 (z.map encI)), (4, .rows 2 1 (y.map encI))], 5⟩) (fun i => i ≤ y.length) (fun i => y.length - i) [] 0 [] (Nat.zero_le _) ⟨⟨rfl, rfl, rfl, rfl, rfl, rfl, trivial⟩, ⟨rfl, rfl, rfl, rfl, rfl, trivial⟩⟩ ?_
    rintro i hi
    have hii : IntKind.i64.wrap ((i : Int) + 1) = ((i + 1 : Nat) : Int) := by rw [w64] <;> omega
    (conv => whnf)
    refine ask_m (fun h => ?_) (fun h => ?_)
    · have hlti : i < y.length := by simpa using h
      (conv => whnf)
      refine ⟨⟨by omega, by simpa using hlti⟩, ?_⟩
      (conv => whnf)
      refine idx_map (lv_some (x := y) (i := (i : Int)) (by simpa using hlti)) ?_
      (conv => whnf)
      refine ⟨⟨by omega, by simp only [List.length_map]; omega⟩, ?_⟩
      (conv => whnf)
      refine idx_map (lv_some (x := z) (i := (i : Int)) (by simp; omega)) ?_
      (conv => whnf)
      refine ask_mf (by have := hb.2 i; simp only [decide_eq_false_iff_not]; omega) ?_
      (conv => whnf)
      exact ⟨i + 1, [], hlti, by omega, ⟨⟨rfl, rfl, rfl, rfl, rfl, eqI hii, trivial⟩, ⟨rfl, rfl, rfl, rfl, rfl, trivial⟩⟩⟩
    · (conv => whnf)
      refine call_i f14_ok ?_
      (conv => whnf)
      refine call_i (f32_ok top rows s (by omega)) ?_
      (conv => whnf)
      refine ⟨⟨trivial, trivial⟩, ?_⟩
      (conv => whnf)
      refine ret0 ?_
      exact ret_b (by rw [href]; rfl) rfl
  have hlt : k < st.length := by simpa using h
  (conv => whnf)
  refine ask_m (fun h => ?_) (fun h => ?_)
  rotate_left
  · obtain ⟨z, hz⟩ := rep_good hv s top rfl hgood
    have hre := replay_yes hv (by omega) hz
    have hzl := (replay_ok (show (replay top rows s).2 = true by rw [hre])).2.2.2.1
    have hbel : ∀ y, feas top rows y = true → below y z := fun y hy => by
      have := replay_below (s := s) hy (by rw [hre])
      rw [hre] at this; exact this
    rw [hre] at hzl
    simp only at hzl
    (conv => whnf)
    have h35 := f35_ok top rows s (by omega)
    rw [hre] at h35
    refine call_i h35 ?_
    (conv => whnf)
    refine ⟨⟨flatR2 _, flatI _ _, trivial⟩, ?_⟩
    (conv => whnf)
    refine ask_mf (by simp; omega) ?_
    (conv => whnf)
    refine call_i (f17_ok top rows m ht (by omega) (by omega)) ?_
    (conv => whnf)
    refine ⟨⟨trivial, flatI _ _, trivial⟩, ?_⟩
    (conv => whnf)
    refine call_i (f20_ok top rows (lowered top rows m) (by omega)) ?_
    (conv => whnf)
    refine ⟨⟨trivial, trivial⟩, ?_⟩
    (conv => whnf)
    refine ask_m (fun hf => ?_) (fun hf => ?_)
    · (conv => whnf)
      refine call_i f14_ok ?_
      (conv => whnf)
      refine ret0 ?_
      exact ret_b rfl rfl
    have hf : feas top rows (lowered top rows m) = true := by simpa using hf
    have hb := hbel _ hf
    have hbl := hb.1
    have href := safe_refutes (s := s) hf
    generalize lowered top rows m = y at *
    (conv => whnf)
    refine loop_intro (fun i : Nat => ⟨[(7, .one (.row 0)), (8, .one (.row 1)), (9, .one (.row 2)), (12, .one (.row 3)), (14, .one (.row 4)), (15, I i)], [(0, .rows 2 1 (top.map encI)), (1, .rows 25 4 (rows.map encR)), (2, .rows 3 1 (s.map encI)), (3, .rows 2 1 (z.map encI)), (4, .rows 2 1 (y.map encI))], 5⟩) (fun i => i ≤ y.length) (fun i => y.length - i) [] 0 [] (Nat.zero_le _) ⟨⟨rfl, rfl, rfl, rfl, rfl, rfl, trivial⟩, ⟨rfl, rfl, rfl, rfl, rfl, trivial⟩⟩ ?_
    rintro i hi
    have hii : IntKind.i64.wrap ((i : Int) + 1) = ((i + 1 : Nat) : Int) := by rw [w64] <;> omega
    (conv => whnf)
    refine ask_m (fun h => ?_) (fun h => ?_)
    · have hlti : i < y.length := by simpa using h
      (conv => whnf)
      refine ⟨⟨by omega, by simpa using hlti⟩, ?_⟩
      (conv => whnf)
      refine idx_map (lv_some (x := y) (i := (i : Int)) (by simpa using hlti)) ?_
      (conv => whnf)
      refine ⟨⟨by omega, by simp only [List.length_map]; omega⟩, ?_⟩
      (conv => whnf)
      refine idx_map (lv_some (x := z) (i := (i : Int)) (by simp; omega)) ?_
      (conv => whnf)
      refine ask_mf (by have := hb.2 i; simp only [decide_eq_false_iff_not]; omega) ?_
      (conv => whnf)
      exact ⟨i + 1, [], hlti, by omega, ⟨⟨rfl, rfl, rfl, rfl, rfl, eqI hii, trivial⟩, ⟨rfl, rfl, rfl, rfl, rfl, trivial⟩⟩⟩
    · (conv => whnf)
      refine call_i f14_ok ?_
      (conv => whnf)
      refine call_i (f32_ok top rows s (by omega)) ?_
      (conv => whnf)
      refine ⟨⟨trivial, trivial⟩, ?_⟩
      (conv => whnf)
      refine ret0 ?_
      exact ret_b (by rw [href]; rfl) rfl
  have hlt40 : k < 40 := by have := of_decide_eq_true h; simp only at this; omega
  obtain ⟨v, hvk⟩ : ∃ v, st[k]? = some v := ⟨_, List.getElem?_eq_getElem hlt⟩
  (conv => whnf)
  refine ask_m (fun h => ?_) (fun h => ?_)
  rotate_left
  · (conv => whnf)
    exact ⟨(k + 1, s), [], hcont hlt hlt40, by simp only; omega, ⟨⟨rfl, rfl, rfl, rfl, rfl, eqI hkk, trivial⟩, ⟨rfl, rfl, rfl, trivial⟩⟩⟩
  have hpos : 0 < rows.length := by have := of_decide_eq_true h; simp only [List.length_map] at this; omega
  have hmod : 0 ≤ v % (rows.length : Int) ∧ v % (rows.length : Int) < rows.length := ⟨Int.emod_nonneg _ (by omega), Int.emod_lt_of_pos _ (by omega)⟩
  obtain ⟨r, hrk⟩ : ∃ r, rows[(v % (rows.length : Int)).toNat]? = some r := ⟨_, List.getElem?_eq_getElem (by omega)⟩
  (conv => whnf)
  refine idx_and (by omega) (by simpa using hvk) ?_
  (conv => whnf)
  rw [List.length_map]
  refine call_i (f22_ok v (rows.length : Int) (by omega) (by omega)) ?_
  (conv => whnf)
  refine ⟨⟨hmod.1, by simpa using hmod.2⟩, ?_⟩
  (conv => whnf)
  refine idx_map hrk ?_
  (conv => whnf)
  refine ask_m (fun ha => ?_) (fun ha => ?_)
  · have ha := of_decide_eq_true ha
    (conv => whnf)
    refine idx_and (by omega) (by simpa using hvk) ?_
    (conv => whnf)
    rw [List.length_map]
    refine call_i (f22_ok v (rows.length : Int) (by omega) (by omega)) ?_
    (conv => whnf)
    refine ⟨⟨by simp; omega, by simp; omega⟩, ?_⟩
    (conv => whnf)
    refine ⟨(k + 1, s ++ [v % (rows.length : Int)]), [(0, 0), (1, 1), (2, 5)], ⟨hlt, hlt40, by simp; omega, fun i hi => ?_⟩, by simp only; omega, ⟨⟨rfl, rfl, rfl, rfl, rfl, eqI hkk, trivial⟩, ⟨rfl, rfl, ?_, trivial⟩⟩⟩
    · rcases List.mem_append.1 hi with hi | hi
      · exact hgood i hi
      · simp at hi; subst hi; exact ⟨hmod.1, hmod.2, r, hrk, .inl ha⟩
    · simp only [List.map_append]; rfl
  · (conv => whnf)
    refine ask_m (fun hb => ?_) (fun hb => ?_)
    · have hb := of_decide_eq_true hb
      (conv => whnf)
      refine idx_and (by omega) (by simpa using hvk) ?_
      (conv => whnf)
      rw [List.length_map]
      refine call_i (f22_ok v (rows.length : Int) (by omega) (by omega)) ?_
      (conv => whnf)
      refine ⟨⟨by simp; omega, by simp; omega⟩, ?_⟩
      (conv => whnf)
      refine ⟨(k + 1, s ++ [v % (rows.length : Int)]), [(0, 0), (1, 1), (2, 5)], ⟨hlt, hlt40, by simp; omega, fun i hi => ?_⟩, by simp only; omega, ⟨⟨rfl, rfl, rfl, rfl, rfl, eqI hkk, trivial⟩, ⟨rfl, rfl, ?_, trivial⟩⟩⟩
      · rcases List.mem_append.1 hi with hi | hi
        · exact hgood i hi
        · simp at hi; subst hi; exact ⟨hmod.1, hmod.2, r, hrk, .inr hb⟩
      · simp only [List.map_append]; rfl
    · (conv => whnf)
      exact ⟨(k + 1, s), [], hcont hlt hlt40, by simp only; omega, ⟨⟨rfl, rfl, rfl, rfl, rfl, eqI hkk, trivial⟩, ⟨rfl, rfl, rfl, trivial⟩⟩⟩
theorem law12 (dss : List (List DV)) (h : All2 (fun t ds => Typed T 8 t ds) [26, 26, 26] dss) : FnOk Try.prog 12 (mkSs T [26, 26, 26] dss) [] 0 (Bo true) [] 0 := by
  obtain ⟨a, q, rfl, ha, h⟩ := all2_cons h
  obtain ⟨b, q, rfl, hb, h⟩ := all2_cons h
  obtain ⟨c, q, rfl, hc, h⟩ := all2_cons h
  obtain rfl := all2_nil h
  obtain ⟨a, rfl, ka⟩ := typed26 ha
  obtain ⟨b, rfl, kb⟩ := typed26 hb
  obtain ⟨c, rfl, kc⟩ := typed26 hc
  exact f12_ok a b c ka kb kc
theorem lifted12 (os : Os) (started : os.Started) (H : Type) (enc : TypeId × Value → H) :
    ReturnsInHanded {} Try.checked os 12 .any (Rows.profileSafeSpec.pre6 enc Try.prog Try.f12 Rows.profileSafeRow.domain false) (Rows.profileSafeSpec.post enc Try.prog Try.f12 false true false false) := by
  refine returnsInHanded_of_change_sized (C := Try.checked) own started (by kernel_rfl) Try.func12
    (ChangeSpec.witness6 (enc := enc) (C := Try.checked) false ⟨#[], #[.slice none 0 0, .slice none 0 0, .slice none 0 0], []⟩ 8 (by kernel_rfl) (by kernel_rfl) (by kernel_rfl) (by kernel_rfl)) ?_
  intro W base args ds gs before hval hW _ hsz _
  exact law_contract (T := T) (n := 8) (tb := 4) (ts := [26, 26, 26]) tab laid rfl rfl (by kernel_rfl) rfl (by kernel_rfl) (fun ds hd => by
    match ds, hd with
    | [_, _, _], _ => rfl) law12 hval hW hsz
/-- For every input ProfileSafe returns true. -/
theorem profileSafe_holds : Rows.ProfileSafeSaid :=
  OpenClaim.holds_of_wide 12 Try.f12 rfl rfl rfl rfl rfl rfl rfl ⟨rfl, rfl, rfl, rfl, rfl⟩ rfl rfl rfl rfl rfl (by kernel_rfl) Try.func12 (by kernel_rfl)
    (of_decide_eq_true (by kernel_rfl)) (by unfold Func.isWrapper; first | (rw [if_pos (by decide +kernel)]; kernel_rfl) | (rw [if_neg (by decide +kernel)]; exact ⟨rfl, rfl⟩))
    (fun os started H enc _ => lifted12 os started H enc)
end Go.Proofs.Ytejjkajknmhplaa
