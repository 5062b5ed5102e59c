/- For every input, ProfileCertified returns true and leaves its arguments as they were. Conditions: none beyond the given statement. -/
import Derived.Test.YtejjkajknmhplaaX19
namespace Go.Proofs.Ytejjkajknmhplaa
open Eng
set_option maxRecDepth 10000
attribute [local irreducible] FnOk loopW idxF retX arrF

theorem below_antisymm {x y : List Int} (h1 : below x y) (h2 : below y x) : x = y := by
  apply List.ext_getElem?
  intro i
  by_cases h : i < x.length
  · rw [show x[i]? = some (lv x i) by simpa using lv_some (x := x) (i := (i : Int)) (by simpa using h), show y[i]? = some (lv y i) by simpa using lv_some (x := y) (i := (i : Int)) (by have := h1.1; simp; omega)]
    rw [Int.le_antisymm (h1.2 i) (h2.2 i)]
  · have := h1.1
    rw [List.getElem?_eq_none (by omega), List.getElem?_eq_none (by omega)]
theorem cert_no {top : List Int} {rows : List Row} {g : List Int × List Int × Bool} (hv : valid top rows = true) (h : Best top rows g) (ho : g.2.2 = false) : refutes top rows g.2.1 = true ∧ ∀ y s, proves top rows y s = false := by
  obtain ⟨hs, h⟩ := h
  rw [ho] at h
  obtain ⟨_, ⟨x, hx, hxl, hc⟩, hn⟩ := h
  have hre := replay_yes hv hs hx
  refine ⟨?_, fun y s => by simp [proves, hn y]⟩
  unfold refutes
  rw [hre]
  simp only [Bool.true_and, Bool.or_eq_true]
  rcases hc with ⟨a, h1, h2, h3⟩ | ⟨_, r, hr, h1, h2, h3⟩
  · left
    exact any_yes (f := fun v => decide (v < 0)) (lv_some (x := x) (i := a) (by omega)) (by simpa using h1)
  · right
    rw [List.any_eq_true]
    exact ⟨r, hr, by unfold negRow; rw [h3, decide_eq_true h1, decide_eq_true h2]; rfl⟩
theorem cert_yes {top : List Int} {rows : List Row} {g : List Int × List Int × Bool} (hv : valid top rows = true) (h : Best top rows g) (ho : g.2.2 = true) : proves top rows g.1 g.2.1 = true ∧ (∀ s, refutes top rows s = false) ∧ ∀ y s, proves top rows y s = true → g.1 = y := by
  obtain ⟨hs, h⟩ := h
  rw [ho] at h
  obtain ⟨hrun, hf⟩ := h
  have hre := replay_yes hv hs hrun.hrep
  refine ⟨by simp [proves, hf, hre], fun s => safe_refutes hf, fun y s hp => ?_⟩
  simp only [proves, Bool.and_eq_true, decide_eq_true_eq] at hp
  obtain ⟨⟨hy, hok⟩, e⟩ := hp
  have h1 := replay_below hf hok
  rw [← e] at h1
  exact below_antisymm h1 (hrun.hall y hy)
theorem f11_ok (l m : List Int) (how at_ k : Int) (hl : l.length ≤ 17592186044416) (hm : m.length ≤ 17592186044416) : FnOk Try.prog 11 [Li l, Li m, I how, I at_, I k] [] 0 (Bo true) [] 0 := by
  refine fnOk tab mix Try.func11 rfl rfl (by kernel_rfl) rfl rfl ?_
  have ht := lim_tame l
  have hr := limRows_len l
  have ht1 := ht.1
  have hv := lim_valid l
  have hbest := lim_best l
  have hgl := great_len (limTop l) (limRows l)
  have hlw := lowered_len (limTop l) (limRows l) m
  (conv => whnf)
  refine call_i (f15_ok l (by omega)) ?_
  generalize limTop l = t at *
  generalize limRows l = r at *
  (conv => whnf)
  refine call_i (f19_ok t r (by omega) (by omega)) ?_
  (conv => whnf)
  refine ⟨⟨flatG3 _, flatI _ _, flatI _ _, trivial⟩, ?_⟩
  generalize great t r = g at *
  (conv => whnf)
  refine ask_m (fun h => ?_) (fun h => ?_)
  · have ho : g.2.2 = false := by simpa using h
    obtain ⟨c1, c2⟩ := cert_no hv hbest ho
    have h32 := f32_ok t r g.2.1 (by omega)
    rw [c1] at h32
    (conv => whnf)
    refine call_i f14_ok ?_
    (conv => whnf)
    refine call_i h32 ?_
    (conv => whnf)
    refine ⟨⟨trivial, trivial⟩, ?_⟩
    (conv => whnf)
    refine call_i (f17_ok t r m ht (by omega) (by omega)) ?_
    (conv => whnf)
    refine ⟨⟨trivial, flatI _ _, trivial⟩, ?_⟩
    (conv => whnf)
    rw [List.length_map]
    refine call_i (f30_ok g.2.1 how at_ k r.length (by omega) (by omega)) ?_
    (conv => whnf)
    refine ⟨⟨trivial, flatI _ _, trivial⟩, ?_⟩
    (conv => whnf)
    refine call_i (f33_ok t r (lowered t r m) (alt g.2.1 how at_ k r.length) (by omega) (by omega)) ?_
    (conv => whnf)
    refine ⟨⟨trivial, trivial⟩, ?_⟩
    (conv => whnf)
    refine ret0 ?_
    exact ret_b (by rw [c2]; rfl) rfl
  have ho : g.2.2 = true := by simpa using h
  obtain ⟨c1, c2, c3⟩ := cert_yes hv hbest ho
  have h33 := f33_ok t r g.1 g.2.1 (by omega) (by omega)
  rw [c1] at h33
  (conv => whnf)
  refine call_i (f17_ok t r m ht (by omega) (by omega)) ?_
  (conv => whnf)
  refine ⟨⟨trivial, flatI _ _, trivial⟩, ?_⟩
  generalize lowered t r m = y at *
  (conv => whnf)
  refine call_i f14_ok ?_
  (conv => whnf)
  refine call_i h33 ?_
  (conv => whnf)
  refine ⟨⟨trivial, trivial⟩, ?_⟩
  (conv => whnf)
  rw [List.length_map]
  refine call_i (f30_ok g.2.1 how at_ k r.length (by omega) (by omega)) ?_
  (conv => whnf)
  refine ⟨⟨trivial, flatI _ _, trivial⟩, ?_⟩
  (conv => whnf)
  have h32 := f32_ok t r (alt g.2.1 how at_ k r.length) (by omega)
  rw [c2] at h32
  refine call_i h32 ?_
  (conv => whnf)
  refine ⟨⟨trivial, trivial⟩, ?_⟩
  (conv => whnf)
  refine call_i (f34_ok g.1 y (by omega)) ?_
  (conv => whnf)
  refine ⟨⟨trivial, trivial⟩, ?_⟩
  (conv => whnf)
  refine ask_m (fun he => ?_) (fun he => ?_)
  · (conv => whnf)
    refine ret0 ?_
    exact ret_b rfl rfl
  · have he : ¬ g.1 = y := of_decide_eq_false he
    (conv => whnf)
    rw [List.length_map]
    refine call_i (f30_ok g.2.1 how at_ k r.length (by omega) (by omega)) ?_
    (conv => whnf)
    refine ⟨⟨trivial, flatI _ _, trivial⟩, ?_⟩
    (conv => whnf)
    refine call_i (f33_ok t r y (alt g.2.1 how at_ k r.length) (by omega) (by omega)) ?_
    (conv => whnf)
    refine ⟨⟨trivial, trivial⟩, ?_⟩
    (conv => whnf)
    refine ret0 ?_
    exact ret_b (by
      rcases hp : proves t r y (alt g.2.1 how at_ k r.length) with _ | _
      · rfl
      · exact absurd (c3 y _ hp) he) rfl
theorem law11 (dss : List (List DV)) (h : All2 (fun t ds => Typed T 8 t ds) [26, 26, 3, 3, 3] dss) : FnOk Try.prog 11 (mkSs T [26, 26, 3, 3, 3] dss) [] 0 (Bo true) [] 0 := by
  obtain ⟨a, q, rfl, ha, h⟩ := all2_cons h
  obtain ⟨b, q, rfl, hb, h⟩ := all2_cons h
  obtain ⟨c, q, rfl, hc, h⟩ := all2_cons h
  obtain ⟨d, q, rfl, hd, h⟩ := all2_cons h
  obtain ⟨e, q, rfl, he, h⟩ := all2_cons h
  obtain rfl := all2_nil h
  obtain ⟨a, rfl, ka⟩ := typed26 ha
  obtain ⟨b, rfl, kb⟩ := typed26 hb
  obtain ⟨c, rfl⟩ := typed3 hc
  obtain ⟨d, rfl⟩ := typed3 hd
  obtain ⟨e, rfl⟩ := typed3 he
  exact f11_ok a b c d e ka kb
theorem lifted11 (os : Os) (started : os.Started) (H : Type) (enc : TypeId × Value → H) :
    ReturnsInHanded {} Try.checked os 11 .any (Rows.profileCertifiedSpec.pre6 enc Try.prog Try.f11 Rows.profileCertifiedRow.domain false) (Rows.profileCertifiedSpec.post enc Try.prog Try.f11 false true false false) := by
  refine returnsInHanded_of_change_sized (C := Try.checked) own started (by kernel_rfl) Try.func11
    (ChangeSpec.witness6 (enc := enc) (C := Try.checked) false ⟨#[], #[.slice none 0 0, .slice none 0 0, .int .i64 0, .int .i64 0, .int .i64 0], []⟩ 8 (by kernel_rfl) (by kernel_rfl) (by kernel_rfl) (by kernel_rfl)) ?_
  intro W base args ds gs before hval hW _ hsz _
  exact law_contract (T := T) (n := 8) (tb := 4) (ts := [26, 26, 3, 3, 3]) tab laid rfl rfl (by kernel_rfl) rfl (by kernel_rfl) (fun ds hd => by
    match ds, hd with
    | [_, _, _, _, _], _ => rfl) law11 hval hW hsz
/-- For every input ProfileCertified returns true. -/
theorem profileCertified_holds : Rows.ProfileCertifiedSaid :=
  OpenClaim.holds_of_wide 11 Try.f11 rfl rfl rfl rfl rfl rfl rfl ⟨rfl, rfl, rfl, rfl, rfl⟩ rfl rfl rfl rfl rfl (by kernel_rfl) Try.func11 (by kernel_rfl)
    (of_decide_eq_true (by kernel_rfl)) (by unfold Func.isWrapper; first | (rw [if_pos (by decide +kernel)]; kernel_rfl) | (rw [if_neg (by decide +kernel)]; exact ⟨rfl, rfl⟩))
    (fun os started H enc _ => lifted11 os started H enc)
end Go.Proofs.Ytejjkajknmhplaa
