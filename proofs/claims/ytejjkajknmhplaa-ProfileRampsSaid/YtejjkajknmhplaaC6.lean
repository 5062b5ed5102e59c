/- For every input, ProfileRamps returns true and leaves its arguments as they were. Conditions: none beyond the given statement. -/
import Derived.Test.YtejjkajknmhplaaX17
namespace Go.Proofs.Ytejjkajknmhplaa
open Eng
set_option maxRecDepth 10000
attribute [local irreducible] FnOk loopW idxF retX

def far (i k : Nat) : Int := max ((i : Int) - k) ((k : Int) - i)
def wantTo (top : List Int) (c : Int) (i : Nat) : Nat → Int
  | 0 => lv top i
  | k + 1 => min (wantTo top c i k) (lv top k + c * far i k)
theorem want_top {top : List Int} {c : Int} {i : Nat} : ∀ K, wantTo top c i K ≤ lv top i
  | 0 => Int.le_refl _
  | K + 1 => by have := want_top (top := top) (c := c) (i := i) K; simp only [wantTo]; omega
theorem want_le {top : List Int} {c : Int} {i : Nat} : ∀ {K k : Nat}, k < K → wantTo top c i K ≤ lv top k + c * far i k
  | 0, _, h => by omega
  | K + 1, k, h => by
    simp only [wantTo]
    by_cases e : k = K
    · subst e; omega
    · have := want_le (top := top) (c := c) (i := i) (K := K) (k := k) (by omega); omega
theorem want_ge {top : List Int} {c z : Int} {i : Nat} (h0 : z ≤ lv top i) : ∀ {K : Nat}, (∀ k, k < K → z ≤ lv top k + c * far i k) → z ≤ wantTo top c i K
  | 0, _ => h0
  | K + 1, h => by
    have h1 := want_ge (top := top) (c := c) (i := i) h0 (K := K) fun k hk => h k (by omega)
    have h2 := h K (by omega)
    simp only [wantTo]; omega
theorem far_step {i k : Nat} : far (i + 1) k ≤ far i k + 1 ∧ far i k ≤ far (i + 1) k + 1 := by unfold far; omega
theorem mem_ramps {n v : Int} {r : Row} : r ∈ ramps n v ↔ ∃ i : Nat, (i : Int) < n - 1 ∧ (r = ⟨i, -1, 1, v⟩ ∨ r = ⟨i, 1, -1, v⟩) := by
  simp only [ramps, rampsTo, ramp, List.mem_flatMap, List.mem_range, List.mem_cons, List.not_mem_nil, or_false]
  constructor
  · rintro ⟨i, hi, h⟩; exact ⟨i, by omega, h⟩
  · rintro ⟨i, hi, h⟩; exact ⟨i, by omega, h⟩
theorem ramps_len (n v : Int) : (ramps n v).length = 2 * (n - 1).toNat := rampsTo_len v _
theorem ramps_valid {top : List Int} {c : Int} (h2 : 2 ≤ top.length) (ht : tame top) (hc : 0 ≤ c ∧ c < 12) : valid top (ramps top.length c) = true := by
  have := ht.1
  have hl := ramps_len top.length c
  refine valid_iff.2 ⟨h2, by omega, by omega, ht.2, fun r hr => ?_⟩
  obtain ⟨i, hi, rfl | rfl⟩ := mem_ramps.1 hr
  · exact ⟨⟨by simp only; omega, by simp only; omega, bounded_iff.2 (by simp only; omega)⟩, by simp only; omega⟩
  · exact ⟨⟨by simp only; omega, by simp only; omega, bounded_iff.2 (by simp only; omega)⟩, by simp only; omega⟩
def wants (top : List Int) (c : Int) : List Int := (List.range top.length).map fun i => wantTo top c i top.length
theorem wants_lv {top : List Int} {c : Int} {i : Nat} (h : i < top.length) : lv (wants top c) i = wantTo top c i top.length := lv_range h
theorem lv_nat (x : List Int) (i : Int) : lv x i = lv x (i.toNat : Int) := by unfold lv; rw [Int.toNat_natCast]
theorem lv_out2 {x : List Int} {i : Nat} (h : ¬ i < x.length) : lv x i = 0 := by
  simp [lv, List.getD_eq_getElem?_getD, List.getElem?_eq_none (show x.length ≤ i by omega)]
theorem mul_step {c a b : Int} (hc : 0 ≤ c) (h : a ≤ b + 1) : c * a ≤ c * b + c := by
  have := Int.mul_le_mul_of_nonneg_left h hc
  rw [Int.mul_add, Int.mul_one] at this; exact this
theorem far_nonneg (i k : Nat) : 0 ≤ far i k := by unfold far; omega
theorem wants_feas {top : List Int} {c : Int} (h2 : 2 ≤ top.length) (ht : tame top) (hc : 0 ≤ c ∧ c < 12) : feas top (ramps top.length c) (wants top c) = true := by
  refine feas_iff.2 ⟨ramps_valid h2 ht hc, by simp [wants], fun i => ?_, fun r hr => ?_⟩
  · rw [lv_nat, lv_nat top]
    by_cases h : i.toNat < top.length
    · rw [wants_lv h]
      refine ⟨want_ge (ht.lv _).1 fun k _ => ?_, want_top _⟩
      have := (ht.lv k).1
      have := Int.mul_nonneg hc.1 (far_nonneg i.toNat k)
      omega
    · rw [lv_out2 (by simpa [wants] using h), lv_out2 h]; omega
  · obtain ⟨i, hi, h⟩ := mem_ramps.1 hr
    have hi1 : i + 1 < top.length := by omega
    have e1 : lv (wants top c) (i : Int) = wantTo top c i top.length := wants_lv (by omega)
    have e2 : lv (wants top c) ((i : Int) + 1) = wantTo top c (i + 1) top.length := wants_lv (i := i + 1) hi1
    have k1 : wantTo top c (i + 1) top.length - c ≤ wantTo top c i top.length := by
      refine want_ge ?_ fun k hk => ?_
      · have := want_le (top := top) (c := c) (i := i + 1) (K := top.length) (k := i) (by omega)
        rw [show far (i + 1) i = 1 by unfold far; omega] at this
        omega
      · have := want_le (top := top) (c := c) (i := i + 1) (K := top.length) (k := k) hk
        have := mul_step hc.1 (far_step (i := i) (k := k)).1
        omega
    have k2 : wantTo top c i top.length - c ≤ wantTo top c (i + 1) top.length := by
      refine want_ge ?_ fun k hk => ?_
      · have := want_le (top := top) (c := c) (i := i) (K := top.length) (k := i + 1) (by omega)
        rw [show far i (i + 1) = 1 by unfold far; omega] at this
        omega
      · have := want_le (top := top) (c := c) (i := i) (K := top.length) (k := k) hk
        have := mul_step hc.1 (far_step (i := i) (k := k)).2
        omega
    rcases h with rfl | rfl
    · simp only [sat, decide_eq_true_eq, e1, e2]; omega
    · simp only [sat, decide_eq_true_eq, e1, e2]; omega
theorem ramp_far {top x : List Int} {c : Int} (hx : feas top (ramps top.length c) x = true) (k : Nat) : ∀ d : Nat, k + d < top.length → lv x (k + d : Nat) ≤ lv x k + c * d ∧ lv x k ≤ lv x (k + d : Nat) + c * d
  | 0, _ => by simp
  | d + 1, h => by
    obtain ⟨h1, h2⟩ := ramp_far hx k d (by omega)
    obtain ⟨_, _, _, hs⟩ := feas_iff.1 hx
    have s1 := hs ⟨(k + d : Nat), -1, 1, c⟩ (mem_ramps.2 ⟨k + d, by omega, .inl rfl⟩)
    have s2 := hs ⟨(k + d : Nat), 1, -1, c⟩ (mem_ramps.2 ⟨k + d, by omega, .inr rfl⟩)
    simp only [sat, decide_eq_true_eq] at s1 s2
    have e : (((k + d : Nat) : Int) + 1) = ((k + (d + 1) : Nat) : Int) := by omega
    rw [e] at s1 s2
    have e2 : c * ((d + 1 : Nat) : Int) = c * d + c := by rw [show ((d + 1 : Nat) : Int) = (d : Int) + 1 by omega, Int.mul_add, Int.mul_one]
    rw [e2]
    omega
theorem ramps_best {top : List Int} {c : Int} (h2 : 2 ≤ top.length) (ht : tame top) (hs : top.sum < 16384) (hc : 0 ≤ c ∧ c < 12) :
    (great top (ramps top.length c)).2.2 = true ∧ (great top (ramps top.length c)).1.length = top.length ∧ ∀ i : Nat, i < top.length → lv (great top (ramps top.length c)).1 i = wantTo top c i top.length := by
  have hb := great_best (ramps_valid h2 ht hc) hs
  have hw := wants_feas h2 ht hc
  obtain ⟨_, hb⟩ := hb
  rcases hk : (great top (ramps top.length c)).2.2 with _ | _
  · rw [hk] at hb
    have := hb.2.2 (wants top c)
    rw [this] at hw; cases hw
  · rw [hk] at hb
    obtain ⟨hrun, hf⟩ := hb
    have hbel := hrun.hall _ hw
    have hlen := (feas_iff.1 hf).2.1
    refine ⟨rfl, hlen, fun i hi => ?_⟩
    apply Int.le_antisymm
    · refine want_ge (hrun.htop.2 i) fun k hk2 => ?_
      have ht2 := hrun.htop.2 k
      rcases Nat.le_total i k with h | h
      · have := (ramp_far hf i (k - i) (by omega)).2
        rw [show i + (k - i) = k by omega] at this
        rw [show far i k = ((k - i : Nat) : Int) by unfold far; omega]
        omega
      · have := (ramp_far hf k (i - k) (by omega)).1
        rw [show k + (i - k) = i by omega] at this
        rw [show far i k = ((i - k : Nat) : Int) by unfold far; omega]
        omega
    · have := hbel.2 i
      rw [wants_lv hi] at this
      exact this
theorem f6_ok (l : List Int) (d : Int) (hl : l.length ≤ 17592186044416) : FnOk Try.prog 6 [Li l, I d] [] 0 (Bo true) [] 0 := by
  refine fnOk tab mix Try.func6 rfl rfl (by kernel_rfl) rfl rfl ?_
  have ht := lim_tame l
  have hs := lim_sum l
  obtain ⟨n1, n2, _⟩ := limN_bd l
  have ht1 := limTop_len l
  have hc : 0 ≤ d % 12 ∧ d % 12 < 12 := by omega
  obtain ⟨g1, g2, g3⟩ := ramps_best (top := limTop l) (c := d % 12) (by omega) ht hs hc
  have hrl := ramps_len (limTop l).length (d % 12)
  (conv => whnf)
  refine call_i (f15_ok l (by omega)) ?_
  (conv => whnf)
  refine call_i (f22_ok d 12 (by decide) (by decide)) ?_
  (conv => whnf)
  rw [List.length_map]
  refine call_i (f23_ok ((limTop l).length : Int) (d % 12) (by omega)) ?_
  (conv => whnf)
  refine call_i (f19_ok (limTop l) (ramps (limTop l).length (d % 12)) (by omega) (by omega)) ?_
  (conv => whnf)
  refine ⟨⟨flatG3 _, flatI _ _, flatI _ _, trivial⟩, ?_⟩
  generalize great (limTop l) (ramps (limTop l).length (d % 12)) = g at *
  (conv => whnf)
  refine ask_mf (by rw [g1]; rfl) ?_
  (conv => whnf)
  refine ask_mf (by simp; omega) ?_
  (conv => whnf)
  refine loop_intro (fun i : Nat => ⟨[(5, .one (.row 0)), (7, I (d % 12)), (8, .one (.row 1)), (11, I i)], [(0, .rows 2 1 ((limTop l).map encI)), (1, .rows 2 1 (g.1.map encI))], 2⟩) (fun i => i ≤ (limTop l).length) (fun i => (limTop l).length - i) [] 0 [(1, 3)] (Nat.zero_le _) ⟨⟨rfl, rfl, rfl, rfl, trivial⟩, ⟨rfl, rfl, trivial⟩⟩ ?_
  rintro i hi
  have hkk : IntKind.i64.wrap ((i : Int) + 1) = ((i + 1 : Nat) : Int) := by rw [w64] <;> omega
  (conv => whnf)
  refine ask_m (fun h => ?_) (fun h => ?_)
  · have hlt : i < (limTop l).length := by simpa using h
    (conv => whnf)
    refine ⟨⟨by omega, by simpa using hlt⟩, ?_⟩
    (conv => whnf)
    refine idx_map (lv_some (x := limTop l) (i := (i : Int)) (by simpa using hlt)) ?_
    (conv => whnf)
    refine loop_intro (fun k : Nat => ⟨[(5, .one (.row 0)), (7, I (d % 12)), (8, .one (.row 1)), (11, I i), (12, I (wantTo (limTop l) (d % 12) i k)), (13, I k)], [(0, .rows 2 1 ((limTop l).map encI)), (1, .rows 2 1 (g.1.map encI))], 2⟩) (fun k => k ≤ (limTop l).length) (fun k => (limTop l).length - k) [] 0 [] (Nat.zero_le _) ⟨⟨rfl, rfl, rfl, rfl, rfl, rfl, trivial⟩, ⟨rfl, rfl, trivial⟩⟩ ?_
    rintro k hk
    (conv => whnf)
    refine ask_m (fun h => ?_) (fun h => ?_)
    · have hlt2 : k < (limTop l).length := by simpa using h
      have hjj : IntKind.i64.wrap ((k : Int) + 1) = ((k + 1 : Nat) : Int) := by rw [w64] <;> omega
      have w1 : IntKind.i64.wrap ((i : Int) - k) = (i : Int) - k := by rw [w64] <;> omega
      have w2 : IntKind.i64.wrap ((k : Int) - i) = (k : Int) - i := by rw [w64] <;> omega
      have hfar : 0 ≤ max ((i : Int) - k) ((k : Int) - i) ∧ max ((i : Int) - k) ((k : Int) - i) ≤ 8 := by omega
      have hm := mul_bd (a := d % 12) (A := 12) (b := max ((i : Int) - k) ((k : Int) - i)) (B := 8) (by omega) (by omega)
      have w3 : IntKind.i64.wrap (d % 12 * max ((i : Int) - k) ((k : Int) - i)) = d % 12 * max ((i : Int) - k) ((k : Int) - i) := by rw [w64] <;> omega
      have hlv := ht.lv k
      have w4 : IntKind.i64.wrap (lv (limTop l) k + d % 12 * max ((i : Int) - k) ((k : Int) - i)) = lv (limTop l) k + d % 12 * far i k := by rw [w64] <;> first | rfl | omega
      (conv => whnf)
      refine ⟨⟨by omega, by simpa using hlt2⟩, ?_⟩
      (conv => whnf)
      refine idx_map (lv_some (x := limTop l) (i := (k : Int)) (by simpa using hlt2)) ?_
      (conv => whnf)
      rw [w1, w2, w3, w4]
      exact ⟨k + 1, [], hlt2, by omega, ⟨⟨rfl, rfl, rfl, rfl, rfl, eqI hjj, trivial⟩, ⟨rfl, rfl, trivial⟩⟩⟩
    · have hk : k = (limTop l).length := by simp at h; omega
      subst hk
      (conv => whnf)
      refine ⟨⟨by omega, by simp only [List.length_map]; omega⟩, ?_⟩
      (conv => whnf)
      refine idx_map (lv_some (x := g.1) (i := (i : Int)) (by simp; omega)) ?_
      (conv => whnf)
      refine ask_mf (by rw [g3 i hlt]; simp) ?_
      (conv => whnf)
      exact ⟨i + 1, [], hlt, by omega, ⟨⟨rfl, rfl, rfl, eqI hkk, trivial⟩, ⟨rfl, rfl, trivial⟩⟩⟩
  · (conv => whnf)
    refine call_i f14_ok ?_
    (conv => whnf)
    refine ret0 ?_
    exact ret_b rfl rfl
theorem law6 (dss : List (List DV)) (h : All2 (fun t ds => Typed T 8 t ds) [26, 3] dss) : FnOk Try.prog 6 (mkSs T [26, 3] dss) [] 0 (Bo true) [] 0 := by
  obtain ⟨a, q, rfl, ha, h⟩ := all2_cons h
  obtain ⟨b, q, rfl, hb, h⟩ := all2_cons h
  obtain rfl := all2_nil h
  obtain ⟨a, rfl, ka⟩ := typed26 ha
  obtain ⟨b, rfl⟩ := typed3 hb
  exact f6_ok a b ka
theorem lifted6 (os : Os) (started : os.Started) (H : Type) (enc : TypeId × Value → H) :
    ReturnsInHanded {} Try.checked os 6 .any (Rows.profileRampsSpec.pre6 enc Try.prog Try.f6 Rows.profileRampsRow.domain false) (Rows.profileRampsSpec.post enc Try.prog Try.f6 false true false false) := by
  refine returnsInHanded_of_change_sized (C := Try.checked) own started (by kernel_rfl) Try.func6
    (ChangeSpec.witness6 (enc := enc) (C := Try.checked) false ⟨#[], #[.slice none 0 0, .int .i64 0], []⟩ 8 (by kernel_rfl) (by kernel_rfl) (by kernel_rfl) (by kernel_rfl)) ?_
  intro W base args ds gs before hval hW _ hsz _
  exact law_contract (T := T) (n := 8) (tb := 4) (ts := [26, 3]) tab laid rfl rfl (by kernel_rfl) rfl (by kernel_rfl) (fun ds hd => by
    match ds, hd with
    | [_, _], _ => rfl) law6 hval hW hsz
/-- For every input ProfileRamps returns true. -/
theorem profileRamps_holds : Rows.ProfileRampsSaid :=
  OpenClaim.holds_of_wide 6 Try.f6 rfl rfl rfl rfl rfl rfl rfl ⟨rfl, rfl, rfl, rfl, rfl⟩ rfl rfl rfl rfl rfl (by kernel_rfl) Try.func6 (by kernel_rfl)
    (of_decide_eq_true (by kernel_rfl)) (by unfold Func.isWrapper; first | (rw [if_pos (by decide +kernel)]; kernel_rfl) | (rw [if_neg (by decide +kernel)]; exact ⟨rfl, rfl⟩))
    (fun os started H enc _ => lifted6 os started H enc)
end Go.Proofs.Ytejjkajknmhplaa
