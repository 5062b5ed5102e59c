/- For every input, ProfilePhases returns true and leaves its arguments as they were. Conditions: none beyond the given statement. -/
import Derived.Test.YtejjkajknmhplaaX17
namespace Go.Proofs.Ytejjkajknmhplaa
open Eng
set_option maxRecDepth 10000
attribute [local irreducible] FnOk loopW idxF retX

structure PhInv (x : List Int) (m : Nat) (l : List Phase) : Prop where
  ne : 0 < l.length
  first : ∀ p, l[0]? = some p → p.lo = 0
  last : ∀ p, l[l.length - 1]? = some p → p.hi = m
  link : ∀ (k : Nat) p q, l[k]? = some p → l[k + 1]? = some q → q.lo = p.hi ∧ q.kind ≠ p.kind
  each : ∀ (k : Nat) p, l[k]? = some p → 0 ≤ p.lo ∧ p.lo < p.hi ∧ p.hi ≤ m ∧ ∀ i : Nat, p.lo ≤ i → (i : Int) < p.hi → kindAt x i = p.kind
theorem ph_inv (x : List Int) : ∀ m : Nat, PhInv x (m + 1) (phTo x (m + 1))
  | 0 => by
    have e : phTo x 1 = [⟨kindAt x 0, 0, 1⟩] := rfl
    rw [show (0 + 1) = 1 from rfl, e]
    refine ⟨by simp, by simp, by simp, fun k p q h1 h2 => by simp at h2, fun k p h => ?_⟩
    cases k with
    | zero =>
      simp at h; subst h
      refine ⟨by simp, by simp, by simp, fun i h1 h2 => ?_⟩
      have : i = 0 := by simp only at h2; omega
      subst this; rfl
    | succ k => simp at h
  | m + 1 => by
    have h := ph_inv x m
    generalize hl : phTo x (m + 1) = l at h
    have e : phTo x (m + 1 + 1) = phStep l (m + 1) (kindAt x (m + 1)) := by rw [phTo, hl]
    rw [e]
    obtain ⟨p, hp⟩ : ∃ p, l[l.length - 1]? = some p := ⟨_, List.getElem?_eq_getElem (by have := h.ne; omega)⟩
    have hph := h.last p hp
    unfold phStep
    rw [hp]
    simp only
    have hne := h.ne
    split
    · rename_i hk
      have hget : ∀ k q, (l.set (l.length - 1) ⟨p.kind, p.lo, ((m + 1 + 1 : Nat) : Int)⟩)[k]? = some q → (k = l.length - 1 ∧ q = ⟨p.kind, p.lo, ((m + 1 + 1 : Nat) : Int)⟩) ∨ (k < l.length - 1 ∧ l[k]? = some q) := by
        intro k q hq
        rw [List.getElem?_set] at hq
        split at hq
        · rename_i e; rw [if_pos (by omega)] at hq
          exact .inl ⟨e.symm, by simpa using hq.symm⟩
        · have := (List.getElem?_eq_some_iff.1 hq).1
          exact .inr ⟨by omega, hq⟩
      refine ⟨by simpa using hne, fun q hq => ?_, fun q hq => ?_, fun k q r hq hr => ?_, fun k q hq => ?_⟩
      · rcases hget 0 q hq with ⟨e, rfl⟩ | ⟨_, hq⟩
        · simp only; exact h.first p (by rw [e]; exact hp)
        · exact h.first q hq
      · rw [List.length_set] at hq
        rcases hget _ q hq with ⟨_, rfl⟩ | ⟨hlt, _⟩
        · rfl
        · omega
      · rcases hget _ r hr with ⟨e, rfl⟩ | ⟨hlt, hr⟩
        · rcases hget _ q hq with ⟨e2, _⟩ | ⟨_, hq⟩
          · omega
          · exact h.link k q p hq (by rw [e]; exact hp)
        · rcases hget _ q hq with ⟨e2, _⟩ | ⟨_, hq⟩
          · omega
          · exact h.link k q r hq hr
      · rcases hget _ q hq with ⟨_, rfl⟩ | ⟨_, hq⟩
        · obtain ⟨h1, h2, h3, h4⟩ := h.each _ p hp
          refine ⟨h1, by simp only; omega, by simp only; omega, fun i hi1 hi2 => ?_⟩
          simp only at hi1 hi2 ⊢
          by_cases e : i = m + 1
          · subst e; exact hk.symm
          · exact h4 i hi1 (by omega)
        · obtain ⟨h1, h2, h3, h4⟩ := h.each _ q hq
          exact ⟨h1, h2, by omega, h4⟩
    · rename_i hk
      have hget : ∀ k q, (l ++ [(⟨kindAt x (m + 1), ((m + 1 : Nat) : Int), ((m + 1 + 1 : Nat) : Int)⟩ : Phase)])[k]? = some q → (k = l.length ∧ q = ⟨kindAt x (m + 1), ((m + 1 : Nat) : Int), ((m + 1 + 1 : Nat) : Int)⟩) ∨ (k < l.length ∧ l[k]? = some q) := by
        intro k q hq
        rcases Nat.lt_trichotomy k l.length with hlt | e | hgt
        · rw [List.getElem?_append_left hlt] at hq; exact .inr ⟨hlt, hq⟩
        · subst e; rw [List.getElem?_append_right (Nat.le_refl _)] at hq; simp at hq; exact .inl ⟨rfl, hq.symm⟩
        · rw [List.getElem?_eq_none (by simp; omega)] at hq; cases hq
      refine ⟨by simp, fun q hq => ?_, fun q hq => ?_, fun k q r hq hr => ?_, fun k q hq => ?_⟩
      · rcases hget 0 q hq with ⟨e, rfl⟩ | ⟨_, hq⟩
        · omega
        · exact h.first q hq
      · rcases hget _ q hq with ⟨_, rfl⟩ | ⟨hlt, _⟩
        · rfl
        · simp at hlt
      · rcases hget _ r hr with ⟨e, rfl⟩ | ⟨hlt, hr⟩
        · rcases hget _ q hq with ⟨e2, _⟩ | ⟨_, hq⟩
          · omega
          · have : q = p := by
              rw [show k = l.length - 1 by omega, hp] at hq
              simpa using hq.symm
            subst this
            exact ⟨hph.symm, fun e => hk e.symm⟩
        · rcases hget _ q hq with ⟨e2, _⟩ | ⟨_, hq⟩
          · omega
          · exact h.link k q r hq hr
      · rcases hget _ q hq with ⟨_, rfl⟩ | ⟨_, hq⟩
        · refine ⟨by simp only; omega, by simp only; omega, by simp only; omega, fun i hi1 hi2 => ?_⟩
          have : i = m + 1 := by simp only at hi1 hi2; omega
          subst this; rfl
        · obtain ⟨h1, h2, h3, h4⟩ := h.each _ q hq
          exact ⟨h1, h2, by omega, h4⟩
theorem f7_ok (x : List Int) (hx : x.length ≤ 17592186044416) : FnOk Try.prog 7 [Li x] [] 0 (Bo true) [] 0 := by
  refine fnOk tab mix Try.func7 rfl rfl (by kernel_rfl) rfl rfl ?_
  (conv => whnf)
  refine ask_m (fun h => ?_) (fun h => ?_)
  · have h := of_decide_eq_true h
    simp only [List.length_map] at h
    have hnil : phases x = [] := by unfold phases; rw [show x.length - 1 = 0 by omega]; rfl
    (conv => whnf)
    refine call_i f14_ok ?_
    (conv => whnf)
    refine ask_mf (by simp only [decide_eq_false_iff_not, List.length_map]; omega) ?_
    (conv => whnf)
    refine call_i (f24_ok x (by omega)) ?_
    (conv => whnf)
    refine ret0 ?_
    exact ret_b (by rw [hnil]; rfl) rfl
  have h2 := of_decide_eq_false h
  simp only [List.length_map] at h2
  (conv => whnf)
  refine ask_m (fun h => ?_) (fun h => ?_)
  · (conv => whnf)
    refine call_i f14_ok ?_
    (conv => whnf)
    refine ask_mt h ?_
    (conv => whnf)
    refine ret0 ?_
    exact ret_b rfl rfl
  have h3 := of_decide_eq_false h
  simp only [List.length_map] at h3
  (conv => whnf)
  refine call_i (f24_ok x (by omega)) ?_
  have hinv : PhInv x (x.length - 1) (phases x) := by
    have := ph_inv x (x.length - 2)
    rw [show x.length - 2 + 1 = x.length - 1 by omega] at this
    exact this
  have hlen := phTo_len x (x.length - 1)
  change (phases x).length ≤ _ at hlen
  generalize phases x = l at *
  have hne := hinv.ne
  obtain ⟨p0, hp0⟩ : ∃ p, l[0]? = some p := ⟨_, List.getElem?_eq_getElem hne⟩
  obtain ⟨p1, hp1⟩ : ∃ p, l[l.length - 1]? = some p := ⟨_, List.getElem?_eq_getElem (by omega)⟩
  have w1 : IntKind.i64.wrap (((l.map encP).length : Int) - 1) = ((l.length - 1 : Nat) : Int) := by rw [w64] <;> simp <;> omega
  have w2 : IntKind.i64.wrap (((x.map encI).length : Int) - 1) = ((x.length - 1 : Nat) : Int) := by rw [w64] <;> simp <;> omega
  (conv => whnf)
  refine ask_mf (by simp; intro h; subst h; simp at hne) ?_
  (conv => whnf)
  refine ⟨⟨by omega, by simp only [List.length_map]; omega⟩, ?_⟩
  (conv => whnf)
  refine idx_map (by simpa using hp0) ?_
  (conv => whnf)
  refine ask_mf (by rw [hinv.first p0 hp0]; rfl) ?_
  (conv => whnf)
  rw [w1]
  refine ⟨⟨by omega, by simp only [List.length_map]; omega⟩, ?_⟩
  (conv => whnf)
  refine idx_map (by simpa using hp1) ?_
  (conv => whnf)
  rw [w2]
  refine ask_mf (by rw [hinv.last p1 hp1]; simp) ?_
  (conv => whnf)
  refine loop_intro (fun k : Nat => ⟨[(0, Li x), (3, .one (.row 0)), (4, I k)], [(0, .rows 46 3 (l.map encP))], 1⟩) (fun k => k ≤ l.length) (fun k => l.length - k) [] 0 [] (Nat.zero_le _) ⟨⟨rfl, rfl, rfl, trivial⟩, ⟨rfl, trivial⟩⟩ ?_
  rintro k hk
  have hkk : IntKind.i64.wrap ((k : Int) + 1) = ((k + 1 : Nat) : Int) := by rw [w64] <;> omega
  (conv => whnf)
  refine ask_m (fun h => ?_) (fun h => ?_)
  · have hlt : k < l.length := by simpa using h
    obtain ⟨p, hp⟩ : ∃ p, l[k]? = some p := ⟨_, List.getElem?_eq_getElem hlt⟩
    have hp' : l[(k : Int).toNat]? = some p := by simpa using hp
    have hidx : (0 : Int) ≤ k ∧ (k : Int) < (l.map encP).length := ⟨by omega, by simpa using hlt⟩
    obtain ⟨e1, e2, e3, e4⟩ := hinv.each k p hp
    (conv => whnf)
    refine ask_m (fun h0 => ?_) (fun h0 => ?_)
    · have h0 := of_decide_eq_true h0
      obtain ⟨j, rfl⟩ : ∃ j, k = j + 1 := ⟨k - 1, by omega⟩
      obtain ⟨q, hq⟩ : ∃ p, l[j]? = some p := ⟨_, List.getElem?_eq_getElem (by omega)⟩
      obtain ⟨g1, g2⟩ := hinv.link j q p hq hp
      have hw : IntKind.i64.wrap (((j + 1 : Nat) : Int) - 1) = (j : Int) := by rw [w64] <;> omega
      have hq' : l[(j : Int).toNat]? = some q := by simpa using hq
      have hidj : (0 : Int) ≤ j ∧ (j : Int) < (l.map encP).length := ⟨by omega, by simp only [List.length_map]; omega⟩
      generalize hk1 : j + 1 = k at *
      (conv => whnf)
      refine ⟨hidx, ?_⟩
      (conv => whnf)
      refine idx_map hp' ?_
      (conv => whnf)
      rw [hw]
      refine ⟨hidj, ?_⟩
      (conv => whnf)
      refine idx_map hq' ?_
      (conv => whnf)
      refine ask_mf (by rw [g1]; simp) ?_
      (conv => whnf)
      refine ⟨hidx, ?_⟩
      (conv => whnf)
      refine idx_map hp' ?_
      (conv => whnf)
      rw [hw]
      refine ⟨hidj, ?_⟩
      (conv => whnf)
      refine idx_map hq' ?_
      (conv => whnf)
      refine ask_mf (by simpa using g2) ?_
      (conv => whnf)
      refine ⟨hidx, ?_⟩
      (conv => whnf)
      refine idx_map hp' ?_
      (conv => whnf)
      refine ⟨hidx, ?_⟩
      (conv => whnf)
      refine idx_map hp' ?_
      (conv => whnf)
      refine ask_mf (by simp only [decide_eq_false_iff_not]; omega) ?_
      (conv => whnf)
      refine ⟨hidx, ?_⟩
      (conv => whnf)
      refine idx_map hp' ?_
      (conv => whnf)
      refine ask_mf (by simp only [decide_eq_false_iff_not]; omega) ?_
      (conv => whnf)
      refine ⟨hidx, ?_⟩
      (conv => whnf)
      refine idx_map hp' ?_
      (conv => whnf)
      refine ask_mf (by simp only [decide_eq_false_iff_not, List.length_map]; omega) ?_
      (conv => whnf)
      refine ⟨hidx, ?_⟩
      (conv => whnf)
      refine idx_map hp' ?_
      (conv => whnf)
      obtain ⟨lo, hlo⟩ : ∃ n : Nat, p.lo = n := ⟨p.lo.toNat, by omega⟩
      refine loop_intro (fun i : Nat => ⟨[(0, Li x), (3, .one (.row 0)), (4, I k), (5, I (lo + i : Nat))], [(0, .rows 46 3 (l.map encP))], 1⟩) (fun i => (lo : Int) + i ≤ p.hi) (fun i => (p.hi - lo - i).toNat) [] 0 [] (by omega) ⟨⟨rfl, rfl, rfl, eqI (by omega), trivial⟩, ⟨rfl, trivial⟩⟩ ?_
      rintro i hi
      have hii : IntKind.i64.wrap (((lo + i : Nat) : Int) + 1) = ((lo + i + 1 : Nat) : Int) := by rw [w64] <;> omega
      (conv => whnf)
      refine ⟨hidx, ?_⟩
      (conv => whnf)
      refine idx_map hp' ?_
      (conv => whnf)
      refine ask_m (fun h => ?_) (fun h => ?_)
      · have hlt2 := of_decide_eq_true h
        have hkind := e4 (lo + i) (by omega) (by omega)
        obtain ⟨a, ha⟩ : ∃ v, x[lo + i]? = some v := ⟨_, List.getElem?_eq_getElem (by omega)⟩
        obtain ⟨b, hb⟩ : ∃ v, x[lo + i + 1]? = some v := ⟨_, List.getElem?_eq_getElem (by omega)⟩
        have hk2 : (if a < b then (1 : Int) else if b < a then 2 else 0) = p.kind := by rw [← hkind]; unfold kindAt; rw [lv_at ha, lv_at hb]
        have ks1 : (decide (a < b) == (p.kind == 1)) = true := by
          rw [← hk2]; by_cases h1 : a < b
          · simp [h1]
          · by_cases h2 : b < a <;> simp [h1, h2]
        have ks2 : (decide (b < a) == (p.kind == 2)) = true := by
          rw [← hk2]; by_cases h1 : a < b
          · have : ¬ b < a := by omega
            simp [h1, this]
          · by_cases h2 : b < a <;> simp [h1, h2]
        (conv => whnf)
        rw [hii]
        refine idx_and (by omega) (by rw [Int.toNat_natCast]; exact hb) ?_
        (conv => whnf)
        refine idx_and (by omega) (by rw [Int.toNat_natCast]; exact ha) ?_
        (conv => whnf)
        refine ⟨hidx, ?_⟩
        (conv => whnf)
        refine idx_map hp' ?_
        (conv => whnf)
        refine ask_mf (by rw [ks1]; rfl) ?_
        (conv => whnf)
        rw [hii]
        refine idx_and (by omega) (by rw [Int.toNat_natCast]; exact hb) ?_
        (conv => whnf)
        refine idx_and (by omega) (by rw [Int.toNat_natCast]; exact ha) ?_
        (conv => whnf)
        refine ⟨hidx, ?_⟩
        (conv => whnf)
        refine idx_map hp' ?_
        (conv => whnf)
        refine ask_mf (by rw [ks2]; rfl) ?_
        (conv => whnf)
        exact ⟨i + 1, [], by omega, by omega, ⟨⟨rfl, rfl, rfl, eqI hii, trivial⟩, ⟨rfl, trivial⟩⟩⟩
      · (conv => whnf)
        exact ⟨k + 1, [], hlt, by omega, ⟨⟨rfl, rfl, eqI hkk, trivial⟩, ⟨rfl, trivial⟩⟩⟩
    · have h0 := of_decide_eq_false h0
      (conv => whnf)
      refine ⟨hidx, ?_⟩
      (conv => whnf)
      refine idx_map hp' ?_
      (conv => whnf)
      refine ⟨hidx, ?_⟩
      (conv => whnf)
      refine idx_map hp' ?_
      (conv => whnf)
      refine ask_mf (by simp only [decide_eq_false_iff_not]; omega) ?_
      (conv => whnf)
      refine ⟨hidx, ?_⟩
      (conv => whnf)
      refine idx_map hp' ?_
      (conv => whnf)
      refine ask_mf (by simp only [decide_eq_false_iff_not]; omega) ?_
      (conv => whnf)
      refine ⟨hidx, ?_⟩
      (conv => whnf)
      refine idx_map hp' ?_
      (conv => whnf)
      refine ask_mf (by simp only [decide_eq_false_iff_not, List.length_map]; omega) ?_
      (conv => whnf)
      refine ⟨hidx, ?_⟩
      (conv => whnf)
      refine idx_map hp' ?_
      (conv => whnf)
      obtain ⟨lo, hlo⟩ : ∃ n : Nat, p.lo = n := ⟨p.lo.toNat, by omega⟩
      refine loop_intro (fun i : Nat => ⟨[(0, Li x), (3, .one (.row 0)), (4, I k), (5, I (lo + i : Nat))], [(0, .rows 46 3 (l.map encP))], 1⟩) (fun i => (lo : Int) + i ≤ p.hi) (fun i => (p.hi - lo - i).toNat) [] 0 [] (by omega) ⟨⟨rfl, rfl, rfl, eqI (by omega), trivial⟩, ⟨rfl, trivial⟩⟩ ?_
      rintro i hi
      have hii : IntKind.i64.wrap (((lo + i : Nat) : Int) + 1) = ((lo + i + 1 : Nat) : Int) := by rw [w64] <;> omega
      (conv => whnf)
      refine ⟨hidx, ?_⟩
      (conv => whnf)
      refine idx_map hp' ?_
      (conv => whnf)
      refine ask_m (fun h => ?_) (fun h => ?_)
      · have hlt2 := of_decide_eq_true h
        have hkind := e4 (lo + i) (by omega) (by omega)
        obtain ⟨a, ha⟩ : ∃ v, x[lo + i]? = some v := ⟨_, List.getElem?_eq_getElem (by omega)⟩
        obtain ⟨b, hb⟩ : ∃ v, x[lo + i + 1]? = some v := ⟨_, List.getElem?_eq_getElem (by omega)⟩
        have hk2 : (if a < b then (1 : Int) else if b < a then 2 else 0) = p.kind := by rw [← hkind]; unfold kindAt; rw [lv_at ha, lv_at hb]
        have ks1 : (decide (a < b) == (p.kind == 1)) = true := by
          rw [← hk2]; by_cases h1 : a < b
          · simp [h1]
          · by_cases h2 : b < a <;> simp [h1, h2]
        have ks2 : (decide (b < a) == (p.kind == 2)) = true := by
          rw [← hk2]; by_cases h1 : a < b
          · have : ¬ b < a := by omega
            simp [h1, this]
          · by_cases h2 : b < a <;> simp [h1, h2]
        (conv => whnf)
        rw [hii]
        refine idx_and (by omega) (by rw [Int.toNat_natCast]; exact hb) ?_
        (conv => whnf)
        refine idx_and (by omega) (by rw [Int.toNat_natCast]; exact ha) ?_
        (conv => whnf)
        refine ⟨hidx, ?_⟩
        (conv => whnf)
        refine idx_map hp' ?_
        (conv => whnf)
        refine ask_mf (by rw [ks1]; rfl) ?_
        (conv => whnf)
        rw [hii]
        refine idx_and (by omega) (by rw [Int.toNat_natCast]; exact hb) ?_
        (conv => whnf)
        refine idx_and (by omega) (by rw [Int.toNat_natCast]; exact ha) ?_
        (conv => whnf)
        refine ⟨hidx, ?_⟩
        (conv => whnf)
        refine idx_map hp' ?_
        (conv => whnf)
        refine ask_mf (by rw [ks2]; rfl) ?_
        (conv => whnf)
        exact ⟨i + 1, [], by omega, by omega, ⟨⟨rfl, rfl, rfl, eqI hii, trivial⟩, ⟨rfl, trivial⟩⟩⟩
      · (conv => whnf)
        exact ⟨k + 1, [], hlt, by omega, ⟨⟨rfl, rfl, eqI hkk, trivial⟩, ⟨rfl, trivial⟩⟩⟩
  · (conv => whnf)
    refine call_i f14_ok ?_
    (conv => whnf)
    refine ret0 ?_
    exact ret_b rfl rfl
theorem law7 (dss : List (List DV)) (h : All2 (fun t ds => Typed T 8 t ds) [22] dss) : FnOk Try.prog 7 (mkSs T [22] dss) [] 0 (Bo true) [] 0 := by
  obtain ⟨a, q, rfl, ha, h⟩ := all2_cons h
  obtain rfl := all2_nil h
  obtain ⟨a, rfl, ka⟩ := typed22 ha
  exact f7_ok a ka
theorem lifted7 (os : Os) (started : os.Started) (H : Type) (enc : TypeId × Value → H) :
    ReturnsInHanded {} Try.checked os 7 .any (Rows.profilePhasesSpec.pre6 enc Try.prog Try.f7 Rows.profilePhasesRow.domain false) (Rows.profilePhasesSpec.post enc Try.prog Try.f7 false true false false) := by
  refine returnsInHanded_of_change_sized (C := Try.checked) own started (by kernel_rfl) Try.func7
    (ChangeSpec.witness6 (enc := enc) (C := Try.checked) false ⟨#[], #[.slice none 0 0], []⟩ 8 (by kernel_rfl) (by kernel_rfl) (by kernel_rfl) (by kernel_rfl)) ?_
  intro W base args ds gs before hval hW _ hsz _
  exact law_contract (T := T) (n := 8) (tb := 4) (ts := [22]) tab laid rfl rfl (by kernel_rfl) rfl (by kernel_rfl) (fun ds hd => by
    match ds, hd with
    | [_], _ => rfl) law7 hval hW hsz
/-- For every input ProfilePhases returns true. -/
theorem profilePhases_holds : Rows.ProfilePhasesSaid :=
  OpenClaim.holds_of_wide 7 Try.f7 rfl rfl rfl rfl rfl rfl rfl ⟨rfl, rfl, rfl, rfl, rfl⟩ rfl rfl rfl rfl rfl (by kernel_rfl) Try.func7 (by kernel_rfl)
    (of_decide_eq_true (by kernel_rfl)) (by unfold Func.isWrapper; first | (rw [if_pos (by decide +kernel)]; kernel_rfl) | (rw [if_neg (by decide +kernel)]; exact ⟨rfl, rfl⟩))
    (fun os started H enc _ => lifted7 os started H enc)
end Go.Proofs.Ytejjkajknmhplaa
