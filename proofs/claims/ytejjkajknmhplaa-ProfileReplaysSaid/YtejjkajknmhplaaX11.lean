import Derived.Test.YtejjkajknmhplaaX10
import Derived.Test.YtejjkajknmhplaaP1
namespace Go.Proofs.Ytejjkajknmhplaa
open Eng
set_option maxRecDepth 10000
attribute [local irreducible] FnOk loopW idxF retX

abbrev R2 (ok : Bool) : SV := .tup [(false, [.row 0]), (false, [.dv (.bool ok)])]
abbrev RM (x : List Int) : List (Nat × Box) := [(0, .rows 2 1 (x.map encI))]
def rok (n : Nat) (x : List Int) : Prop := x.length = n ∧ ∀ v ∈ x, -1 ≤ v ∧ v ≤ 4096
theorem rok.mild {n : Nat} {x : List Int} (h : rok n x) : mild x := fun v hv => by have := h.2 v hv; omega
theorem rok.lv {n : Nat} {x : List Int} (h : rok n x) (i : Int) : -1 ≤ lv x i ∧ lv x i ≤ 4096 := by
  unfold Ytejjkajknmhplaa.lv; rw [List.getD_eq_getElem?_getD]
  cases hx : x[i.toNat]? with
  | none => simp
  | some v => simpa using h.2 v (List.mem_of_getElem? hx)
theorem rok.set {n : Nat} {x : List Int} (h : rok n x) {i : Nat} {m : Int} (h0 : -1 ≤ m) (h1 : m ≤ 4096) : rok n (x.set i m) :=
  ⟨by simp [h.1], fun v hv => by rcases List.mem_or_eq_of_mem_set hv with hv | rfl
                                 · exact h.2 v hv
                                 · exact ⟨h0, h1⟩⟩
theorem rok_top {top : List Int} (h : ∀ v ∈ top, 0 ≤ v ∧ v ≤ 4096) : rok top.length top := ⟨rfl, fun v hv => by have := h v hv; omega⟩
theorem replay_no {top : List Int} {rows : List Row} {s : List Int} (h : rep rows top s = none) : replay top rows s = ([], false) := by
  unfold replay; rw [h]; simp
theorem replay_yes {top : List Int} {rows : List Row} {s x : List Int} (hv : valid top rows = true) (hs : s.length ≤ 16384) (h : rep rows top s = some x) : replay top rows s = (x, true) := by
  unfold replay; rw [h, if_pos ⟨hv, hs⟩]
theorem f35_ok (top : List Int) (rows : List Row) (s : List Int) (hr : rows.length ≤ 4611686018427387904) : FnOk Try.prog 35 [Li top, Lr rows, Li s] [] 0 (R2 (replay top rows s).2) (RM (replay top rows s).1) 1 := by
  refine fnOk tab mix Try.func35 rfl rfl (by kernel_rfl) rfl rfl ?_
  (conv => whnf)
  refine call_i (f40_ok top rows hr) ?_
  (conv => whnf)
  refine ask_m (fun h => ?_) (fun h => ?_)
  · (conv => whnf)
    refine retO [.own 6 2 1] ?_
    have : replay top rows s = ([], false) := by
      have : valid top rows = false := by simpa using h
      simp [replay, this]
    rw [this]
    exact ⟨[], ⟨rfl, trivial⟩, ⟨rfl, trivial⟩⟩
  have hv : valid top rows = true := by simpa using h
  obtain ⟨v1, v2, v3, v4, v5⟩ := valid_iff.1 hv
  (conv => whnf)
  refine ask_m (fun h => ?_) (fun h => ?_)
  · (conv => whnf)
    refine retO [.own 6 2 1] ?_
    have : replay top rows s = ([], false) := by
      have : ¬ s.length ≤ 16384 := by simp at h; omega
      simp [replay, this]
    rw [this]
    exact ⟨[], ⟨rfl, trivial⟩, ⟨rfl, trivial⟩⟩
  have hs : s.length ≤ 16384 := by simp at h; omega
  (conv => whnf)
  refine call_i (f42_ok top (by omega)) ?_
  (conv => whnf)
  refine loop_intro (fun p : Nat × List Int => ⟨[(1, Lr rows), (8, .one (.row 0)), (25, Li s), (26, I s.length), (27, I p.1)], [(0, .rows 2 1 (p.2.map encI))], 1⟩)
    (fun p => p.1 ≤ s.length ∧ rok top.length p.2 ∧ rep rows p.2 (s.drop p.1) = rep rows top s) (fun p => s.length - p.1) [] (0, top) [] ⟨Nat.zero_le _, rok_top v4, rfl⟩ ⟨⟨rfl, rfl, rfl, eqI (by simp), rfl, trivial⟩, ⟨rfl, trivial⟩⟩ ?_
  rintro ⟨k, x⟩ ⟨hk, hx, hp⟩
  simp only at hk hx hp
  have hxl := hx.1
  have hkk : IntKind.i64.wrap ((k : Int) + 1) = ((k + 1 : Nat) : Int) := by rw [w64] <;> omega
  (conv => whnf)
  refine ask_m (fun h => ?_) (fun h => ?_)
  · have hlt : k < s.length := by simpa using h
    obtain ⟨i, hi⟩ : ∃ v, s[k]? = some v := ⟨_, List.getElem?_eq_getElem hlt⟩
    rw [drop_cons hi] at hp
    simp only [rep] at hp
    (conv => whnf)
    refine idx_and (by omega) (by simpa using hi) ?_
    (conv => whnf)
    refine ask_m (fun h => ?_) (fun h => ?_)
    · have h : i < 0 := by simpa using h
      have : repStep rows x i = none := by rw [repStep, if_neg (by omega)]
      rw [this] at hp
      rw [replay_no hp.symm]
      (conv => whnf)
      refine retO [.own 6 2 1] ?_
      exact ⟨[(0, 1)], ⟨rfl, trivial⟩, ⟨rfl, trivial⟩⟩
    have h0 : ¬ i < 0 := by simpa using h
    (conv => whnf)
    refine ask_m (fun h => ?_) (fun h => ?_)
    · have h : (rows.length : Int) ≤ i := by simpa using h
      have : repStep rows x i = none := by rw [repStep, if_neg (by omega)]
      rw [this] at hp
      rw [replay_no hp.symm]
      (conv => whnf)
      refine retO [.own 6 2 1] ?_
      exact ⟨[(0, 1)], ⟨rfl, trivial⟩, ⟨rfl, trivial⟩⟩
    have h1 : ¬ (rows.length : Int) ≤ i := by simpa using h
    obtain ⟨r, hri⟩ : ∃ v, rows[i.toNat]? = some v := ⟨_, List.getElem?_eq_getElem (by omega)⟩
    obtain ⟨hrow, _⟩ := v5 r (List.mem_of_getElem? hri)
    have hrow' : rowIn r x.length := hxl ▸ hrow
    rw [repStep, if_pos (by omega), hri] at hp
    simp only at hp
    (conv => whnf)
    refine idx_and (by omega) hri ?_
    (conv => whnf)
    refine call_i (f43_ok r x hrow' hx.mild (by omega)) ?_
    (conv => whnf)
    refine ⟨⟨flatT3 _, trivial⟩, ?_⟩
    (conv => whnf)
    refine ask_m (fun h => ?_) (fun h => ?_)
    · have h : (bnd r x).2.2 = false := by simpa using h
      rw [h] at hp
      rw [replay_no hp.symm]
      (conv => whnf)
      refine retO [.own 6 2 1] ?_
      exact ⟨[(0, 1)], ⟨rfl, trivial⟩, ⟨rfl, trivial⟩⟩
    have ho : (bnd r x).2.2 = true := by simpa using h
    obtain ⟨a0, a1⟩ := bnd_at hrow' ho
    have ha := lv_some (x := x) (i := (bnd r x).1) (by omega)
    have hav := hx.lv (bnd r x).1
    rw [ho] at hp
    simp only [if_true] at hp
    (conv => whnf)
    refine ⟨⟨a0, by simpa using a1⟩, ?_⟩
    (conv => whnf)
    refine idx_map ha ?_
    (conv => whnf)
    refine ⟨⟨a0, by simpa using a1⟩, ?_⟩
    (conv => whnf)
    refine idx_map ha ?_
    (conv => whnf)
    refine ⟨(k + 1, x.set (bnd r x).1.toNat (min (lv x (bnd r x).1) (max (bnd r x).2.1 (-1)))), [], ⟨hlt, hx.set (by omega) (by omega), hp⟩, by simp only; omega, ⟨⟨rfl, rfl, rfl, rfl, eqI hkk, trivial⟩, ⟨?_, trivial⟩⟩⟩
    rw [← set_enc]; rfl
  · have hk : k = s.length := by simp at h; omega
    subst hk
    rw [List.drop_length] at hp
    rw [replay_yes hv hs hp.symm]
    (conv => whnf)
    refine ret0 ?_
    exact ⟨[], ⟨rfl, trivial⟩, ⟨rfl, trivial⟩⟩
theorem f51_ok (top : List Int) (rows : List Row) (s : List Int) (hr : rows.length ≤ 4611686018427387904) : FnOk Try.prog 51 [Li top, Lr rows, Li s] [] 0 (R2 (replay top rows s).2) (RM (replay top rows s).1) 1 := by
  refine fnOk tab mix Try.func51 rfl rfl (by kernel_rfl) rfl rfl ?_
  (conv => whnf)
  refine call_i (f44_ok top rows hr) ?_
  (conv => whnf)
  refine ask_m (fun h => ?_) (fun h => ?_)
  · (conv => whnf)
    refine retO [.own 6 2 1] ?_
    have : replay top rows s = ([], false) := by
      have : valid top rows = false := by simpa using h
      simp [replay, this]
    rw [this]
    exact ⟨[], ⟨rfl, trivial⟩, ⟨rfl, trivial⟩⟩
  have hv : valid top rows = true := by simpa using h
  obtain ⟨v1, v2, v3, v4, v5⟩ := valid_iff.1 hv
  (conv => whnf)
  refine ask_m (fun h => ?_) (fun h => ?_)
  · (conv => whnf)
    refine retO [.own 6 2 1] ?_
    have : replay top rows s = ([], false) := by
      have : ¬ s.length ≤ 16384 := by simp at h; omega
      simp [replay, this]
    rw [this]
    exact ⟨[], ⟨rfl, trivial⟩, ⟨rfl, trivial⟩⟩
  have hs : s.length ≤ 16384 := by simp at h; omega
  (conv => whnf)
  refine ⟨⟨by simp; omega, by simp; omega⟩, ?_⟩
  (conv => whnf)
  refine loop_intro (fun p : Nat × List Int => ⟨[(1, Lr rows), (2, Li s), (8, .one (.row 0)), (9, I p.1)], [(0, .rows 2 1 (p.2.map encI))], 1⟩)
    (fun p => p.1 ≤ s.length ∧ rok top.length p.2 ∧ rep rows p.2 (s.drop p.1) = rep rows top s) (fun p => s.length - p.1) [] (0, top) [] ⟨Nat.zero_le _, rok_top v4, rfl⟩ ⟨⟨rfl, rfl, rfl, rfl, trivial⟩, ⟨rfl, trivial⟩⟩ ?_
  rintro ⟨k, x⟩ ⟨hk, hx, hp⟩
  simp only at hk hx hp
  have hxl := hx.1
  have hkk : IntKind.i64.wrap ((k : Int) + 1) = ((k + 1 : Nat) : Int) := by rw [w64] <;> omega
  (conv => whnf)
  refine ask_m (fun h => ?_) (fun h => ?_)
  · have hlt : k < s.length := by simpa using h
    obtain ⟨i, hi⟩ : ∃ v, s[k]? = some v := ⟨_, List.getElem?_eq_getElem hlt⟩
    rw [drop_cons hi] at hp
    simp only [rep] at hp
    (conv => whnf)
    refine idx_and (by omega) (by simpa using hi) ?_
    (conv => whnf)
    refine ask_m (fun h => ?_) (fun h => ?_)
    · have h : i < 0 := by simpa using h
      have : repStep rows x i = none := by rw [repStep, if_neg (by omega)]
      rw [this] at hp
      rw [replay_no hp.symm]
      (conv => whnf)
      refine retO [.own 6 2 1] ?_
      exact ⟨[(0, 1)], ⟨rfl, trivial⟩, ⟨rfl, trivial⟩⟩
    have h0 : ¬ i < 0 := by simpa using h
    (conv => whnf)
    refine idx_and (by omega) (by simpa using hi) ?_
    (conv => whnf)
    refine ask_m (fun h => ?_) (fun h => ?_)
    · have h : (rows.length : Int) ≤ i := by simpa using h
      have : repStep rows x i = none := by rw [repStep, if_neg (by omega)]
      rw [this] at hp
      rw [replay_no hp.symm]
      (conv => whnf)
      refine retO [.own 6 2 1] ?_
      exact ⟨[(0, 1)], ⟨rfl, trivial⟩, ⟨rfl, trivial⟩⟩
    have h1 : ¬ (rows.length : Int) ≤ i := by simpa using h
    obtain ⟨r, hri⟩ : ∃ v, rows[i.toNat]? = some v := ⟨_, List.getElem?_eq_getElem (by omega)⟩
    obtain ⟨hrow, _⟩ := v5 r (List.mem_of_getElem? hri)
    have hrow' : rowIn r x.length := hxl ▸ hrow
    rw [repStep, if_pos (by omega), hri] at hp
    simp only at hp
    (conv => whnf)
    refine idx_and (by omega) (by simpa using hi) ?_
    (conv => whnf)
    refine idx_and (by omega) hri ?_
    (conv => whnf)
    refine call_i (f50_ok r x hrow' hx.mild (by omega)) ?_
    (conv => whnf)
    refine ⟨⟨flatT3 _, trivial⟩, ?_⟩
    (conv => whnf)
    refine ask_m (fun h => ?_) (fun h => ?_)
    · have h : (bnd r x).2.2 = false := by simpa using h
      rw [h] at hp
      rw [replay_no hp.symm]
      (conv => whnf)
      refine retO [.own 6 2 1] ?_
      exact ⟨[(0, 1)], ⟨rfl, trivial⟩, ⟨rfl, trivial⟩⟩
    have ho : (bnd r x).2.2 = true := by simpa using h
    obtain ⟨a0, a1⟩ := bnd_at hrow' ho
    have ha := lv_some (x := x) (i := (bnd r x).1) (by omega)
    have hav := hx.lv (bnd r x).1
    rw [ho] at hp
    simp only [if_true] at hp
    (conv => whnf)
    refine ⟨⟨a0, by simpa using a1⟩, ?_⟩
    (conv => whnf)
    refine idx_map ha ?_
    (conv => whnf)
    refine ask_m (fun h => ?_) (fun h => ?_)
    · have h : (bnd r x).2.1 < lv x (bnd r x).1 := by simpa using h
      (conv => whnf)
      refine ⟨⟨a0, by simpa using a1⟩, ?_⟩
      (conv => whnf)
      refine idx_map ha ?_
      (conv => whnf)
      refine ⟨(k + 1, x.set (bnd r x).1.toNat (min (lv x (bnd r x).1) (max (bnd r x).2.1 (-1)))), [], ⟨hlt, hx.set (by omega) (by omega), hp⟩, by simp only; omega, ⟨⟨rfl, rfl, rfl, eqI hkk, trivial⟩, ⟨?_, trivial⟩⟩⟩
      rw [← set_enc, show min (lv x (bnd r x).1) (max (bnd r x).2.1 (-1)) = max (bnd r x).2.1 (-1) by omega]; rfl
    · have h : ¬ (bnd r x).2.1 < lv x (bnd r x).1 := by simpa using h
      rw [show min (lv x (bnd r x).1) (max (bnd r x).2.1 (-1)) = lv x (bnd r x).1 by omega] at hp
      have hsame : x.set (bnd r x).1.toNat (lv x (bnd r x).1) = x := by
        apply List.ext_getElem?
        intro j
        rw [List.getElem?_set]
        split
        · rename_i e; subst e; rw [if_pos (by omega), ha]
        · rfl
      rw [hsame] at hp
      (conv => whnf)
      exact ⟨(k + 1, x), [], ⟨hlt, hx, hp⟩, by simp only; omega, ⟨⟨rfl, rfl, rfl, eqI hkk, trivial⟩, ⟨rfl, trivial⟩⟩⟩
  · have hk : k = s.length := by simp at h; omega
    subst hk
    rw [List.drop_length] at hp
    rw [replay_yes hv hs hp.symm]
    (conv => whnf)
    refine ret0 ?_
    exact ⟨[], ⟨rfl, trivial⟩, ⟨rfl, trivial⟩⟩
end Go.Proofs.Ytejjkajknmhplaa
