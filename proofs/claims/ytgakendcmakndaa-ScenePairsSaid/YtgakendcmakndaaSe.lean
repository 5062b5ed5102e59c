/- law9: ScenePairs. -/
import Derived.Test.YtgakendcmakndaaSb
import Derived.Test.YtgakendcmakndaaCh2
namespace Go.Proofs.Ytgakendcmakndaa
open Eng
set_option maxRecDepth 10000
attribute [local irreducible] FnOk loopW idxF retX arrF

theorem row_prefix (s : Scene) (i : Nat) : ∀ (d j : Nat), ∃ rest, pairRow s i (j + d) = pairRow s i j ++ rest
  | 0, j => ⟨[], by simp⟩
  | d + 1, j => by
    obtain ⟨rest, h⟩ := row_prefix s i d j
    rw [← Nat.add_assoc, pairRow_succ, h]
    exact ⟨_, List.append_assoc _ _ _⟩
theorem to_prefix (s : Scene) : ∀ (d i : Nat), ∃ rest, pairsTo s (i + d) = pairsTo s i ++ rest
  | 0, i => ⟨[], by simp⟩
  | d + 1, i => by
    obtain ⟨rest, h⟩ := to_prefix s d i
    rw [← Nat.add_assoc, pairsTo_succ, h]
    exact ⟨_, List.append_assoc _ _ _⟩
theorem pairs_at {s : Scene} {i j : Nat} (hi : i < s.shapes.length) (hj : j < s.shapes.length) (hw : wantAt s i j = true) : (pairsTo s s.shapes.length)[(pairsTo s i ++ pairRow s i j).length]? = some ⟨(i : Int), (j : Int)⟩ := by
  obtain ⟨r1, h1⟩ := to_prefix s (s.shapes.length - (i + 1)) (i + 1)
  obtain ⟨r2, h2⟩ := row_prefix s i (s.shapes.length - (j + 1)) (j + 1)
  rw [show i + 1 + (s.shapes.length - (i + 1)) = s.shapes.length by omega, pairsTo_succ] at h1
  rw [show j + 1 + (s.shapes.length - (j + 1)) = s.shapes.length by omega, pairRow_succ, hw, if_pos rfl] at h2
  rw [h1, h2]
  have e : pairsTo s i ++ (pairRow s i j ++ [⟨(i : Int), (j : Int)⟩] ++ r2) ++ r1 = (pairsTo s i ++ pairRow s i j) ++ ⟨(i : Int), (j : Int)⟩ :: (r2 ++ r1) := by simp
  rw [e, List.getElem?_append_right (Nat.le_refl _)]
  simp
theorem law9_Pairs (l : List Int) (hl : l.length ≤ 17592186044416) : FnOk Try.prog F.law9_ScenePairs [Li l] [] 0 (Bo true) [] 0 := by
  refine fnOk tab mix G.law9_ScenePairs rfl rfl (by kernel_rfl) rfl rfl ?_
  (conv => whnf)
  have ho := mkScene_ok l
  have hsm := mkScene_small l
  refine call_i (mk_Scene l (by omega)) ?_
  (conv => whnf)
  generalize mkScene l = s at *
  obtain ⟨g1, g2, g3, g4⟩ := scene_good ho
  have hp : pairs s = pairsTo s s.shapes.length := by rw [pairs, if_pos ho]
  have hpl := pairs_len s
  refine call_i (scene_Pairs s hsm) ?_
  (conv => whnf)
  rw [hp] at hpl ⊢
  have hsub : ∀ i j, i < s.shapes.length → j ≤ s.shapes.length → (pairsTo s i ++ pairRow s i j).length ≤ (pairsTo s s.shapes.length).length := fun i j hi hj => by
    obtain ⟨r1, h1⟩ := to_prefix s (s.shapes.length - (i + 1)) (i + 1)
    obtain ⟨r2, h2⟩ := row_prefix s i (s.shapes.length - j) j
    rw [show i + 1 + (s.shapes.length - (i + 1)) = s.shapes.length by omega, pairsTo_succ] at h1
    rw [show j + (s.shapes.length - j) = s.shapes.length by omega] at h2
    rw [h1, h2]; simp only [List.length_append]; omega
  refine loop_intro (fun i : Nat => ⟨[(3, .one (.vptr 0 0)), (4, .one (.row 1)), (5, I (pairsTo s i).length), (6, I i)], [(0, bSc s), (1, bPa (pairsTo s s.shapes.length))], 2⟩) (fun i => i ≤ s.shapes.length) (fun i => s.shapes.length - i) [] 0 [] (Nat.zero_le _) ⟨⟨rfl, rfl, rfl, rfl, trivial⟩, ⟨rfl, rfl, trivial⟩⟩ ?_
  rintro i hi
  (conv => whnf)
  refine ask_m (fun h => ?_) (fun h => ?_)
  · have hlt : i < s.shapes.length := by simp at h; omega
    obtain ⟨x, hx⟩ : ∃ x, s.shapes[i]? = some x := ⟨_, List.getElem?_eq_getElem hlt⟩
    have hii : IntKind.i64.wrap ((i : Int) + 1) = ((i + 1 : Nat) : Int) := by rw [w64] <;> omega
    obtain ⟨x1, x2⟩ := g3 x (List.mem_of_getElem? hx)
    (conv => whnf)
    refine loop_intro (fun k : Nat => ⟨[(3, .one (.vptr 0 0)), (4, .one (.row 1)), (5, I (pairsTo s i ++ pairRow s i k).length), (6, I i), (7, I k)], [(0, bSc s), (1, bPa (pairsTo s s.shapes.length))], 2⟩) (fun k => i < k ∧ k ≤ s.shapes.length) (fun k => s.shapes.length - k) [] (i + 1) [] ⟨by omega, by omega⟩ ⟨⟨rfl, rfl, eqI (by rw [pairRow_self, List.append_nil]), rfl, eqI hii, trivial⟩, ⟨rfl, rfl, trivial⟩⟩ ?_
    rintro k ⟨hk1, hk2⟩
    (conv => whnf)
    refine ask_m (fun h => ?_) (fun h => ?_)
    · have hlk : k < s.shapes.length := by simp at h; omega
      obtain ⟨y, hy⟩ : ∃ y, s.shapes[k]? = some y := ⟨_, List.getElem?_eq_getElem hlk⟩
      have hkk : IntKind.i64.wrap ((k : Int) + 1) = ((k + 1 : Nat) : Int) := by rw [w64] <;> omega
      obtain ⟨y1, y2⟩ := g3 y (List.mem_of_getElem? hy)
      have hw : wantAt s i k = wanted s x y := by simp [wantAt, hx, hy, hk1]
      have hno : wanted s x y = false → pairRow s i (k + 1) = pairRow s i k := fun h => by rw [pairRow_succ, hw, h]; simp
      have hs := hsub i k hlt hk2
      (conv => whnf)
      refine idx_and (by omega) (by simpa using hx) ?_
      (conv => whnf)
      refine idx_and (by omega) (by simpa using hy) ?_
      (conv => whnf)
      refine ask_m (fun h => ?_) (fun h => ?_)
      · have hno := hno (by have h : x.link = y.link := by simpa using h
                            simp [wanted, h])
        (conv => whnf)
        exact ⟨k + 1, [], ⟨by omega, by omega⟩, by omega, ⟨⟨rfl, rfl, eqI (by rw [hno]), rfl, eqI hkk, trivial⟩, ⟨rfl, rfl, trivial⟩⟩⟩
      (conv => whnf)
      refine call_i (robot_Rigid s.robot x.link y.link g1 hsm.2.1 x1 x2 y1 y2) ?_
      (conv => whnf)
      refine ask_m (fun h => ?_) (fun h => ?_)
      · have hno := hno (by have h : carr s x.link = carr s y.link := of_decide_eq_true h
                            simp [wanted, h])
        (conv => whnf)
        exact ⟨k + 1, [], ⟨by omega, by omega⟩, by omega, ⟨⟨rfl, rfl, eqI (by rw [hno]), rfl, eqI hkk, trivial⟩, ⟨rfl, rfl, trivial⟩⟩⟩
      have hcar : ¬ carr s x.link = carr s y.link := of_decide_eq_false h
      (conv => whnf)
      refine call_i (scene_Skipped s x.link y.link (by omega)) ?_
      (conv => whnf)
      refine ask_m (fun h => ?_) (fun h => ?_)
      · have hno := hno (by simp [wanted, h])
        (conv => whnf)
        exact ⟨k + 1, [], ⟨by omega, by omega⟩, by omega, ⟨⟨rfl, rfl, eqI (by rw [hno]), rfl, eqI hkk, trivial⟩, ⟨rfl, rfl, trivial⟩⟩⟩
      have hyes : wantAt s i k = true := by rw [hw]; simp [wanted, hcar, h]
      have hat := pairs_at hlt hlk hyes
      have hlt2 : (pairsTo s i ++ pairRow s i k).length < (pairsTo s s.shapes.length).length := (List.getElem?_eq_some_iff.1 hat).1
      (conv => whnf)
      refine ask_mf (by simp at hlt2 ⊢; omega) ?_
      (conv => whnf)
      refine ⟨⟨by omega, by simp at hlt2 ⊢; omega⟩, ?_⟩
      (conv => whnf)
      refine idx_map (by rw [Int.toNat_natCast]; exact hat) ?_
      (conv => whnf)
      refine ⟨cmpPair, ?_⟩
      (conv => whnf)
      refine ask_mf (by simp) ?_
      (conv => whnf)
      refine ⟨k + 1, [], ⟨by omega, by omega⟩, by omega, ⟨⟨rfl, rfl, eqI ?_, rfl, eqI hkk, trivial⟩, ⟨rfl, rfl, trivial⟩⟩⟩
      rw [pairRow_succ, hyes, if_pos rfl, w64 (by omega) (by omega)]
      simp; omega
    · have hk : k = s.shapes.length := by simp at h; omega
      subst hk
      (conv => whnf)
      exact ⟨i + 1, [], by omega, by omega, ⟨⟨rfl, rfl, eqI (by rw [pairsTo_succ]), eqI hii, trivial⟩, ⟨rfl, rfl, trivial⟩⟩⟩
  · have hi : i = s.shapes.length := by simp at h; omega
    subst hi
    (conv => whnf)
    refine call_i (law9_awake) ?_
    (conv => whnf)
    (conv => whnf)
    refine ret0 ?_
    exact ret_b (by simp) rfl
end Go.Proofs.Ytgakendcmakndaa
