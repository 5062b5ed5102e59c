/- law9: one, awake, SceneStill. -/
import Derived.Test.YtgakendcmakndaaCo12
import Derived.Test.YtgakendcmakndaaDe
namespace Go.Proofs.Ytgakendcmakndaa
open Eng
set_option maxRecDepth 10000
attribute [local irreducible] FnOk loopW idxF retX arrF

def oneScene : Scene := ⟨⟨[⟨letter 0, 3, -1, ⟨0, 0, 0⟩, 0, 16384, 1, 1, 1, 1⟩], []⟩, [⟨-1, 5, [⟨99, 0, 0⟩]⟩, ⟨0, 5, [⟨1, 0, 0⟩, ⟨2, 0, 0⟩]⟩], []⟩
theorem one_small : small oneScene := by
  refine ⟨by decide, by decide, by decide, by decide, fun x hx => ?_⟩
  simp [oneScene] at hx
  rcases hx with rfl | rfl <;> decide
theorem law9_one : FnOk Try.prog F.law9_one [] [] 0 (Sc oneScene) [] 0 := by
  refine fnOk tab mix G.law9_one rfl rfl (by kernel_rfl) rfl rfl ?_
  (conv => whnf)
  (conv => whnf)
  refine retO [.frz 1, .frz 5, .ownC 0 1 Y.Mass 5, .frz 6, .ownC 0 3 Y.Skip 2, .frz 7] ?_
  (conv => whnf)
  exact ⟨[], ⟨rfl, trivial⟩, trivial⟩
theorem one_ok : checkScene oneScene = 0 := by decide
theorem one_pairs : pairs oneScene = [⟨0, 1⟩] := by decide
theorem one_skip : skipped oneScene 0 (-1) = false := by decide
theorem flatPa (t : Nat) (xs : List Pair) : FlatB (.rows t 2 (xs.map encPa)) := by
  intro r hr d hd
  obtain ⟨x, _, rfl⟩ := List.mem_map.1 hr
  simp [encPa] at hd
  rcases hd with rfl | rfl <;> trivial
theorem law9_awake : FnOk Try.prog F.law9_awake [] [] 0 (Bo true) [] 0 := by
  refine fnOk tab mix G.law9_awake rfl rfl (by kernel_rfl) rfl rfl ?_
  (conv => whnf)
  refine call_i (law9_one) ?_
  (conv => whnf)
  refine call_i (scene_Check oneScene one_small) ?_
  (conv => whnf)
  rw [one_ok]
  (conv => whnf)
  refine call_i (law9_one) ?_
  (conv => whnf)
  refine call_i (scene_Pairs oneScene one_small) ?_
  (conv => whnf)
  refine call_i (mk_Same_Pair (pairs oneScene) [⟨0, 1⟩] (by rw [one_pairs]; decide) (by decide)) ?_
  (conv => whnf)
  refine ⟨⟨trivial, trivial⟩, ?_⟩
  (conv => whnf)
  rw [one_pairs]
  (conv => whnf)
  refine call_i (law9_one) ?_
  (conv => whnf)
  refine call_i (scene_Skipped oneScene 0 (-1) (by decide)) ?_
  (conv => whnf)
  rw [one_skip]
  (conv => whnf)
  refine ret0 ?_
  exact ret_b rfl rfl

/- still scenes -/
def still (j : Joint) : Joint := { j with hi := j.lo }
def stillS (s : Scene) : Scene := ⟨⟨s.robot.joints.map still, []⟩, s.shapes, s.skips⟩
theorem set_upd {α : Type} {f : α → α} {xs : List α} {i : Nat} {x : α} (hx : xs[i]? = some x) : ((xs.take i).map f ++ xs.drop i).set i (f x) = (xs.take (i + 1)).map f ++ xs.drop (i + 1) := by
  have hi : i < xs.length := (List.getElem?_eq_some_iff.1 hx).1
  rw [drop_cons hx, List.take_add_one, hx, List.map_append, List.set_append_right _ _ (by simp; omega)]
  simp [Nat.min_eq_left (Nat.le_of_lt hi)]
theorem get_upd {α : Type} {f : α → α} {xs : List α} {i : Nat} {x : α} (hx : xs[i]? = some x) : ((xs.take i).map f ++ xs.drop i)[i]? = some x := by
  have hi : i < xs.length := (List.getElem?_eq_some_iff.1 hx).1
  rw [List.getElem?_append_right (by simp; omega)]
  simp [Nat.min_eq_left (Nat.le_of_lt hi), hx]
theorem find_map {f : Joint → Joint} (hf : ∀ j, (f j).name = j.name) : ∀ (js : List Joint) (nm : ByteArray) (k : Nat), find (js.map f) nm k = find js nm k
  | [], _, _ => rfl
  | j :: js, nm, k => by rw [List.map_cons, find, find, hf, find_map hf js]
theorem still_ok {s : Scene} (h : checkScene s = 0) : checkScene (stillS s) = 0 := by
  obtain ⟨g1, g2, g3, g4⟩ := scene_good h
  obtain ⟨r1, r2, r3⟩ := robot_good g1
  have hl : (stillS s).robot.joints.length = s.robot.joints.length := by simp [stillS]
  unfold checkScene at h
  split at h
  · contradiction
  split at h
  · contradiction
  split at h
  · contradiction
  rename_i h3
  split at h
  · contradiction
  split at h
  · contradiction
  rename_i h5
  refine scene_valid (robot_valid (by omega) (by omega) (jointsErr_zero fun k j hj => ?_) (by show 0 ≤ _; omega) rfl) g2 (fun x hx => ?_) g4 ?_
  · have g1' := g1
    unfold checkRobot at g1'
    split at g1'
    · contradiction
    split at g1'
    · contradiction
    rename_i hje
    simp only [ne_eq, Decidable.not_not] at hje
    have hj' : (s.robot.joints.map still)[k]? = some j := hj
    rw [List.getElem?_map] at hj'
    simp only [Option.map_eq_some_iff] at hj'
    obtain ⟨j0, hj0, rfl⟩ := hj'
    have h6 := jerr_at hje hj0
    rw [Nat.zero_add] at h6
    obtain ⟨n1, n2, b1, b2, b3, ⟨b4, b5, b6⟩, b7⟩ := jointErr_inv h6
    rw [Nat.zero_add]
    refine jointErr_zero n1 ?_ ⟨b1, b2, b3, ⟨Int.le_refl _, b5, Int.le_trans b4 b6⟩, b7⟩
    show find (s.robot.joints.map still) j0.name 0 = _
    rw [find_map (f := still) (fun _ => rfl)]; exact n2
  · rw [hl]; simp only [ne_eq, Decidable.not_not] at h3; exact serr_at h3 hx
  · rw [hl]; exact (Bool.eq_false_or_eq_true _).resolve_right h5
theorem still_carr {js : List Joint} (hd : downOk js) (hs : ∀ j ∈ js, j.lo = j.hi) : ∀ k, k ≤ js.length → carriers (js.take k) = List.replicate (k + 1) (-1)
  | 0, _ => rfl
  | k + 1, hk => by
    obtain ⟨j, hj⟩ : ∃ j, js[k]? = some j := ⟨_, List.getElem?_eq_getElem (by omega)⟩
    obtain ⟨d1, d2⟩ := hd k j hj
    rw [car_take hj, still_carr hd hs k (by omega), carStep, if_pos (hs j (List.mem_of_getElem? hj)), List.getD_eq_getElem?_getD, List.getElem?_replicate, if_pos (by omega)]
    rw [List.replicate_succ' (n := k + 1)]; rfl
theorem still_pairs {s : Scene} (h : checkScene s = 0) : pairs (stillS s) = [] := by
  have h' := still_ok h
  obtain ⟨g1, g2, g3, g4⟩ := scene_good h'
  obtain ⟨r1, r2, r3⟩ := robot_good g1
  have hc := still_carr r3 (fun j hj => by
    obtain ⟨j0, _, rfl⟩ := List.mem_map.1 (show j ∈ s.robot.joints.map still from hj)
    rfl) _ (Nat.le_refl _)
  rw [List.take_length] at hc
  have hcarr : ∀ x ∈ (stillS s).shapes, carr (stillS s) x.link = -1 := fun x hx => by
    obtain ⟨a, b⟩ := g3 x hx
    rw [carr, hc, List.getD_eq_getElem?_getD, List.getElem?_replicate, if_pos (by omega)]; rfl
  rw [pairs, if_pos h', pairsTo, List.flatMap_eq_nil_iff]
  intro i _
  rw [pairRow, List.map_eq_nil_iff, List.filter_eq_nil_iff]
  intro j _ hw
  unfold wantAt at hw
  rw [Bool.and_eq_true] at hw
  have hw := hw.2
  split at hw
  · rename_i x y hx hy
    rw [wanted, hcarr x (List.mem_of_getElem? hx), hcarr y (List.mem_of_getElem? hy)] at hw
    simp at hw
  · contradiction
theorem small_still {s : Scene} (h : small s) : small (stillS s) := ⟨by simpa [stillS] using h.1, Nat.zero_le _, h.2.2.1, h.2.2.2.1, h.2.2.2.2⟩
theorem law9_Still (l : List Int) (hl : l.length ≤ 17592186044416) : FnOk Try.prog F.law9_SceneStill [Li l] [] 0 (Bo true) [] 0 := by
  refine fnOk tab mix G.law9_SceneStill rfl rfl (by kernel_rfl) rfl rfl ?_
  (conv => whnf)
  have ho := mkScene_ok l
  have hsm := mkScene_small l
  obtain ⟨r1, r2, r3⟩ := robot_good (scene_good ho).1
  refine call_i (mk_Scene l (by omega)) ?_
  (conv => whnf)
  generalize mkScene l = s at *
  refine ⟨⟨by simp; omega, by simp; omega⟩, ?_⟩
  (conv => whnf)
  refine loop_intro (fun i : Nat => ⟨[(3, .one (.vptr 0 0)), (4, .one (.vptr 2 0)), (5, I i)], [(0, bSc s), (1, .rows Y.Joint 12 (((s.robot.joints.take i).map still ++ s.robot.joints.drop i).map encJ)), (2, .vars Y.Robot [.row 1, .nil 5])], 3⟩) (fun i => i ≤ s.robot.joints.length) (fun i => s.robot.joints.length - i) [] 0 [] (Nat.zero_le _) ⟨⟨rfl, rfl, rfl, trivial⟩, ⟨rfl, rfl, rfl, trivial⟩⟩ ?_
  rintro i hi
  (conv => whnf)
  refine ask_m (fun h => ?_) (fun h => ?_)
  · have hlt : i < s.robot.joints.length := by simp at h; omega
    obtain ⟨j, hj⟩ : ∃ j, s.robot.joints[i]? = some j := ⟨_, List.getElem?_eq_getElem hlt⟩
    have hii : IntKind.i64.wrap ((i : Int) + 1) = ((i + 1 : Nat) : Int) := by rw [w64] <;> omega
    have hlen : ((s.robot.joints.take i).map still ++ s.robot.joints.drop i).length = s.robot.joints.length := by simp; omega
    (conv => whnf)
    refine ⟨⟨by omega, by rw [List.length_map, hlen]; omega⟩, ?_⟩
    (conv => whnf)
    refine idx_map (get_upd hj) ?_
    (conv => whnf)
    refine ⟨⟨by omega, by rw [List.length_map, hlen]; omega⟩, ?_⟩
    (conv => whnf)
    refine idx_map (get_upd hj) ?_
    (conv => whnf)
    refine ⟨i + 1, [], hlt, by omega, ⟨⟨rfl, rfl, eqI hii, trivial⟩, ⟨rfl, ?_, rfl, trivial⟩⟩⟩
    show Box.rows Y.Joint 12 _ = Box.rows Y.Joint 12 _
    refine congrArg _ ?_
    rw [← set_upd hj, List.map_set]; rfl
  · have hi : i = s.robot.joints.length := by simp at h; omega
    subst hi
    rw [List.take_length, List.drop_length, List.append_nil]
    (conv => whnf)
    refine call_i (law9_awake) ?_
    (conv => whnf)
    refine call_i (scene_Check (stillS s) (small_still hsm)) ?_
    (conv => whnf)
    refine ⟨⟨trivial, trivial⟩, ?_⟩
    (conv => whnf)
    rw [still_ok ho]
    (conv => whnf)
    refine call_i (scene_Pairs (stillS s) (small_still hsm)) ?_
    (conv => whnf)
    refine ⟨⟨trivial, flatPa _ _, trivial⟩, ?_⟩
    (conv => whnf)
    rw [still_pairs ho]
    (conv => whnf)
    refine ret0 ?_
    exact ret_b rfl rfl
end Go.Proofs.Ytgakendcmakndaa
