/- law9: SceneNames, SceneSkips. -/
import Derived.Test.YtgakendcmakndaaSa
namespace Go.Proofs.Ytgakendcmakndaa
open Eng
set_option maxRecDepth 10000
attribute [local irreducible] FnOk loopW idxF retX arrF

def otherT : ByteArray := ⟨#[111, 116, 104, 101, 114, 95]⟩
def newName (i : Nat) : ByteArray := otherT ++ decB 1 (9 - i)
def named (i : Nat) (j : Joint) : Joint := { j with name := newName i }
def renJ : Nat → List Joint → List Joint
  | _, [] => []
  | i, j :: js => named i j :: renJ (i + 1) js
def renS' (s : Scene) : Scene := ⟨⟨renJ 0 s.robot.joints, s.robot.masses⟩, s.shapes, s.skips⟩
theorem renJ_len : ∀ (i : Nat) (js : List Joint), (renJ i js).length = js.length
  | _, [] => rfl
  | i, _ :: js => by simp [renJ, renJ_len (i + 1) js]
theorem renJ_at : ∀ {i k : Nat} {js : List Joint}, (renJ i js)[k]? = (js[k]?).map (named (i + k))
  | _, _, [] => by simp [renJ]
  | i, 0, j :: js => rfl
  | i, k + 1, j :: js => by
    show (renJ (i + 1) js)[k]? = _
    rw [renJ_at, show i + 1 + k = i + (k + 1) by omega]; rfl
theorem renJ_app : ∀ (i : Nat) (a b : List Joint), renJ i (a ++ b) = renJ i a ++ renJ (i + a.length) b
  | _, [], _ => rfl
  | i, j :: a, b => by
    show named i j :: renJ (i + 1) (a ++ b) = named i j :: (renJ (i + 1) a ++ _)
    rw [renJ_app (i + 1) a b, show i + 1 + a.length = i + (a.length + 1) by omega]; rfl
theorem name_ok : ∀ i, i < 9 → nameOk (newName i) = true := by decide
theorem name_ne : ∀ i, i < 9 → ∀ j, j < 9 → newName i = newName j → i = j := by decide
theorem ren_ok {s : Scene} (h : checkScene s = 0) (h9 : s.robot.joints.length ≤ 9) : checkScene (renS' s) = 0 := by
  obtain ⟨g1, g2, g3, g4⟩ := scene_good h
  obtain ⟨r1, r2, r3⟩ := robot_good g1
  have hl : (renS' s).robot.joints.length = s.robot.joints.length := renJ_len 0 _
  unfold checkScene at h
  split at h
  · contradiction
  split at h
  · contradiction
  split at h
  · contradiction
  rename_i h3
  split at h
  · contradiction
  split at h
  · contradiction
  rename_i h5
  have g1' := g1
  unfold checkRobot at g1'
  split at g1'
  · contradiction
  split at g1'
  · contradiction
  rename_i hje
  split at g1'
  · contradiction
  rename_i hm
  simp only [ne_eq, Decidable.not_not] at hje
  refine scene_valid (robot_valid (by omega) (by omega) (jointsErr_zero fun k j hj => ?_) (by show s.robot.masses.length ≤ _; omega) ?_) g2 (fun x hx => ?_) g4 ?_
  · have hj' : (renJ 0 s.robot.joints)[k]? = some j := hj
    rw [renJ_at, Nat.zero_add] at hj'
    simp only [Option.map_eq_some_iff] at hj'
    obtain ⟨j0, hj0, rfl⟩ := hj'
    have hk : k < s.robot.joints.length := (List.getElem?_eq_some_iff.1 hj0).1
    have h6 := jerr_at hje hj0
    rw [Nat.zero_add] at h6
    obtain ⟨n1, n2, hb⟩ := jointErr_inv h6
    rw [Nat.zero_add]
    refine jointErr_zero (name_ok k (by omega)) ?_ hb
    have := find_at (k := 0) hj fun i' j' hi hj' e => by
      have hj2 : (renJ 0 s.robot.joints)[i']? = some j' := hj'
      rw [renJ_at, Nat.zero_add] at hj2
      simp only [Option.map_eq_some_iff] at hj2
      obtain ⟨j1, hj1, rfl⟩ := hj2
      have := name_ne i' (by omega) k (by omega) e
      omega
    rw [this]; simp
  · rw [hl]
    have : ¬ s.robot.masses.all (massOk s.robot.joints.length) = false := fun h => hm (.inr h)
    exact (Bool.eq_false_or_eq_true _).resolve_right this
  · rw [hl]; simp only [ne_eq, Decidable.not_not] at h3; exact serr_at h3 hx
  · rw [hl]; exact (Bool.eq_false_or_eq_true _).resolve_right h5
theorem ren_carr (js : List Joint) (i : Nat) : carriers (renJ i js) = carriers js := by
  have h : ∀ (js : List Joint) (i : Nat) (acc : List Int), (renJ i js).foldl carStep acc = js.foldl carStep acc := by
    intro js
    induction js with
    | nil => intro i acc; rfl
    | cons j js ih => intro i acc; simp only [renJ, List.foldl_cons]; rw [ih]; rfl
  exact h js i _
theorem pairs_congr {s t : Scene} (hs : checkScene s = 0) (ht : checkScene t = 0) (h1 : s.shapes = t.shapes) (h2 : ∀ x ∈ s.shapes, ∀ y ∈ s.shapes, wanted s x y = wanted t x y) : pairs s = pairs t := by
  have hw : ∀ i j, wantAt s i j = wantAt t i j := fun i j => by
    unfold wantAt
    rw [← h1]
    cases hx : s.shapes[i]? with
    | none => rfl
    | some x => cases hy : s.shapes[j]? with
      | none => rfl
      | some y => simp only [h2 x (List.mem_of_getElem? hx) y (List.mem_of_getElem? hy)]
  rw [pairs, pairs, if_pos hs, if_pos ht, pairsTo, pairsTo, h1]
  congr 1
  funext i
  unfold pairRow
  rw [show wantAt s i = wantAt t i from funext (hw i)]
theorem ren_pairs {s : Scene} (h : checkScene s = 0) (h9 : s.robot.joints.length ≤ 9) : pairs s = pairs (renS' s) := by
  refine pairs_congr h (ren_ok h h9) rfl fun x _ y _ => ?_
  have hc : ∀ k, carr (renS' s) k = carr s k := fun k => by
    show (carriers (renJ 0 s.robot.joints)).getD _ _ = _
    rw [ren_carr]; rfl
  rw [wanted, wanted, hc, hc]; rfl
theorem small_ren {s : Scene} (h : small s) : small (renS' s) := ⟨by show (renJ 0 s.robot.joints).length ≤ _; rw [renJ_len]; exact h.1, h.2⟩
theorem ren_set {js : List Joint} {i : Nat} {j : Joint} (hj : js[i]? = some j) : (renJ 0 (js.take i) ++ js.drop i).set i (named i j) = renJ 0 (js.take (i + 1)) ++ js.drop (i + 1) := by
  have hi : i < js.length := (List.getElem?_eq_some_iff.1 hj).1
  rw [drop_cons hj, List.take_add_one, hj, renJ_app, List.set_append_right _ _ (by rw [renJ_len]; simp; omega)]
  simp [renJ_len, Nat.min_eq_left (Nat.le_of_lt hi), renJ]
theorem ren_get {js : List Joint} {i : Nat} {j : Joint} (hj : js[i]? = some j) : (renJ 0 (js.take i) ++ js.drop i)[i]? = some j := by
  have hi : i < js.length := (List.getElem?_eq_some_iff.1 hj).1
  rw [List.getElem?_append_right (by rw [renJ_len]; simp; omega), renJ_len]
  simp [Nat.min_eq_left (Nat.le_of_lt hi), hj]
theorem joints3 (l : List Int) : (mkScene l).robot.joints.length ≤ 3 := (joints_len l 0).2
theorem pairs_len (s : Scene) : (pairs s).length ≤ 576 := by
  unfold pairs; split
  · rename_i h
    have h1 := pairsTo_len s s.shapes.length
    have h2 := (scene_good h).2.1
    have h3 := Nat.mul_le_mul h2 h2
    omega
  · simp
theorem law9_Names (l : List Int) (hl : l.length ≤ 17592186044416) : FnOk Try.prog F.law9_SceneNames [Li l] [] 0 (Bo true) [] 0 := by
  refine fnOk tab mix G.law9_SceneNames rfl rfl (by kernel_rfl) rfl rfl ?_
  (conv => whnf)
  have ho := mkScene_ok l
  have hsm := mkScene_small l
  have h3 := joints3 l
  refine call_i (mk_Scene l (by omega)) ?_
  (conv => whnf)
  generalize mkScene l = s at *
  refine ⟨⟨by simp; omega, by simp; omega⟩, ?_⟩
  (conv => whnf)
  refine loop_intro (fun i : Nat => ⟨[(3, .one (.vptr 0 0)), (4, .one (.vptr 1 0)), (5, I i)], [(0, bSc s), (1, .vars Y.Scene [.row 2, .dv (dMs s.robot.masses), .dv (dShs s.shapes), .dv (dSks s.skips)]), (2, .rows Y.Joint 12 ((renJ 0 (s.robot.joints.take i) ++ s.robot.joints.drop i).map encJ))], 3⟩) (fun i => i ≤ s.robot.joints.length) (fun i => s.robot.joints.length - i) [] 0 [] (Nat.zero_le _) ⟨⟨rfl, rfl, rfl, trivial⟩, ⟨rfl, rfl, rfl, trivial⟩⟩ ?_
  rintro i hi
  (conv => whnf)
  refine ask_m (fun h => ?_) (fun h => ?_)
  · have hlen : (renJ 0 (s.robot.joints.take i) ++ s.robot.joints.drop i).length = s.robot.joints.length := by simp [renJ_len]; omega
    have hlt : i < s.robot.joints.length := by rw [List.length_map, hlen] at h; simp at h; omega
    obtain ⟨j, hj⟩ : ∃ j, s.robot.joints[i]? = some j := ⟨_, List.getElem?_eq_getElem hlt⟩
    have hii : IntKind.i64.wrap ((i : Int) + 1) = ((i + 1 : Nat) : Int) := by rw [w64] <;> omega
    have h9i : IntKind.i64.wrap (9 - (i : Int)) = ((9 - i : Nat) : Int) := by rw [w64] <;> omega
    (conv => whnf)
    rw [h9i]
    refine call_i (ref_Decimal (9 - i) 1 1 (by omega) (by omega) (by omega) (by omega) (fun i' h' h'' => by omega)) ?_
    (conv => whnf)
    refine ⟨by rw [decB_size]; decide, ?_⟩
    (conv => whnf)
    refine ⟨⟨by omega, by rw [List.length_map, hlen]; omega⟩, ?_⟩
    (conv => whnf)
    refine idx_map (ren_get hj) ?_
    (conv => whnf)
    refine ⟨i + 1, [], hlt, by omega, ⟨⟨rfl, rfl, eqI hii, trivial⟩, ⟨rfl, rfl, ?_, trivial⟩⟩⟩
    show Box.rows Y.Joint 12 _ = Box.rows Y.Joint 12 _
    refine congrArg _ ?_
    rw [← ren_set hj, List.map_set]; rfl
  · have hi : i = s.robot.joints.length := by simp [renJ_len] at h; omega
    subst hi
    rw [List.take_length, List.drop_length, List.append_nil]
    (conv => whnf)
    refine call_i (law9_awake) ?_
    (conv => whnf)
    refine call_i (scene_Check (renS' s) (small_ren hsm)) ?_
    (conv => whnf)
    refine ⟨⟨trivial, trivial⟩, ?_⟩
    (conv => whnf)
    rw [ren_ok ho (by omega)]
    (conv => whnf)
    refine call_i (scene_Pairs s hsm) ?_
    (conv => whnf)
    refine call_i (scene_Pairs (renS' s) (small_ren hsm)) ?_
    (conv => whnf)
    refine ⟨⟨trivial, flatPa _ _, trivial⟩, ?_⟩
    (conv => whnf)
    refine call_i (mk_Same_Pair (pairs s) (pairs (renS' s)) (Nat.le_trans (pairs_len _) (by decide)) (Nat.le_trans (pairs_len _) (by decide))) ?_
    (conv => whnf)
    refine ⟨⟨trivial, trivial⟩, ?_⟩
    (conv => whnf)
    rw [decide_eq_true (ren_pairs ho (by omega))]
    (conv => whnf)
    refine ret0 ?_
    exact ret_b rfl rfl
end Go.Proofs.Ytgakendcmakndaa
