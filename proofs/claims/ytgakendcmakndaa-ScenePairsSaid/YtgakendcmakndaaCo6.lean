/- Scenes: their check, and the skipped pairs. -/
import Derived.Test.YtgakendcmakndaaCo5
namespace Go.Proofs.Ytgakendcmakndaa
open Eng
set_option maxRecDepth 10000
attribute [local irreducible] FnOk loopW idxF retX arrF

theorem scene_isLink (s : Scene) (k : Int) : FnOk Try.prog F.scene_isLink [Sc s, I k] [] 0 (Bo (linkOk s.robot.joints.length k)) [] 0 := by
  refine fnOk tab mix G.scene_isLink rfl rfl (by kernel_rfl) rfl rfl ?_
  repeat' ((conv => whnf); first | refine ask_m (fun h => ?_) (fun h => ?_) | refine ret0 ?_)
  all_goals exact ret_b (by first | (simp_all [linkOk]; done) | (simp_all [linkOk]; omega)) rfl
theorem scene_checkShape (s : Scene) (x : Shape) (hx : x.points.length ≤ 4611686018427387904) : FnOk Try.prog F.scene_checkShape [Sc s, Sh x] [] 0 (I (shapeErr s.robot.joints.length x)) [] 0 := by
  refine fnOk tab mix G.scene_checkShape rfl rfl (by kernel_rfl) rfl rfl ?_
  have e1 : linkOk s.robot.joints.length x.link = false ∨ x.radius < 1 ∨ 1048576 < x.radius ∨ x.points.length < 1 ∨ 8 < x.points.length → shapeErr s.robot.joints.length x = 902 := fun h => by unfold shapeErr; rw [if_pos h]
  (conv => whnf)
  refine call_i (scene_isLink s x.link) ?_
  (conv => whnf)
  refine ask_m (fun h => ?_) (fun h => ?_)
  · (conv => whnf)
    refine ret0 ?_
    exact ret_i (e1 (.inl (by simpa using h))).symm rfl
  have k1 : linkOk s.robot.joints.length x.link = true := by simpa using h
  (conv => whnf)
  refine ask_m (fun h => ?_) (fun h => ?_)
  · (conv => whnf)
    refine ret0 ?_
    exact ret_i (e1 (.inr (.inl (of_decide_eq_true h)))).symm rfl
  have k2 := of_decide_eq_false h
  (conv => whnf)
  refine ask_m (fun h => ?_) (fun h => ?_)
  · (conv => whnf)
    refine ret0 ?_
    exact ret_i (e1 (.inr (.inr (.inl (of_decide_eq_true h))))).symm rfl
  have k3 := of_decide_eq_false h
  (conv => whnf)
  refine ask_m (fun h => ?_) (fun h => ?_)
  · have h : x.points.length < 1 := by have := of_decide_eq_true h; simp only [List.length_map] at this; omega
    (conv => whnf)
    refine ret0 ?_
    exact ret_i (e1 (.inr (.inr (.inr (.inl h))))).symm rfl
  have k4 : ¬ x.points.length < 1 := by have := of_decide_eq_false h; simp only [List.length_map] at this; omega
  (conv => whnf)
  refine ask_m (fun h => ?_) (fun h => ?_)
  · have h : 8 < x.points.length := by have := of_decide_eq_true h; simp only [List.length_map] at this; omega
    (conv => whnf)
    refine ret0 ?_
    exact ret_i (e1 (.inr (.inr (.inr (.inr h))))).symm rfl
  have k5 : ¬ 8 < x.points.length := by have := of_decide_eq_false h; simp only [List.length_map] at this; omega
  have e2 : shapeErr s.robot.joints.length x = if x.points.all (inV · 4194304) = false then 805 else 0 := by
    unfold shapeErr; rw [if_neg]; rintro (h | h | h | h | h)
    · rw [k1] at h; cases h
    all_goals contradiction
  rw [e2]
  (conv => whnf)
  refine loop_intro (fun k : Nat => ⟨[(37, .one (.dv (dVs x.points))), (38, I x.points.length), (39, I k)], [], 0⟩) (fun k => k ≤ x.points.length ∧ (x.points.take k).all (inV · 4194304) = true) (fun k => x.points.length - k) [] 0 [] ⟨Nat.zero_le _, rfl⟩ ⟨⟨rfl, eqI (by simp), rfl, trivial⟩, trivial⟩ ?_
  rintro k ⟨hk, hall⟩
  (conv => whnf)
  refine ask_m (fun h => ?_) (fun h => ?_)
  · have hlt : k < x.points.length := by simpa using h
    obtain ⟨p, hp⟩ : ∃ j, x.points[k]? = some j := ⟨_, List.getElem?_eq_getElem hlt⟩
    have hkk : IntKind.i64.wrap ((k : Int) + 1) = ((k + 1 : Nat) : Int) := by rw [w64] <;> omega
    (conv => whnf)
    refine idx_and (by omega) (by simpa using hp) ?_
    (conv => whnf)
    refine loop_intro (fun i : Nat => ⟨[(37, .one (.dv (dVs x.points))), (38, I x.points.length), (39, I k), (43, Ve p), (44, I i)], [], 0⟩) (fun i => i ≤ 3 ∧ ∀ c, c < i → inC (vAt p c) = true) (fun i => 3 - i) [] 0 [] ⟨Nat.zero_le _, fun i hi => by omega⟩ ⟨⟨rfl, rfl, rfl, rfl, rfl, trivial⟩, trivial⟩ ?_
    rintro i ⟨hi, halli⟩
    (conv => whnf)
    refine ask_m (fun h => ?_) (fun h => ?_)
    · have hlti : i < 3 := by have := of_decide_eq_true h; omega
      have hii : IntKind.i64.wrap ((i : Int) + 1) = ((i + 1 : Nat) : Int) := by rw [w64] <;> omega
      have bad : inC (vAt p i) = false → (if x.points.all (inV · 4194304) = false then (805 : Int) else 0) = 805 := fun h => by
        rw [if_pos (all_not (f := (inV · 4194304)) hp (inV_at hlti h))]
      (conv => whnf)
      refine ⟨⟨by omega, by omega⟩, ?_⟩
      (conv => whnf)
      rw [Int.toNat_natCast]
      refine arr_vec rfl rfl hlti ?_
      generalize hv : vAt p i = v at *
      (conv => whnf)
      refine ask_m (fun h => ?_) (fun h => ?_)
      · have h := of_decide_eq_true h
        (conv => whnf)
        refine ret0 ?_
        exact ret_i (bad (by simp only [inC, Bool.and_eq_false_iff, decide_eq_false_iff_not]; omega)).symm rfl
      have h1 := of_decide_eq_false h
      (conv => whnf)
      refine ask_m (fun h => ?_) (fun h => ?_)
      · have h := of_decide_eq_true h
        (conv => whnf)
        refine ret0 ?_
        exact ret_i (bad (by simp only [inC, Bool.and_eq_false_iff, decide_eq_false_iff_not]; omega)).symm rfl
      have h2 := of_decide_eq_false h
      (conv => whnf)
      refine ⟨i + 1, [], ⟨hlti, fun c hc => ?_⟩, by omega, ⟨⟨rfl, rfl, rfl, rfl, eqI hii, trivial⟩, trivial⟩⟩
      by_cases e : c = i
      · subst e; rw [hv]; simp only [inC, Bool.and_eq_true, decide_eq_true_eq]; omega
      · exact halli c (by omega)
    · have hi : i = 3 := by have := of_decide_eq_false h; omega
      subst hi
      (conv => whnf)
      exact ⟨k + 1, [], ⟨hlt, all_take hall hp (inV_all halli)⟩, by omega, ⟨⟨rfl, rfl, eqI hkk, trivial⟩, trivial⟩⟩
  · have hk : k = x.points.length := by simp at h; omega
    subst hk
    rw [List.take_length] at hall
    (conv => whnf)
    refine ret0 ?_
    exact ret_i (by rw [if_neg (by rw [hall]; simp)]) rfl
/-- a scene whose lists are no longer than memory -/
theorem scene_Check (s : Scene) (hs : small s) : FnOk Try.prog F.scene_Check [Sc s] [] 0 (I (checkScene s)) [] 0 := by
  refine fnOk tab mix G.scene_Check rfl rfl (by kernel_rfl) rfl rfl ?_
  obtain ⟨s1, s2, s3, s4, s5⟩ := hs
  (conv => whnf)
  refine call_i (robot_Check s.robot s1 s2) ?_
  (conv => whnf)
  refine ask_m (fun h => ?_) (fun h => ?_)
  · have h : ¬ checkRobot s.robot = 0 := by simpa using h
    (conv => whnf)
    refine ret0 ?_
    exact ret_i (by unfold checkScene; rw [if_pos h]) rfl
  have h0 : checkRobot s.robot = 0 := by simpa using h
  have e : checkScene s = if 24 < s.shapes.length then 901
    else if shapesErr s.robot.joints.length s.shapes ≠ 0 then shapesErr s.robot.joints.length s.shapes
    else if 64 < s.skips.length then 903
    else if (s.skips.all (skipOk s.robot.joints.length)) = false then 903
    else 0 := by unfold checkScene; rw [if_neg (by rw [h0]; simp)]; rfl
  rw [e]
  (conv => whnf)
  refine ask_m (fun h => ?_) (fun h => ?_)
  · have h : 24 < s.shapes.length := by have := of_decide_eq_true h; simp only [List.length_map] at this; omega
    (conv => whnf)
    refine ret0 ?_
    exact ret_i (by rw [if_pos h]) rfl
  have h1 : ¬ 24 < s.shapes.length := by have := of_decide_eq_false h; simp only [List.length_map] at this; omega
  rw [if_neg h1]
  (conv => whnf)
  refine loop_intro (fun k : Nat => ⟨[(1, .one (.vptr 0 0)), (20, .one (.dv (dShs s.shapes))), (21, I s.shapes.length), (22, I k)], [(0, bSc s)], 1⟩) (fun k => k ≤ s.shapes.length ∧ shapesErr s.robot.joints.length (s.shapes.drop k) = shapesErr s.robot.joints.length s.shapes) (fun k => s.shapes.length - k) [] 0 [] ⟨Nat.zero_le _, rfl⟩ ⟨⟨rfl, rfl, eqI (by simp), rfl, trivial⟩, ⟨rfl, trivial⟩⟩ ?_
  rintro k ⟨hk, hf⟩
  (conv => whnf)
  refine ask_m (fun h => ?_) (fun h => ?_)
  · have hlt : k < s.shapes.length := by simpa using h
    obtain ⟨x, hx⟩ : ∃ j, s.shapes[k]? = some j := ⟨_, List.getElem?_eq_getElem hlt⟩
    have hkk : IntKind.i64.wrap ((k : Int) + 1) = ((k + 1 : Nat) : Int) := by rw [w64] <;> omega
    rw [drop_cons hx, shapesErr] at hf
    (conv => whnf)
    refine idx_and (by omega) (by simpa using hx) ?_
    (conv => whnf)
    refine call_i (scene_checkShape s x (s5 x (List.mem_of_getElem? hx))) ?_
    (conv => whnf)
    refine ask_m (fun h => ?_) (fun h => ?_)
    · have h : ¬ shapeErr s.robot.joints.length x = 0 := by simpa using h
      rw [if_neg h] at hf
      (conv => whnf)
      refine ret0 ?_
      exact ret_i (by rw [← hf, if_pos h]) rfl
    · have h : shapeErr s.robot.joints.length x = 0 := by simpa using h
      rw [if_pos h] at hf
      (conv => whnf)
      exact ⟨k + 1, [], ⟨hlt, hf⟩, by omega, ⟨⟨rfl, rfl, rfl, eqI hkk, trivial⟩, ⟨rfl, trivial⟩⟩⟩
  have hk : k = s.shapes.length := by simp at h; omega
  subst hk
  rw [List.drop_length, shapesErr] at hf
  rw [← hf, if_neg (by simp)]
  (conv => whnf)
  refine ask_m (fun h => ?_) (fun h => ?_)
  · have h : 64 < s.skips.length := by have := of_decide_eq_true h; simp only [List.length_map] at this; omega
    (conv => whnf)
    refine ret0 ?_
    exact ret_i (by rw [if_pos h]) rfl
  have h2 : ¬ 64 < s.skips.length := by have := of_decide_eq_false h; simp only [List.length_map] at this; omega
  rw [if_neg h2]
  (conv => whnf)
  refine loop_intro (fun k : Nat => ⟨[(1, .one (.vptr 0 0)), (38, .one (.dv (dSks s.skips))), (39, I s.skips.length), (40, I k)], [(0, bSc s)], 1⟩) (fun k => k ≤ s.skips.length ∧ (s.skips.take k).all (skipOk s.robot.joints.length) = true) (fun k => s.skips.length - k) [] 0 [] ⟨Nat.zero_le _, rfl⟩ ⟨⟨rfl, rfl, eqI (by simp), rfl, trivial⟩, ⟨rfl, trivial⟩⟩ ?_
  rintro k ⟨hk, hall⟩
  (conv => whnf)
  refine ask_m (fun h => ?_) (fun h => ?_)
  · have hlt : k < s.skips.length := by simpa using h
    obtain ⟨x, hx⟩ : ∃ j, s.skips[k]? = some j := ⟨_, List.getElem?_eq_getElem hlt⟩
    have hkk : IntKind.i64.wrap ((k : Int) + 1) = ((k + 1 : Nat) : Int) := by rw [w64] <;> omega
    have bad : skipOk s.robot.joints.length x = false → (if (s.skips.all (skipOk s.robot.joints.length)) = false then (903 : Int) else 0) = 903 := fun h => by rw [if_pos (all_not hx h)]
    (conv => whnf)
    refine idx_and (by omega) (by simpa using hx) ?_
    (conv => whnf)
    refine call_i (scene_isLink s x.a) ?_
    (conv => whnf)
    refine ask_m (fun h => ?_) (fun h => ?_)
    · (conv => whnf)
      refine ret0 ?_
      exact ret_i (bad (by simp at h; simp [skipOk, h])).symm rfl
    have ha : linkOk s.robot.joints.length x.a = true := by simpa using h
    (conv => whnf)
    refine call_i (scene_isLink s x.b) ?_
    (conv => whnf)
    refine ask_m (fun h => ?_) (fun h => ?_)
    · (conv => whnf)
      refine ret0 ?_
      exact ret_i (bad (by simp at h; simp [skipOk, h])).symm rfl
    have hb : linkOk s.robot.joints.length x.b = true := by simpa using h
    (conv => whnf)
    exact ⟨k + 1, [], ⟨hlt, all_take hall hx (by simp [skipOk, ha, hb])⟩, by omega, ⟨⟨rfl, rfl, rfl, eqI hkk, trivial⟩, ⟨rfl, trivial⟩⟩⟩
  · have hk : k = s.skips.length := by simp at h; omega
    subst hk
    rw [List.take_length] at hall
    (conv => whnf)
    refine ret0 ?_
    exact ret_i (by rw [if_neg (by rw [hall]; simp)]) rfl
/-- a skip has the links, in either order -/
def isSkip (a b : Int) (k : Skip) : Bool := (decide (k.a = a) && decide (k.b = b)) || (decide (k.a = b) && decide (k.b = a))
def skipped (s : Scene) (a b : Int) : Bool := s.skips.any (isSkip a b)
theorem cmpSkip : cmpB Try.prog 8 Y.Skip = true ∧ Try.prog.eqGuardType Try.prog.depth Y.Skip = false := ⟨by kernel_rfl, by kernel_rfl⟩
theorem scene_Skipped (s : Scene) (a b : Int) (hs : s.skips.length ≤ 4611686018427387904) : FnOk Try.prog F.scene_Skipped [Sc s, I a, I b] [] 0 (Bo (skipped s a b)) [] 0 := by
  refine fnOk tab mix G.scene_Skipped rfl rfl (by kernel_rfl) rfl rfl ?_
  (conv => whnf)
  refine loop_intro (fun k : Nat => ⟨[(1, I a), (2, I b), (10, .one (.dv (dSks s.skips))), (11, I s.skips.length), (12, I k)], [], 0⟩) (fun k => k ≤ s.skips.length ∧ (s.skips.take k).any (isSkip a b) = false) (fun k => s.skips.length - k) [] 0 [] ⟨Nat.zero_le _, rfl⟩ ⟨⟨rfl, rfl, rfl, eqI (by simp), rfl, trivial⟩, trivial⟩ ?_
  rintro k ⟨hk, hall⟩
  (conv => whnf)
  refine ask_m (fun h => ?_) (fun h => ?_)
  · have hlt : k < s.skips.length := by simpa using h
    obtain ⟨x, hx⟩ : ∃ j, s.skips[k]? = some j := ⟨_, List.getElem?_eq_getElem hlt⟩
    have hkk : IntKind.i64.wrap ((k : Int) + 1) = ((k + 1 : Nat) : Int) := by rw [w64] <;> omega
    (conv => whnf)
    refine idx_and (by omega) (by simpa using hx) ?_
    (conv => whnf)
    refine ⟨cmpSkip, ?_⟩
    (conv => whnf)
    refine ask_m (fun h => ?_) (fun h => ?_)
    · (conv => whnf)
      refine ret0 ?_
      exact ret_b (any_yes hx (by simp at h; simp [isSkip, h])).symm rfl
    (conv => whnf)
    refine ⟨cmpSkip, ?_⟩
    (conv => whnf)
    refine ask_m (fun h2 => ?_) (fun h2 => ?_)
    · (conv => whnf)
      refine ret0 ?_
      exact ret_b (any_yes hx (by simp at h2; simp [isSkip, h2])).symm rfl
    · (conv => whnf)
      exact ⟨k + 1, [], ⟨hlt, any_take hall hx (by simp at h h2; simp [isSkip]; exact ⟨h, h2⟩)⟩, by omega, ⟨⟨rfl, rfl, rfl, rfl, eqI hkk, trivial⟩, trivial⟩⟩
  · have hk : k = s.skips.length := by simp at h; omega
    subst hk
    rw [List.take_length] at hall
    (conv => whnf)
    refine ret0 ?_
    exact ret_b hall.symm rfl
end Go.Proofs.Ytgakendcmakndaa
