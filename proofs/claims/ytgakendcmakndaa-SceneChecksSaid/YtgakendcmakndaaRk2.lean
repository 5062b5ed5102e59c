/- The reference's checks: robots, scenes. -/
import Derived.Test.YtgakendcmakndaaRk1
import Derived.Test.YtgakendcmakndaaCo2b
namespace Go.Proofs.Ytgakendcmakndaa
open Eng
set_option maxRecDepth 10000
attribute [local irreducible] FnOk loopW idxF retX arrF

theorem ref_CheckRobot (r : Robot) (hj : r.joints.length ≤ 4611686018427387904) (hm : r.masses.length ≤ 4611686018427387904) : FnOk Try.prog F.ref6_CheckRobot [Ro r] [] 0 (I (checkRobot r)) [] 0 := by
  refine fnOk tab mix G.ref6_CheckRobot rfl rfl (by kernel_rfl) rfl rfl ?_
  (conv => whnf)
  refine ask_m (fun h => ?_) (fun h => ?_)
  · have h : r.joints.length = 0 := by have := of_decide_eq_true h; simp only [List.length_map] at this; omega
    (conv => whnf)
    refine ret0 ?_
    exact ret_i (by unfold checkRobot; rw [if_pos (.inl h)]) rfl
  have h1 : ¬ r.joints.length = 0 := by have := of_decide_eq_false h; simp only [List.length_map] at this; omega
  (conv => whnf)
  refine ask_m (fun h => ?_) (fun h => ?_)
  · have h : 10 < r.joints.length := by have := of_decide_eq_true h; simp only [List.length_map] at this; omega
    (conv => whnf)
    refine ret0 ?_
    exact ret_i (by unfold checkRobot; rw [if_pos (.inr h)]) rfl
  have h2 : ¬ 10 < r.joints.length := by have := of_decide_eq_false h; simp only [List.length_map] at this; omega
  have e : checkRobot r = if jointsErr r.joints 0 r.joints ≠ 0 then jointsErr r.joints 0 r.joints
    else if 32 < r.masses.length ∨ r.masses.all (massOk r.joints.length) = false then 808 else 0 := by unfold checkRobot; rw [if_neg (by omega)]
  rw [e]
  (conv => whnf)
  refine loop_intro (fun k : Nat => ⟨[(1, .one (.vptr 0 0)), (3, I k)], [(0, bRo r)], 1⟩) (fun k => k ≤ r.joints.length ∧ jointsErr r.joints 0 r.joints = jointsErr r.joints k (r.joints.drop k)) (fun k => r.joints.length - k) [] 0 [] ⟨Nat.zero_le _, rfl⟩ ⟨⟨rfl, rfl, trivial⟩, ⟨rfl, trivial⟩⟩ ?_
  rintro k ⟨hk, hE⟩
  (conv => whnf)
  refine ask_m (fun h => ?_) (fun h => ?_)
  · have hlt : k < r.joints.length := by simp at h; omega
    obtain ⟨j, hj'⟩ : ∃ j, r.joints[k]? = some j := ⟨_, List.getElem?_eq_getElem hlt⟩
    have hkk : IntKind.i64.wrap ((k : Int) + 1) = ((k + 1 : Nat) : Int) := by rw [w64] <;> omega
    rw [drop_cons hj', jointsErr] at hE
    (conv => whnf)
    refine call_i (ref_checkJoint r.joints k j hj' hj) ?_
    (conv => whnf)
    refine ask_m (fun he => ?_) (fun he => ?_)
    · have he : ¬ jointErr r.joints k j = 0 := by simpa using he
      rw [if_neg he] at hE
      (conv => whnf)
      refine ret0 ?_
      exact ret_i (by rw [hE, if_pos he]) rfl
    · have he : jointErr r.joints k j = 0 := by simpa using he
      rw [if_pos he] at hE
      (conv => whnf)
      exact ⟨k + 1, [], ⟨hlt, hE⟩, by omega, ⟨⟨rfl, eqI hkk, trivial⟩, ⟨rfl, trivial⟩⟩⟩
  · have hk : k = r.joints.length := by simp at h; omega
    subst hk
    rw [List.drop_length, jointsErr] at hE
    rw [hE, if_neg (by simp)]
    (conv => whnf)
    refine ask_m (fun h3 => ?_) (fun h3 => ?_)
    · have h3 : 32 < r.masses.length := by have := of_decide_eq_true h3; simp only [List.length_map] at this; omega
      rw [if_pos (.inl h3)]
      (conv => whnf)
      refine ret0 ?_
      exact ret_i rfl rfl
    have h3 : ¬ 32 < r.masses.length := by have := of_decide_eq_false h3; simp only [List.length_map] at this; omega
    (conv => whnf)
    refine loop_intro (fun k : Nat => ⟨[(1, .one (.vptr 0 0)), (5, I k)], [(0, bRo r)], 1⟩) (fun k => k ≤ r.masses.length ∧ (r.masses.take k).all (massOk r.joints.length) = true) (fun k => r.masses.length - k) [] 0 [] ⟨Nat.zero_le _, rfl⟩ ⟨⟨rfl, rfl, trivial⟩, ⟨rfl, trivial⟩⟩ ?_
    rintro k ⟨hk, hall⟩
    (conv => whnf)
    refine ask_m (fun h4 => ?_) (fun h4 => ?_)
    · have hlt : k < r.masses.length := by simp at h4; omega
      obtain ⟨m, hm'⟩ : ∃ j, r.masses[k]? = some j := ⟨_, List.getElem?_eq_getElem hlt⟩
      have hkk : IntKind.i64.wrap ((k : Int) + 1) = ((k + 1 : Nat) : Int) := by rw [w64] <;> omega
      have bad : massOk r.joints.length m = false → (if 32 < r.masses.length ∨ r.masses.all (massOk r.joints.length) = false then (808 : Int) else 0) = 808 := fun h => by rw [if_pos (.inr (all_not hm' h))]
      have hM : massOk r.joints.length m = (decide (0 ≤ m.link) && decide (m.link < r.joints.length) && betw m.mass 1 65536 && inV m.point 4194304) := rfl
      (conv => whnf)
      refine idx_and (by omega) (by simpa using hm') ?_
      (conv => whnf)
      refine ask_m (fun a1 => ?_) (fun a1 => ?_)
      · have a1 := of_decide_eq_true a1
        rw [bad (by rw [hM, decide_eq_false (by omega)]; simp)]
        (conv => whnf)
        refine ret0 ?_
        exact ret_i rfl rfl
      have a1 := of_decide_eq_false a1
      (conv => whnf)
      rw [List.length_map]
      refine ask_m (fun a2 => ?_) (fun a2 => ?_)
      · have a2 := of_decide_eq_true a2
        rw [bad (by rw [hM, decide_eq_false (p := m.link < _) (by omega)]; simp)]
        (conv => whnf)
        refine ret0 ?_
        exact ret_i rfl rfl
      have a2 := of_decide_eq_false a2
      (conv => whnf)
      refine call_i (ref_between m.mass 1 65536) ?_
      (conv => whnf)
      refine ask_m (fun a3 => ?_) (fun a3 => ?_)
      · have a3 : betw m.mass 1 65536 = false := by simpa using a3
        rw [bad (by rw [hM, a3]; simp)]
        (conv => whnf)
        refine ret0 ?_
        exact ret_i rfl rfl
      have a3 : betw m.mass 1 65536 = true := by simpa using a3
      (conv => whnf)
      refine call_i (ref_Near m.point 4194304 (by decide) (by decide)) ?_
      (conv => whnf)
      refine ask_m (fun a4 => ?_) (fun a4 => ?_)
      · have a4 : inV m.point 4194304 = false := by simpa using a4
        rw [bad (by rw [hM, a4]; simp)]
        (conv => whnf)
        refine ret0 ?_
        exact ret_i rfl rfl
      have a4 : inV m.point 4194304 = true := by simpa using a4
      (conv => whnf)
      exact ⟨k + 1, [], ⟨hlt, all_take hall hm' (by rw [hM, a3, a4, decide_eq_true (by omega), decide_eq_true (p := m.link < _) (by omega)]; rfl)⟩, by omega, ⟨⟨rfl, eqI hkk, trivial⟩, ⟨rfl, trivial⟩⟩⟩
    · have hk : k = r.masses.length := by simp at h4; omega
      subst hk
      rw [List.take_length] at hall
      rw [hall, if_neg (by simp; omega)]
      (conv => whnf)
      refine ret0 ?_
      exact ret_i rfl rfl
theorem ref_CheckScene (s : Scene) (hs : small s) : FnOk Try.prog F.ref6_CheckScene [Sc s] [] 0 (I (checkScene s)) [] 0 := by
  refine fnOk tab mix G.ref6_CheckScene rfl rfl (by kernel_rfl) rfl rfl ?_
  (conv => whnf)
  obtain ⟨s1, s2, s3, s4, s5⟩ := hs
  refine call_i (ref_CheckRobot s.robot s1 s2) ?_
  (conv => whnf)
  refine ask_m (fun h => ?_) (fun h => ?_)
  · have h : ¬ checkRobot s.robot = 0 := by simpa using h
    (conv => whnf)
    refine ret0 ?_
    exact ret_i (by unfold checkScene; rw [if_pos h]) rfl
  have h0 : checkRobot s.robot = 0 := by simpa using h
  have e : checkScene s = if 24 < s.shapes.length then 901
    else if shapesErr s.robot.joints.length s.shapes ≠ 0 then shapesErr s.robot.joints.length s.shapes
    else if 64 < s.skips.length then 903
    else if (s.skips.all (skipOk s.robot.joints.length)) = false then 903
    else 0 := by unfold checkScene; rw [if_neg (by rw [h0]; simp)]; rfl
  rw [e]
  clear e
  (conv => whnf)
  refine ask_m (fun h1 => ?_) (fun h1 => ?_)
  · have h1 : 24 < s.shapes.length := by have := of_decide_eq_true h1; simp only [List.length_map] at this; omega
    rw [if_pos h1]
    (conv => whnf)
    refine ret0 ?_
    exact ret_i rfl rfl
  have h1 : ¬ 24 < s.shapes.length := by have := of_decide_eq_false h1; simp only [List.length_map] at this; omega
  rw [if_neg h1]
  (conv => whnf)
  refine loop_intro (fun k : Nat => ⟨[(1, .one (.vptr 0 0)), (4, I k)], [(0, bSc s)], 1⟩) (fun k => k ≤ s.shapes.length ∧ shapesErr s.robot.joints.length s.shapes = shapesErr s.robot.joints.length (s.shapes.drop k)) (fun k => s.shapes.length - k) [] 0 [] ⟨Nat.zero_le _, rfl⟩ ⟨⟨rfl, rfl, trivial⟩, ⟨rfl, trivial⟩⟩ ?_
  rintro k ⟨hk, hE⟩
  (conv => whnf)
  refine ask_m (fun h2 => ?_) (fun h2 => ?_)
  · have hlt : k < s.shapes.length := by simp at h2; omega
    obtain ⟨x, hx⟩ : ∃ j, s.shapes[k]? = some j := ⟨_, List.getElem?_eq_getElem hlt⟩
    have hkk : IntKind.i64.wrap ((k : Int) + 1) = ((k + 1 : Nat) : Int) := by rw [w64] <;> omega
    have hxp := s5 x (List.mem_of_getElem? hx)
    rw [drop_cons hx, shapesErr] at hE
    have e1 : (linkOk s.robot.joints.length x.link = false ∨ x.radius < 1 ∨ 1048576 < x.radius ∨ x.points.length < 1 ∨ 8 < x.points.length) → shapesErr s.robot.joints.length s.shapes = 902 := fun h => by
      have : shapeErr s.robot.joints.length x = 902 := by rw [shapeErr, if_pos h]
      rw [hE, this, if_neg (by decide)]
    have e2 : ¬ (linkOk s.robot.joints.length x.link = false ∨ x.radius < 1 ∨ 1048576 < x.radius ∨ x.points.length < 1 ∨ 8 < x.points.length) → x.points.all (inV · 4194304) = false → shapesErr s.robot.joints.length s.shapes = 805 := fun h h' => by
      have : shapeErr s.robot.joints.length x = 805 := by rw [shapeErr, if_neg h, if_pos h']
      rw [hE, this, if_neg (by decide)]
    have e3 : ¬ (linkOk s.robot.joints.length x.link = false ∨ x.radius < 1 ∨ 1048576 < x.radius ∨ x.points.length < 1 ∨ 8 < x.points.length) → x.points.all (inV · 4194304) = true → shapesErr s.robot.joints.length s.shapes = shapesErr s.robot.joints.length (s.shapes.drop (k + 1)) := fun h h' => by
      have : shapeErr s.robot.joints.length x = 0 := by rw [shapeErr, if_neg h, if_neg (by rw [h']; simp)]
      rw [hE, this, if_pos rfl]
    (conv => whnf)
    refine idx_and (by omega) (by simpa using hx) ?_
    (conv => whnf)
    refine call_i (ref_isLink s.robot x.link) ?_
    (conv => whnf)
    refine ask_m (fun a1 => ?_) (fun a1 => ?_)
    · have a1 : linkOk s.robot.joints.length x.link = false := by simpa using a1
      rw [e1 (.inl a1), if_pos (by decide)]
      (conv => whnf)
      refine ret0 ?_
      exact ret_i rfl rfl
    have a1 : linkOk s.robot.joints.length x.link = true := by simpa using a1
    (conv => whnf)
    refine call_i (ref_between x.radius 1 1048576) ?_
    (conv => whnf)
    refine ask_m (fun a2 => ?_) (fun a2 => ?_)
    · have a2 : betw x.radius 1 1048576 = false := by simpa using a2
      rw [e1 (by simp [betw] at a2; omega), if_pos (by decide)]
      (conv => whnf)
      refine ret0 ?_
      exact ret_i rfl rfl
    have a2 : betw x.radius 1 1048576 = true := by simpa using a2
    simp [betw] at a2
    (conv => whnf)
    refine ask_m (fun a3 => ?_) (fun a3 => ?_)
    · have a3 : x.points.length < 1 := by have := of_decide_eq_true a3; simp only [List.length_map] at this; omega
      rw [e1 (by omega), if_pos (by decide)]
      (conv => whnf)
      refine ret0 ?_
      exact ret_i rfl rfl
    have a3 : ¬ x.points.length < 1 := by have := of_decide_eq_false a3; simp only [List.length_map] at this; omega
    (conv => whnf)
    refine ask_m (fun a4 => ?_) (fun a4 => ?_)
    · have a4 : 8 < x.points.length := by have := of_decide_eq_true a4; simp only [List.length_map] at this; omega
      rw [e1 (by omega), if_pos (by decide)]
      (conv => whnf)
      refine ret0 ?_
      exact ret_i rfl rfl
    have a4 : ¬ 8 < x.points.length := by have := of_decide_eq_false a4; simp only [List.length_map] at this; omega
    have hno : ¬ (linkOk s.robot.joints.length x.link = false ∨ x.radius < 1 ∨ 1048576 < x.radius ∨ x.points.length < 1 ∨ 8 < x.points.length) := by rw [a1]; rintro (h | h | h | h | h) <;> first | contradiction | omega
    (conv => whnf)
    refine loop_intro (fun c : Nat => ⟨[(1, .one (.vptr 0 0)), (4, I k), (5, .one (.vptr 1 0)), (6, I c)], [(0, bSc s), (1, .vars Y.Shape [.dv (.int .i64 x.link), .dv (.int .i64 x.radius), .dv (dVs x.points)])], 2⟩) (fun c => c ≤ x.points.length ∧ (x.points.take c).all (inV · 4194304) = true) (fun c => x.points.length - c) [] 0 [] ⟨Nat.zero_le _, rfl⟩ ⟨⟨rfl, rfl, rfl, rfl, trivial⟩, ⟨rfl, rfl, trivial⟩⟩ ?_
    rintro c ⟨hc, hall⟩
    (conv => whnf)
    refine ask_m (fun a5 => ?_) (fun a5 => ?_)
    · have hcl : c < x.points.length := by simp at a5; omega
      obtain ⟨p, hp⟩ : ∃ j, x.points[c]? = some j := ⟨_, List.getElem?_eq_getElem hcl⟩
      have hcc : IntKind.i64.wrap ((c : Int) + 1) = ((c + 1 : Nat) : Int) := by rw [w64] <;> omega
      (conv => whnf)
      refine idx_and (by omega) (by simpa using hp) ?_
      (conv => whnf)
      refine call_i (ref_Near p 4194304 (by decide) (by decide)) ?_
      (conv => whnf)
      refine ask_m (fun a6 => ?_) (fun a6 => ?_)
      · have a6 : inV p 4194304 = false := by simpa using a6
        rw [e2 hno (all_not hp a6), if_pos (by decide)]
        (conv => whnf)
        refine ret0 ?_
        exact ret_i rfl rfl
      · have a6 : inV p 4194304 = true := by simpa using a6
        (conv => whnf)
        exact ⟨c + 1, [], ⟨hcl, all_take hall hp a6⟩, by omega, ⟨⟨rfl, rfl, rfl, eqI hcc, trivial⟩, ⟨rfl, rfl, trivial⟩⟩⟩
    · have hc : c = x.points.length := by simp at a5; omega
      subst hc
      rw [List.take_length] at hall
      (conv => whnf)
      exact ⟨k + 1, [], ⟨hlt, e3 hno hall⟩, by omega, ⟨⟨rfl, eqI hkk, trivial⟩, ⟨rfl, trivial⟩⟩⟩
  · have hk : k = s.shapes.length := by simp at h2; omega
    subst hk
    rw [List.drop_length, shapesErr] at hE
    rw [hE, if_neg (by simp)]
    (conv => whnf)
    refine ask_m (fun h3 => ?_) (fun h3 => ?_)
    · have h3 : 64 < s.skips.length := by have := of_decide_eq_true h3; simp only [List.length_map] at this; omega
      rw [if_pos h3]
      (conv => whnf)
      refine ret0 ?_
      exact ret_i rfl rfl
    have h3 : ¬ 64 < s.skips.length := by have := of_decide_eq_false h3; simp only [List.length_map] at this; omega
    rw [if_neg h3]
    (conv => whnf)
    refine loop_intro (fun k : Nat => ⟨[(1, .one (.vptr 0 0)), (7, I k)], [(0, bSc s)], 1⟩) (fun k => k ≤ s.skips.length ∧ (s.skips.take k).all (skipOk s.robot.joints.length) = true) (fun k => s.skips.length - k) [] 0 [] ⟨Nat.zero_le _, rfl⟩ ⟨⟨rfl, rfl, trivial⟩, ⟨rfl, trivial⟩⟩ ?_
    rintro k ⟨hk, hall⟩
    (conv => whnf)
    refine ask_m (fun h4 => ?_) (fun h4 => ?_)
    · have hlt : k < s.skips.length := by simp at h4; omega
      obtain ⟨m, hm'⟩ : ∃ j, s.skips[k]? = some j := ⟨_, List.getElem?_eq_getElem hlt⟩
      have hkk : IntKind.i64.wrap ((k : Int) + 1) = ((k + 1 : Nat) : Int) := by rw [w64] <;> omega
      (conv => whnf)
      refine idx_and (by omega) (by simpa using hm') ?_
      (conv => whnf)
      refine call_i (ref_isLink s.robot m.a) ?_
      (conv => whnf)
      refine ask_m (fun a1 => ?_) (fun a1 => ?_)
      · have a1 : linkOk s.robot.joints.length m.a = false := by simpa using a1
        rw [if_pos (all_not hm' (by simp [skipOk, a1]))]
        (conv => whnf)
        refine ret0 ?_
        exact ret_i rfl rfl
      have a1 : linkOk s.robot.joints.length m.a = true := by simpa using a1
      (conv => whnf)
      refine idx_and (by omega) (by simpa using hm') ?_
      (conv => whnf)
      refine call_i (ref_isLink s.robot m.b) ?_
      (conv => whnf)
      refine ask_m (fun a2 => ?_) (fun a2 => ?_)
      · have a2 : linkOk s.robot.joints.length m.b = false := by simpa using a2
        rw [if_pos (all_not hm' (by simp [skipOk, a2]))]
        (conv => whnf)
        refine ret0 ?_
        exact ret_i rfl rfl
      · have a2 : linkOk s.robot.joints.length m.b = true := by simpa using a2
        (conv => whnf)
        exact ⟨k + 1, [], ⟨hlt, all_take hall hm' (by simp [skipOk, a1, a2])⟩, by omega, ⟨⟨rfl, eqI hkk, trivial⟩, ⟨rfl, trivial⟩⟩⟩
    · have hk : k = s.skips.length := by simp at h4; omega
      subst hk
      rw [List.take_length] at hall
      rw [hall, if_neg (by simp)]
      (conv => whnf)
      refine ret0 ?_
      exact ret_i rfl rfl
end Go.Proofs.Ytgakendcmakndaa
