/- Robots: their check. -/
import Derived.Test.YtgakendcmakndaaCo4
import Derived.Test.YtgakendcmakndaaCo12x
namespace Go.Proofs.Ytgakendcmakndaa
open Eng
set_option maxRecDepth 10000
attribute [local irreducible] FnOk loopW idxF retX arrF

theorem robot_checkJoint (r : Robot) (i : Nat) (j : Joint) (hj : r.joints[i]? = some j) (hl : r.joints.length ≤ 4611686018427387904) : FnOk Try.prog F.robot_checkJoint [Ro r, I i] [] 0 (I (jointErr r.joints i j)) [] 0 := by
  refine fnOk tab mix G.robot_checkJoint rfl rfl (by kernel_rfl) rfl rfl ?_
  have hw : IntKind.i64.wrap (0 - reach j.kind) = - reach j.kind := by
    rcases reach_cases j.kind with h | h | h <;> rw [h] <;> rfl
  have e1 : nameOk j.name = false ∨ find r.joints j.name 0 ≠ i → jointErr r.joints i j = 802 := fun h => by unfold jointErr; rw [if_pos h]
  (conv => whnf)
  refine idx_and (by omega) (by simpa using hj) ?_
  (conv => whnf)
  refine call_i (token_Name j.name) ?_
  (conv => whnf)
  refine ask_m (fun h => ?_) (fun h => ?_)
  · (conv => whnf)
    refine ret0 ?_
    exact ret_i (e1 (.inl (by simpa using h))).symm rfl
  have n1 : nameOk j.name = true := by simpa using h
  (conv => whnf)
  refine call_i (robot_Find r j.name hl) ?_
  (conv => whnf)
  refine ask_m (fun h => ?_) (fun h => ?_)
  · (conv => whnf)
    refine ret0 ?_
    exact ret_i (e1 (.inr (by simpa using h))).symm rfl
  have n2 : find r.joints j.name 0 = i := by simpa using h
  have e2 : jointErr r.joints i j = if j.kind < 0 ∨ 6 < j.kind then 803
      else if j.parent < -1 ∨ (i : Int) ≤ j.parent then 804
      else if inV j.off 4194304 = false then 805
      else if j.hi < j.lo ∨ j.lo < - reach j.kind ∨ reach j.kind < j.hi then 806
      else if (from1 j.weight 1024 && from1 j.speed 1048576 && from1 j.accel 1048576 && from1 j.torque 1099511627776) = false then 807
      else 0 := by unfold jointErr; rw [if_neg (by simp [n1, n2])]
  rw [e2]
  (conv => whnf)
  refine ask_m (fun h => ?_) (fun h => ?_)
  · have h := of_decide_eq_true h
    (conv => whnf)
    refine ret0 ?_
    exact ret_i (by rw [if_pos (.inl h)]) rfl
  have k1 := of_decide_eq_false h
  (conv => whnf)
  refine ask_m (fun h => ?_) (fun h => ?_)
  · have h := of_decide_eq_true h
    (conv => whnf)
    refine ret0 ?_
    exact ret_i (by rw [if_pos (.inr h)]) rfl
  have k2 := of_decide_eq_false h
  rw [if_neg (by omega)]
  (conv => whnf)
  refine ask_m (fun h => ?_) (fun h => ?_)
  · have h := of_decide_eq_true h
    (conv => whnf)
    refine ret0 ?_
    exact ret_i (by rw [if_pos (.inl h)]) rfl
  have p1 := of_decide_eq_false h
  (conv => whnf)
  refine ask_m (fun h => ?_) (fun h => ?_)
  · have h := of_decide_eq_true h
    (conv => whnf)
    refine ret0 ?_
    exact ret_i (by rw [if_pos (.inr h)]) rfl
  have p2 := of_decide_eq_false h
  rw [if_neg (by omega)]
  (conv => whnf)
  refine call_i (robot_beyond j.off) ?_
  (conv => whnf)
  refine ask_m (fun h => ?_) (fun h => ?_)
  · (conv => whnf)
    refine ret0 ?_
    exact ret_i (by rw [if_pos (by simpa using h)]) rfl
  rw [if_neg (by simpa using h)]
  (conv => whnf)
  refine call_i (robot_limit j.kind) ?_
  (conv => whnf)
  refine ask_m (fun h => ?_) (fun h => ?_)
  · have h := of_decide_eq_true h
    (conv => whnf)
    refine ret0 ?_
    exact ret_i (by rw [if_pos (.inl h)]) rfl
  have l1 := of_decide_eq_false h
  (conv => whnf)
  rw [hw]
  refine ask_m (fun h => ?_) (fun h => ?_)
  · have h := of_decide_eq_true h
    (conv => whnf)
    refine ret0 ?_
    exact ret_i (by rw [if_pos (.inr (.inl h))]) rfl
  have l2 := of_decide_eq_false h
  (conv => whnf)
  refine ask_m (fun h => ?_) (fun h => ?_)
  · have h := of_decide_eq_true h
    (conv => whnf)
    refine ret0 ?_
    exact ret_i (by rw [if_pos (.inr (.inr h))]) rfl
  have l3 := of_decide_eq_false h
  rw [if_neg (by rintro (h | h | h) <;> contradiction)]
  (conv => whnf)
  refine call_i (robot_from1 j.weight 1024) ?_
  (conv => whnf)
  refine ask_m (fun h => ?_) (fun h => ?_)
  · (conv => whnf)
    refine ret0 ?_
    exact ret_i (by rw [if_pos (by simp at h; simp [h])]) rfl
  have f1 : from1 j.weight 1024 = true := by simpa using h
  (conv => whnf)
  refine call_i (robot_from1 j.speed 1048576) ?_
  (conv => whnf)
  refine ask_m (fun h => ?_) (fun h => ?_)
  · (conv => whnf)
    refine ret0 ?_
    exact ret_i (by rw [if_pos (by simp at h; simp [h])]) rfl
  have f2 : from1 j.speed 1048576 = true := by simpa using h
  (conv => whnf)
  refine call_i (robot_from1 j.accel 1048576) ?_
  (conv => whnf)
  refine ask_m (fun h => ?_) (fun h => ?_)
  · (conv => whnf)
    refine ret0 ?_
    exact ret_i (by rw [if_pos (by simp at h; simp [h])]) rfl
  have f3 : from1 j.accel 1048576 = true := by simpa using h
  (conv => whnf)
  refine call_i (robot_from1 j.torque 1099511627776) ?_
  (conv => whnf)
  refine ask_m (fun h => ?_) (fun h => ?_)
  · (conv => whnf)
    refine ret0 ?_
    exact ret_i (by rw [if_pos (by simp at h; simp [h])]) rfl
  have f4 : from1 j.torque 1099511627776 = true := by simpa using h
  (conv => whnf)
  refine ret0 ?_
  exact ret_i (by rw [if_neg (by simp [f1, f2, f3, f4])]) rfl
theorem robot_validMass (r : Robot) (m : Mass) : FnOk Try.prog F.robot_validMass [Ro r, Ma m] [] 0 (Bo (massOk r.joints.length m)) [] 0 := by
  refine fnOk tab mix G.robot_validMass rfl rfl (by kernel_rfl) rfl rfl ?_
  repeat' ((conv => whnf); first | refine ask_m (fun h => ?_) (fun h => ?_) | refine ret0 ?_ | refine call_i (robot_from1 m.mass 65536) ?_ | refine call_i (robot_beyond m.point) ?_)
  all_goals exact ret_b (by first | (simp_all [massOk]; done) | (simp_all [massOk]; omega)) rfl
theorem robot_Check_1 (r : Robot) (m : Mass) : FnOk Try.prog F.robot_Check_1 [Ma m, .one (.vptr 0 0)] [(0, bRo r)] 1 (Bo (!massOk r.joints.length m)) [(0, bRo r)] 1 := by
  refine fnOk tab mix G.robot_Check_1 rfl rfl (by kernel_rfl) rfl rfl ?_
  (conv => whnf)
  refine call_i (robot_validMass r m) ?_
  (conv => whnf)
  refine ret0 ?_
  exact ⟨[], ⟨rfl, trivial⟩, ⟨rfl, trivial⟩⟩
/-- the first mass that is not valid -/
def badMass (n : Nat) : List Mass → Nat → Int
  | [], _ => -1
  | m :: ms, k => if massOk n m then badMass n ms (k + 1) else k
theorem badMass_all (n : Nat) : ∀ (ms : List Mass) (k : Nat), decide (0 ≤ badMass n ms k) = !ms.all (massOk n)
  | [], k => by simp [badMass]
  | m :: ms, k => by
    unfold badMass
    split
    · rename_i h; rw [badMass_all n ms (k + 1)]; simp [h]
    · rename_i h; simp [h]
abbrev Fn1 : SV := .one (.fn F.robot_Check_1 [(0, 0)])
theorem masses_IndexFunc (r : Robot) (ms : List Mass) (hl : ms.length ≤ 4611686018427387904) : FnOk Try.prog F.slices_IndexFunc_sapi_Mass_api_Mass [.one (.dv (dMs ms)), Fn1] [(0, bRo r)] 1 (I (badMass r.joints.length ms 0)) [(0, bRo r)] 1 := by
  refine fnOk tab mix G.slices_IndexFunc_sapi_Mass_api_Mass rfl rfl (by kernel_rfl) rfl rfl ?_
  (conv => whnf)
  refine loop_intro (fun k : Nat => ⟨[(0, .one (.dv (dMs ms))), (1, Fn1), (7, I ms.length), (8, I k)], [(0, bRo r)], 1⟩) (fun k => k ≤ ms.length ∧ badMass r.joints.length (ms.drop k) k = badMass r.joints.length ms 0) (fun k => ms.length - k) [] 0 [] ⟨Nat.zero_le _, rfl⟩ ⟨⟨rfl, rfl, eqI (by simp), rfl, trivial⟩, ⟨rfl, trivial⟩⟩ ?_
  rintro k ⟨hk, hf⟩
  (conv => whnf)
  refine ask_m (fun h => ?_) (fun h => ?_)
  · have hlt : k < ms.length := by simpa using h
    obtain ⟨m, hm⟩ : ∃ j, ms[k]? = some j := ⟨_, List.getElem?_eq_getElem hlt⟩
    have hkk : IntKind.i64.wrap ((k : Int) + 1) = ((k + 1 : Nat) : Int) := by rw [w64] <;> omega
    rw [drop_cons hm, badMass] at hf
    (conv => whnf)
    refine idx_and (by omega) (by simpa using hm) ?_
    (conv => whnf)
    refine call_i (robot_Check_1 r m) ?_
    (conv => whnf)
    refine ask_m (fun h => ?_) (fun h => ?_)
    · have h : massOk r.joints.length m = false := by simpa using h
      rw [if_neg (by rw [h]; simp)] at hf
      rw [← hf]
      (conv => whnf)
      refine ret0 ?_
      exact ⟨[], ⟨rfl, trivial⟩, ⟨rfl, trivial⟩⟩
    · have h : massOk r.joints.length m = true := by simpa using h
      rw [if_pos h] at hf
      (conv => whnf)
      exact ⟨k + 1, [], ⟨hlt, hf⟩, by omega, ⟨⟨rfl, rfl, rfl, eqI hkk, trivial⟩, ⟨rfl, trivial⟩⟩⟩
  · have hk : k = ms.length := by simp at h; omega
    subst hk
    rw [List.drop_length, badMass] at hf
    rw [← hf]
    (conv => whnf)
    refine ret0 ?_
    exact ⟨[], ⟨rfl, trivial⟩, ⟨rfl, trivial⟩⟩
theorem masses_ContainsFunc (r : Robot) (ms : List Mass) (hl : ms.length ≤ 4611686018427387904) : FnOk Try.prog F.slices_ContainsFunc_sapi_Mass_api_Mass [.one (.dv (dMs ms)), Fn1] [(0, bRo r)] 1 (Bo (!ms.all (massOk r.joints.length))) [(0, bRo r)] 1 := by
  refine fnOk tab mix G.slices_ContainsFunc_sapi_Mass_api_Mass rfl rfl (by kernel_rfl) rfl rfl ?_
  rw [← badMass_all r.joints.length ms 0]
  (conv => whnf)
  refine call_i (masses_IndexFunc r ms hl) ?_
  (conv => whnf)
  refine ret0 ?_
  exact ⟨[], ⟨rfl, trivial⟩, ⟨rfl, trivial⟩⟩
theorem robot_Check (r : Robot) (hj : r.joints.length ≤ 4611686018427387904) (hm : r.masses.length ≤ 4611686018427387904) : FnOk Try.prog F.robot_Check [Ro r] [] 0 (I (checkRobot r)) [] 0 := by
  refine fnOk tab mix G.robot_Check rfl rfl (by kernel_rfl) rfl rfl ?_
  (conv => whnf)
  refine ask_m (fun h => ?_) (fun h => ?_)
  · have h : r.joints.length = 0 := by simpa using h
    (conv => whnf)
    refine ret0 ?_
    exact ret_i (by unfold checkRobot; rw [if_pos (.inl h)]) rfl
  have h1 : ¬ r.joints.length = 0 := by simpa using h
  (conv => whnf)
  refine ask_m (fun h => ?_) (fun h => ?_)
  · have h : 10 < r.joints.length := by have := of_decide_eq_true h; simp only [List.length_map] at this; omega
    (conv => whnf)
    refine ret0 ?_
    exact ret_i (by unfold checkRobot; rw [if_pos (.inr h)]) rfl
  have h2 : ¬ 10 < r.joints.length := by have := of_decide_eq_false h; simp only [List.length_map] at this; omega
  have e : checkRobot r = if jointsErr r.joints 0 r.joints ≠ 0 then jointsErr r.joints 0 r.joints
    else if 32 < r.masses.length ∨ r.masses.all (massOk r.joints.length) = false then 808 else 0 := by unfold checkRobot; rw [if_neg (by omega)]
  rw [e]
  (conv => whnf)
  refine loop_intro (fun k : Nat => ⟨[(1, .one (.vptr 0 0)), (17, I r.joints.length), (18, I k)], [(0, bRo r)], 1⟩) (fun k => k ≤ r.joints.length ∧ jointsErr r.joints k (r.joints.drop k) = jointsErr r.joints 0 r.joints) (fun k => r.joints.length - k) [] 0 [] ⟨Nat.zero_le _, rfl⟩ ⟨⟨rfl, eqI (by simp), rfl, trivial⟩, ⟨rfl, trivial⟩⟩ ?_
  rintro k ⟨hk, hf⟩
  (conv => whnf)
  refine ask_m (fun h => ?_) (fun h => ?_)
  · have hlt : k < r.joints.length := by simpa using h
    obtain ⟨j, hjk⟩ : ∃ j, r.joints[k]? = some j := ⟨_, List.getElem?_eq_getElem hlt⟩
    have hkk : IntKind.i64.wrap ((k : Int) + 1) = ((k + 1 : Nat) : Int) := by rw [w64] <;> omega
    rw [drop_cons hjk, jointsErr] at hf
    (conv => whnf)
    refine call_i (robot_checkJoint r k j hjk hj) ?_
    (conv => whnf)
    refine ask_m (fun h => ?_) (fun h => ?_)
    · have h : ¬ jointErr r.joints k j = 0 := by simpa using h
      rw [if_neg h] at hf
      (conv => whnf)
      refine ret0 ?_
      exact ret_i (by rw [← hf, if_pos h]) rfl
    · have h : jointErr r.joints k j = 0 := by simpa using h
      rw [if_pos h] at hf
      (conv => whnf)
      exact ⟨k + 1, [], ⟨hlt, hf⟩, by omega, ⟨⟨rfl, rfl, eqI hkk, trivial⟩, ⟨rfl, trivial⟩⟩⟩
  · have hk : k = r.joints.length := by simp at h; omega
    subst hk
    rw [List.drop_length, jointsErr] at hf
    rw [← hf, if_neg (by simp)]
    (conv => whnf)
    refine ask_m (fun h => ?_) (fun h => ?_)
    · have h : 32 < r.masses.length := by have := of_decide_eq_true h; simp only [List.length_map] at this; omega
      (conv => whnf)
      refine ret0 ?_
      exact ret_i (by rw [if_pos (.inl h)]) rfl
    · have h : ¬ 32 < r.masses.length := by have := of_decide_eq_false h; simp only [List.length_map] at this; omega
      (conv => whnf)
      refine call_i (masses_ContainsFunc r r.masses hm) ?_
      (conv => whnf)
      refine ask_m (fun h => ?_) (fun h => ?_)
      · (conv => whnf)
        refine ret0 ?_
        exact ret_i (by rw [if_pos (.inr (by simpa using h))]) rfl
      · (conv => whnf)
        refine ret0 ?_
        rename_i h32 _
        exact ret_i (by rw [if_neg]; rintro (h' | h'); · contradiction
                        · rw [h'] at h; cases h) rfl
end Go.Proofs.Ytgakendcmakndaa
