import Derived.Test.YthdbdokhncaijaaM2
/- Interval kinematics: the walks of the reference's joints, links and points. -/
namespace Go.Proofs.Ythdbdokhncaijaa
open Eng
set_option maxRecDepth 10000
attribute [local irreducible] FnOk loopW idxF retX arrF

def shapeB (s : Shape) : Bool := decide (1 ≤ s.radius) && decide (s.radius ≤ 1048576) && decide (1 ≤ s.points.length) && decide (s.points.length ≤ 8) && s.points.all (inV · 4194304)
theorem ref_CheckShape (s : Shape) (hp : s.points.length ≤ 4611686018427387904) : FnOk Try.prog F.ref10_CheckShape [Sh s] [] 0 (Bo (shapeB s)) [] 0 := by
  refine fnOk tab mix G.ref10_CheckShape rfl rfl (by kernel_rfl) rfl rfl ?_
  (conv => whnf)
  refine ask_m (fun h1 => ?_) (fun h1 => ?_)
  · have h1 := of_decide_eq_true h1
    (conv => whnf)
    refine ret0 ?_
    exact ret_b (by simp [shapeB]; omega) rfl
  have h1 := of_decide_eq_false h1
  (conv => whnf)
  refine ask_m (fun h2 => ?_) (fun h2 => ?_)
  · have h2 := of_decide_eq_true h2
    (conv => whnf)
    refine ret0 ?_
    exact ret_b (by simp [shapeB]; omega) rfl
  have h2 := of_decide_eq_false h2
  (conv => whnf)
  refine ask_m (fun h3 => ?_) (fun h3 => ?_)
  · have h3 := of_decide_eq_true h3
    simp only [List.length_map] at h3
    (conv => whnf)
    refine ret0 ?_
    exact ret_b (by simp [shapeB]; omega) rfl
  have h3 := of_decide_eq_false h3
  simp only [List.length_map] at h3
  (conv => whnf)
  refine ask_m (fun h4 => ?_) (fun h4 => ?_)
  · have h4 := of_decide_eq_true h4
    simp only [List.length_map] at h4
    (conv => whnf)
    refine ret0 ?_
    exact ret_b (by simp [shapeB]; omega) rfl
  have h4 := of_decide_eq_false h4
  simp only [List.length_map] at h4
  have e : shapeB s = s.points.all (inV · 4194304) := by
    rw [shapeB, decide_eq_true (show 1 ≤ s.radius by omega), decide_eq_true (show s.radius ≤ 1048576 by omega), decide_eq_true (show 1 ≤ s.points.length by omega), decide_eq_true (show s.points.length ≤ 8 by omega)]
    simp
  rw [e]
  (conv => whnf)
  refine loop_intro (fun k : Nat => ⟨[(1, .one (.vptr 0 0)), (3, I k)], [(0, .vars Y.Shape [.dv (.int .i64 s.link), .dv (.int .i64 s.radius), .dv (dVs s.points)])], 1⟩) (fun k => k ≤ s.points.length ∧ (s.points.take k).all (inV · 4194304) = true) (fun k => s.points.length - k) [] 0 [] ⟨Nat.zero_le _, rfl⟩ ⟨⟨rfl, rfl, trivial⟩, ⟨rfl, trivial⟩⟩ ?_
  rintro k ⟨hk, hall⟩
  have hkk : IntKind.i64.wrap ((k : Int) + 1) = ((k + 1 : Nat) : Int) := by rw [w64] <;> omega
  (conv => whnf)
  refine ask_m (fun h => ?_) (fun h => ?_)
  · have hlt : k < s.points.length := by have := of_decide_eq_true h; simp only [List.length_map] at this; omega
    obtain ⟨p, hpk⟩ : ∃ j, s.points[k]? = some j := ⟨_, List.getElem?_eq_getElem hlt⟩
    (conv => whnf)
    refine idx_and (by omega) (by simpa using hpk) ?_
    (conv => whnf)
    refine call_i (ref_Near p 4194304 (by decide) (by decide)) ?_
    (conv => whnf)
    refine ask_m (fun h6 => ?_) (fun h6 => ?_)
    · have h6 : inV p 4194304 = false := by simpa using h6
      (conv => whnf)
      refine ret0 ?_
      exact ret_b (all_not (f := (inV · 4194304)) hpk h6).symm rfl
    have h6 : inV p 4194304 = true := by simpa using h6
    (conv => whnf)
    exact ⟨k + 1, [], ⟨hlt, all_take hall hpk h6⟩, by omega, ⟨⟨rfl, eqI hkk, trivial⟩, ⟨rfl, trivial⟩⟩⟩
  · have hk : k = s.points.length := by have := of_decide_eq_false h; simp only [List.length_map] at this; omega
    subst hk
    rw [List.take_length] at hall
    (conv => whnf)
    refine ret0 ?_
    exact ret_b hall.symm rfl
abbrev dIVs (l : List IV) : DV := .lst 6 (l.map encIV)
abbrev dPss (l : List Ps) : DV := .lst 24 (l.map encPs)
theorem ref10_allValid (l : List Ival) (hl : l.length ≤ 4611686018427387904) : FnOk Try.prog F.ref10_allValid [.one (.dv (dIvs l))] [] 0 (Bo (l.all okI)) [] 0 := by
  refine fnOk tab mix G.ref10_allValid rfl rfl (by kernel_rfl) rfl rfl ?_
  (conv => whnf)
  refine loop_intro (fun k : Nat => ⟨[(0, .one (.dv (dIvs l))), (3, I k)], [], 0⟩) (fun k => k ≤ l.length ∧ (l.take k).all okI = true) (fun k => l.length - k) [] 0 [] ⟨Nat.zero_le _, rfl⟩ ⟨⟨rfl, rfl, trivial⟩, trivial⟩ ?_
  rintro k ⟨hk, hall⟩
  have hkk : IntKind.i64.wrap ((k : Int) + 1) = ((k + 1 : Nat) : Int) := by rw [w64] <;> omega
  (conv => whnf)
  refine ask_m (fun hlt => ?_) (fun hlt => ?_)
  · have hlt : k < l.length := by simpa using hlt
    obtain ⟨v, hv⟩ : ∃ j, l[k]? = some j := ⟨_, List.getElem?_eq_getElem hlt⟩
    (conv => whnf)
    refine idx_and (by omega) (by simpa using hv) ?_
    (conv => whnf)
    refine call_i (ref1_Valid v) ?_
    (conv => whnf)
    refine ask_m (fun h => ?_) (fun h => ?_)
    · have h : okI v = false := by simpa using h
      (conv => whnf)
      refine ret0 ?_
      exact ret_b (all_not hv h).symm rfl
    have h : okI v = true := by simpa using h
    (conv => whnf)
    exact ⟨k + 1, [], ⟨hlt, all_take hall hv h⟩, by omega, ⟨⟨rfl, eqI hkk, trivial⟩, trivial⟩⟩
  · have hk : k = l.length := by simp at hlt; omega
    subst hk
    rw [List.take_length] at hall
    (conv => whnf)
    refine ret0 ?_
    exact ret_b hall.symm rfl
theorem ref10_IsBox (r : Robot) (l : List Ival) (hl : l.length ≤ 4611686018427387904) : FnOk Try.prog F.ref10_IsBox [Ro r, .one (.dv (dIvs l))] [] 0 (Bo (isBox r l)) [] 0 := by
  refine fnOk tab mix G.ref10_IsBox rfl rfl (by kernel_rfl) rfl rfl ?_
  (conv => whnf)
  by_cases h : l.length = r.joints.length
  · rw [show (((l.map encIv).length : Int) == ((r.joints.map encJ).length : Int)) = true by simp [h]]
    (conv => whnf)
    refine call_i (ref10_allValid l hl) ?_
    (conv => whnf)
    (conv => whnf)
    refine ret0 ?_
    exact ret_b (by simp [isBox, h]) rfl
  · rw [show (((l.map encIv).length : Int) == ((r.joints.map encJ).length : Int)) = false by simp; omega]
    (conv => whnf)
    (conv => whnf)
    refine ret0 ?_
    exact ret_b (by simp [isBox, h]) rfl
theorem joint_0 (n : ByteArray) (p : Int) (o : Vec) (l1 l2 l3 l4 l5 l6 : Int) (v : Ival) : FnOk Try.prog F.ref10_Joint [Jo ⟨n, 0, p, o, l1, l2, l3, l4, l5, l6⟩, Iv v] [] 0 (IvP (jointP ⟨n, 0, p, o, l1, l2, l3, l4, l5, l6⟩ v)) [] 0 := by
  refine fnOk tab mix G.ref10_Joint rfl rfl (by kernel_rfl) rfl rfl ?_
  (conv => whnf)
  refine call_i (ref1_Rest) ?_
  (conv => whnf)
  refine call_i (ref1_Point o) ?_
  (conv => whnf)
  refine call_i (ref1_Shift (ptV o)) ?_
  (conv => whnf)
  refine call_i (ref1_Compose (shiftP (ptV o)) (moveP 0 v)) ?_
  (conv => whnf)
  (conv => whnf)
  refine ret0 ?_
  exact ⟨[], ⟨rfl, trivial⟩, trivial⟩
theorem joint_1 (n : ByteArray) (p : Int) (o : Vec) (l1 l2 l3 l4 l5 l6 : Int) (v : Ival) : FnOk Try.prog F.ref10_Joint [Jo ⟨n, 1, p, o, l1, l2, l3, l4, l5, l6⟩, Iv v] [] 0 (IvP (jointP ⟨n, 1, p, o, l1, l2, l3, l4, l5, l6⟩ v)) [] 0 := by
  refine fnOk tab mix G.ref10_Joint rfl rfl (by kernel_rfl) rfl rfl ?_
  (conv => whnf)
  refine call_i (ref1_Rest) ?_
  (conv => whnf)
  refine call_i (ref1_TurnPose 0 v) ?_
  (conv => whnf)
  refine call_i (ref1_Point o) ?_
  (conv => whnf)
  refine call_i (ref1_Shift (ptV o)) ?_
  (conv => whnf)
  refine call_i (ref1_Compose (shiftP (ptV o)) (moveP 1 v)) ?_
  (conv => whnf)
  (conv => whnf)
  refine ret0 ?_
  exact ⟨[], ⟨rfl, trivial⟩, trivial⟩
theorem joint_2 (n : ByteArray) (p : Int) (o : Vec) (l1 l2 l3 l4 l5 l6 : Int) (v : Ival) : FnOk Try.prog F.ref10_Joint [Jo ⟨n, 2, p, o, l1, l2, l3, l4, l5, l6⟩, Iv v] [] 0 (IvP (jointP ⟨n, 2, p, o, l1, l2, l3, l4, l5, l6⟩ v)) [] 0 := by
  refine fnOk tab mix G.ref10_Joint rfl rfl (by kernel_rfl) rfl rfl ?_
  (conv => whnf)
  refine call_i (ref1_Rest) ?_
  (conv => whnf)
  refine call_i (ref1_TurnPose 1 v) ?_
  (conv => whnf)
  refine call_i (ref1_Point o) ?_
  (conv => whnf)
  refine call_i (ref1_Shift (ptV o)) ?_
  (conv => whnf)
  refine call_i (ref1_Compose (shiftP (ptV o)) (moveP 2 v)) ?_
  (conv => whnf)
  (conv => whnf)
  refine ret0 ?_
  exact ⟨[], ⟨rfl, trivial⟩, trivial⟩
theorem joint_3 (n : ByteArray) (p : Int) (o : Vec) (l1 l2 l3 l4 l5 l6 : Int) (v : Ival) : FnOk Try.prog F.ref10_Joint [Jo ⟨n, 3, p, o, l1, l2, l3, l4, l5, l6⟩, Iv v] [] 0 (IvP (jointP ⟨n, 3, p, o, l1, l2, l3, l4, l5, l6⟩ v)) [] 0 := by
  refine fnOk tab mix G.ref10_Joint rfl rfl (by kernel_rfl) rfl rfl ?_
  (conv => whnf)
  refine call_i (ref1_Rest) ?_
  (conv => whnf)
  refine call_i (ref1_TurnPose 2 v) ?_
  (conv => whnf)
  refine call_i (ref1_Point o) ?_
  (conv => whnf)
  refine call_i (ref1_Shift (ptV o)) ?_
  (conv => whnf)
  refine call_i (ref1_Compose (shiftP (ptV o)) (moveP 3 v)) ?_
  (conv => whnf)
  (conv => whnf)
  refine ret0 ?_
  exact ⟨[], ⟨rfl, trivial⟩, trivial⟩
theorem joint_4 (n : ByteArray) (p : Int) (o : Vec) (l1 l2 l3 l4 l5 l6 : Int) (v : Ival) : FnOk Try.prog F.ref10_Joint [Jo ⟨n, 4, p, o, l1, l2, l3, l4, l5, l6⟩, Iv v] [] 0 (IvP (jointP ⟨n, 4, p, o, l1, l2, l3, l4, l5, l6⟩ v)) [] 0 := by
  refine fnOk tab mix G.ref10_Joint rfl rfl (by kernel_rfl) rfl rfl ?_
  (conv => whnf)
  refine call_i (ref1_Rest) ?_
  (conv => whnf)
  refine ⟨⟨(show (0 : Int) ≤ IntKind.i64.wrap (4 - 4) by decide), (show IntKind.i64.wrap (4 - 4) < 3 by decide)⟩, ?_⟩
  (conv => whnf)
  refine call_i (ref1_Shift (slideV 4 v)) ?_
  (conv => whnf)
  refine call_i (ref1_Point o) ?_
  (conv => whnf)
  refine call_i (ref1_Shift (ptV o)) ?_
  (conv => whnf)
  refine call_i (ref1_Compose (shiftP (ptV o)) (moveP 4 v)) ?_
  (conv => whnf)
  (conv => whnf)
  refine ret0 ?_
  exact ⟨[], ⟨rfl, trivial⟩, trivial⟩
theorem joint_5 (n : ByteArray) (p : Int) (o : Vec) (l1 l2 l3 l4 l5 l6 : Int) (v : Ival) : FnOk Try.prog F.ref10_Joint [Jo ⟨n, 5, p, o, l1, l2, l3, l4, l5, l6⟩, Iv v] [] 0 (IvP (jointP ⟨n, 5, p, o, l1, l2, l3, l4, l5, l6⟩ v)) [] 0 := by
  refine fnOk tab mix G.ref10_Joint rfl rfl (by kernel_rfl) rfl rfl ?_
  (conv => whnf)
  refine call_i (ref1_Rest) ?_
  (conv => whnf)
  refine ⟨⟨(show (0 : Int) ≤ IntKind.i64.wrap (5 - 4) by decide), (show IntKind.i64.wrap (5 - 4) < 3 by decide)⟩, ?_⟩
  (conv => whnf)
  refine call_i (ref1_Shift (slideV 5 v)) ?_
  (conv => whnf)
  refine call_i (ref1_Point o) ?_
  (conv => whnf)
  refine call_i (ref1_Shift (ptV o)) ?_
  (conv => whnf)
  refine call_i (ref1_Compose (shiftP (ptV o)) (moveP 5 v)) ?_
  (conv => whnf)
  (conv => whnf)
  refine ret0 ?_
  exact ⟨[], ⟨rfl, trivial⟩, trivial⟩
theorem joint_6 (n : ByteArray) (p : Int) (o : Vec) (l1 l2 l3 l4 l5 l6 : Int) (v : Ival) : FnOk Try.prog F.ref10_Joint [Jo ⟨n, 6, p, o, l1, l2, l3, l4, l5, l6⟩, Iv v] [] 0 (IvP (jointP ⟨n, 6, p, o, l1, l2, l3, l4, l5, l6⟩ v)) [] 0 := by
  refine fnOk tab mix G.ref10_Joint rfl rfl (by kernel_rfl) rfl rfl ?_
  (conv => whnf)
  refine call_i (ref1_Rest) ?_
  (conv => whnf)
  refine ⟨⟨(show (0 : Int) ≤ IntKind.i64.wrap (6 - 4) by decide), (show IntKind.i64.wrap (6 - 4) < 3 by decide)⟩, ?_⟩
  (conv => whnf)
  refine call_i (ref1_Shift (slideV 6 v)) ?_
  (conv => whnf)
  refine call_i (ref1_Point o) ?_
  (conv => whnf)
  refine call_i (ref1_Shift (ptV o)) ?_
  (conv => whnf)
  refine call_i (ref1_Compose (shiftP (ptV o)) (moveP 6 v)) ?_
  (conv => whnf)
  (conv => whnf)
  refine ret0 ?_
  exact ⟨[], ⟨rfl, trivial⟩, trivial⟩
theorem ref10_Joint (j : Joint) (v : Ival) (hk : 0 ≤ j.kind ∧ j.kind ≤ 6) : FnOk Try.prog F.ref10_Joint [Jo j, Iv v] [] 0 (IvP (jointP j v)) [] 0 := by
  obtain ⟨n, k, p, o, l1, l2, l3, l4, l5, l6⟩ := j
  simp only at hk
  obtain rfl | rfl | rfl | rfl | rfl | rfl | rfl : k = 0 ∨ k = 1 ∨ k = 2 ∨ k = 3 ∨ k = 4 ∨ k = 5 ∨ k = 6 := by omega
  · exact joint_0 n p o l1 l2 l3 l4 l5 l6 v
  · exact joint_1 n p o l1 l2 l3 l4 l5 l6 v
  · exact joint_2 n p o l1 l2 l3 l4 l5 l6 v
  · exact joint_3 n p o l1 l2 l3 l4 l5 l6 v
  · exact joint_4 n p o l1 l2 l3 l4 l5 l6 v
  · exact joint_5 n p o l1 l2 l3 l4 l5 l6 v
  · exact joint_6 n p o l1 l2 l3 l4 l5 l6 v
theorem linksTo_len (js : List Joint) (box : List Ival) : ∀ k, (linksTo js box k).length = k
  | 0 => rfl
  | k + 1 => by rw [linksTo, List.length_append, linksTo_len js box k]; rfl
theorem linksTo_next {js : List Joint} {box : List Ival} {k : Nat} {j : Joint} {v : Ival} (hj : js[k]? = some j) (hv : box[k]? = some v) : linksTo js box (k + 1) = linksTo js box k ++ [linkP (linksTo js box k) j v] := by
  rw [linksTo, getD_at hj, getD_at hv]
set_option maxHeartbeats 1000000 in
theorem ref10_Links (r : Robot) (box : List Ival) (hc : checkRobot r = 0) (hb : isBox r box = true) : FnOk Try.prog F.ref10_Links [Ro r, .one (.dv (dIvs box))] [] 0 (.one (.dv (dPss (linksTo r.joints box box.length)))) [] 0 := by
  obtain ⟨f1, f2, f3, _⟩ := robot_facts hc
  have hbl : box.length = r.joints.length := by
    unfold isBox at hb; simp only [Bool.and_eq_true, decide_eq_true_eq] at hb; exact hb.1
  refine fnOk tab mix G.ref10_Links rfl rfl (by kernel_rfl) rfl rfl ?_
  (conv => whnf)
  refine call_i (ref_CheckRobot r (by omega) (by omega)) ?_
  (conv => whnf)
  rw [hc]
  (conv => whnf)
  refine call_i (ref10_IsBox r box (by omega)) ?_
  (conv => whnf)
  rw [hb]
  (conv => whnf)
  refine loop_intro (fun k : Nat => ⟨[(1, .one (.dv (dIvs box))), (2, .one (.vptr 0 0)), (5, .one (.row 1)), (6, I k)], [(0, bRo r), (1, .rows Y.Pose 24 ((linksTo r.joints box k).map encPs))], 2⟩) (fun k => k ≤ box.length) (fun k => box.length - k) [.own 5 Y.Pose 24] 0 [] (Nat.zero_le _) ⟨⟨rfl, rfl, rfl, rfl, trivial⟩, ⟨rfl, rfl, trivial⟩⟩ ?_
  rintro k hk
  have hkk : IntKind.i64.wrap ((k : Int) + 1) = ((k + 1 : Nat) : Int) := by rw [w64] <;> omega
  have hll := linksTo_len r.joints box k
  (conv => whnf)
  refine ask_m (fun hlt => ?_) (fun hlt => ?_)
  · have hlt : k < box.length := by simpa using hlt
    obtain ⟨v, hv⟩ : ∃ j, box[k]? = some j := ⟨_, List.getElem?_eq_getElem hlt⟩
    obtain ⟨j, hj⟩ : ∃ j, r.joints[k]? = some j := ⟨_, List.getElem?_eq_getElem (by omega)⟩
    obtain ⟨_, b1, b2, _⟩ := f2 k j hj
    have hn := linksTo_next hj hv
    (conv => whnf)
    refine idx_and (by omega) (by simpa using hj) ?_
    (conv => whnf)
    refine idx_and (by omega) (by simpa using hv) ?_
    (conv => whnf)
    refine call_i (ref10_Joint j v b1) ?_
    (conv => whnf)
    refine idx_and (by omega) (by simpa using hj) ?_
    (conv => whnf)
    refine ask_m (fun hp => ?_) (fun hp => ?_)
    · have hp : ¬ j.parent = -1 := by simpa using hp
      obtain ⟨p, hpp⟩ : ∃ p : Nat, j.parent = p := ⟨j.parent.toNat, by omega⟩
      obtain ⟨q, hq⟩ : ∃ q, (linksTo r.joints box k)[p]? = some q := ⟨_, List.getElem?_eq_getElem (by omega)⟩
      have e : linkP (linksTo r.joints box k) j v = comP q (jointP j v) := by
        rw [linkP, if_neg hp, hpp, Int.toNat_natCast, getD_at hq]
      rw [e] at hn
      (conv => whnf)
      refine idx_and (by omega) (by simpa using hj) ?_
      (conv => whnf)
      refine ⟨⟨by omega, by rw [List.length_map]; omega⟩, ?_⟩
      (conv => whnf)
      refine idx_map (x := q) (by rw [hpp, Int.toNat_natCast]; exact hq) ?_
      (conv => whnf)
      refine call_i (ref1_Compose q (jointP j v)) ?_
      (conv => whnf)
      refine ⟨⟨by simp [hll]; omega, by simp [hll]; omega⟩, ?_⟩
      (conv => whnf)
      exact ⟨k + 1, [(1, 4)], hlt, by omega, ⟨⟨rfl, rfl, rfl, eqI hkk, trivial⟩, ⟨rfl, rows_eq (by rw [hn, List.map_append]; rfl), trivial⟩⟩⟩
    · have hp : j.parent = -1 := by simpa using hp
      have e : linkP (linksTo r.joints box k) j v = jointP j v := by rw [linkP, if_pos hp]
      rw [e] at hn
      (conv => whnf)
      refine ⟨⟨by simp [hll]; omega, by simp [hll]; omega⟩, ?_⟩
      (conv => whnf)
      exact ⟨k + 1, [(1, 4)], hlt, by omega, ⟨⟨rfl, rfl, rfl, eqI hkk, trivial⟩, ⟨rfl, rows_eq (by rw [hn, List.map_append]; rfl), trivial⟩⟩⟩
  · have hk : k = box.length := by simp at hlt; omega
    subst hk
    (conv => whnf)
    refine retO [.frz 1] ?_
    (conv => whnf)
    exact ⟨[], ⟨rfl, trivial⟩, trivial⟩
theorem ref10_Place (x : Shape) (p : Ps) (hx : shapeB x = true) : FnOk Try.prog F.ref10_Place [Sh x, IvP p] [] 0 (.one (.dv (dIVs (placeOf p x)))) [] 0 := by
  have hpl : x.points.length ≤ 8 := by
    simp only [shapeB, Bool.and_eq_true, decide_eq_true_eq] at hx; exact hx.1.2
  refine fnOk tab mix G.ref10_Place rfl rfl (by kernel_rfl) rfl rfl ?_
  (conv => whnf)
  refine call_i (ref_CheckShape x (by omega)) ?_
  (conv => whnf)
  rw [hx]
  (conv => whnf)
  refine loop_intro (fun k : Nat => ⟨[(2, .one (.vptr 0 0)), (3, .one (.vptr 1 0)), (5, .one (.row 2)), (6, I k)], [(0, .vars Y.Shape [.dv (.int .i64 x.link), .dv (.int .i64 x.radius), .dv (dVs x.points)]), (1, .vars Y.Pose (c24 p)), (2, .rows Y.IVec 6 (((x.points.take k).map fun v => appP p (ptV v)).map encIV))], 3⟩) (fun k => k ≤ x.points.length) (fun k => x.points.length - k) [.own 5 Y.IVec 6] 0 [] (Nat.zero_le _) ⟨⟨rfl, rfl, rfl, rfl, trivial⟩, ⟨rfl, rfl, rfl, trivial⟩⟩ ?_
  rintro k hk
  have hkk : IntKind.i64.wrap ((k : Int) + 1) = ((k + 1 : Nat) : Int) := by rw [w64] <;> omega
  (conv => whnf)
  refine ask_m (fun hlt => ?_) (fun hlt => ?_)
  · have hlt : k < x.points.length := by simpa using hlt
    obtain ⟨v, hv⟩ : ∃ j, x.points[k]? = some j := ⟨_, List.getElem?_eq_getElem hlt⟩
    have hn : (x.points.take (k + 1)).map (fun v => appP p (ptV v)) = (x.points.take k).map (fun v => appP p (ptV v)) ++ [appP p (ptV v)] := map_take1 _ hv
    (conv => whnf)
    refine idx_and (by omega) (by simpa using hv) ?_
    (conv => whnf)
    refine call_i (ref1_Point v) ?_
    (conv => whnf)
    refine call_i (ref1_Apply p (ptV v)) ?_
    (conv => whnf)
    refine ⟨⟨by simp; omega, by simp; omega⟩, ?_⟩
    (conv => whnf)
    exact ⟨k + 1, [(2, 4)], hlt, by omega, ⟨⟨rfl, rfl, rfl, eqI hkk, trivial⟩, ⟨rfl, rfl, rows_eq (by rw [hn, List.map_append]; rfl), trivial⟩⟩⟩
  · have hk : k = x.points.length := by simp at hlt; omega
    subst hk
    rw [List.take_length]
    (conv => whnf)
    refine retO [.frz 2] ?_
    (conv => whnf)
    exact ⟨[], ⟨rfl, trivial⟩, trivial⟩
def encP1 (l : List IV) : List DV := [dIVs l]
abbrev dPtss (l : List (List IV)) : DV := .lst 1 (l.map encP1)
theorem scene_shapeB {s : Scene} (hc : checkScene s = 0) {x : Shape} (hx : x ∈ s.shapes) : shapeB x = true := by
  obtain ⟨_, h1, h2, ⟨h3, h4⟩, h5⟩ := (scene_facts hc).2.2.1 x hx
  simp only [shapeB, Bool.and_eq_true, decide_eq_true_eq, List.all_eq_true]
  exact ⟨⟨⟨⟨h3, h4⟩, h1⟩, h2⟩, h5⟩
set_option maxHeartbeats 1000000 in
theorem ref10_Points (s : Scene) (box : List Ival) (hc : checkScene s = 0) (hb : isBox s.robot box = true) : FnOk Try.prog F.ref10_Points [Sc s, .one (.dv (dIvs box))] [] 0 (.one (.dv (dPtss (pointsOf s box)))) [] 0 := by
  have hcs := scene_facts hc
  obtain ⟨f1, f2, f3, _⟩ := robot_facts hcs.1
  have hbl : box.length = s.robot.joints.length := by
    unfold isBox at hb; simp only [Bool.and_eq_true, decide_eq_true_eq] at hb; exact hb.1
  have hL := linksTo_len s.robot.joints box box.length
  rw [pointsOf, if_pos ⟨hc, hb⟩]
  refine fnOk tab mix G.ref10_Points rfl rfl (by kernel_rfl) rfl rfl ?_
  (conv => whnf)
  refine call_i (ref_CheckScene s (ok_small hc)) ?_
  (conv => whnf)
  rw [hc]
  (conv => whnf)
  refine call_i (ref10_IsBox s.robot box (by omega)) ?_
  (conv => whnf)
  rw [hb]
  (conv => whnf)
  refine call_i (ref10_Links s.robot box hcs.1 hb) ?_
  (conv => whnf)
  generalize linksTo s.robot.joints box box.length = L at *
  refine loop_intro (fun k : Nat => ⟨[(2, .one (.vptr 0 0)), (5, .one (.dv (dPss L))), (6, .one (.row 1)), (7, I k)], [(0, bSc s), (1, .rows Y.s_IVec 1 (((s.shapes.take k).map fun x => placeOf (shapeP L x) x).map encP1))], 2⟩) (fun k => k ≤ s.shapes.length) (fun k => s.shapes.length - k) [.own 6 Y.s_IVec 1] 0 [] (Nat.zero_le _) ⟨⟨rfl, rfl, rfl, rfl, trivial⟩, ⟨rfl, rfl, trivial⟩⟩ ?_
  rintro k hk
  have hkk : IntKind.i64.wrap ((k : Int) + 1) = ((k + 1 : Nat) : Int) := by rw [w64] <;> omega
  (conv => whnf)
  refine ask_m (fun hlt => ?_) (fun hlt => ?_)
  · have hlt : k < s.shapes.length := by simpa using hlt
    obtain ⟨x, hx⟩ : ∃ j, s.shapes[k]? = some j := ⟨_, List.getElem?_eq_getElem hlt⟩
    have hxm := List.mem_of_getElem? hx
    have hxb := scene_shapeB hc hxm
    have hxl := link_bd (hcs.2.2.1 x hxm).1
    have hn : (s.shapes.take (k + 1)).map (fun x => placeOf (shapeP L x) x) = (s.shapes.take k).map (fun x => placeOf (shapeP L x) x) ++ [placeOf (shapeP L x) x] := map_take1 _ hx
    (conv => whnf)
    refine call_i (ref1_Rest) ?_
    (conv => whnf)
    refine idx_and (by omega) (by simpa using hx) ?_
    (conv => whnf)
    refine ask_m (fun hp => ?_) (fun hp => ?_)
    · have hp : ¬ x.link = -1 := by simpa using hp
      obtain ⟨p, hpp⟩ : ∃ p : Nat, x.link = p := ⟨x.link.toNat, by omega⟩
      obtain ⟨q, hq⟩ : ∃ q, L[p]? = some q := ⟨_, List.getElem?_eq_getElem (by omega)⟩
      have e : shapeP L x = q := by rw [shapeP, if_neg hp, hpp, Int.toNat_natCast, getD_at hq]
      rw [e] at hn
      (conv => whnf)
      refine idx_and (by omega) (by simpa using hx) ?_
      (conv => whnf)
      refine idx_and (by omega) (x := q) (by rw [hpp, Int.toNat_natCast]; simpa using hq) ?_
      (conv => whnf)
      refine idx_and (by omega) (by simpa using hx) ?_
      (conv => whnf)
      refine call_i (ref10_Place x q hxb) ?_
      (conv => whnf)
      refine ⟨⟨by simp; omega, by simp; omega⟩, ?_⟩
      (conv => whnf)
      exact ⟨k + 1, [(1, 4)], hlt, by omega, ⟨⟨rfl, rfl, rfl, eqI hkk, trivial⟩, ⟨rfl, rows_eq (by rw [hn, List.map_append]; rfl), trivial⟩⟩⟩
    · have hp : x.link = -1 := by simpa using hp
      have e : shapeP L x = restP := by rw [shapeP, if_pos hp]
      rw [e] at hn
      (conv => whnf)
      refine idx_and (by omega) (by simpa using hx) ?_
      (conv => whnf)
      refine call_i (ref10_Place x restP hxb) ?_
      (conv => whnf)
      refine ⟨⟨by simp; omega, by simp; omega⟩, ?_⟩
      (conv => whnf)
      exact ⟨k + 1, [(1, 4)], hlt, by omega, ⟨⟨rfl, rfl, rfl, eqI hkk, trivial⟩, ⟨rfl, rows_eq (by rw [hn, List.map_append]; rfl), trivial⟩⟩⟩
  · have hk : k = s.shapes.length := by simp at hlt; omega
    subst hk
    rw [List.take_length]
    (conv => whnf)
    refine retO [.frz 1] ?_
    (conv => whnf)
    exact ⟨[], ⟨rfl, trivial⟩, trivial⟩
end Go.Proofs.Ythdbdokhncaijaa

/- mk.Box. -/
namespace Go.Proofs.Ythdbdokhncaijaa
open Eng
set_option maxRecDepth 10000
attribute [local irreducible] FnOk loopW idxF retX arrF

def bxW (l : List Int) (q : Nat) (d : Int) : Int := if nxt l (q + 1) 5 = 0 then d else if nxt l (q + 1) 5 = 1 ∨ nxt l (q + 1) 5 = 2 then nxt l (q + 1 + 1) 3000 else if nxt l (q + 1) 5 = 3 then nxt l (q + 1 + 1) 200 else 0
def bxV (l : List Int) (q : Nat) (j : Joint) : Ival := ⟨j.lo + nxt l q (j.hi - j.lo + 1), min j.hi (j.lo + nxt l q (j.hi - j.lo + 1) + bxW l q (j.hi - j.lo))⟩
def bxN (l : List Int) (q : Nat) : Nat := if nxt l (q + 1) 5 = 1 ∨ nxt l (q + 1) 5 = 2 ∨ nxt l (q + 1) 5 = 3 then q + 1 + 1 + 1 else q + 1 + 1
def bxP (l : List Int) : Nat → Nat
  | 0 => 0
  | k + 1 => bxN l (bxP l k)
def bxTo (js : List Joint) (l : List Int) : Nat → List Ival
  | 0 => []
  | k + 1 => bxTo js l k ++ (js[k]?.toList.map (bxV l (bxP l k)))
def bxs (r : Robot) (l : List Int) : List Ival := bxTo r.joints l r.joints.length
theorem bxTo_len (js : List Joint) (l : List Int) : ∀ k, k ≤ js.length → (bxTo js l k).length = k
  | 0, _ => rfl
  | k + 1, h => by
    rw [bxTo, List.length_append, bxTo_len js l k (by omega), List.getElem?_eq_getElem (by omega)]; rfl
theorem bxs_len (r : Robot) (l : List Int) : (bxs r l).length = r.joints.length := bxTo_len _ _ _ (Nat.le_refl _)
theorem bxW_bd (l : List Int) (q : Nat) {d : Int} (hd : 0 ≤ d) : 0 ≤ bxW l q d ∧ bxW l q d ≤ max d 3000 := by
  have h1 := nxt_bd (l := l) (j := q + 1 + 1) (m := 3000) (by omega)
  have h2 := nxt_bd (l := l) (j := q + 1 + 1) (m := 200) (by omega)
  unfold bxW
  split
  · omega
  · split
    · omega
    · split <;> omega
theorem bxV_in (l : List Int) (q : Nat) {j : Joint} (h : j.lo ≤ j.hi) : j.lo ≤ (bxV l q j).lo ∧ (bxV l q j).lo ≤ (bxV l q j).hi ∧ (bxV l q j).hi ≤ j.hi := by
  have h1 := nxt_bd (l := l) (j := q) (m := j.hi - j.lo + 1) (by omega)
  have h2 := bxW_bd l q (d := j.hi - j.lo) (by omega)
  simp only [bxV]; omega
theorem bxTo_at (js : List Joint) (l : List Int) : ∀ (k : Nat), k ≤ js.length → ∀ (i : Nat) (v : Ival), (bxTo js l k)[i]? = some v → ∃ (j : Joint) (q : Nat), js[i]? = some j ∧ v = bxV l q j
  | 0, _, i, v, hv => by simp [bxTo] at hv
  | k + 1, hk, i, v, hv => by
    have hl := bxTo_len js l k (by omega)
    obtain ⟨j, hj⟩ : ∃ j, js[k]? = some j := ⟨_, List.getElem?_eq_getElem (by omega)⟩
    rw [bxTo, hj] at hv
    rcases Nat.lt_or_ge i k with h | h
    · rw [List.getElem?_append_left (by omega)] at hv
      exact bxTo_at js l k (by omega) i v hv
    · rw [List.getElem?_append_right (by omega), hl] at hv
      have : i - k = 0 := by
        rcases Nat.eq_zero_or_pos (i - k) with h0 | h0
        · exact h0
        · rw [List.getElem?_eq_none (by simp; omega)] at hv; cases hv
      rw [this] at hv
      have e : i = k := by omega
      subst e
      simp at hv
      exact ⟨j, _, hj, hv.symm⟩
theorem bxs_at {r : Robot} (hr : checkRobot r = 0) (l : List Int) {i : Nat} {v : Ival} (hv : (bxs r l)[i]? = some v) : ∃ j, r.joints[i]? = some j ∧ j.lo ≤ v.lo ∧ v.lo ≤ v.hi ∧ v.hi ≤ j.hi := by
  obtain ⟨j, q, hj, rfl⟩ := bxTo_at r.joints l _ (Nat.le_refl _) i v hv
  exact ⟨j, hj, bxV_in l q (limits hr hj).1⟩
set_option maxHeartbeats 1000000 in
theorem mk_Box (r : Robot) (l : List Int) (hr : checkRobot r = 0) (hl : l.length ≤ 4611686018427387904) : FnOk Try.prog F.mk_Box [Ro r, Li l] [] 0 (.one (.dv (dIvs (bxs r l)))) [] 0 := by
  have h10 := (robot_facts hr).1
  refine fnOk tab mix G.mk_Box rfl rfl (by kernel_rfl) rfl rfl ?_
  (conv => whnf)
  refine call_i (mk_From l) ?_
  (conv => whnf)
  refine loop_intro (fun k : Nat => ⟨[(2, .one (.vptr 0 0)), (5, .one (.vptr 1 0)), (6, .one (.row 2)), (7, I k)], [(0, bRo r), (1, SrcJ l (bxP l k)), (2, .rows Y.Interval 2 ((bxTo r.joints l k).map encIv))], 3⟩) (fun k => k ≤ r.joints.length) (fun k => r.joints.length - k) [.own 6 Y.Interval 2] 0 [] (Nat.zero_le _) ⟨⟨rfl, rfl, rfl, rfl, trivial⟩, ⟨rfl, rfl, rfl, trivial⟩⟩ ?_
  rintro k hk
  have hkk : IntKind.i64.wrap ((k : Int) + 1) = ((k + 1 : Nat) : Int) := by rw [w64] <;> omega
  have hlen := bxTo_len r.joints l k hk
  (conv => whnf)
  refine ask_m (fun hlt => ?_) (fun hlt => ?_)
  · have hlt : k < r.joints.length := by simpa using hlt
    obtain ⟨j, hj⟩ : ∃ j, r.joints[k]? = some j := ⟨_, List.getElem?_eq_getElem hlt⟩
    obtain ⟨l1, l2, l3⟩ := limits hr hj
    have hn : bxTo r.joints l (k + 1) = bxTo r.joints l k ++ [bxV l (bxP l k) j] := by rw [bxTo, hj]; rfl
    have hp : bxP l (k + 1) = bxN l (bxP l k) := rfl
    generalize bxTo r.joints l k = xs at *
    generalize bxP l k = q at *
    have e1 : IntKind.i64.wrap (IntKind.i64.wrap (j.hi - j.lo) + 1) = j.hi - j.lo + 1 := by rw [w64 (x := j.hi - j.lo) (by omega) (by omega), w64] <;> omega
    have nb := nxt_bd (l := l) (j := q) (m := j.hi - j.lo + 1) (by omega)
    have nw := bxW_bd l q (d := j.hi - j.lo) (by omega)
    have hv : bxV l q j = ⟨ww (j.lo + nxt l q (j.hi - j.lo + 1)), min j.hi (ww (ww (j.lo + nxt l q (j.hi - j.lo + 1)) + bxW l q (ww (j.hi - j.lo))))⟩ := by
      rw [ww_id (x := j.hi - j.lo) (by unfold rg; omega), ww_id (x := j.lo + nxt l q (j.hi - j.lo + 1)) (by unfold rg; omega), ww_id (by unfold rg; omega), bxV]
    have n5 := nxt_bd (l := l) (j := q + 1) (m := 5) (by omega)
    (conv => whnf)
    refine idx_and (by omega) (by simpa using hj) ?_
    (conv => whnf)
    refine idx_and (by omega) (by simpa using hj) ?_
    (conv => whnf)
    rw [e1]
    refine call_i (mk_Next l q (j.hi - j.lo + 1) (by omega) (by omega) hl) ?_
    (conv => whnf)
    refine call_i (mk_Next l (q + 1) 5 (by decide) (by decide) hl) ?_
    (conv => whnf)
    have h5 : nxt l (q + 1) 5 = 0 ∨ nxt l (q + 1) 5 = 1 ∨ nxt l (q + 1) 5 = 2 ∨ nxt l (q + 1) 5 = 3 ∨ nxt l (q + 1) 5 = 4 := by omega
    rcases h5 with h5 | h5 | h5 | h5 | h5
    · rw [h5]
      (conv => whnf)
      refine ⟨⟨by simp; omega, by simp; omega⟩, ?_⟩
      (conv => whnf)
      exact ⟨k + 1, [(2, 4)], hlt, by omega, ⟨⟨rfl, rfl, rfl, eqI hkk, trivial⟩, ⟨rfl, by rw [hp, bxN, h5]; rfl, rows_eq (by rw [hn, hv, bxW, h5, List.map_append]; rfl), trivial⟩⟩⟩
    · rw [h5]
      (conv => whnf)
      refine call_i (mk_Next l (q + 1 + 1) 3000 (by decide) (by decide) hl) ?_
      (conv => whnf)
      refine ⟨⟨by simp; omega, by simp; omega⟩, ?_⟩
      (conv => whnf)
      exact ⟨k + 1, [(2, 4)], hlt, by omega, ⟨⟨rfl, rfl, rfl, eqI hkk, trivial⟩, ⟨rfl, by rw [hp, bxN, h5]; rfl, rows_eq (by rw [hn, hv, bxW, h5, List.map_append]; rfl), trivial⟩⟩⟩
    · rw [h5]
      (conv => whnf)
      refine call_i (mk_Next l (q + 1 + 1) 3000 (by decide) (by decide) hl) ?_
      (conv => whnf)
      refine ⟨⟨by simp; omega, by simp; omega⟩, ?_⟩
      (conv => whnf)
      exact ⟨k + 1, [(2, 4)], hlt, by omega, ⟨⟨rfl, rfl, rfl, eqI hkk, trivial⟩, ⟨rfl, by rw [hp, bxN, h5]; rfl, rows_eq (by rw [hn, hv, bxW, h5, List.map_append]; rfl), trivial⟩⟩⟩
    · rw [h5]
      (conv => whnf)
      refine call_i (mk_Next l (q + 1 + 1) 200 (by decide) (by decide) hl) ?_
      (conv => whnf)
      refine ⟨⟨by simp; omega, by simp; omega⟩, ?_⟩
      (conv => whnf)
      exact ⟨k + 1, [(2, 4)], hlt, by omega, ⟨⟨rfl, rfl, rfl, eqI hkk, trivial⟩, ⟨rfl, by rw [hp, bxN, h5]; rfl, rows_eq (by rw [hn, hv, bxW, h5, List.map_append]; rfl), trivial⟩⟩⟩
    · rw [h5]
      (conv => whnf)
      refine ⟨⟨by simp; omega, by simp; omega⟩, ?_⟩
      (conv => whnf)
      exact ⟨k + 1, [(2, 4)], hlt, by omega, ⟨⟨rfl, rfl, rfl, eqI hkk, trivial⟩, ⟨rfl, by rw [hp, bxN, h5]; rfl, rows_eq (by rw [hn, hv, bxW, h5, List.map_append]; rfl), trivial⟩⟩⟩
  · have hk : k = r.joints.length := by simp at hlt; omega
    subst hk
    (conv => whnf)
    refine retO [.frz 2] ?_
    (conv => whnf)
    exact ⟨[], ⟨rfl, trivial⟩, trivial⟩
end Go.Proofs.Ythdbdokhncaijaa

/- The points of the shapes of a scene, in the joined scene: translated by the base. No program in sight. -/
namespace Go.Proofs.Ythdbdokhncaijaa
open Eng
set_option maxRecDepth 10000

def mvP (p : Ps) (d : Vec) : Ps := ⟨p.r, mvV p.t d⟩
abbrev j0 : Joint := ⟨⟨#[]⟩, 0, 0, ⟨0, 0, 0⟩, 0, 0, 0, 0, 0, 0⟩
theorem linksTo_at (js : List Joint) (box : List Ival) : ∀ (k i : Nat), i < k → (linksTo js box k)[i]? = some (linkP (linksTo js box i) (js.getD i j0) (box.getD i i0))
  | 0, i, h => by omega
  | k + 1, i, h => by
    have hl := linksTo_len js box k
    rw [linksTo]
    rcases Nat.lt_or_ge i k with h1 | h1
    · rw [List.getElem?_append_left (by omega)]; exact linksTo_at js box k i h1
    · have e : i = k := by omega
      subst e
      rw [List.getElem?_append_right (by omega), hl, Nat.sub_self]; rfl
theorem inI_mv {v : Ival} {M d D : Int} (h : inI v M) (hd : -D ≤ d ∧ d ≤ D) : inI (mvI v d) (M + D) := by unfold inI mvI at *; simp only; omega
theorem inV3_mv {v : IV} {M D : Int} {d : Vec} (h : inV3 v M) (hd : nrV d D) : inV3 (mvV v d) (M + D) := ⟨inI_mv h.1 hd.1, inI_mv h.2.1 hd.2.1, inI_mv h.2.2 hd.2.2⟩
theorem v0_in {M : Int} (h : 0 ≤ M) : inV3 v0 M := by unfold inV3 inI v0 i0; simp only; omega
theorem slideV_in {k : Int} {v : Ival} {M : Int} (h : inI v M) : inV3 (slideV k v) M := by
  have h0 := inI_pos h
  have z : inI i0 M := by unfold inI i0; simp only; omega
  unfold slideV inV3
  refine ⟨?_, ?_, ?_⟩ <;> simp only <;> split <;> assumption
/-- the translation of a joint -/
theorem moveP_in {k : Int} {v : Ival} (hv : k = 4 ∨ k = 5 ∨ k = 6 → inI v 4194304) : inV3 (moveP k v).t 4194304 := by
  unfold moveP
  split
  · exact v0_in (by decide)
  · split
    · rename_i h; exact slideV_in (hv h)
    · exact v0_in (by decide)
theorem jointP_t {j : Joint} {v : Ival} (hv : j.kind = 4 ∨ j.kind = 5 ∨ j.kind = 6 → inI v 4194304) : (jointP j v).t = sumV (ptV j.off) (moveP j.kind v).t := by
  show sumV (ptV j.off) (appM unitM (moveP j.kind v).t) = _
  rw [appM_unit (inV3_mono (moveP_in hv) (by decide))]
theorem jointP_in {j : Joint} {v : Ival} (hv : j.kind = 4 ∨ j.kind = 5 ∨ j.kind = 6 → inI v 4194304) (ho : nrV j.off 4194304) : inV3 (jointP j v).t 8388608 := by
  rw [jointP_t hv]; exact sumV_in (ptV_in ho (by decide)) (moveP_in hv) (by decide)
theorem sumV_mv' {a b : IV} {M N : Int} {d : Vec} (ha : inV3 a M) (hd : nrV d 1048576) (hb : inV3 b N) (h : M + N + 1048576 ≤ 2147483648) : sumV (mvV a d) b = mvV (sumV a b) d :=
  sumV_mv ha (inV3_mv ha hd) hb (by omega) (by omega)
/-- how far link number i can be -/
abbrev far (i : Nat) : Int := 8388608 + 25165824 * i
/-- a valid joint with a value within its limits -/
def jOk (i : Nat) (j : Joint) (v : Ival) : Prop := (-1 ≤ j.parent ∧ j.parent < (i : Int)) ∧ nrV j.off 4194304 ∧ (j.kind = 4 ∨ j.kind = 5 ∨ j.kind = 6 → inI v 4194304)
theorem links_in {js : List Joint} {box : List Ival} (hn : js.length ≤ 10) (hj : ∀ (i : Nat) j, js[i]? = some j → jOk i j (box.getD i i0)) : ∀ (n i : Nat), i < n → i < js.length → tiM (linkP (linksTo js box i) (js.getD i j0) (box.getD i i0)).r ∧ inV3 (linkP (linksTo js box i) (js.getD i j0) (box.getD i i0)).t (far i)
  | 0, i, h, _ => by omega
  | n + 1, i, h, hi => by
    obtain ⟨j, hji⟩ : ∃ j, js[i]? = some j := ⟨_, List.getElem?_eq_getElem hi⟩
    obtain ⟨⟨p1, p2⟩, ho, hv⟩ := hj i j hji
    rw [getD_at hji, linkP]
    split
    · exact ⟨comP_ti _ _, inV3_mono (jointP_in hv ho) (by unfold far; omega)⟩
    · rename_i hp
      refine ⟨comP_ti _ _, ?_⟩
      obtain ⟨q, hq⟩ : ∃ q : Nat, j.parent = q := ⟨j.parent.toNat, by omega⟩
      have hqi : q < i := by omega
      have e := linksTo_at js box i q hqi
      obtain ⟨i1, i2⟩ := links_in hn hj n q (by omega) (by omega)
      rw [hq, Int.toNat_natCast, getD_at e]
      exact inV3_mono (sumV_in i2 (appM_in i1 (jointP_in hv ho) (by decide)) (by unfold far; omega)) (by unfold far; omega)
theorem links_mv {js Js : List Joint} {box Box : List Ival} {c : Nat} {d : Vec} (hd : nrV d 1048576) (hn : js.length ≤ 10) (hj : ∀ (i : Nat) j, js[i]? = some j → jOk i j (box.getD i i0))
    (hbox : ∀ i, i < js.length → Box.getD (c + i) i0 = box.getD i i0)
    (hJ : ∀ (i : Nat) j, js[i]? = some j → ∃ J : Joint, Js[c + i]? = some J ∧ J.kind = j.kind ∧ J.parent = (if j.parent = -1 then -1 else j.parent + c) ∧ J.off = (if j.parent = -1 then adV j.off d else j.off) ∧ nrV J.off 4194304) :
    ∀ (n i : Nat), i < n → i < js.length → linkP (linksTo Js Box (c + i)) (Js.getD (c + i) j0) (Box.getD (c + i) i0) = mvP (linkP (linksTo js box i) (js.getD i j0) (box.getD i i0)) d
  | 0, i, h, _ => by omega
  | n + 1, i, h, hi => by
    obtain ⟨j, hji⟩ : ∃ j, js[i]? = some j := ⟨_, List.getElem?_eq_getElem hi⟩
    obtain ⟨⟨p1, p2⟩, ho, hv⟩ := hj i j hji
    obtain ⟨J, hJi, hJk, hJp, hJo, hJn⟩ := hJ i j hji
    rw [getD_at hji, getD_at hJi, hbox i hi, linkP, linkP]
    by_cases hp : j.parent = -1
    · rw [if_pos hp] at hJp hJo
      rw [if_pos hp, if_pos hJp]
      show (⟨_, _⟩ : Ps) = ⟨_, _⟩
      have hvJ : J.kind = 4 ∨ J.kind = 5 ∨ J.kind = 6 → inI (box.getD i i0) 4194304 := by rw [hJk]; exact hv
      have e1 := jointP_t hv
      have e2 := jointP_t hvJ
      have e3 : (jointP J (box.getD i i0)).r = (jointP j (box.getD i i0)).r := by
        show comM unitM (moveP J.kind _).r = comM unitM (moveP j.kind _).r
        rw [hJk]
      have e4 : (jointP J (box.getD i i0)).t = mvV (jointP j (box.getD i i0)).t d := by
        rw [e1, e2, hJk, hJo]
        rw [hJo] at hJn
        rw [ptV_mv ho (by decide) hJn (by decide)]
        exact sumV_mv' (ptV_in ho (by decide)) hd (moveP_in hv) (by decide)
      show jointP J (box.getD i i0) = mvP (jointP j (box.getD i i0)) d
      generalize jointP J (box.getD i i0) = A at *
      generalize jointP j (box.getD i i0) = B at *
      cases A; cases B; simp only at e3 e4; subst e3 e4; rfl
    · rw [if_neg hp] at hJp hJo
      rw [if_neg hp, if_neg (by omega)]
      obtain ⟨q, hq⟩ : ∃ q : Nat, j.parent = q := ⟨j.parent.toNat, by omega⟩
      have hqi : q < i := by omega
      have e := linksTo_at js box i q hqi
      have E := linksTo_at Js Box (c + i) (c + q) (by omega)
      have ih := links_mv hd hn hj hbox hJ n q (by omega) (by omega)
      obtain ⟨i1, i2⟩ := links_in hn hj (q + 1) q (by omega) (by omega)
      have eJ : jointP J (box.getD i i0) = jointP j (box.getD i i0) := by unfold jointP; rw [hJk, hJo]
      rw [hJp, hq, show ((q : Int) + (c : Int)).toNat = c + q by omega, Int.toNat_natCast, getD_at e, getD_at E, ih, eJ]
      generalize linkP (linksTo js box q) (js.getD q j0) (box.getD q i0) = A at *
      show (⟨_, _⟩ : Ps) = ⟨_, _⟩
      have := sumV_mv' (d := d) i2 hd (appM_in i1 (jointP_in hv ho) (by decide)) (by unfold far; omega)
      show (⟨comM A.r (jointP j (box.getD i i0)).r, sumV (mvV A.t d) (appM A.r (jointP j (box.getD i i0)).t)⟩ : Ps) = ⟨comM A.r (jointP j (box.getD i i0)).r, mvV (sumV A.t (appM A.r (jointP j (box.getD i i0)).t)) d⟩
      rw [this]
theorem rest_pt {v : Vec} (h : nrV v 4194304) : appP restP (ptV v) = ptV v := by
  have hin := ptV_in h (by decide)
  show sumV v0 (appM unitM (ptV v)) = _
  rw [appM_unit (inV3_mono hin (by decide))]
  obtain ⟨h1, h2, h3⟩ := inV3_mono hin (show (4194304 : Int) ≤ 2147483648 by decide)
  generalize ptV v = w at *
  cases w
  simp only [sumV, v0, (addI_zero h1).2, (addI_zero h2).2, (addI_zero h3).2]
end Go.Proofs.Ythdbdokhncaijaa

/- The points of a joined scene are those of its scenes, translated. No program in sight. -/
namespace Go.Proofs.Ythdbdokhncaijaa
open Eng
set_option maxRecDepth 10000

/-- the boxes of the first scenes, one after the other -/
def bxCat (x : List Scene) (o : List Int) (k : Nat) : List Ival := ((List.range k).map fun i => bxs (x.getD i emptyS).robot o).flatten
theorem bxCat_succ {x : List Scene} {o : List Int} {k : Nat} {s : Scene} (h : x[k]? = some s) : bxCat x o (k + 1) = bxCat x o k ++ bxs s.robot o := by
  rw [bxCat, List.range_succ, List.map_append, List.flatten_append, List.map_singleton, getD_at h]; simp [bxCat]
theorem bxCat_len {x : List Scene} {o : List Int} : ∀ k, k ≤ x.length → (bxCat x o k).length = cnt x k
  | 0, _ => rfl
  | k + 1, h => by
    obtain ⟨s, hs⟩ : ∃ s, x[k]? = some s := ⟨_, List.getElem?_eq_getElem (by omega)⟩
    rw [bxCat_succ hs, List.length_append, bxCat_len k (by omega), bxs_len, cnt_succ hs]
theorem bxCat_pre {x : List Scene} {o : List Int} (k : Nat) : ∀ d, k + d ≤ x.length → ∃ r, bxCat x o (k + d) = bxCat x o k ++ r
  | 0, _ => ⟨[], by simp⟩
  | d + 1, h => by
    obtain ⟨r, hr⟩ := bxCat_pre (x := x) (o := o) k d (by omega)
    obtain ⟨s, hs⟩ : ∃ s, x[k + d]? = some s := ⟨_, List.getElem?_eq_getElem (by omega)⟩
    rw [← Nat.add_assoc, bxCat_succ hs, hr, List.append_assoc]
    exact ⟨_, rfl⟩
theorem bxCat_split {x : List Scene} {o : List Int} {c : Nat} {s : Scene} (hs : x[c]? = some s) : ∃ r, bxCat x o x.length = bxCat x o c ++ bxs s.robot o ++ r := by
  have hc := (List.getElem?_eq_some_iff.1 hs).1
  obtain ⟨r, hr⟩ := bxCat_pre (x := x) (o := o) (c + 1) (x.length - (c + 1)) (by omega)
  rw [show c + 1 + (x.length - (c + 1)) = x.length by omega, bxCat_succ hs] at hr
  exact ⟨r, hr⟩
theorem bxCat_part {x : List Scene} {o : List Int} {c : Nat} {s : Scene} (hs : x[c]? = some s) : partOf x (bxCat x o x.length) (c : Int) = (bxs s.robot o, true) := by
  have hc := (List.getElem?_eq_some_iff.1 hs).1
  obtain ⟨r, hr⟩ := bxCat_split (o := o) hs
  have h1 := bxCat_len (x := x) (o := o) c (by omega)
  have h2 := bxs_len s.robot o
  have h3 := cnt_succ hs
  rw [partOf, if_neg (by omega), if_neg (by rw [bxCat_len _ (Nat.le_refl _)]; simp), Int.toNat_natCast, hr]
  congr 1
  rw [List.take_append_of_le_length (by rw [List.length_append]; omega), List.take_of_length_le (by rw [List.length_append]; omega), ← h1, List.drop_left]
theorem bxCat_at {x : List Scene} {o : List Int} {c : Nat} {s : Scene} (hs : x[c]? = some s) {i : Nat} (hi : i < s.robot.joints.length) : (bxCat x o x.length).getD (cnt x c + i) i0 = (bxs s.robot o).getD i i0 := by
  have hc := (List.getElem?_eq_some_iff.1 hs).1
  obtain ⟨r, hr⟩ := bxCat_split (o := o) hs
  have h1 := bxCat_len (x := x) (o := o) c (by omega)
  have h2 := bxs_len s.robot o
  rw [hr, List.getD_eq_getElem?_getD, List.getD_eq_getElem?_getD, List.append_assoc, List.getElem?_append_right (by omega), List.getElem?_append_left (by omega), h1, Nat.add_sub_cancel_left]
theorem bxs_in {r : Robot} (hr : checkRobot r = 0) (o : List Int) : ∀ v ∈ bxs r o, inI v 4194304 := fun v hv => by
  obtain ⟨i, hi⟩ := List.getElem?_of_mem hv
  obtain ⟨j, hj, h1, h2, h3⟩ := bxs_at hr o hi
  obtain ⟨l1, l2, l3⟩ := limits hr hj
  unfold inI; omega
theorem bxCat_in {x : List Scene} (hx : ∀ s ∈ x, checkScene s = 0) (o : List Int) : ∀ k, k ≤ x.length → ∀ v ∈ bxCat x o k, inI v 4194304
  | 0, _, v, hv => by cases hv
  | k + 1, h, v, hv => by
    obtain ⟨s, hs⟩ : ∃ s, x[k]? = some s := ⟨_, List.getElem?_eq_getElem (by omega)⟩
    rw [bxCat_succ hs] at hv
    rcases List.mem_append.1 hv with hv | hv
    · exact bxCat_in hx o k (by omega) v hv
    · exact bxs_in (scene_facts (hx s (List.mem_of_getElem? hs))).1 o v hv
theorem box_all {l : List Ival} (h : ∀ v ∈ l, inI v 4194304) : l.all okI = true := List.all_eq_true.2 fun v hv => okI_iff.2 (inI_mono (h v hv) (by decide))
theorem isBox_own {s : Scene} (hc : checkScene s = 0) (o : List Int) : isBox s.robot (bxs s.robot o) = true := by
  unfold isBox; rw [bxs_len, box_all (bxs_in (scene_facts hc).1 o)]; simp
theorem isBox_all {x : List Scene} {bs : List Vec} (ho : Ok x bs) (o : List Int) : isBox (joinTo x bs x.length).robot (bxCat x o x.length) = true := by
  unfold isBox
  rw [bxCat_len _ (Nat.le_refl _), (join_len bs x.length (Nat.le_refl _)).1, box_all (bxCat_in ho.each o _ (Nat.le_refl _))]; simp
theorem addV_ad {b v : Vec} (hb : nrV b 1048576) (hv : nrV v 4194304) : addV b v = adV v b := by
  unfold nrV at hb hv
  unfold addV adV
  rw [ww_id (by unfold rg; omega), ww_id (by unfold rg; omega), ww_id (by unfold rg; omega)]
theorem pointsOf_at {s : Scene} {box : List Ival} (hc : checkScene s = 0) (hb : isBox s.robot box = true) {i : Nat} {x : Shape} (hx : s.shapes[i]? = some x) : (pointsOf s box)[i]? = some (placeOf (shapeP (linksTo s.robot.joints box box.length) x) x) := by
  rw [pointsOf, if_pos ⟨hc, hb⟩, List.getElem?_map, hx]; rfl
theorem pointsOf_len {s : Scene} {box : List Ival} (hc : checkScene s = 0) (hb : isBox s.robot box = true) : (pointsOf s box).length = s.shapes.length := by
  rw [pointsOf, if_pos ⟨hc, hb⟩, List.length_map]
theorem own_jOk {r : Robot} (hr : checkRobot r = 0) (o : List Int) : ∀ (i : Nat) j, r.joints[i]? = some j → jOk i j ((bxs r o).getD i i0) := fun i j hj => by
  have hi := (List.getElem?_eq_some_iff.1 hj).1
  obtain ⟨_, b1, b2, b3, _⟩ := (robot_facts hr).2.1 i j hj
  obtain ⟨v, hv⟩ : ∃ v, (bxs r o)[i]? = some v := ⟨_, List.getElem?_eq_getElem (by rw [bxs_len]; exact hi)⟩
  rw [getD_at hv]
  exact ⟨b2, inV_iff.1 b3, fun _ => bxs_in hr o v (List.mem_of_getElem? hv)⟩
theorem pts_mv {x : List Scene} {bs : List Vec} (ho : Ok x bs) (o : List Int) {c : Nat} {s : Scene} {d : Vec} (hs : x[c]? = some s) (hd : bs.getD c ⟨0, 0, 0⟩ = d) (hdn : nrV d 1048576) {i : Nat} {sh : Shape} (hsh : s.shapes[i]? = some sh) :
    ∃ pts, (pointsOf s (bxs s.robot o))[i]? = some pts ∧ (pointsOf (joinTo x bs x.length) (bxCat x o x.length))[nSh x c + i]? = some (pts.map (mvV · d)) ∧ pts.length = sh.points.length ∧ ∀ p ∈ pts, inV3 p 268435456 := by
  have hc := ho.each s (List.mem_of_getElem? hs)
  have hcl := (List.getElem?_eq_some_iff.1 hs).1
  have hsf := scene_facts hc
  obtain ⟨f1, _⟩ := robot_facts hsf.1
  have hJf := scene_facts ho.all
  obtain ⟨hatJ, hatS⟩ := join_at bs hs
  rw [hd] at hatJ hatS
  have hj := own_jOk hsf.1 o
  have hJ : ∀ (i : Nat) j, s.robot.joints[i]? = some j → ∃ J : Joint, (joinTo x bs x.length).robot.joints[cnt x c + i]? = some J ∧ J.kind = j.kind ∧ J.parent = (if j.parent = -1 then -1 else j.parent + cnt x c) ∧ J.off = (if j.parent = -1 then adV j.off d else j.off) ∧ nrV J.off 4194304 := fun i j hji => by
    have h1 := hatJ i j hji
    obtain ⟨_, _, _, b3, _⟩ := (robot_facts hJf.1).2.1 _ _ h1
    refine ⟨_, h1, rfl, rfl, ?_, inV_iff.1 b3⟩
    show joinV d j.off j.parent = _
    unfold joinV; rw [addV_ad hdn (hj i j hji).2.1]
  have hbx := fun i hi => bxCat_at (o := o) hs (i := i) hi
  have hpp := pointsOf_at hc (isBox_own hc o) hsh
  have hPP := pointsOf_at ho.all (isBox_all ho o) (hatS i sh hsh)
  obtain ⟨xl, _, _, _, xp⟩ := hsf.2.2.1 sh (List.mem_of_getElem? hsh)
  obtain ⟨_, _, _, _, XP⟩ := hJf.2.2.1 _ (List.mem_of_getElem? (hatS i sh hsh))
  have xl := link_bd xl
  have elen : (bxs s.robot o).length = s.robot.joints.length := bxs_len _ _
  have eLen : (bxCat x o x.length).length = cnt x x.length := bxCat_len _ (Nat.le_refl _)
  have hcc := cnt_succ hs
  have hcm := cnt_mono x (show c + 1 ≤ x.length by omega)
  refine ⟨_, hpp, ?_, by simp [placeOf], fun p hp => ?_⟩
  · rw [hPP]
    congr 1
    show (sh.points.map fun v => joinV d v sh.link).map _ = _
    rw [placeOf, List.map_map, List.map_map]
    refine List.map_congr_left fun v hv => ?_
    have hv1 := inV_iff.1 (xp v hv)
    show appP (shapeP _ (joinSh (cnt x c) d sh)) (ptV (joinV d v sh.link)) = mvV (appP (shapeP _ sh) (ptV v)) d
    have eL : (joinSh (cnt x c) d sh).link = raise (cnt x c) sh.link := rfl
    unfold shapeP
    by_cases hl : sh.link = -1
    · have hv2 : nrV (adV v d) 4194304 := by
        have := XP (joinV d v sh.link) (List.mem_map.2 ⟨v, hv, rfl⟩)
        rw [joinV, if_pos hl, addV_ad hdn hv1] at this
        exact inV_iff.1 this
      rw [if_pos hl, eL, raise, if_pos hl, if_pos rfl, joinV, if_pos hl, addV_ad hdn hv1, rest_pt hv1, rest_pt hv2, ptV_mv hv1 (by decide) hv2 (by decide)]
    · obtain ⟨q, hq⟩ : ∃ q : Nat, sh.link = q := ⟨sh.link.toNat, by omega⟩
      have e := linksTo_at s.robot.joints (bxs s.robot o) (bxs s.robot o).length q (by omega)
      have E := linksTo_at (joinTo x bs x.length).robot.joints (bxCat x o x.length) (bxCat x o x.length).length (cnt x c + q) (by omega)
      have hm := links_mv hdn f1 hj hbx hJ (q + 1) q (by omega) (by omega)
      obtain ⟨i1, i2⟩ := links_in f1 hj (q + 1) q (by omega) (by omega)
      rw [if_neg hl, eL, raise, if_neg hl, if_neg (by omega), joinV, if_neg hl, hq, show ((q : Int) + (cnt x c : Int)).toNat = cnt x c + q by omega, Int.toNat_natCast, getD_at e, getD_at E, hm]
      generalize linkP (linksTo s.robot.joints (bxs s.robot o) q) (s.robot.joints.getD q j0) ((bxs s.robot o).getD q i0) = A at *
      exact sumV_mv' i2 hdn (appM_in i1 (ptV_in hv1 (by decide)) (by decide)) (by unfold far; omega)
  · rw [placeOf] at hp
    obtain ⟨v, hv, rfl⟩ := List.mem_map.1 hp
    have hv1 := inV_iff.1 (xp v hv)
    unfold shapeP
    split
    · rw [rest_pt hv1]; exact inV3_mono (ptV_in hv1 (by decide)) (by decide)
    · obtain ⟨q, hq⟩ : ∃ q : Nat, sh.link = q := ⟨sh.link.toNat, by omega⟩
      have e := linksTo_at s.robot.joints (bxs s.robot o) (bxs s.robot o).length q (by omega)
      obtain ⟨i1, i2⟩ := links_in f1 hj (q + 1) q (by omega) (by omega)
      rw [hq, Int.toNat_natCast, getD_at e]
      exact inV3_mono (sumV_in i2 (appM_in i1 (ptV_in hv1 (by decide)) (by decide)) (by unfold far; omega)) (by unfold far; omega)
theorem bs_near {l : List Int} {c : Nat} (h : c < (bssOf l).length) : nrV ((bssOf l).getD c ⟨0, 0, 0⟩) 1048576 := by
  obtain ⟨b, hb⟩ : ∃ b, (bssOf l)[c]? = some b := ⟨_, List.getElem?_eq_getElem h⟩
  rw [getD_at hb]
  have hm := List.mem_of_getElem? hb
  simp only [bssOf, bssTo, List.mem_map] at hm
  obtain ⟨i, _, rfl⟩ := hm
  have h1 := nxt_bd (l := l) (j := 1 + 4 * i + 1) (m := 19) (by omega)
  have h2 := nxt_bd (l := l) (j := 1 + 4 * i + 2) (m := 19) (by omega)
  have h3 := nxt_bd (l := l) (j := 1 + 4 * i + 3) (m := 7) (by omega)
  unfold nrV bsAt; simp only; omega
end Go.Proofs.Ythdbdokhncaijaa

/- law35: the numbers of a part's pairs. -/
namespace Go.Proofs.Ythdbdokhncaijaa
open Eng
set_option maxRecDepth 10000
attribute [local irreducible] FnOk loopW idxF retX arrF

theorem mk_Same_int (a b : List Int) (ha : a.length ≤ 4611686018427387904) (hb : b.length ≤ 4611686018427387904) : FnOk Try.prog F.mk_Same_int [.one (.dv (.lst 1 (a.map encI))), .one (.dv (.lst 1 (b.map encI)))] [] 0 (Bo (decide (a = b))) [] 0 := by
  refine fnOk tab mix G.mk_Same_int rfl rfl (by kernel_rfl) rfl rfl ?_
  (conv => whnf)
  refine ask_m (fun h => ?_) (fun h => ?_)
  · (conv => whnf)
    refine ret0 ?_
    refine ret_b (Eq.symm (decide_eq_false ?_)) rfl
    rintro rfl
    simp at h
  have hl : a.length = b.length := by simp at h; omega
  (conv => whnf)
  refine loop_intro (fun k : Nat => ⟨[(0, .one (.dv (.lst 1 (a.map encI)))), (1, .one (.dv (.lst 1 (b.map encI)))), (5, I k)], [], 0⟩) (fun k => k ≤ a.length ∧ a.take k = b.take k) (fun k => a.length - k) [] 0 [] ⟨Nat.zero_le _, rfl⟩ ⟨⟨rfl, rfl, rfl, trivial⟩, trivial⟩ ?_
  rintro k ⟨hk, hall⟩
  (conv => whnf)
  refine ask_m (fun h => ?_) (fun h => ?_)
  · have hlt : k < a.length := by simpa using h
    obtain ⟨x, hx⟩ : ∃ j, a[k]? = some j := ⟨_, List.getElem?_eq_getElem hlt⟩
    obtain ⟨y, hy⟩ : ∃ j, b[k]? = some j := ⟨_, List.getElem?_eq_getElem (by omega)⟩
    have hkk : IntKind.i64.wrap ((k : Int) + 1) = ((k + 1 : Nat) : Int) := by rw [w64] <;> omega
    (conv => whnf)
    refine idx_and (by omega) (by simpa using hx) ?_
    (conv => whnf)
    refine idx_and (by omega) (by simpa using hy) ?_
    (conv => whnf)
    refine ask_m (fun h => ?_) (fun h => ?_)
    · (conv => whnf)
      refine ret0 ?_
      refine ret_b (Eq.symm (decide_eq_false (ne_at hx hy ?_))) rfl
      rintro rfl
      simp at h
    · skip
      have e : x = y := by simpa using h
      subst e
      (conv => whnf)
      exact ⟨k + 1, [], ⟨hlt, take_same hall hx hy⟩, by omega, ⟨⟨rfl, rfl, eqI hkk, trivial⟩, trivial⟩⟩
  · have hk : k = a.length := by simp at h; omega
    subst hk
    rw [List.take_length, hl, List.take_length] at hall
    (conv => whnf)
    refine ret0 ?_
    exact ret_b (decide_eq_true hall).symm rfl

abbrev dPas (l : List Pair) : DV := .lst 2 (l.map encPa)
theorem cmp_Pair : cmpB Try.prog 8 Y.Pair = true ∧ Try.prog.eqGuardType Try.prog.depth Y.Pair = false := ⟨by kernel_rfl, by kernel_rfl⟩
theorem slices_Index (l : List Pair) (q : Pair) (hl : l.length ≤ 4611686018427387904) : FnOk Try.prog F.slices_Index_sapi_Pair_api_Pair [.one (.dv (dPas l)), .agg [.dv (.int .i64 q.a), .dv (.int .i64 q.b)]] [] 0 (I (idxP q l 0)) [] 0 := by
  refine fnOk tab mix G.slices_Index_sapi_Pair_api_Pair rfl rfl (by kernel_rfl) rfl rfl ?_
  (conv => whnf)
  refine loop_intro (fun k : Nat => ⟨[(0, .one (.dv (dPas l))), (3, .one (.vptr 0 0)), (7, I l.length), (8, I k)], [(0, .vars Y.Pair [.dv (.int .i64 q.a), .dv (.int .i64 q.b)])], 1⟩) (fun k => k ≤ l.length ∧ idxP q (l.drop k) k = idxP q l 0) (fun k => l.length - k) [] 0 [] ⟨Nat.zero_le _, rfl⟩ ⟨⟨rfl, rfl, eqI (by simp), rfl, trivial⟩, ⟨rfl, trivial⟩⟩ ?_
  rintro k ⟨hk, hf⟩
  have hkk : IntKind.i64.wrap ((k : Int) + 1) = ((k + 1 : Nat) : Int) := by rw [w64] <;> omega
  (conv => whnf)
  refine ask_m (fun hlt => ?_) (fun hlt => ?_)
  · have hlt : k < l.length := by have := of_decide_eq_true hlt; omega
    obtain ⟨x, hx⟩ : ∃ x, l[k]? = some x := ⟨_, List.getElem?_eq_getElem hlt⟩
    rw [drop_cons hx, idxP] at hf
    (conv => whnf)
    refine idx_and (by omega) (by simpa using hx) ?_
    (conv => whnf)
    refine ⟨cmp_Pair, ?_⟩
    (conv => whnf)
    refine ask_m (fun h => ?_) (fun h => ?_)
    · have e : x = q := by
        obtain ⟨a1, a2⟩ := x
        obtain ⟨b1, b2⟩ := q
        simp at h; simp [h]
      rw [if_pos e] at hf
      (conv => whnf)
      refine ret0 ?_
      exact ret_i hf rfl
    · have e : ¬ x = q := by rintro rfl; simp at h
      rw [if_neg e] at hf
      (conv => whnf)
      exact ⟨k + 1, [], ⟨hlt, hf⟩, by omega, ⟨⟨rfl, rfl, rfl, eqI hkk, trivial⟩, ⟨rfl, trivial⟩⟩⟩
  · have hk : k = l.length := by have := of_decide_eq_false hlt; omega
    subst hk
    rw [List.drop_length, idxP] at hf
    (conv => whnf)
    refine ret0 ?_
    exact ret_i hf rfl
theorem team_inner (l : List Scene) (P : List Pair) (k : Nat) (s : Scene) (hl : l.length ≤ 1000) (hs : l[k]? = some s) (hok : ∀ s ∈ l, checkScene s = 0) (hP : P.length ≤ 1000) : FnOk Try.prog F.team_inner [.one (.dv (dScs l)), .one (.dv (dPas P)), I k] [] 0 (Li ((pairs s).map fun q => idxP (up (nSh l k) q) P 0)) [] 0 := by
  have hk : k < l.length := (List.getElem?_eq_some_iff.1 hs).1
  have hbd := nSh_bd hok
  have hsm : small s := by
    have h0 := hok s (List.mem_of_getElem? hs)
    obtain ⟨f1, f2, f3, f4, _⟩ := scene_facts h0
    obtain ⟨r1, r2, _⟩ := robot_facts f1
    exact ⟨by omega, by omega, by omega, by omega, fun x hx => by have := (f3 x hx).2.2.1; omega⟩
  refine fnOk tab mix G.team_inner rfl rfl (by kernel_rfl) rfl rfl ?_
  (conv => whnf)
  refine ⟨⟨by omega, by simp only [List.length_map]; omega⟩, ?_⟩
  (conv => whnf)
  have et : List.drop 0 (List.take (k : Int).toNat (List.map encSc l)) = (l.take k).map encSc := by rw [Int.toNat_natCast, List.map_take]; rfl
  have el : (((l.take k).map encSc).length : Int) = (k : Int) := by rw [List.length_map, List.length_take]; omega
  rw [et]
  refine loop_intro (fun i : Nat => ⟨[(0, .one (.dv (dScs l))), (1, .one (.dv (dPas P))), (2, I k), (7, I (nSh l i)), (15, .one (.dv (dScs (l.take k)))), (16, I k), (17, I i)], [], 0⟩) (fun i => i ≤ k) (fun i => k - i) [] 0 [] (Nat.zero_le _) ⟨⟨rfl, rfl, rfl, rfl, rfl, eqI el, rfl, trivial⟩, trivial⟩ ?_
  rintro i hi
  have hii : IntKind.i64.wrap ((i : Int) + 1) = ((i + 1 : Nat) : Int) := by rw [w64] <;> omega
  have hb1 := hbd i (by omega)
  (conv => whnf)
  refine ask_m (fun hlt => ?_) (fun hlt => ?_)
  · have hlt : i < k := by have := of_decide_eq_true hlt; omega
    obtain ⟨x, hx⟩ : ∃ x, l[i]? = some x := ⟨_, List.getElem?_eq_getElem (by omega)⟩
    have hx' : (l.take k)[i]? = some x := by rw [List.getElem?_take_of_lt hlt]; exact hx
    have hb2 := hbd (i + 1) (by omega)
    have hn := nSh_succ hx
    (conv => whnf)
    refine idx_and (by omega) (by simpa using hx') ?_
    (conv => whnf)
    refine ⟨i + 1, [], hlt, by omega, ⟨⟨rfl, rfl, rfl, eqI ?_, rfl, rfl, eqI hii, trivial⟩, trivial⟩⟩
    rw [List.length_map, w64] <;> omega
  · have hi : i = k := by have := of_decide_eq_false hlt; omega
    subst hi
    have hpf := pairs_few s
    have hub := fun q => up_bd (hok s (List.mem_of_getElem? hs)) (q := q)
    (conv => whnf)
    refine idx_and (by omega) (by simpa using hs) ?_
    (conv => whnf)
    refine call_i (scene_Pairs s hsm) ?_
    (conv => whnf)
    generalize pairs s = Q at *
    refine loop_intro (fun j : Nat => ⟨[(1, .one (.dv (dPas P))), (7, I (nSh l i)), (10, .one (.row 1)), (31, .one (.row 0)), (32, I Q.length), (33, I j)], [(0, bPa Q), (1, .rows Y.int 1 (((Q.take j).map fun q => idxP (up (nSh l i) q) P 0).map encI))], 2⟩) (fun j => j ≤ Q.length) (fun j => Q.length - j) [.own 10 Y.int 1] 0 [] (Nat.zero_le _) ⟨⟨rfl, rfl, rfl, rfl, eqI (by simp), rfl, trivial⟩, ⟨rfl, rfl, trivial⟩⟩ ?_
    rintro j hj
    have hjj : IntKind.i64.wrap ((j : Int) + 1) = ((j + 1 : Nat) : Int) := by rw [w64] <;> omega
    (conv => whnf)
    refine ask_m (fun hjl => ?_) (fun hjl => ?_)
    · have hjl : j < Q.length := by have := of_decide_eq_true hjl; omega
      obtain ⟨q, hq⟩ : ∃ x, Q[j]? = some x := ⟨_, List.getElem?_eq_getElem hjl⟩
      obtain ⟨u1, u2, u3, u4⟩ := hub q (List.mem_of_getElem? hq)
      have e1 : IntKind.i64.wrap (q.a + (nSh l i : Int)) = q.a + nSh l i := by rw [w64] <;> omega
      have e2 : IntKind.i64.wrap (q.b + (nSh l i : Int)) = q.b + nSh l i := by rw [w64] <;> omega
      (conv => whnf)
      refine ⟨⟨by omega, by simp only [List.length_map]; omega⟩, ?_⟩
      (conv => whnf)
      refine idx_map (x := q) (by simpa using hq) ?_
      (conv => whnf)
      rw [e1, e2]
      refine call_i (slices_Index P (up (nSh l i) q) (by omega)) ?_
      (conv => whnf)
      refine ⟨⟨by simp; omega, by simp; omega⟩, ?_⟩
      (conv => whnf)
      refine ⟨j + 1, [(1, 4)], hjl, by omega, ⟨⟨rfl, rfl, rfl, rfl, rfl, eqI hjj, trivial⟩, ⟨rfl, rows_eq ?_, trivial⟩⟩⟩
      rw [List.take_add_one, hq]; simp [encI]
    · have hj : j = Q.length := by have := of_decide_eq_false hjl; omega
      subst hj
      rw [List.take_length]
      (conv => whnf)
      refine retO [.frz 1] ?_
      (conv => whnf)
      exact ⟨[], ⟨rfl, trivial⟩, trivial⟩
end Go.Proofs.Ythdbdokhncaijaa

/- law35: Inner. -/
namespace Go.Proofs.Ythdbdokhncaijaa
open Eng
set_option maxRecDepth 10000
attribute [local irreducible] FnOk loopW idxF retX arrF

abbrev InR (r : List Int × Bool) : SV := .tup [(false, [.dv (.lst 1 (r.1.map encI))]), (false, [.dv (.bool r.2)])]
theorem team_Inner (l : List Scene) (bs : List Vec) (k : Int) (hl : l.length ≤ 1000) (hb : bs.length ≤ 4611686018427387904) (hsm : ∀ s ∈ l, small s) : FnOk Try.prog F.team_Inner [.one (.dv (dScs l)), .one (.dv (dVs bs)), I k] [] 0 (InR (innerOf l bs k)) [] 0 := by
  have hT := team_Join l bs (by omega) hb hsm
  have fail : (joinOf l bs).2 ≠ 0 ∨ k < 0 ∨ (l.length : Int) ≤ k → innerOf l bs k = ([], false) := fun h => if_pos h
  by_cases hc1 : (joinOf l bs).2 = 0
  · obtain ⟨ho, e1, l1, l2, l3⟩ := joinOf_ok hc1
    have ej : joinOf l bs = (joinTo l bs l.length, 0) := Prod.ext e1 hc1
    have hf : innerOf l bs k = if k < 0 ∨ (l.length : Int) ≤ k then ([], false) else (innerN l bs k.toNat, true) := by
      rw [innerOf]; simp [hc1]
    rw [ej] at hT
    rw [hf]
    refine fnOkG [(1000031, [.frz 1])] tab mix G.team_Inner rfl rfl (by kernel_rfl) rfl rfl ?_
    (conv => whnf)
    refine call_i (hT) ?_
    (conv => whnf)
    generalize hc2 : decide (k < 0) = c2
    cases c2 with
    | true =>
      rw [if_pos (.inl (of_decide_eq_true hc2))]
      (conv => whnf)
      refine retO [.own 6 Y.int 1, .frz 1] ?_
      (conv => whnf)
      exact ⟨[], ⟨rfl, trivial⟩, trivial⟩
    | false =>
      have hc2 := of_decide_eq_false hc2
      (conv => whnf)
      refine ask_m (fun hc3 => ?_) (fun hc3 => ?_)
      · have hc3 : (l.length : Int) ≤ k := by have := of_decide_eq_true hc3; simpa using this
        rw [if_pos (.inr hc3)]
        (conv => whnf)
        refine retO [.own 6 Y.int 1, .frz 1] ?_
        (conv => whnf)
        exact ⟨[], ⟨rfl, trivial⟩, trivial⟩
      have hc3 : ¬ (l.length : Int) ≤ k := by have := of_decide_eq_false hc3; simpa using this
      rw [if_neg (by omega)]
      obtain ⟨c, rfl⟩ : ∃ c : Nat, k = c := ⟨k.toNat, by omega⟩
      rw [Int.toNat_natCast]
      obtain ⟨s, hs⟩ : ∃ s, l[c]? = some s := ⟨_, List.getElem?_eq_getElem (by omega)⟩
      (conv => whnf)
      refine call_i (scene_Pairs (joinTo l bs l.length) (ok_small ho.all)) ?_
      (conv => whnf)
      have hpf := pairs_few (joinTo l bs l.length)
      rw [innerN, getD_at hs]
      generalize pairs (joinTo l bs l.length) = P at *
      refine call_i (team_inner l P c s hl hs ho.each hpf) ?_
      (conv => whnf)
      (conv => whnf)
      refine ret0 ?_
      exact ⟨[], ⟨rfl, trivial⟩, trivial⟩
  · rw [fail (.inl hc1)]
    have hc1 : ((joinOf l bs).2 != 0) = true := by simpa using hc1
    generalize joinOf l bs = J at *
    obtain ⟨J, e⟩ := J
    simp only at hc1
    refine fnOkG [(1000031, [.frz 1])] tab mix G.team_Inner rfl rfl (by kernel_rfl) rfl rfl ?_
    (conv => whnf)
    refine call_i (hT) ?_
    (conv => whnf)
    rw [hc1]
    (conv => whnf)
    refine retO [.own 6 Y.int 1, .frz 1] ?_
    (conv => whnf)
    exact ⟨[], ⟨rfl, trivial⟩, trivial⟩
set_option maxHeartbeats 1000000 in
theorem ref_Inner (l : List Scene) (bs : List Vec) (k : Int) (hl : l.length ≤ 1000) (hb : bs.length ≤ 4611686018427387904) (hsm : ∀ s ∈ l, small s) : FnOk Try.prog F.ref32_Inner [.one (.dv (dScs l)), .one (.dv (dVs bs)), I k] [] 0 (InR (innerOf l bs k)) [] 0 := by
  have hT := ref_JoinScenes l bs (by omega) hb hsm
  have fail : (joinOf l bs).2 ≠ 0 ∨ k < 0 ∨ (l.length : Int) ≤ k → innerOf l bs k = ([], false) := fun h => if_pos h
  by_cases hc1 : (joinOf l bs).2 = 0
  · obtain ⟨ho, e1, l1, l2, l3⟩ := joinOf_ok hc1
    have ej : joinOf l bs = (joinTo l bs l.length, 0) := Prod.ext e1 hc1
    have hf : innerOf l bs k = if k < 0 ∨ (l.length : Int) ≤ k then ([], false) else (innerN l bs k.toNat, true) := by
      rw [innerOf]; simp [hc1]
    rw [ej] at hT
    rw [hf]
    refine fnOkG [(10, [.frz 1, .frz 2])] tab mix G.ref32_Inner rfl rfl (by kernel_rfl) rfl rfl ?_
    (conv => whnf)
    refine call_i (hT) ?_
    (conv => whnf)
    generalize hc2 : decide (k < 0) = c2
    cases c2 with
    | true =>
      rw [if_pos (.inl (of_decide_eq_true hc2))]
      (conv => whnf)
      refine retO [.own 6 Y.int 1, .frz 1] ?_
      (conv => whnf)
      exact ⟨[], ⟨rfl, trivial⟩, trivial⟩
    | false =>
      have hc2 := of_decide_eq_false hc2
      (conv => whnf)
      refine ask_m (fun hc3 => ?_) (fun hc3 => ?_)
      · have hc3 : (l.length : Int) ≤ k := by have := of_decide_eq_true hc3; simpa using this
        rw [if_pos (.inr hc3)]
        (conv => whnf)
        refine retO [.own 6 Y.int 1, .frz 1] ?_
        (conv => whnf)
        exact ⟨[], ⟨rfl, trivial⟩, trivial⟩
      have hc3 : ¬ (l.length : Int) ≤ k := by have := of_decide_eq_false hc3; simpa using this
      rw [if_neg (by omega)]
      obtain ⟨c, rfl⟩ : ∃ c : Nat, k = c := ⟨k.toNat, by omega⟩
      rw [Int.toNat_natCast]
      obtain ⟨s, hs⟩ : ∃ s, l[c]? = some s := ⟨_, List.getElem?_eq_getElem (by omega)⟩
      have hbd := nSh_bd ho.each
      (conv => whnf)
      refine loop_intro (fun i : Nat => ⟨[(0, .one (.dv (dScs l))), (2, I c), (8, .one (.vptr 0 0)), (10, I (nSh l i)), (11, I i)], [(0, bSc (joinTo l bs l.length))], 1⟩) (fun i => i ≤ c) (fun i => c - i) [] 0 [] (Nat.zero_le _) ⟨⟨rfl, rfl, rfl, rfl, rfl, trivial⟩, ⟨rfl, trivial⟩⟩ ?_
      rintro i hi
      have hii : IntKind.i64.wrap ((i : Int) + 1) = ((i + 1 : Nat) : Int) := by rw [w64] <;> omega
      have hb1 := hbd i (by omega)
      (conv => whnf)
      refine ask_m (fun hlt => ?_) (fun hlt => ?_)
      · have hlt : i < c := by have := of_decide_eq_true hlt; omega
        obtain ⟨x, hx⟩ : ∃ x, l[i]? = some x := ⟨_, List.getElem?_eq_getElem (by omega)⟩
        have hb2 := hbd (i + 1) (by omega)
        have hn := nSh_succ hx
        (conv => whnf)
        refine idx_and (by omega) (by simpa using hx) ?_
        (conv => whnf)
        refine ⟨i + 1, [], hlt, by omega, ⟨⟨rfl, rfl, rfl, eqI ?_, eqI hii, trivial⟩, ⟨rfl, trivial⟩⟩⟩
        rw [List.length_map, w64] <;> omega
      have hi : i = c := by have := of_decide_eq_false hlt; omega
      subst hi
      have hso := ho.each s (List.mem_of_getElem? hs)
      have hpf := pairs_few s
      have hPf := pairs_few (joinTo l bs l.length)
      have hub := fun q => up_bd hso (q := q)
      have hPb := fun q => up_bd ho.all (q := q)
      have hPn := pairs_nodup (joinTo l bs l.length)
      have hin := fun q => join_pairs ho hs (q := q)
      have hlj := ok_small ho.all
      rw [innerN, getD_at hs]
      (conv => whnf)
      refine call_i (ref_Pairs (joinTo l bs l.length) hlj) ?_
      (conv => whnf)
      refine idx_and (by omega) (by simpa using hs) ?_
      (conv => whnf)
      refine call_i (ref_Pairs s (ok_small hso)) ?_
      (conv => whnf)
      generalize pairs s = Q at *
      generalize pairs (joinTo l bs l.length) = P at *
      generalize hN : nSh l i = N at *
      refine loop_intro (fun j : Nat => ⟨[(10, I N), (12, .one (.dv (dPas P))), (13, .one (.dv (dPas Q))), (14, .one (.row 3)), (15, I j)], [(3, .rows Y.int 1 (((Q.take j).map fun q => idxP (up N q) P 0).map encI))], 4⟩) (fun j => j ≤ Q.length) (fun j => Q.length - j) [.own 14 Y.int 1] 0 [] (Nat.zero_le _) ⟨⟨rfl, rfl, rfl, rfl, rfl, trivial⟩, ⟨rfl, trivial⟩⟩ ?_
      rintro j hj
      have hjj : IntKind.i64.wrap ((j : Int) + 1) = ((j + 1 : Nat) : Int) := by rw [w64] <;> omega
      (conv => whnf)
      refine ask_m (fun hjl => ?_) (fun hjl => ?_)
      · have hjl : j < Q.length := by simpa using hjl
        obtain ⟨q, hq⟩ : ∃ x, Q[j]? = some x := ⟨_, List.getElem?_eq_getElem hjl⟩
        obtain ⟨u1, u2, u3, u4⟩ := hub q (List.mem_of_getElem? hq)
        have hqP := hin q (List.mem_of_getElem? hq)
        have ea : IntKind.i64.wrap (q.a + (N : Int)) = q.a + N := by rw [w64] <;> omega
        have eb : IntKind.i64.wrap (q.b + (N : Int)) = q.b + N := by rw [w64] <;> omega
        (conv => whnf)
        refine loop_intro (fun m : Nat => ⟨[(10, I N), (12, .one (.dv (dPas P))), (13, .one (.dv (dPas Q))), (14, .one (.row 3)), (15, I j), (16, I m)], [(3, .rows Y.int 1 ((((Q.take j).map fun q => idxP (up N q) P 0) ++ matchTo (up N q) P m).map encI))], 4⟩) (fun m => m ≤ P.length) (fun m => P.length - m) [] 0 [] (Nat.zero_le _) ⟨⟨rfl, rfl, rfl, rfl, rfl, rfl, trivial⟩, ⟨rows_eq (by simp [matchTo]), trivial⟩⟩ ?_
        rintro m hm
        have hmm : IntKind.i64.wrap ((m : Int) + 1) = ((m + 1 : Nat) : Int) := by rw [w64] <;> omega
        have hml := matchTo_len (up N q) P m
        (conv => whnf)
        refine ask_m (fun hlm => ?_) (fun hlm => ?_)
        · have hlm : m < P.length := by simpa using hlm
          obtain ⟨x, hx⟩ : ∃ x, P[m]? = some x := ⟨_, List.getElem?_eq_getElem hlm⟩
          (conv => whnf)
          refine idx_and (by omega) (by simpa using hx) ?_
          (conv => whnf)
          refine idx_and (by omega) (by simpa using hq) ?_
          (conv => whnf)
          rw [ea]
          generalize hg : (x.a == q.a + (N : Int)) = g
          cases g with
          | true =>
            have hg : x.a = q.a + N := by simpa using hg
            (conv => whnf)
            refine idx_and (by omega) (by simpa using hx) ?_
            (conv => whnf)
            refine idx_and (by omega) (by simpa using hq) ?_
            (conv => whnf)
            rw [eb]
            refine ask_m (fun he => ?_) (fun he => ?_)
            · have he : x.b = q.b + N := by simpa using he
              have e : x = up N q := by obtain ⟨x1, x2⟩ := x; simp only at hg he; simp [up, hg, he]
              subst e
              (conv => whnf)
              refine ⟨⟨by simp; omega, by simp; omega⟩, ?_⟩
              (conv => whnf)
              exact ⟨m + 1, [(3, 5)], hlm, by omega, ⟨⟨rfl, rfl, rfl, rfl, rfl, eqI hmm, trivial⟩, ⟨rows_eq (by rw [matchTo_yes hx]; simp [encI]), trivial⟩⟩⟩
            · have he : ¬ x.b = q.b + N := by simpa using he
              have e : ¬ x = up N q := by rintro rfl; exact he rfl
              (conv => whnf)
              exact ⟨m + 1, [], hlm, by omega, ⟨⟨rfl, rfl, rfl, rfl, rfl, eqI hmm, trivial⟩, ⟨rows_eq (by rw [matchTo_no hx e]), trivial⟩⟩⟩
          | false =>
            have hg : ¬ x.a = q.a + N := by simpa using hg
            have e : ¬ x = up N q := by rintro rfl; exact hg rfl
            (conv => whnf)
            exact ⟨m + 1, [], hlm, by omega, ⟨⟨rfl, rfl, rfl, rfl, rfl, eqI hmm, trivial⟩, ⟨rows_eq (by rw [matchTo_no hx e]), trivial⟩⟩⟩
        · have hm : m = P.length := by simp at hlm; omega
          subst hm
          rw [match_all hPn hqP]
          (conv => whnf)
          refine ⟨j + 1, [], hjl, by omega, ⟨⟨rfl, rfl, rfl, rfl, eqI hjj, trivial⟩, ⟨rows_eq ?_, trivial⟩⟩⟩
          rw [List.take_add_one, hq]; simp
      · have hj : j = Q.length := by simp at hjl; omega
        subst hj
        rw [List.take_length]
        (conv => whnf)
        refine retO [.frz 3] ?_
        (conv => whnf)
        exact ⟨[], ⟨rfl, trivial⟩, trivial⟩
  · rw [fail (.inl hc1)]
    have hc1 : ((joinOf l bs).2 != 0) = true := by simpa using hc1
    generalize joinOf l bs = J at *
    obtain ⟨J, e⟩ := J
    simp only at hc1
    refine fnOkG [(10, [.frz 1, .frz 2])] tab mix G.ref32_Inner rfl rfl (by kernel_rfl) rfl rfl ?_
    (conv => whnf)
    refine call_i (hT) ?_
    (conv => whnf)
    rw [hc1]
    (conv => whnf)
    refine retO [.own 6 Y.int 1, .frz 1] ?_
    (conv => whnf)
    exact ⟨[], ⟨rfl, trivial⟩, trivial⟩
end Go.Proofs.Ythdbdokhncaijaa

/- law35: TeamMapped. -/
namespace Go.Proofs.Ythdbdokhncaijaa
open Eng
set_option maxRecDepth 10000
attribute [local irreducible] FnOk loopW idxF retX arrF

theorem joinOf_code {l : List Scene} {bs : List Vec} (h1 : ∀ s ∈ l, checkScene s = 0) (h2 : 1 ≤ l.length) (h3 : l.length ≤ 4) (h4 : bs.length = l.length) (h : (joinOf l bs).2 ≠ 0) : (joinOf l bs).2 = 3502 := by
  have hf : firstBad l = 0 := by
    have : ∀ l : List Scene, (∀ s ∈ l, checkScene s = 0) → firstBad l = 0 := fun l => by
      induction l with
      | nil => intro _; rfl
      | cons s l ih => intro h; rw [firstBad, if_pos (h s (by simp))]; exact ih fun t ht => h t (by simp [ht])
    exact this l h1
  unfold joinOf at h ⊢
  rw [if_neg (by omega), if_neg (by simp [hf])] at h ⊢
  split
  · rfl
  · rename_i c; rw [if_neg c] at h; exact absurd rfl h
set_option maxHeartbeats 1000000 in
theorem law35_Mapped (l m : List Int) (k : Int) (hl : l.length ≤ 17592186044416) (hm : m.length ≤ 17592186044416) (_ : True) : FnOk Try.prog F.law35_TeamMapped [Li l, Li m, I k] [] 0 (Bo true) [] 0 := by
  refine fnOkG [(2, [.frz 0, .frz 1]), (8, [.frz 3, .frz 4])] tab mix G.law35_TeamMapped rfl rfl (by kernel_rfl) rfl rfl ?_
  (conv => whnf)
  refine call_i (law35_scenes l m hl hm) ?_
  (conv => whnf)
  have hxo := scsOf_ok l m
  have hxl := scsOf_len l m
  have hbl := bssOf_len m
  obtain ⟨c1, c2⟩ := nSc_bd m
  generalize scsOf l m = x at *
  generalize bssOf m = b at *
  have hsm : ∀ s ∈ x, small s := fun s hs => ok_small (hxo s hs)
  refine call_i (team_Join x b (by omega) (by omega) hsm) ?_
  (conv => whnf)
  refine ask_m (fun h => ?_) (fun h => ?_)
  · have h : (joinOf x b).2 ≠ 0 := by simpa using h
    (conv => whnf)
    refine call_i (law35_awake) ?_
    (conv => whnf)
    (conv => whnf)
    refine ret0 ?_
    exact ret_b (by rw [joinOf_code hxo (by omega) (by omega) (by omega) h]; rfl) rfl
  have h : (joinOf x b).2 = 0 := by simpa using h
  obtain ⟨ho, e1, l1, l2, l3⟩ := joinOf_ok h
  rw [e1]
  (conv => whnf)
  refine call_i (mk_Round k ((x.map encSc).length : Int) (by rw [List.length_map]; omega) (by rw [List.length_map]; omega)) ?_
  (conv => whnf)
  have q1 := Int.emod_nonneg k (b := ((x.map encSc).length : Int)) (by rw [List.length_map]; omega)
  have q2 := Int.emod_lt_of_pos k (b := ((x.map encSc).length : Int)) (by rw [List.length_map]; omega)
  obtain ⟨c, hc⟩ : ∃ i : Nat, k % ((x.map encSc).length : Int) = i := ⟨_, (Int.toNat_of_nonneg q1).symm⟩
  rw [hc] at q2 ⊢
  have hcx : c < x.length := by rw [List.length_map] at q2; omega
  obtain ⟨s, hs⟩ : ∃ s, x[c]? = some s := ⟨_, List.getElem?_eq_getElem hcx⟩
  have hI := team_Inner x b c (by omega) (by omega) hsm
  have hin : innerOf x b c = (innerN x b c, true) := by rw [innerOf, if_neg (by simp [h]; omega), Int.toNat_natCast]
  rw [hin] at hI
  have hNl : (innerN x b c).length = (pairs s).length := by rw [innerN, getD_at hs, List.length_map]
  have hat := fun i q => inner_at ho hs (i := i) (q := q)
  have hpf := pairs_few s
  have hPf := pairs_few (joinTo x b x.length)
  have hub := fun q => up_bd (ho.each s (List.mem_of_getElem? hs)) (q := q)
  have hbd := nSh_bd ho.each
  generalize innerN x b c = A at *
  refine call_i (hI) ?_
  (conv => whnf)
  refine idx_and (by omega) (by simpa using hs) ?_
  (conv => whnf)
  refine call_i (ref_Pairs s (hsm s (List.mem_of_getElem? hs))) ?_
  (conv => whnf)
  refine call_i (ref_Pairs (joinTo x b x.length) (ok_small ho.all)) ?_
  (conv => whnf)
  generalize pairs s = Q at *
  generalize pairs (joinTo x b x.length) = P at *
  refine ask_mf (by simp [hNl]) ?_
  (conv => whnf)
  refine loop_intro (fun i : Nat => ⟨[(7, .one (.dv (dScs x))), (11, I c), (12, Li A), (14, .one (.dv (dPas Q))), (15, .one (.dv (dPas P))), (16, I (nSh x i)), (17, I i)], [], 0⟩) (fun i => i ≤ c) (fun i => c - i) [] 0 [] (Nat.zero_le _) ⟨⟨rfl, rfl, rfl, rfl, rfl, rfl, rfl, trivial⟩, trivial⟩ ?_
  rintro i hi
  have hii : IntKind.i64.wrap ((i : Int) + 1) = ((i + 1 : Nat) : Int) := by rw [w64] <;> omega
  have hb1 := hbd i (by omega)
  (conv => whnf)
  refine ask_m (fun hlt => ?_) (fun hlt => ?_)
  · have hlt : i < c := by have := of_decide_eq_true hlt; omega
    obtain ⟨y, hy⟩ : ∃ y, x[i]? = some y := ⟨_, List.getElem?_eq_getElem (by omega)⟩
    have hb2 := hbd (i + 1) (by omega)
    have hn := nSh_succ hy
    (conv => whnf)
    refine idx_and (by omega) (by simpa using hy) ?_
    (conv => whnf)
    refine ⟨i + 1, [], hlt, by omega, ⟨⟨rfl, rfl, rfl, rfl, rfl, eqI ?_, eqI hii, trivial⟩, trivial⟩⟩
    rw [List.length_map, w64] <;> omega
  have hi : i = c := by have := of_decide_eq_false hlt; omega
  subst hi
  generalize nSh x i = N at *
  (conv => whnf)
  refine loop_intro (fun j : Nat => ⟨[(12, Li A), (14, .one (.dv (dPas Q))), (15, .one (.dv (dPas P))), (16, I N), (18, I j)], [], 0⟩) (fun j => j ≤ Q.length) (fun j => Q.length - j) [] 0 [] (Nat.zero_le _) ⟨⟨rfl, rfl, rfl, rfl, rfl, trivial⟩, trivial⟩ ?_
  rintro j hj
  have hjj : IntKind.i64.wrap ((j : Int) + 1) = ((j + 1 : Nat) : Int) := by rw [w64] <;> omega
  (conv => whnf)
  refine ask_m (fun hjl => ?_) (fun hjl => ?_)
  · have hjl : j < Q.length := by have := of_decide_eq_true hjl; simp only [List.length_map] at this; omega
    obtain ⟨q, hq⟩ : ∃ x, Q[j]? = some x := ⟨_, List.getElem?_eq_getElem hjl⟩
    obtain ⟨u1, u2, u3, u4⟩ := hub q (List.mem_of_getElem? hq)
    obtain ⟨r, hr, hrP⟩ := hat j q hq
    have hrl : r < P.length := (List.getElem?_eq_some_iff.1 hrP).1
    have ea : IntKind.i64.wrap (q.a + (N : Int)) = q.a + N := by rw [w64] <;> omega
    have eb : IntKind.i64.wrap (q.b + (N : Int)) = q.b + N := by rw [w64] <;> omega
    have g1 : decide ((r : Int) < 0) = false := decide_eq_false (by omega)
    have g2 : decide ((((P.map encPa).length : Nat) : Int) ≤ (r : Int)) = false := decide_eq_false (by rw [List.length_map]; omega)
    have g3 : ((up N q).a != q.a + (N : Int)) = false := by simp [up]
    have g4 : ((up N q).b != q.b + (N : Int)) = false := by simp [up]
    (conv => whnf)
    refine idx_and (by omega) (by simpa using hr) ?_
    (conv => whnf)
    rw [g1]
    (conv => whnf)
    refine idx_and (by omega) (by simpa using hr) ?_
    (conv => whnf)
    rw [g2]
    (conv => whnf)
    refine idx_and (by omega) (by simpa using hr) ?_
    (conv => whnf)
    refine idx_and (by omega) (by simpa using hrP) ?_
    (conv => whnf)
    refine idx_and (by omega) (by simpa using hq) ?_
    (conv => whnf)
    rw [ea, g3]
    (conv => whnf)
    refine idx_and (by omega) (by simpa using hr) ?_
    (conv => whnf)
    refine idx_and (by omega) (by simpa using hrP) ?_
    (conv => whnf)
    refine idx_and (by omega) (by simpa using hq) ?_
    (conv => whnf)
    rw [eb]
    refine ask_mf g4 ?_
    (conv => whnf)
    exact ⟨j + 1, [], hjl, by omega, ⟨⟨rfl, rfl, rfl, rfl, eqI hjj, trivial⟩, trivial⟩⟩
  · (conv => whnf)
    refine call_i (law35_awake) ?_
    (conv => whnf)
    (conv => whnf)
    refine ret0 ?_
    exact ret_b rfl rfl
end Go.Proofs.Ythdbdokhncaijaa

/- law35: TeamMoves. -/
namespace Go.Proofs.Ythdbdokhncaijaa
open Eng
set_option maxRecDepth 10000
attribute [local irreducible] FnOk loopW idxF retX arrF

theorem off_eq {a b M : Int} (ha : -M ≤ a ∧ a ≤ M) (hM : M ≤ 268435456) (hb : -1048576 ≤ b ∧ b ≤ 1048576) : (a + b != ww (a + b)) = false := by
  rw [ww_id (by unfold rg; omega)]; simp
theorem pts_few {x : List Scene} (h : ∀ s ∈ x, checkScene s = 0) {s : Scene} (hs : s ∈ x) : s.shapes.length ≤ 24 := (scene_facts (h s hs)).2.1
set_option maxHeartbeats 2000000 in
theorem law35_Moves (l m o : List Int) (k : Int) (hl : l.length ≤ 17592186044416) (hm : m.length ≤ 17592186044416) (hol : o.length ≤ 17592186044416) (_ : True) : FnOk Try.prog F.law35_TeamMoves [Li l, Li m, Li o, I k] [] 0 (Bo true) [] 0 := by
  refine fnOkG [(2, [.frz 0, .frz 1]), (10, [.frz 3])] tab mix G.law35_TeamMoves rfl rfl (by kernel_rfl) rfl rfl ?_
  (conv => whnf)
  refine call_i (law35_scenes l m hl hm) ?_
  (conv => whnf)
  have hxo := scsOf_ok l m
  have hxl := scsOf_len l m
  have hbl := bssOf_len m
  have hnear := fun c h => bs_near (l := m) (c := c) h
  obtain ⟨c1, c2⟩ := nSc_bd m
  generalize scsOf l m = x at *
  generalize bssOf m = b at *
  have hsm : ∀ s ∈ x, small s := fun s hs => ok_small (hxo s hs)
  refine call_i (team_Join x b (by omega) (by omega) hsm) ?_
  (conv => whnf)
  refine ask_m (fun h => ?_) (fun h => ?_)
  · (conv => whnf)
    refine call_i (law35_awake) ?_
    (conv => whnf)
    (conv => whnf)
    refine ret0 ?_
    exact ret_b rfl rfl
  have h : (joinOf x b).2 = 0 := by simpa using h
  obtain ⟨hO, e1, l1, l2, l3⟩ := joinOf_ok h
  rw [e1]
  have hj : ∀ s ∈ x, s.robot.joints.length ≤ 1000 := fun s hs => by
    have := (robot_facts (scene_facts (hxo s hs)).1).1
    omega
  have hcb := cnt_bd hj
  (conv => whnf)
  refine loop_intro (fun i : Nat => ⟨[(3, I k), (2, Li o), (9, .one (.dv (dScs x))), (10, .one (.dv (dVs b))), (11, .one (.vptr 2 0)), (13, .one (.row 3)), (14, I i)], [(2, bSc (joinTo x b x.length)), (3, .rows Y.Interval 2 ((bxCat x o i).map encIv))], 4⟩) (fun i => i ≤ x.length) (fun i => x.length - i) [.own 13 Y.Interval 2] 0 [] (Nat.zero_le _) ⟨⟨rfl, rfl, rfl, rfl, rfl, rfl, rfl, trivial⟩, ⟨rfl, rfl, trivial⟩⟩ ?_
  rintro i hi
  have hii : IntKind.i64.wrap ((i : Int) + 1) = ((i + 1 : Nat) : Int) := by rw [w64] <;> omega
  have hb1 := bxCat_len (x := x) (o := o) i hi
  have hb2 := hcb i hi
  (conv => whnf)
  refine ask_m (fun hlt => ?_) (fun hlt => ?_)
  · have hlt : i < x.length := by simpa using hlt
    obtain ⟨s, hs⟩ : ∃ s, x[i]? = some s := ⟨_, List.getElem?_eq_getElem hlt⟩
    have hro := (scene_facts (hxo s (List.mem_of_getElem? hs))).1
    have hn := bxCat_succ (o := o) hs
    have hbs := bxs_len s.robot o
    have hsj := hj s (List.mem_of_getElem? hs)
    (conv => whnf)
    refine idx_and (by omega) (by simpa using hs) ?_
    (conv => whnf)
    refine call_i (mk_Box s.robot o hro (by omega)) ?_
    (conv => whnf)
    refine ⟨⟨by simp; omega, by simp; omega⟩, ?_⟩
    (conv => whnf)
    exact ⟨i + 1, [(3, 4)], hlt, by omega, ⟨⟨rfl, rfl, rfl, rfl, rfl, rfl, eqI hii, trivial⟩, ⟨rfl, rows_eq (by rw [hn, List.map_append]), trivial⟩⟩⟩
  have hi : i = x.length := by simp at hlt; omega
  subst hi
  (conv => whnf)
  refine call_i (mk_Round k ((x.map encSc).length : Int) (by rw [List.length_map]; omega) (by rw [List.length_map]; omega)) ?_
  (conv => whnf)
  have q1 := Int.emod_nonneg k (b := ((x.map encSc).length : Int)) (by rw [List.length_map]; omega)
  have q2 := Int.emod_lt_of_pos k (b := ((x.map encSc).length : Int)) (by rw [List.length_map]; omega)
  obtain ⟨c, hc⟩ : ∃ i : Nat, k % ((x.map encSc).length : Int) = i := ⟨_, (Int.toNat_of_nonneg q1).symm⟩
  rw [hc] at q2 ⊢
  have hcx : c < x.length := by rw [List.length_map] at q2; omega
  obtain ⟨s, hs⟩ : ∃ s, x[c]? = some s := ⟨_, List.getElem?_eq_getElem hcx⟩
  obtain ⟨d, hd⟩ : ∃ d, b[c]? = some d := ⟨_, List.getElem?_eq_getElem (by omega)⟩
  have hdn := hnear c (by omega)
  rw [getD_at hd] at hdn
  have hsc := hxo s (List.mem_of_getElem? hs)
  have hp := bxCat_part (o := o) hs
  have hmv := fun i sh hsh => pts_mv hO o hs (getD_at hd) hdn (i := i) (sh := sh) hsh
  have hPl := pointsOf_len hO.all (isBox_all hO o)
  have hpl := pointsOf_len hsc (isBox_own hsc o)
  have hJ2 := (join_len b x.length (Nat.le_refl _)).2
  have hns := nSh_succ hs
  have hpre := (join_pre (l := x) b (c + 1) (x.length - (c + 1)) (by omega)).2
  have hlen : nSh x c + s.shapes.length ≤ nSh x x.length := by
    obtain ⟨r, hr⟩ := hpre
    rw [show c + 1 + (x.length - (c + 1)) = x.length by omega] at hr
    have := congrArg List.length hr
    rw [List.length_append, hJ2, (join_len b (c + 1) (by omega)).2] at this
    omega
  have hs24 := pts_few hxo (List.mem_of_getElem? hs)
  have hbd := nSh_bd hO.each
  refine call_i (team_PartBox' x (bxCat x o x.length) c (by omega) hj) ?_
  (conv => whnf)
  rw [hp]
  (conv => whnf)
  refine call_i (ref10_Points (joinTo x b x.length) (bxCat x o x.length) hO.all (isBox_all hO o)) ?_
  (conv => whnf)
  refine idx_and (by omega) (by simpa using hs) ?_
  (conv => whnf)
  refine call_i (ref10_Points s (bxs s.robot o) hsc (isBox_own hsc o)) ?_
  (conv => whnf)
  generalize pointsOf (joinTo x b x.length) (bxCat x o x.length) = P at *
  generalize pointsOf s (bxs s.robot o) = Q at *
  refine loop_intro (fun i : Nat => ⟨[(9, .one (.dv (dScs x))), (10, .one (.dv (dVs b))), (15, I c), (17, Bo true), (18, .one (.dv (dPtss P))), (19, .one (.dv (dPtss Q))), (20, I (nSh x i)), (21, I i)], [], 0⟩) (fun i => i ≤ c) (fun i => c - i) [] 0 [] (Nat.zero_le _) ⟨⟨rfl, rfl, rfl, rfl, rfl, rfl, rfl, rfl, trivial⟩, trivial⟩ ?_
  rintro i hi
  have hii : IntKind.i64.wrap ((i : Int) + 1) = ((i + 1 : Nat) : Int) := by rw [w64] <;> omega
  have hb1 := hbd i (by omega)
  (conv => whnf)
  refine ask_m (fun hlt => ?_) (fun hlt => ?_)
  · have hlt : i < c := by have := of_decide_eq_true hlt; omega
    obtain ⟨y, hy⟩ : ∃ y, x[i]? = some y := ⟨_, List.getElem?_eq_getElem (by omega)⟩
    have hb2 := hbd (i + 1) (by omega)
    have hn := nSh_succ hy
    (conv => whnf)
    refine idx_and (by omega) (by simpa using hy) ?_
    (conv => whnf)
    refine ⟨i + 1, [], hlt, by omega, ⟨⟨rfl, rfl, rfl, rfl, rfl, rfl, eqI ?_, eqI hii, trivial⟩, trivial⟩⟩
    rw [List.length_map, w64] <;> omega
  have hi : i = c := by have := of_decide_eq_false hlt; omega
  subst hi
  generalize nSh x i = N at *
  (conv => whnf)
  refine idx_and (by omega) (by simpa using hs) ?_
  (conv => whnf)
  rw [show (((Q.map encP1).length : Int) != ((s.shapes.map encSh).length : Int)) = false by simp [hpl]]
  (conv => whnf)
  refine ask_mf (decide_eq_false (by rw [w64] <;> simp <;> omega)) ?_
  (conv => whnf)
  refine loop_intro (fun j : Nat => ⟨[(10, .one (.dv (dVs b))), (15, I i), (18, .one (.dv (dPtss P))), (19, .one (.dv (dPtss Q))), (20, I N), (22, I j)], [], 0⟩) (fun j => j ≤ Q.length) (fun j => Q.length - j) [] 0 [] (Nat.zero_le _) ⟨⟨rfl, rfl, rfl, rfl, rfl, rfl, trivial⟩, trivial⟩ ?_
  rintro j hj
  have hjj : IntKind.i64.wrap ((j : Int) + 1) = ((j + 1 : Nat) : Int) := by rw [w64] <;> omega
  (conv => whnf)
  refine ask_m (fun hjl => ?_) (fun hjl => ?_)
  · have hjl : j < Q.length := by simpa using hjl
    obtain ⟨sh, hsh⟩ : ∃ sh, s.shapes[j]? = some sh := ⟨_, List.getElem?_eq_getElem (by omega)⟩
    obtain ⟨q, hq, hP, hql, hqin⟩ := hmv j sh hsh
    have hq8 : q.length ≤ 8 := by rw [hql]; exact ((scene_facts hsc).2.2.1 sh (List.mem_of_getElem? hsh)).2.2.1
    have eN : IntKind.i64.wrap ((N : Int) + (j : Int)) = ((N + j : Nat) : Int) := by rw [w64] <;> omega
    (conv => whnf)
    rw [eN]
    refine idx_and (by omega) (x := q.map (mvV · d)) (by rw [Int.toNat_natCast]; exact hP) ?_
    (conv => whnf)
    refine idx_and (by omega) (by simpa using hq) ?_
    (conv => whnf)
    refine ask_mf (by simp) ?_
    (conv => whnf)
    refine loop_intro (fun r : Nat => ⟨[(10, .one (.dv (dVs b))), (15, I i), (18, .one (.dv (dPtss P))), (19, .one (.dv (dPtss Q))), (20, I N), (22, I j), (23, I r)], [], 0⟩) (fun r => r ≤ q.length) (fun r => q.length - r) [] 0 [] (Nat.zero_le _) ⟨⟨rfl, rfl, rfl, rfl, rfl, rfl, rfl, trivial⟩, trivial⟩ ?_
    rintro r hr
    have hrr : IntKind.i64.wrap ((r : Int) + 1) = ((r + 1 : Nat) : Int) := by rw [w64] <;> omega
    (conv => whnf)
    refine idx_and (by omega) (by simpa using hq) ?_
    (conv => whnf)
    refine ask_m (fun hrl => ?_) (fun hrl => ?_)
    · have hrl : r < q.length := by simpa using hrl
      obtain ⟨v, hv⟩ : ∃ v, q[r]? = some v := ⟨_, List.getElem?_eq_getElem hrl⟩
      have hV : (q.map (mvV · d))[r]? = some (mvV v d) := by rw [List.getElem?_map, hv]; rfl
      obtain ⟨vx, vy, vz⟩ := hqin v (List.mem_of_getElem? hv)
      obtain ⟨dx, dy, dz⟩ := hdn
      unfold inI at vx vy vz
      (conv => whnf)
      refine loop_intro (fun e : Nat => ⟨[(10, .one (.dv (dVs b))), (15, I i), (18, .one (.dv (dPtss P))), (19, .one (.dv (dPtss Q))), (20, I N), (22, I j), (23, I r), (24, I e)], [], 0⟩) (fun e => e ≤ 3) (fun e => 3 - e) [] 0 [] (Nat.zero_le _) ⟨⟨rfl, rfl, rfl, rfl, rfl, rfl, rfl, rfl, trivial⟩, trivial⟩ ?_
      rintro e he
      obtain rfl | rfl | rfl | rfl : e = 0 ∨ e = 1 ∨ e = 2 ∨ e = 3 := by omega
      · (conv => whnf)
        rw [eN]
        refine idx_and (by omega) (x := q.map (mvV · d)) (by rw [Int.toNat_natCast]; exact hP) ?_
        (conv => whnf)
        refine idx_and (by omega) (x := mvV v d) (by simpa using hV) ?_
        (conv => whnf)
        refine ⟨⟨by decide, by decide⟩, ?_⟩
        (conv => whnf)
        refine idx_and (by omega) (by simpa using hq) ?_
        (conv => whnf)
        refine idx_and (by omega) (by simpa using hv) ?_
        (conv => whnf)
        refine ⟨⟨by decide, by decide⟩, ?_⟩
        (conv => whnf)
        refine idx_and (by omega) (by simpa using hd) ?_
        (conv => whnf)
        refine ⟨⟨by decide, by decide⟩, ?_⟩
        (conv => whnf)
        refine ask_mf (off_eq (M := 268435456) (a := v.x.lo) (b := d.x) (by omega) (by decide) (by omega)) ?_
        (conv => whnf)
        rw [eN]
        refine idx_and (by omega) (x := q.map (mvV · d)) (by rw [Int.toNat_natCast]; exact hP) ?_
        (conv => whnf)
        refine idx_and (by omega) (x := mvV v d) (by simpa using hV) ?_
        (conv => whnf)
        refine ⟨⟨by decide, by decide⟩, ?_⟩
        (conv => whnf)
        refine idx_and (by omega) (by simpa using hq) ?_
        (conv => whnf)
        refine idx_and (by omega) (by simpa using hv) ?_
        (conv => whnf)
        refine ⟨⟨by decide, by decide⟩, ?_⟩
        (conv => whnf)
        refine idx_and (by omega) (by simpa using hd) ?_
        (conv => whnf)
        refine ⟨⟨by decide, by decide⟩, ?_⟩
        (conv => whnf)
        refine ask_mf (off_eq (M := 268435456) (a := v.x.hi) (b := d.x) (by omega) (by decide) (by omega)) ?_
        (conv => whnf)
        exact ⟨1, [], by decide, by decide, ⟨⟨rfl, rfl, rfl, rfl, rfl, rfl, rfl, eqI (by decide), trivial⟩, trivial⟩⟩
      · (conv => whnf)
        rw [eN]
        refine idx_and (by omega) (x := q.map (mvV · d)) (by rw [Int.toNat_natCast]; exact hP) ?_
        (conv => whnf)
        refine idx_and (by omega) (x := mvV v d) (by simpa using hV) ?_
        (conv => whnf)
        refine ⟨⟨by decide, by decide⟩, ?_⟩
        (conv => whnf)
        refine idx_and (by omega) (by simpa using hq) ?_
        (conv => whnf)
        refine idx_and (by omega) (by simpa using hv) ?_
        (conv => whnf)
        refine ⟨⟨by decide, by decide⟩, ?_⟩
        (conv => whnf)
        refine idx_and (by omega) (by simpa using hd) ?_
        (conv => whnf)
        refine ⟨⟨by decide, by decide⟩, ?_⟩
        (conv => whnf)
        refine ask_mf (off_eq (M := 268435456) (a := v.y.lo) (b := d.y) (by omega) (by decide) (by omega)) ?_
        (conv => whnf)
        rw [eN]
        refine idx_and (by omega) (x := q.map (mvV · d)) (by rw [Int.toNat_natCast]; exact hP) ?_
        (conv => whnf)
        refine idx_and (by omega) (x := mvV v d) (by simpa using hV) ?_
        (conv => whnf)
        refine ⟨⟨by decide, by decide⟩, ?_⟩
        (conv => whnf)
        refine idx_and (by omega) (by simpa using hq) ?_
        (conv => whnf)
        refine idx_and (by omega) (by simpa using hv) ?_
        (conv => whnf)
        refine ⟨⟨by decide, by decide⟩, ?_⟩
        (conv => whnf)
        refine idx_and (by omega) (by simpa using hd) ?_
        (conv => whnf)
        refine ⟨⟨by decide, by decide⟩, ?_⟩
        (conv => whnf)
        refine ask_mf (off_eq (M := 268435456) (a := v.y.hi) (b := d.y) (by omega) (by decide) (by omega)) ?_
        (conv => whnf)
        exact ⟨2, [], by decide, by decide, ⟨⟨rfl, rfl, rfl, rfl, rfl, rfl, rfl, eqI (by decide), trivial⟩, trivial⟩⟩
      · (conv => whnf)
        rw [eN]
        refine idx_and (by omega) (x := q.map (mvV · d)) (by rw [Int.toNat_natCast]; exact hP) ?_
        (conv => whnf)
        refine idx_and (by omega) (x := mvV v d) (by simpa using hV) ?_
        (conv => whnf)
        refine ⟨⟨by decide, by decide⟩, ?_⟩
        (conv => whnf)
        refine idx_and (by omega) (by simpa using hq) ?_
        (conv => whnf)
        refine idx_and (by omega) (by simpa using hv) ?_
        (conv => whnf)
        refine ⟨⟨by decide, by decide⟩, ?_⟩
        (conv => whnf)
        refine idx_and (by omega) (by simpa using hd) ?_
        (conv => whnf)
        refine ⟨⟨by decide, by decide⟩, ?_⟩
        (conv => whnf)
        refine ask_mf (off_eq (M := 268435456) (a := v.z.lo) (b := d.z) (by omega) (by decide) (by omega)) ?_
        (conv => whnf)
        rw [eN]
        refine idx_and (by omega) (x := q.map (mvV · d)) (by rw [Int.toNat_natCast]; exact hP) ?_
        (conv => whnf)
        refine idx_and (by omega) (x := mvV v d) (by simpa using hV) ?_
        (conv => whnf)
        refine ⟨⟨by decide, by decide⟩, ?_⟩
        (conv => whnf)
        refine idx_and (by omega) (by simpa using hq) ?_
        (conv => whnf)
        refine idx_and (by omega) (by simpa using hv) ?_
        (conv => whnf)
        refine ⟨⟨by decide, by decide⟩, ?_⟩
        (conv => whnf)
        refine idx_and (by omega) (by simpa using hd) ?_
        (conv => whnf)
        refine ⟨⟨by decide, by decide⟩, ?_⟩
        (conv => whnf)
        refine ask_mf (off_eq (M := 268435456) (a := v.z.hi) (b := d.z) (by omega) (by decide) (by omega)) ?_
        (conv => whnf)
        exact ⟨3, [], by decide, by decide, ⟨⟨rfl, rfl, rfl, rfl, rfl, rfl, rfl, eqI (by decide), trivial⟩, trivial⟩⟩
      · (conv => whnf)
        exact ⟨r + 1, [], hrl, by omega, ⟨⟨rfl, rfl, rfl, rfl, rfl, rfl, eqI hrr, trivial⟩, trivial⟩⟩
    · (conv => whnf)
      exact ⟨j + 1, [], hjl, by omega, ⟨⟨rfl, rfl, rfl, rfl, rfl, eqI hjj, trivial⟩, trivial⟩⟩
  · (conv => whnf)
    refine call_i (law35_awake) ?_
    (conv => whnf)
    (conv => whnf)
    refine ret0 ?_
    exact ret_b rfl rfl
end Go.Proofs.Ythdbdokhncaijaa
