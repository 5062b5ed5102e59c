import Derived.Test.YthdbdokhncaijaaM1
import Derived.Test.YthdbdokhncaijaaRows
import Derived.Test.YthdbdokhncaijaaEngG
/- ref.JoinScenes. -/
namespace Go.Proofs.Ythdbdokhncaijaa
open Eng
set_option maxRecDepth 10000
attribute [local irreducible] FnOk loopW idxF retX arrF

theorem ref_raised (n p : Int) (h0 : 0 ≤ p ∧ p ≤ 1000) (h1 : -1 ≤ n ∧ n ≤ 1000) : FnOk Try.prog F.ref32_raised [I n, I p] [] 0 (I (raise p n)) [] 0 := by
  refine fnOk tab mix G.ref32_raised rfl rfl (by kernel_rfl) rfl rfl ?_
  (conv => whnf)
  refine ask_m (fun h => ?_) (fun h => ?_)
  · have h : n = -1 := by simpa using h
    (conv => whnf)
    refine ret0 ?_
    exact ret_i (by rw [raise, if_pos h, h]) rfl
  · have h : ¬ n = -1 := by simpa using h
    (conv => whnf)
    refine ret0 ?_
    exact ret_i (by rw [raise, if_neg h, w64] <;> omega) rfl
theorem ref_shifted (x : Shape) (n : Int) (b : Vec) (hx : x.points.length ≤ 1000) : FnOk Try.prog F.ref32_shifted [Sh x, I n, Ve b] [] 0 (Sh ⟨n, x.radius, x.points.map (addV b)⟩) [] 0 := by
  refine fnOk tab mix G.ref32_shifted rfl rfl (by kernel_rfl) rfl rfl ?_
  (conv => whnf)
  refine loop_intro (fun k : Nat => ⟨[(3, .one (.vptr 0 0)), (5, .one (.vptr 1 0)), (6, .one (.vptr 2 0)), (7, .one (.vptr 3 0)), (8, I k)], [(0, .vars Y.Shape [.dv (.int .i64 x.link), .dv (.int .i64 x.radius), .dv (dVs x.points)]), (1, .vars Y.Vec [.dv (.int .i64 b.x), .dv (.int .i64 b.y), .dv (.int .i64 b.z)]), (2, .vars Y.Shape [.dv (.int .i64 0), .dv (.int .i64 0), .nil 3]), (3, .vars Y.Shape [.dv (.int .i64 n), .dv (.int .i64 x.radius), .row 4]), (4, .rows Y.Vec 3 (((x.points.take k).map (addV b)).map encV))], 5⟩) (fun k => k ≤ x.points.length) (fun k => x.points.length - k) [.ownC 3 2 Y.Vec 3] 0 [] (Nat.zero_le _) ⟨⟨rfl, rfl, rfl, rfl, rfl, trivial⟩, ⟨rfl, rfl, rfl, rfl, rfl, trivial⟩⟩ ?_
  rintro k hk
  have hkk : IntKind.i64.wrap ((k : Int) + 1) = ((k + 1 : Nat) : Int) := by rw [w64] <;> omega
  (conv => whnf)
  refine ask_m (fun hlt => ?_) (fun hlt => ?_)
  · have hlt : k < x.points.length := by simpa using hlt
    obtain ⟨v, hv⟩ : ∃ v, x.points[k]? = some v := ⟨_, List.getElem?_eq_getElem hlt⟩
    (conv => whnf)
    refine idx_and (by omega) (by simpa using hv) ?_
    (conv => whnf)
    refine ⟨⟨by decide, by decide⟩, ?_⟩
    (conv => whnf)
    refine ⟨⟨by decide, by decide⟩, ?_⟩
    (conv => whnf)
    refine ⟨⟨by decide, by decide⟩, ?_⟩
    (conv => whnf)
    refine ⟨⟨by decide, by decide⟩, ?_⟩
    (conv => whnf)
    refine ⟨⟨by decide, by decide⟩, ?_⟩
    (conv => whnf)
    refine ⟨⟨by decide, by decide⟩, ?_⟩
    (conv => whnf)
    refine ⟨⟨by simp; omega, by simp; omega⟩, ?_⟩
    (conv => whnf)
    exact ⟨k + 1, [(4, 7)], hlt, by omega, ⟨⟨rfl, rfl, rfl, rfl, eqI hkk, trivial⟩, ⟨rfl, rfl, rfl, rfl, rows_eq (by rw [map_take1 _ hv, List.map_append]; rfl), trivial⟩⟩⟩
  · have hk : k = x.points.length := by simp at hlt; omega
    subst hk
    rw [List.take_length]
    (conv => whnf)
    (conv => whnf)
    refine retO [.frz 4] ?_
    (conv => whnf)
    exact ⟨[], ⟨rfl, trivial⟩, trivial⟩
theorem cut_letter : ∀ k, k < 4 → (⟨#[97, 98, 99, 100]⟩ : ByteArray).extract k (k + 1) = letter k := by decide
theorem inV_bd {v : Vec} {m : Int} (h : inV v m = true) : (-m ≤ v.x ∧ v.x ≤ m) ∧ (-m ≤ v.y ∧ v.y ≤ m) ∧ (-m ≤ v.z ∧ v.z ≤ m) := by
  simp only [inV, Bool.and_eq_true, decide_eq_true_eq] at h
  exact ⟨h.1.1, h.1.2, h.2⟩
theorem addV_zero {v : Vec} (h : inV v 4194304 = true) : addV ⟨0, 0, 0⟩ v = v := by
  obtain ⟨⟨a, b⟩, ⟨c, d⟩, ⟨e, f⟩⟩ := inV_bd h
  obtain ⟨x, y, z⟩ := v
  simp only at a b c d e f
  simp only [addV, Int.add_zero, ww]
  rw [w64 (by omega) (by omega), w64 (by omega) (by omega), w64 (by omega) (by omega)]
theorem joinSh_pts {p : Int} {b : Vec} {x : Shape} (h : ∀ v ∈ x.points, inV v 4194304 = true) : joinSh p b x = ⟨raise p x.link, x.radius, x.points.map (addV (if x.link = -1 then b else ⟨0, 0, 0⟩))⟩ := by
  rw [joinSh]
  congr 1
  refine List.map_congr_left fun v hv => ?_
  rw [joinV]
  split
  · rfl
  · exact (addV_zero (h v hv)).symm
abbrev bV (b : Vec) : Box := .vars Y.Vec [.dv (.int .i64 b.x), .dv (.int .i64 b.y), .dv (.int .i64 b.z)]
set_option maxHeartbeats 2000000 in
theorem ref_JoinScenes (l : List Scene) (bs : List Vec) (hl : l.length ≤ 4611686018427387904) (hb : bs.length ≤ 4611686018427387904) (hsm : ∀ s ∈ l, small s) : FnOk Try.prog F.ref32_JoinScenes [.one (.dv (dScs l)), .one (.dv (dVs bs))] [] 0 (JnR (joinOf l bs)) [] 0 := by
  refine fnOk tab mix G.ref32_JoinScenes rfl rfl (by kernel_rfl) rfl rfl ?_
  (conv => whnf)
  refine ask_m (fun h1 => ?_) (fun h1 => ?_)
  · have h1 : l.length < 1 := by have := of_decide_eq_true h1; simp only [List.length_map] at this; omega
    rw [joinOf, if_pos (.inl h1)]
    (conv => whnf)
    refine retO [.ownC 0 0 Y.Joint 12, .ownC 0 1 Y.Mass 5, .ownC 0 2 Y.Shape 3, .ownC 0 3 Y.Skip 2, .frz 1, .frz 2, .frz 3, .frz 4] ?_
    (conv => whnf)
    exact ⟨[], ⟨rfl, trivial⟩, trivial⟩
  have h1 : ¬ l.length < 1 := by have := of_decide_eq_false h1; simp only [List.length_map] at this; omega
  (conv => whnf)
  refine ask_m (fun h2 => ?_) (fun h2 => ?_)
  · have h2 : 4 < l.length := by have := of_decide_eq_true h2; simp only [List.length_map] at this; omega
    rw [joinOf, if_pos (.inr (.inl h2))]
    (conv => whnf)
    refine retO [.ownC 0 0 Y.Joint 12, .ownC 0 1 Y.Mass 5, .ownC 0 2 Y.Shape 3, .ownC 0 3 Y.Skip 2, .frz 1, .frz 2, .frz 3, .frz 4] ?_
    (conv => whnf)
    exact ⟨[], ⟨rfl, trivial⟩, trivial⟩
  have h2 : ¬ 4 < l.length := by have := of_decide_eq_false h2; simp only [List.length_map] at this; omega
  (conv => whnf)
  refine ask_m (fun h3 => ?_) (fun h3 => ?_)
  · have h3 : bs.length ≠ l.length := by simp at h3; omega
    rw [joinOf, if_pos (.inr (.inr h3))]
    (conv => whnf)
    refine retO [.ownC 0 0 Y.Joint 12, .ownC 0 1 Y.Mass 5, .ownC 0 2 Y.Shape 3, .ownC 0 3 Y.Skip 2, .frz 1, .frz 2, .frz 3, .frz 4] ?_
    (conv => whnf)
    exact ⟨[], ⟨rfl, trivial⟩, trivial⟩
  have h3 : bs.length = l.length := by simp at h3; omega
  rw [joinOf, if_neg (by omega)]
  (conv => whnf)
  refine loop_intro (fun k : Nat => ⟨[(0, .one (.dv (dScs l))), (1, .one (.dv (dVs bs))), (4, .one (.vptr 0 0)), (6, I k)], [(0, bScZ)], 1⟩) (fun k => k ≤ l.length ∧ firstBad (l.drop k) = firstBad l) (fun k => l.length - k) [] 0 [] ⟨Nat.zero_le _, rfl⟩ ⟨⟨rfl, rfl, rfl, rfl, trivial⟩, ⟨rfl, trivial⟩⟩ ?_
  rintro k ⟨hk, hf⟩
  have hkk : IntKind.i64.wrap ((k : Int) + 1) = ((k + 1 : Nat) : Int) := by rw [w64] <;> omega
  (conv => whnf)
  refine ask_m (fun hlt => ?_) (fun hlt => ?_)
  · have hlt : k < l.length := by simpa using hlt
    obtain ⟨s, hs⟩ : ∃ s, l[k]? = some s := ⟨_, List.getElem?_eq_getElem hlt⟩
    rw [firstBad_at hs] at hf
    (conv => whnf)
    refine idx_and (by omega) (by simpa using hs) ?_
    (conv => whnf)
    refine call_i (ref_CheckScene s (hsm s (List.mem_of_getElem? hs))) ?_
    (conv => whnf)
    refine ask_m (fun h => ?_) (fun h => ?_)
    · have h : ¬ checkScene s = 0 := by simpa using h
      rw [if_neg h] at hf
      rw [← hf, if_pos h]
      (conv => whnf)
      refine retO [.ownC 0 0 Y.Joint 12, .ownC 0 1 Y.Mass 5, .ownC 0 2 Y.Shape 3, .ownC 0 3 Y.Skip 2, .frz 1, .frz 2, .frz 3, .frz 4] ?_
      (conv => whnf)
      exact ⟨[], ⟨rfl, trivial⟩, trivial⟩
    · have h : checkScene s = 0 := by simpa using h
      rw [if_pos h] at hf
      (conv => whnf)
      exact ⟨k + 1, [], ⟨hlt, hf⟩, by omega, ⟨⟨rfl, rfl, rfl, eqI hkk, trivial⟩, ⟨rfl, trivial⟩⟩⟩
  · have hk : k = l.length := by simp at hlt; omega
    subst hk
    rw [List.drop_length, firstBad] at hf
    rw [if_neg (by rw [← hf]; simp)]
    have hok := firstBad_all hf.symm
    (conv => whnf)
    refine loop_intro (fun k : Nat => ⟨[(0, .one (.dv (dScs l))), (1, .one (.dv (dVs bs))), (4, .one (.vptr 0 0)), (8, .one (.vptr 1 0)), (9, I k)], [(0, bScZ), (1, .vars Y.Scene [.row 2, .row 3, .row 4, .row 5]), (2, bJs (joinTo l bs k).robot.joints), (3, bMs (joinTo l bs k).robot.masses), (4, bShs (joinTo l bs k).shapes), (5, bSks (joinTo l bs k).skips)], 6⟩) (fun k => k ≤ l.length) (fun k => l.length - k) [.ownC 1 0 Y.Joint 12, .ownC 1 1 Y.Mass 5, .ownC 1 2 Y.Shape 3, .ownC 1 3 Y.Skip 2] 0 [] (Nat.zero_le _) ⟨⟨rfl, rfl, rfl, rfl, rfl, trivial⟩, ⟨rfl, rfl, rfl, rfl, rfl, rfl, trivial⟩⟩ ?_
    rintro k hk
    have hkk : IntKind.i64.wrap ((k : Int) + 1) = ((k + 1 : Nat) : Int) := by rw [w64] <;> omega
    have hz := joinTo_sized bs hok k hk
    have z1 := hz.joints; have z2 := hz.masses; have z3 := hz.shapes; have z4 := hz.skips
    (conv => whnf)
    refine ask_m (fun hlt => ?_) (fun hlt => ?_)
    · have hlt : k < l.length := by simpa using hlt
      obtain ⟨s, hs⟩ : ∃ s, l[k]? = some s := ⟨_, List.getElem?_eq_getElem hlt⟩
      obtain ⟨b, hbk⟩ : ∃ b, bs[k]? = some b := ⟨_, List.getElem?_eq_getElem (by omega)⟩
      obtain ⟨g0, g1, g2, g3, g4⟩ := scene_facts (hok s (List.mem_of_getElem? hs))
      obtain ⟨f1, f2, f3, f4⟩ := robot_facts g0
      have hnx : joinTo l bs (k + 1) = addScene (joinTo l bs k) (letter k) b s := by rw [joinTo, getD_at hs, getD_at hbk]
      generalize joinTo l bs k = acc at *
      obtain ⟨p, hp⟩ : ∃ p : Int, p = acc.robot.joints.length := ⟨_, rfl⟩
      have hp0 : 0 ≤ p ∧ p ≤ 1000 := by omega
      (conv => whnf)
      refine idx_and (by omega) (by simpa using hbk) ?_
      (conv => whnf)
      have hpl : (((acc.robot.joints.map encJ).length : Nat) : Int) = p := by rw [List.length_map, hp]
      rw [hpl]
      refine loop_intro (fun i : Nat => ⟨[(0, .one (.dv (dScs l))), (1, .one (.dv (dVs bs))), (4, .one (.vptr 0 0)), (8, .one (.vptr 1 0)), (9, I k), (10, I p), (11, .one (.vptr 6 0)), (12, I i)], [(0, bScZ), (1, .vars Y.Scene [.row 7, .row 3, .row 4, .row 5]), (3, bMs acc.robot.masses), (4, bShs acc.shapes), (5, bSks acc.skips), (6, bV b), (7, bJs (acc.robot.joints ++ (s.robot.joints.take i).map (joinJ (letter k) p b)))], 8⟩) (fun i => i ≤ s.robot.joints.length) (fun i => s.robot.joints.length - i) [] 0 [(7, 2)] (Nat.zero_le _) ⟨⟨rfl, rfl, rfl, rfl, rfl, rfl, rfl, rfl, trivial⟩, ⟨rfl, rfl, rfl, rfl, rfl, rfl, rows_eq (by simp), trivial⟩⟩ ?_
      rintro i hi
      have hii : IntKind.i64.wrap ((i : Int) + 1) = ((i + 1 : Nat) : Int) := by rw [w64] <;> omega
      (conv => whnf)
      refine idx_and (by omega) (by simpa using hs) ?_
      (conv => whnf)
      refine ask_m (fun hilt => ?_) (fun hilt => ?_)
      · have hilt : i < s.robot.joints.length := by simpa using hilt
        obtain ⟨j, hj⟩ : ∃ j, s.robot.joints[i]? = some j := ⟨_, List.getElem?_eq_getElem hilt⟩
        obtain ⟨n1, ⟨n2, n3⟩, ⟨n4, n5⟩, n6⟩ := f2 i j hj
        have nm : j.name.size ≤ 16 := by
          simp only [nameOk, Bool.and_eq_true, decide_eq_true_eq] at n1
          exact n1.1.1.2
        (conv => whnf)
        refine idx_and (by omega) (by simpa using hs) ?_
        (conv => whnf)
        refine idx_and (by omega) (by simpa using hj) ?_
        (conv => whnf)
        rw [hkk]
        refine ⟨⟨by omega, by omega, by show ((k + 1 : Nat) : Int) ≤ 4; omega⟩, ?_⟩
        (conv => whnf)
        rw [Int.toNat_natCast, Int.toNat_natCast, cut_letter k (by omega)]
        refine ⟨by rw [letter_size k (by omega)]; omega, ?_⟩
        (conv => whnf)
        refine ask_m (fun hpar => ?_) (fun hpar => ?_)
        · have hpar : j.parent = -1 := by simpa using hpar
          (conv => whnf)
          refine ⟨⟨by decide, by decide⟩, ?_⟩
          (conv => whnf)
          refine ⟨⟨by decide, by decide⟩, ?_⟩
          (conv => whnf)
          refine ⟨⟨by decide, by decide⟩, ?_⟩
          (conv => whnf)
          refine ⟨⟨by decide, by decide⟩, ?_⟩
          (conv => whnf)
          refine ⟨⟨by decide, by decide⟩, ?_⟩
          (conv => whnf)
          refine ⟨⟨by decide, by decide⟩, ?_⟩
          (conv => whnf)
          refine call_i (ref_raised j.parent p hp0 (by omega)) ?_
          (conv => whnf)
          refine ⟨⟨by simp; omega, by simp; omega⟩, ?_⟩
          (conv => whnf)
          exact ⟨i + 1, [(7, 10)], hilt, by omega, ⟨⟨rfl, rfl, rfl, rfl, rfl, rfl, rfl, eqI hii, trivial⟩, ⟨rfl, rfl, rfl, rfl, rfl, rfl, rows_eq (by rw [map_enc1 _ _ _ hj, joinJ, joinV, if_pos hpar]; rfl), trivial⟩⟩⟩
        · have hpar : ¬ j.parent = -1 := by simpa using hpar
          (conv => whnf)
          refine call_i (ref_raised j.parent p hp0 (by omega)) ?_
          (conv => whnf)
          refine ⟨⟨by simp; omega, by simp; omega⟩, ?_⟩
          (conv => whnf)
          exact ⟨i + 1, [(7, 10)], hilt, by omega, ⟨⟨rfl, rfl, rfl, rfl, rfl, rfl, rfl, eqI hii, trivial⟩, ⟨rfl, rfl, rfl, rfl, rfl, rfl, rows_eq (by rw [map_enc1 _ _ _ hj, joinJ, joinV, if_neg hpar]; rfl), trivial⟩⟩⟩
      have hi : i = s.robot.joints.length := by simp at hilt; omega
      subst hi
      rw [List.take_length]
      obtain ⟨J, hJ⟩ : ∃ J, J = acc.robot.joints ++ s.robot.joints.map (joinJ (letter k) p b) := ⟨_, rfl⟩
      rw [← hJ]
      (conv => whnf)
      refine loop_intro (fun i : Nat => ⟨[(0, .one (.dv (dScs l))), (1, .one (.dv (dVs bs))), (4, .one (.vptr 0 0)), (8, .one (.vptr 1 0)), (9, I k), (10, I p), (11, .one (.vptr 6 0)), (14, I i)], [(0, bScZ), (1, .vars Y.Scene [.row 7, .row 8, .row 4, .row 5]), (4, bShs acc.shapes), (5, bSks acc.skips), (6, bV b), (7, bJs J), (8, bMs (acc.robot.masses ++ (s.robot.masses.take i).map (joinM p)))], 9⟩) (fun i => i ≤ s.robot.masses.length) (fun i => s.robot.masses.length - i) [] 0 [(8, 3)] (Nat.zero_le _) ⟨⟨rfl, rfl, rfl, rfl, rfl, rfl, rfl, rfl, trivial⟩, ⟨rfl, rfl, rfl, rfl, rfl, rfl, rows_eq (by simp), trivial⟩⟩ ?_
      rintro i hi
      have hii : IntKind.i64.wrap ((i : Int) + 1) = ((i + 1 : Nat) : Int) := by rw [w64] <;> omega
      (conv => whnf)
      refine idx_and (by omega) (by simpa using hs) ?_
      (conv => whnf)
      refine ask_m (fun hilt => ?_) (fun hilt => ?_)
      · have hilt : i < s.robot.masses.length := by simpa using hilt
        obtain ⟨m, hm⟩ : ∃ j, s.robot.masses[i]? = some j := ⟨_, List.getElem?_eq_getElem hilt⟩
        have hmo := f4 m (List.mem_of_getElem? hm)
        simp only [massOk, Bool.and_eq_true, decide_eq_true_eq] at hmo
        have em : IntKind.i64.wrap (m.link + p) = raise p m.link := by rw [raise, if_neg (by omega), w64] <;> omega
        (conv => whnf)
        refine idx_and (by omega) (by simpa using hs) ?_
        (conv => whnf)
        refine idx_and (by omega) (by simpa using hm) ?_
        (conv => whnf)
        refine ⟨⟨by simp; omega, by simp; omega⟩, ?_⟩
        (conv => whnf)
        exact ⟨i + 1, [(8, 11)], hilt, by omega, ⟨⟨rfl, rfl, rfl, rfl, rfl, rfl, rfl, eqI hii, trivial⟩, ⟨rfl, rfl, rfl, rfl, rfl, rfl, rows_eq (by rw [map_enc1 _ _ _ hm, joinM, ← em]; rfl), trivial⟩⟩⟩
      have hi : i = s.robot.masses.length := by simp at hilt; omega
      subst hi
      rw [List.take_length]
      obtain ⟨M, hM⟩ : ∃ M, M = acc.robot.masses ++ s.robot.masses.map (joinM p) := ⟨_, rfl⟩
      rw [← hM]
      (conv => whnf)
      refine loop_intro (fun i : Nat => ⟨[(0, .one (.dv (dScs l))), (1, .one (.dv (dVs bs))), (4, .one (.vptr 0 0)), (8, .one (.vptr 1 0)), (9, I k), (10, I p), (11, .one (.vptr 6 0)), (16, I i)], [(0, bScZ), (1, .vars Y.Scene [.row 7, .row 8, .row 9, .row 5]), (5, bSks acc.skips), (6, bV b), (7, bJs J), (8, bMs M), (9, bShs (acc.shapes ++ (s.shapes.take i).map (joinSh p b)))], 10⟩) (fun i => i ≤ s.shapes.length) (fun i => s.shapes.length - i) [] 0 [(9, 4)] (Nat.zero_le _) ⟨⟨rfl, rfl, rfl, rfl, rfl, rfl, rfl, rfl, trivial⟩, ⟨rfl, rfl, rfl, rfl, rfl, rfl, rows_eq (by simp), trivial⟩⟩ ?_
      rintro i hi
      have hii : IntKind.i64.wrap ((i : Int) + 1) = ((i + 1 : Nat) : Int) := by rw [w64] <;> omega
      (conv => whnf)
      refine idx_and (by omega) (by simpa using hs) ?_
      (conv => whnf)
      refine ask_m (fun hilt => ?_) (fun hilt => ?_)
      · have hilt : i < s.shapes.length := by simpa using hilt
        obtain ⟨x, hx⟩ : ∃ j, s.shapes[i]? = some j := ⟨_, List.getElem?_eq_getElem hilt⟩
        obtain ⟨q1, q2, q3, q4, q5⟩ := g2 x (List.mem_of_getElem? hx)
        have q1 := link_bd q1
        have hjs := joinSh_pts (p := p) (b := b) q5
        (conv => whnf)
        refine idx_and (by omega) (by simpa using hs) ?_
        (conv => whnf)
        refine idx_and (by omega) (by simpa using hx) ?_
        (conv => whnf)
        refine ask_m (fun hpar => ?_) (fun hpar => ?_)
        · have hpar : x.link = -1 := by simpa using hpar
          rw [if_pos hpar] at hjs
          (conv => whnf)
          refine call_i (ref_raised x.link p hp0 (by omega)) ?_
          (conv => whnf)
          refine call_i (ref_shifted x (raise p x.link) b (by omega)) ?_
          (conv => whnf)
          refine ⟨⟨by simp; omega, by simp; omega⟩, ?_⟩
          (conv => whnf)
          exact ⟨i + 1, [(9, 13)], hilt, by omega, ⟨⟨rfl, rfl, rfl, rfl, rfl, rfl, rfl, eqI hii, trivial⟩, ⟨rfl, rfl, rfl, rfl, rfl, rfl, rows_eq (by rw [map_enc1 _ _ _ hx, hjs]; rfl), trivial⟩⟩⟩
        · have hpar : ¬ x.link = -1 := by simpa using hpar
          rw [if_neg hpar] at hjs
          (conv => whnf)
          refine call_i (ref_raised x.link p hp0 (by omega)) ?_
          (conv => whnf)
          refine call_i (ref_shifted x (raise p x.link) ⟨0, 0, 0⟩ (by omega)) ?_
          (conv => whnf)
          refine ⟨⟨by simp; omega, by simp; omega⟩, ?_⟩
          (conv => whnf)
          exact ⟨i + 1, [(9, 13)], hilt, by omega, ⟨⟨rfl, rfl, rfl, rfl, rfl, rfl, rfl, eqI hii, trivial⟩, ⟨rfl, rfl, rfl, rfl, rfl, rfl, rows_eq (by rw [map_enc1 _ _ _ hx, hjs]; rfl), trivial⟩⟩⟩
      have hi : i = s.shapes.length := by simp at hilt; omega
      subst hi
      rw [List.take_length]
      obtain ⟨S, hS⟩ : ∃ S, S = acc.shapes ++ s.shapes.map (joinSh p b) := ⟨_, rfl⟩
      rw [← hS]
      (conv => whnf)
      refine loop_intro (fun i : Nat => ⟨[(0, .one (.dv (dScs l))), (1, .one (.dv (dVs bs))), (4, .one (.vptr 0 0)), (8, .one (.vptr 1 0)), (9, I k), (10, I p), (19, I i)], [(0, bScZ), (1, .vars Y.Scene [.row 7, .row 8, .row 9, .row 10]), (7, bJs J), (8, bMs M), (9, bShs S), (10, bSks (acc.skips ++ (s.skips.take i).map (joinSk p)))], 11⟩) (fun i => i ≤ s.skips.length) (fun i => s.skips.length - i) [] 0 [(10, 5)] (Nat.zero_le _) ⟨⟨rfl, rfl, rfl, rfl, rfl, rfl, rfl, trivial⟩, ⟨rfl, rfl, rfl, rfl, rfl, rows_eq (by simp), trivial⟩⟩ ?_
      rintro i hi
      have hii : IntKind.i64.wrap ((i : Int) + 1) = ((i + 1 : Nat) : Int) := by rw [w64] <;> omega
      (conv => whnf)
      refine idx_and (by omega) (by simpa using hs) ?_
      (conv => whnf)
      refine ask_m (fun hilt => ?_) (fun hilt => ?_)
      · have hilt : i < s.skips.length := by simpa using hilt
        obtain ⟨x, hx⟩ : ∃ j, s.skips[i]? = some j := ⟨_, List.getElem?_eq_getElem hilt⟩
        obtain ⟨q1, q2⟩ := g4 x (List.mem_of_getElem? hx)
        have q1 := link_bd q1
        have q2 := link_bd q2
        (conv => whnf)
        refine idx_and (by omega) (by simpa using hs) ?_
        (conv => whnf)
        refine idx_and (by omega) (by simpa using hx) ?_
        (conv => whnf)
        refine call_i (ref_raised x.a p hp0 (by omega)) ?_
        (conv => whnf)
        refine call_i (ref_raised x.b p hp0 (by omega)) ?_
        (conv => whnf)
        refine ⟨⟨by simp; omega, by simp; omega⟩, ?_⟩
        (conv => whnf)
        exact ⟨i + 1, [(10, 13)], hilt, by omega, ⟨⟨rfl, rfl, rfl, rfl, rfl, rfl, eqI hii, trivial⟩, ⟨rfl, rfl, rfl, rfl, rfl, rows_eq (by rw [map_enc1 _ _ _ hx]; rfl), trivial⟩⟩⟩
      have hi : i = s.skips.length := by simp at hilt; omega
      subst hi
      rw [List.take_length]
      (conv => whnf)
      exact ⟨k + 1, [(2, 7), (3, 8), (4, 9), (5, 10)], hlt, by omega, ⟨⟨rfl, rfl, rfl, rfl, eqI hkk, trivial⟩, ⟨rfl, rfl, rows_eq (by rw [hnx, hJ, hp]; rfl), rows_eq (by rw [hnx, hM, hp]; rfl), rows_eq (by rw [hnx, hS, hp]; rfl), rows_eq (by rw [hnx, hp]; rfl), trivial⟩⟩⟩
    · have hk : k = l.length := by simp at hlt; omega
      subst hk
      (conv => whnf)
      refine call_i (ref_CheckScene (joinTo l bs l.length) (hz.small (by omega))) ?_
      (conv => whnf)
      refine ⟨⟨trivial, trivial⟩, ?_⟩
      (conv => whnf)
      refine ask_m (fun h => ?_) (fun h => ?_)
      · have h : ¬ checkScene (joinTo l bs l.length) = 0 := by simpa using h
        rw [if_pos h]
        (conv => whnf)
        refine retO [.ownC 0 0 Y.Joint 12, .ownC 0 1 Y.Mass 5, .ownC 0 2 Y.Shape 3, .ownC 0 3 Y.Skip 2, .frz 6, .frz 7, .frz 8, .frz 9] ?_
        (conv => whnf)
        exact ⟨[], ⟨rfl, trivial⟩, trivial⟩
      · have h : checkScene (joinTo l bs l.length) = 0 := by simpa using h
        rw [if_neg (by simp [h])]
        (conv => whnf)
        refine retO [.frz 2, .frz 3, .frz 4, .frz 5] ?_
        (conv => whnf)
        exact ⟨[], ⟨rfl, trivial⟩, trivial⟩
end Go.Proofs.Ythdbdokhncaijaa

/- law35: scenes, few, awake. -/
namespace Go.Proofs.Ythdbdokhncaijaa
open Eng
set_option maxRecDepth 10000
attribute [local irreducible] FnOk loopW idxF retX arrF

def rot (l : List Int) (n : Nat) : List Int := (List.range l.length).map fun i => l.getD ((i + n) % l.length) 0
def nSc (m : List Int) : Nat := 1 + (nxt m 0 3).toNat
def scAt (l m : List Int) (n i : Nat) : Scene := if nxt m (1 + 4 * i) 2 = 1 then mkTrack (rot l (n - i)) else mkScene (rot l (n - i))
def bsAt (m : List Int) (i : Nat) : Vec := ⟨(nxt m (1 + 4 * i + 1) 19 - 9) * 32768, (nxt m (1 + 4 * i + 2) 19 - 9) * 32768, nxt m (1 + 4 * i + 3) 7 - 3⟩
def scsTo (l m : List Int) (k : Nat) : List Scene := (List.range k).map (scAt l m (nSc m))
def bssTo (m : List Int) (k : Nat) : List Vec := (List.range k).map (bsAt m)
def scsOf (l m : List Int) : List Scene := scsTo l m (nSc m)
def bssOf (m : List Int) : List Vec := bssTo m (nSc m)
theorem nSc_bd (m : List Int) : 1 ≤ nSc m ∧ nSc m ≤ 3 := by
  have := nxt_bd (l := m) (j := 0) (m := 3) (by omega)
  unfold nSc; omega
theorem scAt_ok (l m : List Int) (n i : Nat) : checkScene (scAt l m n i) = 0 := by
  unfold scAt; split
  · exact mkTrack_ok _
  · exact mkScene_ok _
theorem scsOf_ok (l m : List Int) : ∀ s ∈ scsOf l m, checkScene s = 0 := by
  intro s hs
  obtain ⟨i, _, rfl⟩ := List.mem_map.1 hs
  exact scAt_ok _ _ _ _
theorem scsOf_len (l m : List Int) : (scsOf l m).length = nSc m := by simp [scsOf, scsTo]
theorem bssOf_len (m : List Int) : (bssOf m).length = nSc m := by simp [bssOf, bssTo]
theorem half9 {a : Int} (h0 : 0 ≤ a) (h1 : a < 19) : IntKind.i64.wrap ((IntKind.i64.wrap ((a - 9) * 65536)).tdiv 2) = (a - 9) * 32768 := by
  rw [w64 (x := (a - 9) * 65536) (by omega) (by omega), show (a - 9) * 65536 = (a - 9) * 32768 * 2 by omega, Int.mul_tdiv_cancel _ (by decide), w64] <;> omega
set_option maxHeartbeats 1000000 in
theorem law35_scenes (l m : List Int) (hl : l.length ≤ 17592186044416) (hm : m.length ≤ 17592186044416) : FnOk Try.prog F.law35_scenes [Li l, Li m] [] 0 (.tup [(false, [.row 0]), (false, [.row 1])]) [(0, .rows Y.Scene 4 ((scsOf l m).map encSc)), (1, .rows Y.Vec 3 ((bssOf m).map encV))] 2 := by
  refine fnOkG [(12, [.frz 3])] tab mix G.law35_scenes rfl rfl (by kernel_rfl) rfl rfl ?_
  (conv => whnf)
  refine call_i (mk_From m) ?_
  (conv => whnf)
  refine call_i (mk_Next m 0 3 (by omega) (by omega) (by omega)) ?_
  (conv => whnf)
  obtain ⟨c1, c2⟩ := nSc_bd m
  have n0 := nxt_bd (l := m) (j := 0) (m := 3) (by omega)
  have hn : IntKind.i64.wrap (1 + nxt m 0 3) = (nSc m : Nat) := by rw [w64 (by omega) (by omega)]; unfold nSc; omega
  rw [hn, scsOf, bssOf]
  refine loop_intro (fun i : Nat => ⟨[(0, Li l), (6, .one (.vptr 0 0)), (7, .one (.row 1)), (8, .one (.row 2)), (9, I ((nSc m : Int) - i))], [(0, SrcJ m (1 + 4 * i)), (1, .rows Y.Scene 4 ((scsTo l m i).map encSc)), (2, .rows Y.Vec 3 ((bssTo m i).map encV))], 3⟩) (fun i => i ≤ nSc m) (fun i => nSc m - i) [.own 7 Y.Scene 4, .own 8 Y.Vec 3] 0 [] (Nat.zero_le _) ⟨⟨rfl, rfl, rfl, rfl, eqI (by simp), trivial⟩, ⟨rfl, rfl, rfl, trivial⟩⟩ ?_
  rintro i hi
  have hii : IntKind.i64.wrap ((nSc m : Int) - i - 1) = (nSc m : Int) - ((i + 1 : Nat) : Int) := by rw [w64] <;> omega
  (conv => whnf)
  refine ask_m (fun h => ?_) (fun h => ?_)
  · have hlt : i < nSc m := by have := of_decide_eq_true h; omega
    (conv => whnf)
    refine loop_intro (fun j : Nat => ⟨[(0, Li l), (6, .one (.vptr 0 0)), (7, .one (.row 1)), (8, .one (.row 2)), (9, I ((nSc m : Int) - i)), (10, .one (.row 3)), (11, I j)], [(0, SrcJ m (1 + 4 * i)), (1, .rows Y.Scene 4 ((scsTo l m i).map encSc)), (2, .rows Y.Vec 3 ((bssTo m i).map encV)), (3, .rows Y.int 1 (((List.range j).map fun q => l.getD ((q + (nSc m - i)) % l.length) 0).map encI))], 4⟩) (fun j => j ≤ l.length) (fun j => l.length - j) [.own 10 Y.int 1] 0 [] (Nat.zero_le _) ⟨⟨rfl, rfl, rfl, rfl, rfl, rfl, rfl, trivial⟩, ⟨rfl, rfl, rfl, rfl, trivial⟩⟩ ?_
    rintro j hj
    have hjj : IntKind.i64.wrap ((j : Int) + 1) = ((j + 1 : Nat) : Int) := by rw [w64] <;> omega
    (conv => whnf)
    refine ask_m (fun hjl => ?_) (fun hjl => ?_)
    · have hjl : j < l.length := by simpa using hjl
      have e1 : (IntKind.i64.wrap ((j : Int) + ((nSc m : Int) - i))).tmod (((l.map encI).length : Nat) : Int) = (((j + (nSc m - i)) % l.length : Nat) : Int) := by
        rw [List.length_map, w64 (by omega) (by omega), Int.tmod_eq_emod_of_nonneg (by omega), show (j : Int) + ((nSc m : Int) - i) = ((j + (nSc m - i) : Nat) : Int) by omega]; rfl
      have hmod : (j + (nSc m - i)) % l.length < l.length := Nat.mod_lt _ (by omega)
      obtain ⟨y, hy⟩ : ∃ y, l[(j + (nSc m - i)) % l.length]? = some y := ⟨_, List.getElem?_eq_getElem hmod⟩
      (conv => whnf)
      refine ⟨by rw [List.length_map]; omega, ?_⟩
      (conv => whnf)
      rw [e1]
      refine idx_and (xs := l) (x := y) (by omega) (by rw [Int.toNat_natCast]; exact hy) ?_
      (conv => whnf)
      refine ⟨⟨by simp; omega, by simp; omega⟩, ?_⟩
      (conv => whnf)
      refine ⟨j + 1, [(3, 5)], hjl, by omega, ⟨⟨rfl, rfl, rfl, rfl, rfl, rfl, eqI hjj, trivial⟩, ⟨rfl, rfl, rfl, ?_, trivial⟩⟩⟩
      rw [range_enc, getD_at hy]; rfl
    · have hj : j = l.length := by simp at hjl; omega
      subst hj
      have er : ((List.range l.length).map fun q => l.getD ((q + (nSc m - i)) % l.length) 0) = rot l (nSc m - i) := rfl
      rw [er]
      have hrl : (rot l (nSc m - i)).length = l.length := by simp [rot]
      have m0 := nxt_bd (l := m) (j := 1 + 4 * i) (m := 2) (by omega)
      have m1 := nxt_bd (l := m) (j := 1 + 4 * i + 1) (m := 19) (by omega)
      have m2 := nxt_bd (l := m) (j := 1 + 4 * i + 2) (m := 19) (by omega)
      have m3 := nxt_bd (l := m) (j := 1 + 4 * i + 3) (m := 7) (by omega)
      have l1 : (scsTo l m i).length = i := by simp [scsTo]
      have l2 : (bssTo m i).length = i := by simp [bssTo]
      have n1 : (scsTo l m (i + 1)).map encSc = (scsTo l m i).map encSc ++ [encSc (scAt l m (nSc m) i)] := range_enc
      have n2 : (bssTo m (i + 1)).map encV = (bssTo m i).map encV ++ [encV (bsAt m i)] := range_enc
      have e5 : SrcJ m (1 + 4 * i + 1 + 1 + 1 + 1) = SrcJ m (1 + 4 * (i + 1)) := by rw [show 1 + 4 * (i + 1) = 1 + 4 * i + 1 + 1 + 1 + 1 by omega]
      (conv => whnf)
      refine call_i (mk_Scene (rot l (nSc m - i)) (by omega)) ?_
      (conv => whnf)
      refine call_i (mk_Next m (1 + 4 * i) 2 (by omega) (by omega) (by omega)) ?_
      (conv => whnf)
      refine ask_m (fun h2 => ?_) (fun h2 => ?_)
      · have h2 : nxt m (1 + 4 * i) 2 = 1 := by simpa using h2
        (conv => whnf)
        refine call_i (mk_Track (rot l (nSc m - i)) (by omega)) ?_
        (conv => whnf)
        refine ⟨⟨by simp; omega, by simp; omega⟩, ?_⟩
        (conv => whnf)
        refine call_i (mk_Signed m (1 + 4 * i + 1) 9 19 (by decide) (by decide) (by decide) (by omega)) ?_
        (conv => whnf)
        refine ⟨(by decide : (2 : Int) ≠ 0), ?_⟩
        (conv => whnf)
        rw [half9 m1.1 m1.2]
        refine call_i (mk_Signed m (1 + 4 * i + 1 + 1) 9 19 (by decide) (by decide) (by decide) (by omega)) ?_
        (conv => whnf)
        refine ⟨(by decide : (2 : Int) ≠ 0), ?_⟩
        (conv => whnf)
        rw [half9 m2.1 m2.2]
        refine call_i (mk_Signed m (1 + 4 * i + 1 + 1 + 1) 3 7 (by decide) (by decide) (by decide) (by omega)) ?_
        (conv => whnf)
        refine ⟨⟨by simp; omega, by simp; omega⟩, ?_⟩
        (conv => whnf)
        exact ⟨i + 1, [(1, 6), (2, 8)], hlt, by omega, ⟨⟨rfl, rfl, rfl, rfl, eqI hii, trivial⟩, ⟨e5, rows_eq (by rw [n1, scAt, if_pos h2]; rfl), rows_eq (by rw [n2]; rfl), trivial⟩⟩⟩
      · have h2 : ¬ nxt m (1 + 4 * i) 2 = 1 := by simpa using h2
        (conv => whnf)
        refine ⟨⟨by simp; omega, by simp; omega⟩, ?_⟩
        (conv => whnf)
        refine call_i (mk_Signed m (1 + 4 * i + 1) 9 19 (by decide) (by decide) (by decide) (by omega)) ?_
        (conv => whnf)
        refine ⟨(by decide : (2 : Int) ≠ 0), ?_⟩
        (conv => whnf)
        rw [half9 m1.1 m1.2]
        refine call_i (mk_Signed m (1 + 4 * i + 1 + 1) 9 19 (by decide) (by decide) (by decide) (by omega)) ?_
        (conv => whnf)
        refine ⟨(by decide : (2 : Int) ≠ 0), ?_⟩
        (conv => whnf)
        rw [half9 m2.1 m2.2]
        refine call_i (mk_Signed m (1 + 4 * i + 1 + 1 + 1) 3 7 (by decide) (by decide) (by decide) (by omega)) ?_
        (conv => whnf)
        refine ⟨⟨by simp; omega, by simp; omega⟩, ?_⟩
        (conv => whnf)
        exact ⟨i + 1, [(1, 6), (2, 8)], hlt, by omega, ⟨⟨rfl, rfl, rfl, rfl, eqI hii, trivial⟩, ⟨e5, rows_eq (by rw [n1, scAt, if_neg h2]; rfl), rows_eq (by rw [n2]; rfl), trivial⟩⟩⟩
  · have hi : i = nSc m := by have := of_decide_eq_false h; omega
    rw [← hi]
    (conv => whnf)
    refine retO [] ?_
    (conv => whnf)
    exact ⟨[(0, 1), (1, 2)], ⟨rfl, trivial⟩, ⟨rfl, rfl, trivial⟩⟩
def fewB (l : List Scene) (bs : List Vec) : Bool := decide (l.length ≤ 6) && decide (bs.length ≤ 8) && l.all smallB
theorem law35_few (l : List Scene) (bs : List Vec) : FnOk Try.prog F.law35_few [.one (.dv (dScs l)), .one (.dv (dVs bs))] [] 0 (Bo (fewB l bs)) [] 0 := by
  refine fnOk tab mix G.law35_few rfl rfl (by kernel_rfl) rfl rfl ?_
  (conv => whnf)
  refine ask_m (fun h1 => ?_) (fun h1 => ?_)
  · have h1 : ¬ l.length ≤ 6 := by have := of_decide_eq_true h1; simp only [List.length_map] at this; omega
    (conv => whnf)
    refine ret0 ?_
    exact ret_b (by simp [fewB, h1]) rfl
  have h1 : l.length ≤ 6 := by have := of_decide_eq_false h1; simp only [List.length_map] at this; omega
  (conv => whnf)
  refine ask_m (fun h2 => ?_) (fun h2 => ?_)
  · have h2 : ¬ bs.length ≤ 8 := by have := of_decide_eq_true h2; simp only [List.length_map] at this; omega
    (conv => whnf)
    refine ret0 ?_
    exact ret_b (by simp [fewB, h2]) rfl
  have h2 : bs.length ≤ 8 := by have := of_decide_eq_false h2; simp only [List.length_map] at this; omega
  (conv => whnf)
  refine loop_intro (fun k : Nat => ⟨[(0, .one (.dv (dScs l))), (5, I k)], [], 0⟩) (fun k => k ≤ l.length ∧ (l.take k).all smallB = true) (fun k => l.length - k) [] 0 [] ⟨Nat.zero_le _, rfl⟩ ⟨⟨rfl, rfl, trivial⟩, trivial⟩ ?_
  rintro k ⟨hk, hall⟩
  have hkk : IntKind.i64.wrap ((k : Int) + 1) = ((k + 1 : Nat) : Int) := by rw [w64] <;> omega
  (conv => whnf)
  refine ask_m (fun hlt => ?_) (fun hlt => ?_)
  · have hlt : k < l.length := by simpa using hlt
    obtain ⟨s, hs⟩ : ∃ s, l[k]? = some s := ⟨_, List.getElem?_eq_getElem hlt⟩
    (conv => whnf)
    refine idx_and (by omega) (by simpa using hs) ?_
    (conv => whnf)
    refine call_i (mk_SmallScene s) ?_
    (conv => whnf)
    cases hb : smallB s with
    | true =>
      (conv => whnf)
      exact ⟨k + 1, [], ⟨hlt, all_take hall hs hb⟩, by omega, ⟨⟨rfl, eqI hkk, trivial⟩, trivial⟩⟩
    | false =>
      (conv => whnf)
      refine ret0 ?_
      exact ret_b (by rw [fewB, all_not hs hb]; simp) rfl
  · have hk : k = l.length := by simp at hlt; omega
    subst hk
    rw [List.take_length] at hall
    (conv => whnf)
    refine ret0 ?_
    exact ret_b (by rw [fewB, hall]; simp [h1, h2]) rfl
def a1 : Scene := ⟨slider 1 9, [⟨0, 1, [⟨0, 0, 0⟩]⟩], []⟩
def j1 : Scene := ⟨⟨[⟨⟨#[97, 97]⟩, 4, -1, ⟨0, 0, 0⟩, 0, 9, 1, 65536, 65536, 65536⟩, ⟨⟨#[98, 97]⟩, 4, -1, ⟨0, 7, 0⟩, 0, 9, 1, 65536, 65536, 65536⟩], []⟩, [⟨0, 1, [⟨0, 0, 0⟩]⟩, ⟨1, 1, [⟨0, 0, 0⟩]⟩], []⟩
set_option maxHeartbeats 1000000 in
theorem join_a1 : joinOf [a1, a1] [⟨0, 0, 0⟩, ⟨0, 7, 0⟩] = (j1, 0) := by decide +kernel
theorem part_a1 : partOf [a1, a1] [(3 : Int), 4] 1 = ([4], true) := by decide +kernel
theorem a1_small : ∀ s ∈ [a1, a1], small s := by
  have h : small a1 := ⟨by decide, by decide, by decide, by decide, by decide⟩
  intro s hs
  simp only [List.mem_cons, List.not_mem_nil, or_false, or_self] at hs
  subst hs; exact h
theorem cmpVec : cmpB Try.prog 8 Y.Vec = true ∧ Try.prog.eqGuardType Try.prog.depth Y.Vec = false := ⟨by kernel_rfl, by kernel_rfl⟩
theorem law35_awake : FnOk Try.prog F.law35_awake [] [] 0 (Bo true) [] 0 := by
  refine fnOkG [(2, [.frz 1])] tab mix G.law35_awake rfl rfl (by kernel_rfl) rfl rfl ?_
  (conv => whnf)
  refine call_i (mk_Slider 1 9 (by decide)) ?_
  (conv => whnf)
  refine call_i (team_Join [a1, a1] [⟨0, 0, 0⟩, ⟨0, 7, 0⟩] (by decide) (by decide) a1_small) ?_
  (conv => whnf)
  rw [join_a1]
  (conv => whnf)
  refine call_i (team_Part' [a1, a1] [3, 4] 1 (by decide) (by decide)) ?_
  (conv => whnf)
  rw [part_a1]
  (conv => whnf)
  refine call_i (mk_Same_int64 [4] [4] (by decide) (by decide)) ?_
  (conv => whnf)
  refine ⟨⟨trivial, trivial⟩, ?_⟩
  (conv => whnf)
  refine idx_and (xs := j1.robot.joints) (x := ⟨⟨#[98, 97]⟩, 4, -1, ⟨0, 7, 0⟩, 0, 9, 1, 65536, 65536, 65536⟩) (by decide) rfl ?_
  (conv => whnf)
  refine idx_and (xs := j1.robot.joints) (x := ⟨⟨#[98, 97]⟩, 4, -1, ⟨0, 7, 0⟩, 0, 9, 1, 65536, 65536, 65536⟩) (by decide) rfl ?_
  (conv => whnf)
  refine ⟨cmpVec, ?_⟩
  (conv => whnf)
  refine idx_and (xs := j1.shapes) (x := ⟨1, 1, [⟨0, 0, 0⟩]⟩) (by decide) rfl ?_
  (conv => whnf)
  refine ret0 ?_
  exact ret_b (by decide) rfl
/- joins, TeamJoins -/
theorem emptyS_small : small emptyS := ⟨by decide, by decide, by decide, by decide, fun x hx => by cases hx⟩
theorem joinOf_small (l : List Scene) (bs : List Vec) : small (joinOf l bs).1 := by
  unfold joinOf
  split
  · exact emptyS_small
  · rename_i h1
    split
    · exact emptyS_small
    · rename_i h2
      split
      · exact emptyS_small
      · refine (joinTo_sized bs (firstBad_all (by simpa using h2)) l.length (Nat.le_refl _)).small (by omega)
theorem law35_joins (l : List Scene) (bs : List Vec) (hl : l.length ≤ 4611686018427387904) (hb : bs.length ≤ 4611686018427387904) (hsm : ∀ s ∈ l, small s) : FnOk Try.prog F.law35_joins [.one (.dv (dScs l)), .one (.dv (dVs bs))] [] 0 (Bo true) [] 0 := by
  refine fnOk tab mix G.law35_joins rfl rfl (by kernel_rfl) rfl rfl ?_
  (conv => whnf)
  refine call_i (team_Join l bs hl hb hsm) ?_
  (conv => whnf)
  refine call_i (ref_JoinScenes l bs hl hb hsm) ?_
  (conv => whnf)
  refine ask_mt (by simp) ?_
  (conv => whnf)
  refine call_i (mk_SameScene (joinOf l bs).1 (joinOf l bs).1 (joinOf_small l bs) (joinOf_small l bs)) ?_
  (conv => whnf)
  (conv => whnf)
  refine ret0 ?_
  exact ret_b (by simp) rfl
theorem ok_small {s : Scene} (h : checkScene s = 0) : small s := by
  obtain ⟨g0, g1, g2, g3, g4⟩ := scene_facts h
  obtain ⟨f1, _, f3, _⟩ := robot_facts g0
  exact ⟨by omega, by omega, by omega, by omega, fun x hx => by have := (g2 x hx).2.2.1; omega⟩
def setC (v : Vec) (c : Nat) (y : Int) : Vec := if c = 0 then ⟨y, v.y, v.z⟩ else if c = 1 then ⟨v.x, y, v.z⟩ else ⟨v.x, v.y, y⟩
theorem joinsR (l : List Scene) (bs : List Vec) (S R : List (List DV)) (hS : S = l.map encSc) (hR : R = bs.map encV) (hl : l.length ≤ 4611686018427387904) (hb : bs.length ≤ 4611686018427387904) (hsm : ∀ s ∈ l, small s) : FnOk Try.prog F.law35_joins [.one (.dv (.lst 4 S)), .one (.dv (.lst 3 R))] [] 0 (Bo true) [] 0 := by
  subst hS hR; exact law35_joins l bs hl hb hsm
set_option maxHeartbeats 1000000 in
theorem law35_Joins (raw : List Scene) (bases : List Vec) (l m : List Int) (a : Int) (h1 : raw.length ≤ 4611686018427387904 ∧ ∀ s ∈ raw, small s) (h2 : bases.length ≤ 4611686018427387904) (hl : l.length ≤ 17592186044416) (hm : m.length ≤ 17592186044416) (ha : True) : FnOk Try.prog F.law35_TeamJoins [.one (.dv (dScs raw)), .one (.dv (dVs bases)), Li l, Li m, I a] [] 0 (Bo true) [] 0 := by
  refine fnOk tab mix G.law35_TeamJoins rfl rfl (by kernel_rfl) rfl rfl ?_
  (conv => whnf)
  refine call_i (law35_few raw bases) ?_
  (conv => whnf)
  cases hf : fewB raw bases with
  | false =>
    (conv => whnf)
    refine call_i (law35_awake) ?_
    (conv => whnf)
    (conv => whnf)
    refine ret0 ?_
    exact ret_b rfl rfl
  | true =>
  simp only [fewB, Bool.and_eq_true, decide_eq_true_eq] at hf
  obtain ⟨⟨f1, f2⟩, f3⟩ := hf
  (conv => whnf)
  refine call_i (law35_scenes l m hl hm) ?_
  (conv => whnf)
  have hxo := scsOf_ok l m
  have hxs : ∀ s ∈ scsOf l m, small s := fun s hs => ok_small (hxo s hs)
  have hxl := scsOf_len l m
  have hbl := bssOf_len m
  obtain ⟨c1, c2⟩ := nSc_bd m
  generalize scsOf l m = x at *
  generalize bssOf m = b at *
  refine ⟨⟨by simp; omega, by simp; omega⟩, ?_⟩
  (conv => whnf)
  refine call_i (mk_Round a ((b.map encV).length : Int) (by rw [List.length_map]; omega) (by rw [List.length_map]; omega)) ?_
  (conv => whnf)
  have e1 := Int.emod_nonneg a (b := ((b.map encV).length : Int)) (by rw [List.length_map]; omega)
  have e2 := Int.emod_lt_of_pos a (b := ((b.map encV).length : Int)) (by rw [List.length_map]; omega)
  obtain ⟨i, hi⟩ : ∃ i : Nat, a % ((b.map encV).length : Int) = i := ⟨_, (Int.toNat_of_nonneg e1).symm⟩
  rw [hi] at e2 ⊢
  have hib : i < b.length := by simp at e2; omega
  obtain ⟨v, hv⟩ : ∃ v, b[i]? = some v := ⟨_, List.getElem?_eq_getElem hib⟩
  refine call_i (mk_Round a 3 (by decide) (by decide)) ?_
  (conv => whnf)
  refine call_i (mk_Round a 5 (by decide) (by decide)) ?_
  (conv => whnf)
  generalize hy : IntKind.i64.wrap (IntKind.i64.wrap (a % 5 - 2) * 4194304) = y
  refine ⟨⟨by omega, by omega⟩, ?_⟩
  (conv => whnf)
  have g1 := Int.emod_nonneg a (b := 3) (by decide)
  have g2 := Int.emod_lt_of_pos a (b := 3) (by decide)
  obtain ⟨c, hc⟩ : ∃ c : Nat, a % 3 = c := ⟨_, (Int.toNat_of_nonneg g1).symm⟩
  rw [hc] at g1 g2 ⊢
  refine ⟨⟨by omega, by omega⟩, ?_⟩
  (conv => whnf)
  have hset : ∀ w : Vec, (b.map encV).set i (encV w) = (b.set i w).map encV := fun w => (List.map_set).symm
  rw [Int.toNat_natCast, Int.toNat_natCast]
  have hcl : ∀ w : Vec, (b.set i w).length ≤ 4611686018427387904 := fun w => by rw [List.length_set]; omega
  have hap : x.map encSc ++ raw.map encSc = (x ++ raw).map encSc := (List.map_append).symm
  have hbp : b.map encV ++ bases.map encV = (b ++ bases).map encV := (List.map_append).symm
  have hxr : ∀ s ∈ x ++ raw, small s := fun s hs => by
    rcases List.mem_append.1 hs with hs | hs
    · exact hxs s hs
    · exact h1.2 s hs
  obtain rfl | rfl | rfl : c = 0 ∨ c = 1 ∨ c = 2 := by omega
  · (conv => whnf)
    refine idx_map (x := v) hv ?_
    (conv => whnf)
    refine call_i (law35_awake) ?_
    (conv => whnf)
    refine call_i (law35_joins raw bases (by omega) (by omega) h1.2) ?_
    (conv => whnf)
    refine call_i (law35_joins x b (by omega) (by omega) hxs) ?_
    (conv => whnf)
    refine ⟨⟨trivial, trivial⟩, ?_⟩
    (conv => whnf)
    refine call_i (law35_joins x bases (by omega) (by omega) hxs) ?_
    (conv => whnf)
    refine ⟨⟨trivial, trivial⟩, ?_⟩
    (conv => whnf)
    refine call_i (joinsR x (b.set i ⟨y, v.y, v.z⟩) _ _ rfl (hset ⟨y, v.y, v.z⟩) (by omega) (hcl _) hxs) ?_
    (conv => whnf)
    refine ⟨⟨trivial, trivial⟩, ?_⟩
    (conv => whnf)
    refine ⟨⟨by simp; omega, by simp; omega⟩, ?_⟩
    (conv => whnf)
    refine ⟨⟨by simp; omega, by simp; omega⟩, ?_⟩
    (conv => whnf)
    refine call_i (joinsR (x ++ raw) (b ++ bases) _ _ hap hbp (by simp; omega) (by simp; omega) hxr) ?_
    (conv => whnf)
    refine ⟨⟨trivial, trivial⟩, ?_⟩
    (conv => whnf)
    (conv => whnf)
    refine ret0 ?_
    exact ret_b rfl rfl
  · (conv => whnf)
    refine idx_map (x := v) hv ?_
    (conv => whnf)
    refine call_i (law35_awake) ?_
    (conv => whnf)
    refine call_i (law35_joins raw bases (by omega) (by omega) h1.2) ?_
    (conv => whnf)
    refine call_i (law35_joins x b (by omega) (by omega) hxs) ?_
    (conv => whnf)
    refine ⟨⟨trivial, trivial⟩, ?_⟩
    (conv => whnf)
    refine call_i (law35_joins x bases (by omega) (by omega) hxs) ?_
    (conv => whnf)
    refine ⟨⟨trivial, trivial⟩, ?_⟩
    (conv => whnf)
    refine call_i (joinsR x (b.set i ⟨v.x, y, v.z⟩) _ _ rfl (hset ⟨v.x, y, v.z⟩) (by omega) (hcl _) hxs) ?_
    (conv => whnf)
    refine ⟨⟨trivial, trivial⟩, ?_⟩
    (conv => whnf)
    refine ⟨⟨by simp; omega, by simp; omega⟩, ?_⟩
    (conv => whnf)
    refine ⟨⟨by simp; omega, by simp; omega⟩, ?_⟩
    (conv => whnf)
    refine call_i (joinsR (x ++ raw) (b ++ bases) _ _ hap hbp (by simp; omega) (by simp; omega) hxr) ?_
    (conv => whnf)
    refine ⟨⟨trivial, trivial⟩, ?_⟩
    (conv => whnf)
    (conv => whnf)
    refine ret0 ?_
    exact ret_b rfl rfl
  · (conv => whnf)
    refine idx_map (x := v) hv ?_
    (conv => whnf)
    refine call_i (law35_awake) ?_
    (conv => whnf)
    refine call_i (law35_joins raw bases (by omega) (by omega) h1.2) ?_
    (conv => whnf)
    refine call_i (law35_joins x b (by omega) (by omega) hxs) ?_
    (conv => whnf)
    refine ⟨⟨trivial, trivial⟩, ?_⟩
    (conv => whnf)
    refine call_i (law35_joins x bases (by omega) (by omega) hxs) ?_
    (conv => whnf)
    refine ⟨⟨trivial, trivial⟩, ?_⟩
    (conv => whnf)
    refine call_i (joinsR x (b.set i ⟨v.x, v.y, y⟩) _ _ rfl (hset ⟨v.x, v.y, y⟩) (by omega) (hcl _) hxs) ?_
    (conv => whnf)
    refine ⟨⟨trivial, trivial⟩, ?_⟩
    (conv => whnf)
    refine ⟨⟨by simp; omega, by simp; omega⟩, ?_⟩
    (conv => whnf)
    refine ⟨⟨by simp; omega, by simp; omega⟩, ?_⟩
    (conv => whnf)
    refine call_i (joinsR (x ++ raw) (b ++ bases) _ _ hap hbp (by simp; omega) (by simp; omega) hxr) ?_
    (conv => whnf)
    refine ⟨⟨trivial, trivial⟩, ?_⟩
    (conv => whnf)
    (conv => whnf)
    refine ret0 ?_
    exact ret_b rfl rfl
end Go.Proofs.Ythdbdokhncaijaa

/- Data of the types of robots and scenes. -/
namespace Go.Proofs.Ythdbdokhncaijaa
open Eng
set_option maxRecDepth 10000

theorem tz_i64 {n : Nat} {ds : List DV} (h : Typed T (n + 1) Y.int64 ds) : ∃ a, ds = [.int .i64 a] := by
  obtain ⟨a, h, _⟩ := h
  exact ⟨a, h⟩
theorem tz_int {n : Nat} {ds : List DV} (h : Typed T (n + 1) Y.int ds) : ∃ a, ds = [.int .i64 a] := by
  obtain ⟨a, h, _⟩ := h
  exact ⟨a, h⟩
theorem tz_str {n : Nat} {ds : List DV} (h : Typed T (n + 1) Y.string ds) : ∃ a, ds = [.str a] := by
  obtain ⟨a, h, _⟩ := h
  exact ⟨a, h⟩
theorem tz_Vec {n : Nat} {ds : List DV} (h : Typed T (n + 2) Y.Vec ds) : ∃ v, ds = encV v := by
  obtain ⟨ps, h1, h2, rfl⟩ := h
  match ps, h1 with
  | [a, b, c], _ =>
    obtain ⟨x, rfl⟩ := tz_i64 (h2 a (by simp))
    obtain ⟨y, rfl⟩ := tz_i64 (h2 b (by simp))
    obtain ⟨z, rfl⟩ := tz_i64 (h2 c (by simp))
    exact ⟨⟨x, y, z⟩, rfl⟩
theorem tz_Joint {n : Nat} {ds : List DV} (h : Typed T (n + 3) Y.Joint ds) : ∃ j, ds = encJ j := by
  obtain ⟨ps, h, rfl⟩ := h
  replace h := all2_cons h
  obtain ⟨d, q, rfl, h1, h⟩ := h
  obtain ⟨a1, rfl⟩ := tz_str h1
  replace h := all2_cons h
  obtain ⟨d, q, rfl, h1, h⟩ := h
  obtain ⟨a2, rfl⟩ := tz_int h1
  replace h := all2_cons h
  obtain ⟨d, q, rfl, h1, h⟩ := h
  obtain ⟨a3, rfl⟩ := tz_int h1
  replace h := all2_cons h
  obtain ⟨d, q, rfl, h1, h⟩ := h
  obtain ⟨a4, rfl⟩ := tz_Vec h1
  replace h := all2_cons h
  obtain ⟨d, q, rfl, h1, h⟩ := h
  obtain ⟨a5, rfl⟩ := tz_i64 h1
  replace h := all2_cons h
  obtain ⟨d, q, rfl, h1, h⟩ := h
  obtain ⟨a6, rfl⟩ := tz_i64 h1
  replace h := all2_cons h
  obtain ⟨d, q, rfl, h1, h⟩ := h
  obtain ⟨a7, rfl⟩ := tz_i64 h1
  replace h := all2_cons h
  obtain ⟨d, q, rfl, h1, h⟩ := h
  obtain ⟨a8, rfl⟩ := tz_i64 h1
  replace h := all2_cons h
  obtain ⟨d, q, rfl, h1, h⟩ := h
  obtain ⟨a9, rfl⟩ := tz_i64 h1
  replace h := all2_cons h
  obtain ⟨d, q, rfl, h1, h⟩ := h
  obtain ⟨a10, rfl⟩ := tz_i64 h1
  obtain rfl := all2_nil h
  exact ⟨⟨a1, a2, a3, a4, a5, a6, a7, a8, a9, a10⟩, rfl⟩
theorem tz_Mass {n : Nat} {ds : List DV} (h : Typed T (n + 3) Y.Mass ds) : ∃ j, ds = encM j := by
  obtain ⟨ps, h, rfl⟩ := h
  replace h := all2_cons h
  obtain ⟨d, q, rfl, h1, h⟩ := h
  obtain ⟨a1, rfl⟩ := tz_int h1
  replace h := all2_cons h
  obtain ⟨d, q, rfl, h1, h⟩ := h
  obtain ⟨a2, rfl⟩ := tz_i64 h1
  replace h := all2_cons h
  obtain ⟨d, q, rfl, h1, h⟩ := h
  obtain ⟨a3, rfl⟩ := tz_Vec h1
  obtain rfl := all2_nil h
  exact ⟨⟨a1, a2, a3⟩, rfl⟩
theorem tz_Skip {n : Nat} {ds : List DV} (h : Typed T (n + 2) Y.Skip ds) : ∃ j, ds = encSk j := by
  obtain ⟨ps, h, rfl⟩ := h
  replace h := all2_cons h
  obtain ⟨d, q, rfl, h1, h⟩ := h
  obtain ⟨a1, rfl⟩ := tz_int h1
  replace h := all2_cons h
  obtain ⟨d, q, rfl, h1, h⟩ := h
  obtain ⟨a2, rfl⟩ := tz_int h1
  obtain rfl := all2_nil h
  exact ⟨⟨a1, a2⟩, rfl⟩
theorem tz_sVec {n : Nat} {ds : List DV} (h : Typed T (n + 3) Y.s_Vec ds) : ∃ l : List Vec, ds = [dVs l] ∧ l.length ≤ 140737488351232 := by
  obtain ⟨rs, h1, h2, _, h3⟩ := h
  obtain ⟨l, rfl⟩ := map_of (enc := encV) fun r hr => tz_Vec (h3 r hr)
  refine ⟨l, h1, ?_⟩
  have : l.length * 24 ≤ reachBytes := by simpa using h2
  unfold reachBytes at this; omega
theorem tz_Shape {n : Nat} {ds : List DV} (h : Typed T (n + 4) Y.Shape ds) : ∃ j, ds = encSh j ∧ j.points.length ≤ 140737488351232 := by
  obtain ⟨ps, h, rfl⟩ := h
  replace h := all2_cons h
  obtain ⟨d, q, rfl, h1, h⟩ := h
  obtain ⟨a1, rfl⟩ := tz_int h1
  replace h := all2_cons h
  obtain ⟨d, q, rfl, h1, h⟩ := h
  obtain ⟨a2, rfl⟩ := tz_i64 h1
  replace h := all2_cons h
  obtain ⟨d, q, rfl, h1, h⟩ := h
  obtain ⟨a3, rfl, h3⟩ := tz_sVec h1
  obtain rfl := all2_nil h
  exact ⟨⟨a1, a2, a3⟩, rfl, h3⟩
theorem map_of' {α : Type} {enc : α → List DV} {Q : α → Prop} : ∀ {rs : List (List DV)}, (∀ r ∈ rs, ∃ a, r = enc a ∧ Q a) → ∃ xs : List α, rs = xs.map enc ∧ ∀ x ∈ xs, Q x
  | [], _ => ⟨[], rfl, by simp⟩
  | r :: rs, h => by
    obtain ⟨a, ha, qa⟩ := h r (by simp)
    obtain ⟨xs, hx, qx⟩ := map_of' (rs := rs) fun r hr => h r (by simp [hr])
    exact ⟨a :: xs, by rw [ha, hx]; rfl, fun x hx' => by
      rcases List.mem_cons.1 hx' with rfl | hx'
      · exact qa
      · exact qx x hx'⟩
theorem tz_Robot {n : Nat} {ds : List DV} (h : Typed T (n + 5) Y.Robot ds) : ∃ r : Robot, ds = [dJs r.joints, dMs r.masses] ∧ r.joints.length ≤ 140737488351232 ∧ r.masses.length ≤ 140737488351232 := by
  obtain ⟨ps, h, rfl⟩ := h
  replace h := all2_cons h
  obtain ⟨d, q, rfl, h1, h⟩ := h
  obtain ⟨rs, e1, b1, _, g1⟩ := h1
  obtain ⟨js, rfl⟩ := map_of (enc := encJ) fun r hr => tz_Joint (g1 r hr)
  replace h := all2_cons h
  obtain ⟨d2, q, rfl, h2, h⟩ := h
  obtain ⟨rs, e2, b2, _, g2⟩ := h2
  obtain ⟨ms, rfl⟩ := map_of (enc := encM) fun r hr => tz_Mass (g2 r hr)
  obtain rfl := all2_nil h
  refine ⟨⟨js, ms⟩, by rw [e1, e2]; rfl, ?_, ?_⟩
  · have : js.length * 104 ≤ reachBytes := by simpa using b1
    unfold reachBytes at this; simp only; omega
  · have : ms.length * 40 ≤ reachBytes := by simpa using b2
    unfold reachBytes at this; simp only; omega
theorem tyB_Robot {n : Nat} {ds : List DV} (h : Typed T (n + 5) Y.Robot ds) : ∃ r : Robot, ds = [dJs r.joints, dMs r.masses] ∧ (r.joints.length ≤ 140737488351232 ∧ r.masses.length ≤ 140737488351232) := tz_Robot h
theorem tyB_Scene {n : Nat} {ds : List DV} (h : Typed T (n + 6) Y.Scene ds) : ∃ s : Scene, ds = [dJs s.robot.joints, dMs s.robot.masses, dShs s.shapes, dSks s.skips] ∧ small s := by
  obtain ⟨ps, h, rfl⟩ := h
  replace h := all2_cons h
  obtain ⟨d, q, rfl, h1, h⟩ := h
  obtain ⟨r, rfl, r1, r2⟩ := tz_Robot h1
  replace h := all2_cons h
  obtain ⟨d, q, rfl, h1, h⟩ := h
  obtain ⟨rs, e1, b1, _, g1⟩ := h1
  obtain ⟨shs, rfl, gs⟩ := map_of' (enc := encSh) (Q := fun x => x.points.length ≤ 140737488351232) fun r hr => tz_Shape (g1 r hr)
  replace h := all2_cons h
  obtain ⟨d2, q, rfl, h2, h⟩ := h
  obtain ⟨rs, e2, b2, _, g2⟩ := h2
  obtain ⟨sks, rfl⟩ := map_of (enc := encSk) fun r hr => tz_Skip (g2 r hr)
  obtain rfl := all2_nil h
  refine ⟨⟨r, shs, sks⟩, by rw [e1, e2]; rfl, ?_⟩
  have a1 : shs.length * 40 ≤ reachBytes := by simpa using b1
  have a2 : sks.length * 16 ≤ reachBytes := by simpa using b2
  unfold reachBytes at a1 a2
  exact ⟨by simp only; omega, by simp only; omega, by simp only; omega, by simp only; omega, fun x hx => by have := gs x hx; omega⟩
end Go.Proofs.Ythdbdokhncaijaa

/- law35: data of the law's types. -/
namespace Go.Proofs.Ythdbdokhncaijaa
open Eng
set_option maxRecDepth 10000

theorem tyB_s_Vec {n : Nat} {ds : List DV} (h : Typed T (n + 3) Y.s_Vec ds) : ∃ l : List Vec, ds = [dVs l] ∧ l.length ≤ 4611686018427387904 := by
  obtain ⟨l, h1, h2⟩ := tz_sVec h
  exact ⟨l, h1, by omega⟩
theorem tyB_s_Scene {n : Nat} {ds : List DV} (h : Typed T (n + 7) Y.s_Scene ds) : ∃ l : List Scene, ds = [dScs l] ∧ (l.length ≤ 4611686018427387904 ∧ ∀ s ∈ l, small s) := by
  obtain ⟨rs, h1, h2, _, h3⟩ := h
  obtain ⟨l, rfl, hs⟩ := map_of' (enc := encSc) (Q := small) fun r hr => tyB_Scene (h3 r hr)
  refine ⟨l, h1, ?_, hs⟩
  have : l.length * 96 ≤ reachBytes := by simpa using h2
  unfold reachBytes at this; omega
end Go.Proofs.Ythdbdokhncaijaa

/- mk.Config. -/
namespace Go.Proofs.Ythdbdokhncaijaa
open Eng
set_option maxRecDepth 10000
attribute [local irreducible] FnOk loopW idxF retX arrF

def cfgV (l : List Int) (q : Nat) (j : Joint) : Int := if nxt l q 6 = 0 then j.lo else if nxt l q 6 = 1 then j.hi else j.lo + nxt l (q + 1) (j.hi - j.lo + 1)
def cfgN (l : List Int) (q : Nat) : Nat := if nxt l q 6 = 0 then q + 1 else if nxt l q 6 = 1 then q + 1 else q + 1 + 1
def cfgP (l : List Int) : Nat → Nat
  | 0 => 0
  | k + 1 => cfgN l (cfgP l k)
def cfgTo (js : List Joint) (l : List Int) : Nat → List Int
  | 0 => []
  | k + 1 => cfgTo js l k ++ (js[k]?.toList.map (cfgV l (cfgP l k)))
def cfg (r : Robot) (l : List Int) : List Int := cfgTo r.joints l r.joints.length
theorem cfgTo_len (js : List Joint) (l : List Int) : ∀ k, k ≤ js.length → (cfgTo js l k).length = k
  | 0, _ => rfl
  | k + 1, h => by
    rw [cfgTo, List.length_append, cfgTo_len js l k (by omega), List.getElem?_eq_getElem (by omega)]; rfl
theorem cfg_len (r : Robot) (l : List Int) : (cfg r l).length = r.joints.length := cfgTo_len _ _ _ (Nat.le_refl _)
theorem limits {r : Robot} (h : checkRobot r = 0) {k : Nat} {j : Joint} (hj : r.joints[k]? = some j) : j.lo ≤ j.hi ∧ -4194304 ≤ j.lo ∧ j.hi ≤ 4194304 := by
  obtain ⟨_, ⟨_, _⟩, _, _, ⟨h1, h2, h3⟩, _⟩ := (robot_facts h).2.1 k j hj
  have := reach_cases j.kind
  omega
theorem mk_Config (r : Robot) (l : List Int) (hr : checkRobot r = 0) (hl : l.length ≤ 4611686018427387904) : FnOk Try.prog F.mk_Config [Ro r, Li l] [] 0 (Li (cfg r l)) [] 0 := by
  have h10 := (robot_facts hr).1
  refine fnOk tab mix G.mk_Config rfl rfl (by kernel_rfl) rfl rfl ?_
  (conv => whnf)
  refine call_i (mk_From l) ?_
  (conv => whnf)
  refine loop_intro (fun k : Nat => ⟨[(2, .one (.vptr 0 0)), (5, .one (.vptr 1 0)), (6, .one (.row 2)), (7, I k)], [(0, bRo r), (1, SrcJ l (cfgP l k)), (2, .rows Y.int64 1 ((cfgTo r.joints l k).map encI))], 3⟩) (fun k => k ≤ r.joints.length) (fun k => r.joints.length - k) [.own 6 Y.int64 1] 0 [] (Nat.zero_le _) ⟨⟨rfl, rfl, rfl, rfl, trivial⟩, ⟨rfl, rfl, rfl, trivial⟩⟩ ?_
  rintro k hk
  have hkk : IntKind.i64.wrap ((k : Int) + 1) = ((k + 1 : Nat) : Int) := by rw [w64] <;> omega
  have hlen := cfgTo_len r.joints l k hk
  (conv => whnf)
  refine ask_m (fun hlt => ?_) (fun hlt => ?_)
  · have hlt : k < r.joints.length := by simpa using hlt
    obtain ⟨j, hj⟩ : ∃ j, r.joints[k]? = some j := ⟨_, List.getElem?_eq_getElem hlt⟩
    obtain ⟨l1, l2, l3⟩ := limits hr hj
    have hn : cfgTo r.joints l (k + 1) = cfgTo r.joints l k ++ [cfgV l (cfgP l k) j] := by rw [cfgTo, hj]; rfl
    have hp : cfgP l (k + 1) = cfgN l (cfgP l k) := rfl
    generalize cfgTo r.joints l k = xs at *
    generalize cfgP l k = q at *
    have e1 : IntKind.i64.wrap (IntKind.i64.wrap (j.hi - j.lo) + 1) = j.hi - j.lo + 1 := by rw [w64 (x := j.hi - j.lo) (by omega) (by omega), w64] <;> omega
    have nb := nxt_bd (l := l) (j := q + 1) (m := j.hi - j.lo + 1) (by omega)
    have e2 : IntKind.i64.wrap (j.lo + nxt l (q + 1) (j.hi - j.lo + 1)) = j.lo + nxt l (q + 1) (j.hi - j.lo + 1) := by rw [w64] <;> omega
    (conv => whnf)
    refine idx_and (by omega) (by simpa using hj) ?_
    (conv => whnf)
    refine idx_and (by omega) (by simpa using hj) ?_
    (conv => whnf)
    refine call_i (mk_Next l q 6 (by decide) (by decide) hl) ?_
    (conv => whnf)
    refine ask_m (fun h0 => ?_) (fun h0 => ?_)
    · have h0 : nxt l q 6 = 0 := by simpa using h0
      (conv => whnf)
      refine ⟨⟨by simp; omega, by simp; omega⟩, ?_⟩
      (conv => whnf)
      exact ⟨k + 1, [(2, 4)], hlt, by omega, ⟨⟨rfl, rfl, rfl, eqI hkk, trivial⟩, ⟨rfl, by rw [hp, cfgN, if_pos h0]; rfl, rows_eq (by rw [hn, cfgV, if_pos h0, List.map_append]; rfl), trivial⟩⟩⟩
    · have h0 : ¬ nxt l q 6 = 0 := by simpa using h0
      (conv => whnf)
      refine ask_m (fun h1 => ?_) (fun h1 => ?_)
      · have h1 : nxt l q 6 = 1 := by simpa using h1
        (conv => whnf)
        refine ⟨⟨by simp; omega, by simp; omega⟩, ?_⟩
        (conv => whnf)
        exact ⟨k + 1, [(2, 4)], hlt, by omega, ⟨⟨rfl, rfl, rfl, eqI hkk, trivial⟩, ⟨rfl, by rw [hp, cfgN, if_neg h0, if_pos h1]; rfl, rows_eq (by rw [hn, cfgV, if_neg h0, if_pos h1, List.map_append]; rfl), trivial⟩⟩⟩
      · have h1 : ¬ nxt l q 6 = 1 := by simpa using h1
        (conv => whnf)
        rw [e1]
        refine call_i (mk_Next l (q + 1) (j.hi - j.lo + 1) (by omega) (by omega) hl) ?_
        (conv => whnf)
        refine ⟨⟨by simp; omega, by simp; omega⟩, ?_⟩
        (conv => whnf)
        exact ⟨k + 1, [(2, 4)], hlt, by omega, ⟨⟨rfl, rfl, rfl, eqI hkk, trivial⟩, ⟨rfl, by rw [hp, cfgN, if_neg h0, if_neg h1]; rfl, rows_eq (by rw [hn, cfgV, if_neg h0, if_neg h1, e2, List.map_append]; rfl), trivial⟩⟩⟩
  · have hk : k = r.joints.length := by simp at hlt; omega
    subst hk
    (conv => whnf)
    refine retO [.frz 2] ?_
    (conv => whnf)
    exact ⟨[], ⟨rfl, trivial⟩, trivial⟩
end Go.Proofs.Ythdbdokhncaijaa

/- law35: Concat, TeamApart. -/
namespace Go.Proofs.Ythdbdokhncaijaa
open Eng
set_option maxRecDepth 10000
attribute [local irreducible] FnOk loopW idxF retX arrF

def encL (l : List Int) : List DV := [.lst 1 (l.map encI)]
abbrev dLs (l : List (List Int)) : DV := .lst 1 (l.map encL)
theorem flat_map (l : List (List Int)) (x : List Int) : (l ++ [x]).flatten.map encI = l.flatten.map encI ++ x.map encI := by
  rw [List.flatten_append, List.map_append]; simp
theorem team_concat (l : List (List Int)) (hl : l.length ≤ 4611686018427387904) (hs : l.flatten.length ≤ 17592186044416) : FnOk Try.prog F.team_concat_int64 [.one (.dv (dLs l))] [] 0 (Li l.flatten) [] 0 := by
  refine fnOk tab mix G.team_concat_int64 rfl rfl (by kernel_rfl) rfl rfl ?_
  (conv => whnf)
  refine loop_intro (fun k : Nat => ⟨[(3, .one (.row 0)), (6, .one (.dv (dLs l))), (7, I l.length), (8, I k)], [(0, .rows Y.int64 1 ((l.take k).flatten.map encI))], 1⟩) (fun k => k ≤ l.length) (fun k => l.length - k) [.own 3 Y.int64 1] 0 [] (Nat.zero_le _) ⟨⟨rfl, rfl, eqI (by simp), rfl, trivial⟩, ⟨rfl, trivial⟩⟩ ?_
  rintro k hk
  have hkk : IntKind.i64.wrap ((k : Int) + 1) = ((k + 1 : Nat) : Int) := by rw [w64] <;> omega
  (conv => whnf)
  refine ask_m (fun hlt => ?_) (fun hlt => ?_)
  · have hlt : k < l.length := by have := of_decide_eq_true hlt; omega
    obtain ⟨x, hx⟩ : ∃ x, l[k]? = some x := ⟨_, List.getElem?_eq_getElem hlt⟩
    have ht : l.take (k + 1) = l.take k ++ [x] := by rw [List.take_add_one, hx]; rfl
    have hb : ((l.take k).flatten.map encI ++ x.map encI).length ≤ 17592186044416 := by
      rw [← flat_map, ← ht, List.length_map]
      refine Nat.le_trans ?_ hs
      have e : l = l.take (k + 1) ++ l.drop (k + 1) := (List.take_append_drop _ _).symm
      conv => rhs; rw [e]
      rw [List.flatten_append, List.length_append]; omega
    (conv => whnf)
    refine idx_and (by omega) (by simpa using hx) ?_
    (conv => whnf)
    refine ⟨⟨by omega, by show _ * 8 ≤ _; omega⟩, ?_⟩
    (conv => whnf)
    exact ⟨k + 1, [(0, 1)], hlt, by omega, ⟨⟨rfl, rfl, rfl, eqI hkk, trivial⟩, ⟨rows_eq (by rw [ht, flat_map]), trivial⟩⟩⟩
  · have hk : k = l.length := by have := of_decide_eq_false hlt; omega
    subst hk
    rw [List.take_length]
    (conv => whnf)
    refine retO [.frz 0] ?_
    (conv => whnf)
    exact ⟨[], ⟨rfl, trivial⟩, trivial⟩
theorem team_Concat (l : List (List Int)) (hl : l.length ≤ 4611686018427387904) (hs : l.flatten.length ≤ 17592186044416) : FnOk Try.prog F.team_Concat [.one (.dv (dLs l))] [] 0 (Li l.flatten) [] 0 := by
  refine fnOk tab mix G.team_Concat rfl rfl (by kernel_rfl) rfl rfl ?_
  (conv => whnf)
  refine call_i (team_concat l hl hs) ?_
  (conv => whnf)
  (conv => whnf)
  refine ret0 ?_
  exact ret_dv rfl rfl
/- the parts of a concatenation -/
theorem flat_part {α : Type} : ∀ (ls : List (List α)) (k : Nat) (x : List α), ls[k]? = some x → (ls.flatten.take ((ls.take (k + 1)).map List.length).sum).drop ((ls.take k).map List.length).sum = x
  | [], k, x, h => by simp at h
  | y :: ls, 0, x, h => by
    simp at h; subst h; simp
  | y :: ls, k + 1, x, h => by
    have := flat_part ls k x (by simpa using h)
    show ((y ++ ls.flatten).take ((y :: ls.take (k + 1)).map List.length).sum).drop ((y :: ls.take k).map List.length).sum = x
    rw [List.map_cons, List.map_cons, List.sum_cons, List.sum_cons, List.take_length_add_append, List.drop_length_add_append]
    exact this
theorem parts_of {x : List Scene} {ls : List (List Int)} (hl : ls.length = x.length) (he : ∀ (k : Nat) s c, x[k]? = some s → ls[k]? = some c → c.length = s.robot.joints.length) : ∀ k, k ≤ x.length → ((ls.take k).map List.length).sum = cnt x k
  | 0, _ => rfl
  | k + 1, h => by
    obtain ⟨s, hs⟩ : ∃ s, x[k]? = some s := ⟨_, List.getElem?_eq_getElem (by omega)⟩
    obtain ⟨c, hc⟩ : ∃ c, ls[k]? = some c := ⟨_, List.getElem?_eq_getElem (by omega)⟩
    rw [cnt_succ hs, map_take1 _ hc, List.sum_append, parts_of hl he k (by omega)]
    have := he k s c hs hc
    simp; omega
theorem flat_len (ls : List (List Int)) : ls.flatten.length = ((ls.take ls.length).map List.length).sum := by
  rw [List.take_length, List.length_flatten]
def cfgsTo (x : List Scene) (o : List Int) (k : Nat) : List (List Int) := (List.range k).map fun i => cfg (x.getD i emptyS).robot ((i : Int) :: o)
theorem law35_Apart (l m o : List Int) (a : Int) (hl : l.length ≤ 17592186044416) (hm : m.length ≤ 17592186044416) (ho : o.length ≤ 17592186043904) (ha : True) : FnOk Try.prog F.law35_TeamApart [Li l, Li m, Li o, I a] [] 0 (Bo true) [] 0 := by
  refine fnOkG [(8, [.frz 2])] tab mix G.law35_TeamApart rfl rfl (by kernel_rfl) rfl rfl ?_
  (conv => whnf)
  refine call_i (law35_scenes l m hl hm) ?_
  (conv => whnf)
  have hxo := scsOf_ok l m
  have hxl := scsOf_len l m
  obtain ⟨c1, c2⟩ := nSc_bd m
  generalize scsOf l m = x at *
  refine loop_intro (fun k : Nat => ⟨[(2, Li o), (3, I a), (9, .one (.row 0)), (11, .one (.row 2)), (12, I k)], [(0, .rows Y.Scene 4 (x.map encSc)), (2, .rows Y.s_int64 1 ((cfgsTo x o k).map encL))], 3⟩) (fun k => k ≤ x.length) (fun k => x.length - k) [.own 11 Y.s_int64 1] 0 [] (Nat.zero_le _) ⟨⟨rfl, rfl, rfl, rfl, rfl, trivial⟩, ⟨rfl, rfl, trivial⟩⟩ ?_
  rintro k hk
  have hkk : IntKind.i64.wrap ((k : Int) + 1) = ((k + 1 : Nat) : Int) := by rw [w64] <;> omega
  have hcl : (cfgsTo x o k).length = k := by simp [cfgsTo]
  (conv => whnf)
  refine ask_m (fun hlt => ?_) (fun hlt => ?_)
  · have hlt : k < x.length := by simpa using hlt
    obtain ⟨s, hs⟩ : ∃ s, x[k]? = some s := ⟨_, List.getElem?_eq_getElem hlt⟩
    have hso := hxo s (List.mem_of_getElem? hs)
    have hro := (scene_facts hso).1
    have hnx : (cfgsTo x o (k + 1)).map encL = (cfgsTo x o k).map encL ++ [encL (cfg (x.getD k emptyS).robot ((k : Int) :: o))] := range_enc
    rw [getD_at hs] at hnx
    (conv => whnf)
    refine ⟨⟨by omega, by simp; omega⟩, ?_⟩
    (conv => whnf)
    refine idx_map (x := s) (by simpa using hs) ?_
    (conv => whnf)
    refine ⟨⟨by simp; omega, by simp; omega⟩, ?_⟩
    (conv => whnf)
    refine call_i (mk_Config s.robot ((k : Int) :: o) hro (by simp; omega)) ?_
    (conv => whnf)
    refine ⟨⟨by simp; omega, by simp; omega⟩, ?_⟩
    (conv => whnf)
    exact ⟨k + 1, [(2, 6)], hlt, by omega, ⟨⟨rfl, rfl, rfl, rfl, eqI hkk, trivial⟩, ⟨rfl, rows_eq (by rw [hnx]; rfl), trivial⟩⟩⟩
  · have hk : k = x.length := by simp at hlt; omega
    subst hk
    have hj : ∀ s ∈ x, s.robot.joints.length ≤ 1000 := fun s hs => by
      have := (robot_facts (scene_facts (hxo s hs)).1).1
      omega
    have he : ∀ (k : Nat) s c, x[k]? = some s → (cfgsTo x o x.length)[k]? = some c → c.length = s.robot.joints.length := by
      intro k s c hs hc
      have hk : k < x.length := (List.getElem?_eq_some_iff.1 hs).1
      rw [cfgsTo, List.getElem?_map, List.getElem?_range hk] at hc
      simp only [Option.map_some, Option.some.injEq] at hc
      rw [← hc, getD_at hs, cfg_len]
    have hsum := parts_of hcl he
    have hfl : (cfgsTo x o x.length).flatten.length = cnt x x.length := by rw [flat_len, hcl, hsum _ (Nat.le_refl _)]
    have hbd := cnt_bd hj x.length (Nat.le_refl _)
    generalize hls : cfgsTo x o x.length = ls at *
    (conv => whnf)
    refine call_i (mk_Round a ((x.map encSc).length : Int) (by rw [List.length_map]; omega) (by rw [List.length_map]; omega)) ?_
    (conv => whnf)
    have e1 := Int.emod_nonneg a (b := ((x.map encSc).length : Int)) (by rw [List.length_map]; omega)
    have e2 := Int.emod_lt_of_pos a (b := ((x.map encSc).length : Int)) (by rw [List.length_map]; omega)
    obtain ⟨i, hi⟩ : ∃ i : Nat, a % ((x.map encSc).length : Int) = i := ⟨_, (Int.toNat_of_nonneg e1).symm⟩
    rw [hi] at e2 ⊢
    have hix : i < x.length := by rw [List.length_map] at e2; omega
    obtain ⟨c, hc⟩ : ∃ c, ls[i]? = some c := ⟨_, List.getElem?_eq_getElem (by omega)⟩
    obtain ⟨s, hs⟩ : ∃ s, x[i]? = some s := ⟨_, List.getElem?_eq_getElem hix⟩
    have hcl2 := he i s c hs hc
    have hsj := hj s (List.mem_of_getElem? hs)
    have hp : partOf x ls.flatten (i : Int) = (c, true) := by
      rw [partOf, if_neg (by omega), if_neg (by simp [hfl]), Int.toNat_natCast, ← hsum (i + 1) (by omega), ← hsum i (by omega), flat_part ls i c hc]
    refine call_i (team_Concat ls (by omega) (by omega)) ?_
    (conv => whnf)
    refine call_i (team_Part' x ls.flatten i (by omega) hj) ?_
    (conv => whnf)
    rw [hp]
    (conv => whnf)
    refine call_i (law35_awake) ?_
    (conv => whnf)
    refine idx_and (by omega) (by simpa using hc) ?_
    (conv => whnf)
    refine call_i (mk_Same_int64 c c (by omega) (by omega)) ?_
    (conv => whnf)
    (conv => whnf)
    refine ret0 ?_
    exact ret_b (by simp) rfl
end Go.Proofs.Ythdbdokhncaijaa

/- The bulk of arguments, as the second form of the statements bounds it. -/
namespace Go.Proofs.Ythdbdokhncaijaa
open Eng

theorem upto_all {H : Type} : ∀ ds : List (DataW H), Rows.uptoBulkAll ds = (ds.map Rows.uptoBulk).sum
  | [] => by simp only [Rows.uptoBulkAll]; rfl
  | d :: ds => by simp only [Rows.uptoBulkAll, List.map_cons, List.sum_cons]; rw [upto_all ds]
theorem bulkRows {H : Type} : BulkOk (Rows.uptoBulk (H := H)) where
  str := fun b => by simp only [Rows.uptoBulk]; exact Nat.le_refl _
  lit := fun l => by cases l <;> simp only [Rows.uptoBulk] <;> omega
  nil := by simp only [Rows.uptoBulk]; exact Nat.le_refl _
  slice := fun es sp => by simp only [Rows.uptoBulk, upto_all]; omega
  agg := fun ps => by simp only [Rows.uptoBulk, upto_all]; omega
theorem small_sum {H : Type} {ds gs : List (DataW H)} (h : Rows.uptoSmall H (ds ++ gs) = true) : (ds.map Rows.uptoBulk).sum ≤ 1048576 := by
  have := of_decide_eq_true h
  rw [upto_all, List.map_append, List.sum_append] at this
  omega
end Go.Proofs.Ythdbdokhncaijaa

/- law35: ref.Concat, ref.Box, TeamParts. -/
namespace Go.Proofs.Ythdbdokhncaijaa
open Eng
set_option maxRecDepth 10000
attribute [local irreducible] FnOk loopW idxF retX arrF

theorem tyB_s_int64 {n : Nat} {ds : List DV} (h : Typed T (n + 2) Y.s_int64 ds) : ∃ xs : List Int, ds = [.lst 1 (xs.map encI)] ∧ xs.length ≤ 17592186044416 := by
  obtain ⟨rs, h1, h2, _, h3⟩ := h
  obtain ⟨l, rfl⟩ := map_of (enc := encI) fun r hr => tz_i64 (h3 r hr)
  refine ⟨l, h1, ?_⟩
  have : l.length * 8 ≤ reachBytes := by simpa using h2
  unfold reachBytes at this; omega
theorem tyB_s_s_int64 {n : Nat} {ds : List DV} (h : Typed T (n + 3) Y.s_s_int64 ds) : ∃ l : List (List Int), ds = [dLs l] ∧ (l.length ≤ 17592186044416 ∧ ∀ x ∈ l, x.length ≤ 17592186044416) := by
  obtain ⟨rs, h1, h2, _, h3⟩ := h
  obtain ⟨l, rfl, hs⟩ := map_of' (enc := encL) (Q := fun x => x.length ≤ 17592186044416) fun r hr => tyB_s_int64 (h3 r hr)
  refine ⟨l, h1, ?_, hs⟩
  have : l.length * 24 ≤ reachBytes := by simpa using h2
  unfold reachBytes at this; omega
theorem tz_Ival {n : Nat} {ds : List DV} (h : Typed T (n + 2) Y.Interval ds) : ∃ v, ds = encIv v := by
  obtain ⟨ps, h1, h2⟩ := h
  obtain ⟨a, r, rfl, ha, h1⟩ := all2_cons h1
  obtain ⟨b, r, rfl, hb, h1⟩ := all2_cons h1
  obtain rfl := all2_nil h1
  obtain ⟨a, rfl⟩ := tz_i64 ha
  obtain ⟨b, rfl⟩ := tz_i64 hb
  exact ⟨⟨a, b⟩, h2⟩
theorem tyB_s_Interval {n : Nat} {ds : List DV} (h : Typed T (n + 3) Y.s_Interval ds) : ∃ xs : List Ival, ds = [dIvs xs] ∧ xs.length ≤ 17592186044416 := by
  obtain ⟨rs, h1, h2, _, h3⟩ := h
  obtain ⟨l, rfl⟩ := map_of (enc := encIv) fun r hr => tz_Ival (h3 r hr)
  refine ⟨l, h1, ?_⟩
  have : l.length * 16 ≤ reachBytes := by simpa using h2
  unfold reachBytes at this; omega
theorem bulk_encI : ∀ x : List Int, bulkRs (x.map encI) = x.length
  | [] => rfl
  | a :: x => by rw [List.map_cons, bulkRs, bulk_encI x]; simp [encI, bulkDs, bulkD]; omega
theorem bulk_flat : ∀ l : List (List Int), l.flatten.length ≤ bulkRs (l.map encL)
  | [] => Nat.le_refl _
  | x :: l => by
    have := bulk_flat l
    rw [List.map_cons, bulkRs, List.flatten_cons, List.length_append]
    have e : bulkDs (encL x) = x.length + 1 := by rw [encL, bulkDs, bulkDs, bulkD, bulk_encI]
    omega
theorem ref32_Concat (l : List (List Int)) (hl : l.length ≤ 4611686018427387904) (hs : l.flatten.length ≤ 17592186044416) : FnOk Try.prog F.ref32_Concat [.one (.dv (dLs l))] [] 0 (Li l.flatten) [] 0 := by
  refine fnOk tab mix G.ref32_Concat rfl rfl (by kernel_rfl) rfl rfl ?_
  (conv => whnf)
  refine loop_intro (fun k : Nat => ⟨[(0, .one (.dv (dLs l))), (3, .one (.row 0)), (4, I k)], [(0, .rows Y.int64 1 ((l.take k).flatten.map encI))], 1⟩) (fun k => k ≤ l.length) (fun k => l.length - k) [.own 3 Y.int64 1] 0 [] (Nat.zero_le _) ⟨⟨rfl, rfl, rfl, trivial⟩, ⟨rfl, trivial⟩⟩ ?_
  rintro k hk
  have hkk : IntKind.i64.wrap ((k : Int) + 1) = ((k + 1 : Nat) : Int) := by rw [w64] <;> omega
  (conv => whnf)
  refine ask_m (fun hlt => ?_) (fun hlt => ?_)
  · have hlt : k < l.length := by simpa using hlt
    obtain ⟨x, hx⟩ : ∃ x, l[k]? = some x := ⟨_, List.getElem?_eq_getElem hlt⟩
    have ht : l.take (k + 1) = l.take k ++ [x] := by rw [List.take_add_one, hx]; rfl
    have hb : ((l.take k).flatten.map encI ++ x.map encI).length ≤ 17592186044416 := by
      rw [← flat_map, ← ht, List.length_map]
      refine Nat.le_trans ?_ hs
      have e : l = l.take (k + 1) ++ l.drop (k + 1) := (List.take_append_drop _ _).symm
      conv => rhs; rw [e]
      rw [List.flatten_append, List.length_append]; omega
    (conv => whnf)
    refine idx_and (by omega) (by simpa using hx) ?_
    (conv => whnf)
    refine ⟨⟨by omega, by show _ * 8 ≤ _; omega⟩, ?_⟩
    (conv => whnf)
    exact ⟨k + 1, [(0, 1)], hlt, by omega, ⟨⟨rfl, rfl, eqI hkk, trivial⟩, ⟨rows_eq (by rw [ht, flat_map]), trivial⟩⟩⟩
  · have hk : k = l.length := by simp at hlt; omega
    subst hk
    rw [List.take_length]
    (conv => whnf)
    refine retO [.frz 0] ?_
    (conv => whnf)
    exact ⟨[], ⟨rfl, trivial⟩, trivial⟩
def smI (x : Int) : Bool := decide (-2147483648 ≤ x) && decide (x ≤ 2147483648)
theorem ref10_small (xs : List Int) (hl : xs.length ≤ 4611686018427387904) : FnOk Try.prog F.ref10_small [Li xs] [] 0 (Bo (xs.all smI)) [] 0 := by
  refine fnOk tab mix G.ref10_small rfl rfl (by kernel_rfl) rfl rfl ?_
  (conv => whnf)
  refine loop_intro (fun k : Nat => ⟨[(0, Li xs), (3, I k)], [], 0⟩) (fun k => k ≤ xs.length ∧ (xs.take k).all smI = true) (fun k => xs.length - k) [] 0 [] ⟨Nat.zero_le _, rfl⟩ ⟨⟨rfl, rfl, trivial⟩, trivial⟩ ?_
  rintro k ⟨hk, hall⟩
  have hkk : IntKind.i64.wrap ((k : Int) + 1) = ((k + 1 : Nat) : Int) := by rw [w64] <;> omega
  (conv => whnf)
  refine ask_m (fun hlt => ?_) (fun hlt => ?_)
  · have hlt : k < xs.length := by simpa using hlt
    obtain ⟨x, hx⟩ : ∃ x, xs[k]? = some x := ⟨_, List.getElem?_eq_getElem hlt⟩
    (conv => whnf)
    refine idx_and (by omega) (by simpa using hx) ?_
    (conv => whnf)
    cases h1 : decide (x < -2147483648) with
    | true =>
      have h1 := of_decide_eq_true h1
      (conv => whnf)
      (conv => whnf)
      refine ret0 ?_
      exact ret_b (by rw [all_not hx (by simp [smI]; omega)]) rfl
    | false =>
    have h1 := of_decide_eq_false h1
    (conv => whnf)
    refine idx_and (by omega) (by simpa using hx) ?_
    (conv => whnf)
    refine ask_m (fun h2 => ?_) (fun h2 => ?_)
    · have h2 := of_decide_eq_true h2
      (conv => whnf)
      refine ret0 ?_
      exact ret_b (by rw [all_not hx (by simp [smI]; omega)]) rfl
    · have h2 := of_decide_eq_false h2
      (conv => whnf)
      exact ⟨k + 1, [], ⟨hlt, all_take hall hx (by simp [smI]; omega)⟩, by omega, ⟨⟨rfl, eqI hkk, trivial⟩, trivial⟩⟩
  · have hk : k = xs.length := by simp at hlt; omega
    subst hk
    rw [List.take_length] at hall
    (conv => whnf)
    refine ret0 ?_
    exact ret_b hall.symm rfl
def boxOf (q : List Int) : List Ival := if q.all smI = true then q.map fun x => ⟨x, x⟩ else []
theorem boxOf_len (q : List Int) : (boxOf q).length ≤ q.length := by
  unfold boxOf; split <;> simp
theorem ref10_Box (q : List Int) (hl : q.length ≤ 1099511627776) : FnOk Try.prog F.ref10_Box [Li q] [] 0 (.one (.dv (dIvs (boxOf q)))) [] 0 := by
  refine fnOk tab mix G.ref10_Box rfl rfl (by kernel_rfl) rfl rfl ?_
  (conv => whnf)
  refine call_i (ref10_small q (by omega)) ?_
  (conv => whnf)
  cases hs : q.all smI with
  | false =>
    (conv => whnf)
    have e : boxOf q = [] := by rw [boxOf, hs]; rfl
    rw [e]
    (conv => whnf)
    refine retO [.own 2 Y.Interval 2, .frz 0] ?_
    (conv => whnf)
    exact ⟨[], ⟨rfl, trivial⟩, trivial⟩
  | true =>
  have e : boxOf q = q.map fun x => ⟨x, x⟩ := by rw [boxOf, hs]; rfl
  rw [e]
  (conv => whnf)
  refine loop_intro (fun k : Nat => ⟨[(0, Li q), (3, .one (.row 0)), (4, I k)], [(0, .rows Y.Interval 2 (((q.take k).map fun x => (⟨x, x⟩ : Ival)).map encIv))], 1⟩) (fun k => k ≤ q.length) (fun k => q.length - k) [.own 3 Y.Interval 2] 0 [] (Nat.zero_le _) ⟨⟨rfl, rfl, rfl, trivial⟩, ⟨rfl, trivial⟩⟩ ?_
  rintro k hk
  have hkk : IntKind.i64.wrap ((k : Int) + 1) = ((k + 1 : Nat) : Int) := by rw [w64] <;> omega
  (conv => whnf)
  refine ask_m (fun hlt => ?_) (fun hlt => ?_)
  · have hlt : k < q.length := by simpa using hlt
    obtain ⟨x, hx⟩ : ∃ x, q[k]? = some x := ⟨_, List.getElem?_eq_getElem hlt⟩
    (conv => whnf)
    refine idx_and (by omega) (by simpa using hx) ?_
    (conv => whnf)
    refine idx_and (by omega) (by simpa using hx) ?_
    (conv => whnf)
    refine ⟨⟨by simp; omega, by simp; omega⟩, ?_⟩
    (conv => whnf)
    exact ⟨k + 1, [(0, 2)], hlt, by omega, ⟨⟨rfl, rfl, eqI hkk, trivial⟩, ⟨rows_eq (by rw [map_take1 _ hx, List.map_append]; rfl), trivial⟩⟩⟩
  · have hk : k = q.length := by simp at hlt; omega
    subst hk
    rw [List.take_length]
    (conv => whnf)
    refine retO [.frz 0] ?_
    (conv => whnf)
    exact ⟨[], ⟨rfl, trivial⟩, trivial⟩
theorem partOf_len {α : Type} (l : List Scene) (xs : List α) (k : Int) : (partOf l xs k).1.length ≤ xs.length := by
  unfold partOf
  split
  · simp
  · split
    · simp
    · simp only [List.length_drop, List.length_take]; omega
theorem law35_parts (l : List Scene) (q : List Int) (bx : List Ival) (k : Int) (hl : l.length ≤ 1000) (hj : ∀ s ∈ l, s.robot.joints.length ≤ 1000) (hq : q.length ≤ 1000000000) (hb : bx.length ≤ 1000000000) : FnOk Try.prog F.law35_parts [.one (.dv (dScs l)), Li q, .one (.dv (dIvs bx)), I k] [] 0 (Bo true) [] 0 := by
  have p1 := partOf_len l q k
  have p2 := partOf_len l bx k
  have h1 := team_Part' l q k hl hj
  have h2 := ref32_Part' l q k hl hj
  have h3 := team_PartBox' l bx k hl hj
  have h4 := ref32_PartBox' l bx k hl hj
  generalize partOf l q k = P at *
  generalize partOf l bx k = Q at *
  obtain ⟨a, b⟩ := P
  obtain ⟨c, d⟩ := Q
  simp only at p1 p2
  cases b <;> cases d
  all_goals
    refine fnOk tab mix G.law35_parts rfl rfl (by kernel_rfl) rfl rfl ?_
    (conv => whnf)
    refine call_i (h1) ?_
    (conv => whnf)
    refine call_i (h2) ?_
    (conv => whnf)
    refine call_i (h3) ?_
    (conv => whnf)
    refine call_i (h4) ?_
    (conv => whnf)
    refine call_i (mk_Same_int64 a a (by omega) (by omega)) ?_
    (conv => whnf)
    rw [decide_eq_true rfl]
    (conv => whnf)
    refine call_i (mk_Same_Interval c c (by omega) (by omega)) ?_
    (conv => whnf)
    (conv => whnf)
    refine ret0 ?_
    exact ret_b (by simp) rfl
theorem partsR (l : List Scene) (S : List (List DV)) (q : List Int) (bx : List Ival) (k : Int) (hS : S = l.map encSc) (hl : l.length ≤ 1000) (hj : ∀ s ∈ l, s.robot.joints.length ≤ 1000) (hq : q.length ≤ 1000000000) (hb : bx.length ≤ 1000000000) : FnOk Try.prog F.law35_parts [.one (.dv (.lst 4 S)), Li q, .one (.dv (dIvs bx)), I k] [] 0 (Bo true) [] 0 := by
  subst hS; exact law35_parts l q bx k hl hj hq hb
def cfgsCat (x : List Scene) (o : List Int) (k : Nat) : List Int := ((List.range k).map fun i => cfg (x.getD i emptyS).robot o).flatten
theorem cfgsCat_succ {x : List Scene} {o : List Int} {k : Nat} {s : Scene} (h : x[k]? = some s) : cfgsCat x o (k + 1) = cfgsCat x o k ++ cfg s.robot o := by
  rw [cfgsCat, List.range_succ, List.map_append, List.flatten_append, List.map_singleton, getD_at h]; simp [cfgsCat]
theorem law35_Parts (raw : List Scene) (lists : List (List Int)) (q : List Int) (bx : List Ival) (k : Int) (l m o : List Int) (h1 : raw.length ≤ 4611686018427387904 ∧ ∀ s ∈ raw, small s) (h2 : lists.length ≤ 17592186044416 ∧ ∀ x ∈ lists, x.length ≤ 17592186044416) (h3 : q.length ≤ 17592186044416) (h4 : bx.length ≤ 17592186044416) (h5 : True) (hl : l.length ≤ 17592186044416) (hm : m.length ≤ 17592186044416) (ho : o.length ≤ 17592186044416)
    (hb : bulkRs [[dScs raw], [dLs lists], [.lst 1 (q.map encI)], [dIvs bx], [.int .i64 k], [.lst 1 (l.map encI)], [.lst 1 (m.map encI)], [.lst 1 (o.map encI)]] ≤ 1048576) : FnOk Try.prog F.law35_TeamParts [.one (.dv (dScs raw)), .one (.dv (dLs lists)), Li q, .one (.dv (dIvs bx)), I k, Li l, Li m, Li o] [] 0 (Bo true) [] 0 := by
  have hfl : lists.flatten.length ≤ 1048576 := by
    have := bulk_flat lists
    simp only [bulkRs, bulkDs, bulkD] at hb
    omega
  clear hb
  refine fnOkG [(10, [.frz 2])] tab mix G.law35_TeamParts rfl rfl (by kernel_rfl) rfl rfl ?_
  (conv => whnf)
  refine call_i (law35_few raw []) ?_
  (conv => whnf)
  cases hf : fewB raw [] with
  | false =>
    (conv => whnf)
    refine call_i (law35_awake) ?_
    (conv => whnf)
    (conv => whnf)
    refine ret0 ?_
    exact ret_b rfl rfl
  | true =>
  simp only [fewB, Bool.and_eq_true, decide_eq_true_eq] at hf
  obtain ⟨⟨f1, f2⟩, f3⟩ := hf
  (conv => whnf)
  cases c1 : decide ((20 : Int) < ((lists.map encL).length : Nat)) with
  | true =>
    (conv => whnf)
    refine call_i (law35_awake) ?_
    (conv => whnf)
    (conv => whnf)
    refine ret0 ?_
    exact ret_b rfl rfl
  | false =>
  (conv => whnf)
  cases c2 : decide ((40 : Int) < ((q.map encI).length : Nat)) with
  | true =>
    (conv => whnf)
    refine call_i (law35_awake) ?_
    (conv => whnf)
    (conv => whnf)
    refine ret0 ?_
    exact ret_b rfl rfl
  | false =>
  (conv => whnf)
  refine ask_m (fun c3 => ?_) (fun c3 => ?_)
  · (conv => whnf)
    refine call_i (law35_awake) ?_
    (conv => whnf)
    (conv => whnf)
    refine ret0 ?_
    exact ret_b rfl rfl
  have c1 := of_decide_eq_false c1
  have c2 := of_decide_eq_false c2
  have c3 := of_decide_eq_false c3
  rw [List.length_map] at c1 c2 c3
  (conv => whnf)
  refine call_i (law35_scenes l m hl hm) ?_
  (conv => whnf)
  have hxo := scsOf_ok l m
  have hxl := scsOf_len l m
  obtain ⟨n1, n2⟩ := nSc_bd m
  generalize scsOf l m = x at *
  have hj : ∀ s ∈ x, s.robot.joints.length ≤ 10 := fun s hs => (robot_facts (scene_facts (hxo s hs)).1).1
  refine loop_intro (fun i : Nat => ⟨[(0, .one (.dv (dScs raw))), (1, .one (.dv (dLs lists))), (2, Li q), (3, .one (.dv (dIvs bx))), (4, I k), (7, Li o), (17, .one (.row 0)), (19, .one (.row 2)), (20, I i)], [(0, .rows Y.Scene 4 (x.map encSc)), (2, .rows Y.int64 1 ((cfgsCat x o i).map encI))], 3⟩) (fun i => i ≤ x.length ∧ (cfgsCat x o i).length ≤ 10 * i) (fun i => x.length - i) [.own 19 Y.int64 1] 0 [] ⟨Nat.zero_le _, Nat.le_refl _⟩ ⟨⟨rfl, rfl, rfl, rfl, rfl, rfl, rfl, rfl, rfl, trivial⟩, ⟨rfl, rfl, trivial⟩⟩ ?_
  rintro i ⟨hi, hcl⟩
  have hii : IntKind.i64.wrap ((i : Int) + 1) = ((i + 1 : Nat) : Int) := by rw [w64] <;> omega
  (conv => whnf)
  refine ask_m (fun hlt => ?_) (fun hlt => ?_)
  · have hlt : i < x.length := by simpa using hlt
    obtain ⟨s, hs⟩ : ∃ s, x[i]? = some s := ⟨_, List.getElem?_eq_getElem hlt⟩
    have hso := hxo s (List.mem_of_getElem? hs)
    have hsj := hj s (List.mem_of_getElem? hs)
    have hro := (scene_facts hso).1
    have hnx := cfgsCat_succ (o := o) hs
    have hln : (cfgsCat x o (i + 1)).length ≤ 10 * (i + 1) := by rw [hnx, List.length_append, cfg_len]; omega
    (conv => whnf)
    refine ⟨⟨by omega, by simp; omega⟩, ?_⟩
    (conv => whnf)
    refine idx_map (x := s) (by simpa using hs) ?_
    (conv => whnf)
    refine call_i (mk_Config s.robot o hro (by omega)) ?_
    (conv => whnf)
    have hsl := cfg_len s.robot o
    refine ⟨⟨by simp; omega, by simp; omega⟩, ?_⟩
    (conv => whnf)
    exact ⟨i + 1, [(2, 3)], ⟨hlt, hln⟩, by omega, ⟨⟨rfl, rfl, rfl, rfl, rfl, rfl, rfl, rfl, eqI hii, trivial⟩, ⟨rfl, rows_eq (by rw [hnx, List.map_append]), trivial⟩⟩⟩
  · have hi : i = x.length := by simp at hlt; omega
    subst hi
    have hj2 : ∀ s ∈ x, s.robot.joints.length ≤ 1000 := fun s hs => by have := hj s hs; omega
    have hj3 : ∀ s ∈ raw, s.robot.joints.length ≤ 1000 := fun s hs => by
      have := List.all_eq_true.1 f3 s hs
      simp [smallB] at this; omega
    have en : IntKind.i64.wrap ((((x.map encSc).length : Nat) : Int) + 2) = (x.length : Int) + 2 := by rw [List.length_map, w64] <;> omega
    generalize cfgsCat x o x.length = c at *
    have hbl := boxOf_len c
    (conv => whnf)
    rw [en]
    refine call_i (mk_Round k ((x.length : Int) + 2) (by omega) (by omega)) ?_
    (conv => whnf)
    refine call_i (law35_awake) ?_
    (conv => whnf)
    refine call_i (team_Concat lists (by omega) (by omega)) ?_
    (conv => whnf)
    refine call_i (ref32_Concat lists (by omega) (by omega)) ?_
    (conv => whnf)
    refine call_i (mk_Same_int64 lists.flatten lists.flatten (by omega) (by omega)) ?_
    (conv => whnf)
    rw [decide_eq_true rfl]
    (conv => whnf)
    refine call_i (law35_parts raw q bx k (by omega) hj3 (by omega) (by omega)) ?_
    (conv => whnf)
    refine call_i (ref10_Box c (by omega)) ?_
    (conv => whnf)
    refine call_i (law35_parts x c (boxOf c) (IntKind.i64.wrap (k % ((x.length : Int) + 2) - 1)) (by omega) hj2 (by omega) (by omega)) ?_
    (conv => whnf)
    refine ⟨⟨trivial, trivial⟩, ?_⟩
    (conv => whnf)
    refine call_i (law35_parts x q bx (IntKind.i64.wrap (k % ((x.length : Int) + 2) - 1)) (by omega) hj2 (by omega) (by omega)) ?_
    (conv => whnf)
    refine ⟨⟨trivial, trivial⟩, ?_⟩
    (conv => whnf)
    (conv => whnf)
    refine ret0 ?_
    exact ret_b rfl rfl
end Go.Proofs.Ythdbdokhncaijaa
