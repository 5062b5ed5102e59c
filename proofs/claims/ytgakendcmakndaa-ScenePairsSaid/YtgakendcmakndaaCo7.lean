/- Scenes: the carriers of the links, and the pairs. -/
import Derived.Test.YtgakendcmakndaaCo6
namespace Go.Proofs.Ytgakendcmakndaa
open Eng
set_option maxRecDepth 10000
attribute [local irreducible] FnOk loopW idxF retX arrF

def carStep (acc : List Int) (j : Joint) : List Int := acc ++ [if j.lo = j.hi then acc.getD (j.parent + 1).toNat 0 else (acc.length : Int) - 1]
/-- who carries each link: the world's -1 first -/
def carriers (js : List Joint) : List Int := js.foldl carStep [-1]
theorem car_len (js : List Joint) : (carriers js).length = js.length + 1 := by
  have h : ∀ (js : List Joint) (acc : List Int), (js.foldl carStep acc).length = acc.length + js.length := by
    intro js
    induction js with
    | nil => intro acc; simp
    | cons j js ih => intro acc; rw [List.foldl_cons, ih]; simp [carStep]; omega
  rw [carriers, h]; simp; omega
theorem car_take {js : List Joint} {k : Nat} {j : Joint} (h : js[k]? = some j) : carriers (js.take (k + 1)) = carStep (carriers (js.take k)) j := by
  rw [List.take_add_one, h, carriers, List.foldl_append]; rfl
def downOk (js : List Joint) : Prop := ∀ (k : Nat) (j : Joint), js[k]? = some j → -1 ≤ j.parent ∧ j.parent < (k : Int)
theorem row_set {c rest : List Int} {v w : Int} {k : Nat} (h : c.length = k) : ((c ++ v :: rest).map encI).set k (encI w) = (c ++ w :: rest).map encI := by
  rw [← List.map_set]; subst h; simp
theorem scene_carriers (r : Robot) (hn : r.joints.length ≤ 1000) (hd : downOk r.joints) : FnOk Try.prog F.scene_carriers [Ro r] [] 0 (.one (.row 0)) [(0, .rows 3 1 ((carriers r.joints).map encI))] 1 := by
  refine fnOk tab mix G.scene_carriers rfl rfl (by kernel_rfl) rfl rfl ?_
  (conv => whnf)
  have hw : IntKind.i64.wrap ((r.joints.length : Int) + 1) = ((r.joints.length + 1 : Nat) : Int) := by rw [w64] <;> omega
  rw [List.length_map, hw]
  refine ⟨⟨by omega, by omega, by show (8 : Int) * _ ≤ _; omega, by omega⟩, ?_⟩
  (conv => whnf)
  refine ⟨⟨by omega, by simp⟩, ?_⟩
  (conv => whnf)
  refine idx_at (r := [.int .i64 0]) (by simp) ?_
  (conv => whnf)
  refine loop_intro (fun k : Nat => ⟨[(1, .one (.vptr 0 0)), (3, .one (.row 1)), (14, .one (.dv (dJs r.joints))), (15, I r.joints.length), (16, I k)], [(0, bRo r), (1, .rows 3 1 ((carriers (r.joints.take k) ++ List.replicate (r.joints.length - k) 0).map encI))], 2⟩) (fun k => k ≤ r.joints.length) (fun k => r.joints.length - k) [] 0 [] (Nat.zero_le _) ⟨⟨rfl, rfl, rfl, eqI (by simp), rfl, trivial⟩, ⟨rfl, ?_, trivial⟩⟩ ?_
  · show Box.rows 3 1 _ = Box.rows 3 1 _
    congr 1
    rw [Int.toNat_natCast, List.replicate_succ]
    simp [carriers, encI]
  rintro k hk
  (conv => whnf)
  refine ask_m (fun h => ?_) (fun h => ?_)
  · have hlt : k < r.joints.length := by simpa using h
    obtain ⟨j, hj⟩ : ∃ j, r.joints[k]? = some j := ⟨_, List.getElem?_eq_getElem hlt⟩
    have hkk : IntKind.i64.wrap ((k : Int) + 1) = ((k + 1 : Nat) : Int) := by rw [w64] <;> omega
    obtain ⟨d1, d2⟩ := hd k j hj
    have hpp : IntKind.i64.wrap (j.parent + 1) = (((j.parent + 1).toNat : Nat) : Int) := by rw [w64] <;> omega
    have hcl : (carriers (r.joints.take k)).length = k + 1 := by rw [car_len, List.length_take]; omega
    have hct := car_take hj
    obtain ⟨m, hm⟩ : ∃ m, r.joints.length - k = m + 1 := ⟨r.joints.length - k - 1, by omega⟩
    have hm2 : r.joints.length - (k + 1) = m := by omega
    rw [carStep, hcl] at hct
    generalize hc : carriers (r.joints.take k) = c at *
    rw [hm, List.replicate_succ]
    (conv => whnf)
    refine idx_and (by omega) (by simpa using hj) ?_
    (conv => whnf)
    rw [hkk]
    refine ⟨⟨by omega, by simp; omega⟩, ?_⟩
    (conv => whnf)
    rw [Int.toNat_natCast]
    refine idx_at (r := encI 0) (by simp [hcl]) ?_
    (conv => whnf)
    refine ask_m (fun h => ?_) (fun h => ?_)
    · have h := of_decide_eq_true h
      rw [if_pos h] at hct
      have hset : ((c ++ 0 :: List.replicate m 0).map encI).set (k + 1) [.int .i64 (k : Int)] = (c ++ (k : Int) :: List.replicate m 0).map encI := row_set hcl
      obtain ⟨x, hx⟩ : ∃ x, c[(j.parent + 1).toNat]? = some x := ⟨_, List.getElem?_eq_getElem (by omega)⟩
      have hxd : c.getD (j.parent + 1).toNat 0 = x := by rw [List.getD_eq_getElem?_getD, hx]; rfl
      rw [hxd] at hct
      (conv => whnf)
      rw [hset, hpp]
      refine ⟨⟨by omega, by simp; omega⟩, ?_⟩
      (conv => whnf)
      rw [Int.toNat_natCast]
      refine idx_map (x := x) (by rw [List.getElem?_append_left (by omega)]; exact hx) ?_
      (conv => whnf)
      refine ⟨⟨by omega, by simp; omega⟩, ?_⟩
      (conv => whnf)
      refine idx_map (x := (k : Int)) (by rw [hkk, Int.toNat_natCast]; simp [hcl]) ?_
      (conv => whnf)
      refine ⟨k + 1, [], hlt, by omega, ⟨⟨rfl, rfl, rfl, rfl, eqI hkk, trivial⟩, ⟨rfl, ?_, trivial⟩⟩⟩
      show Box.rows 3 1 _ = Box.rows 3 1 _
      rw [hkk, Int.toNat_natCast, hct, hm2, List.append_assoc]
      exact congrArg _ (row_set hcl)
    · have h := of_decide_eq_false h
      rw [if_neg h] at hct
      (conv => whnf)
      refine ⟨k + 1, [], hlt, by omega, ⟨⟨rfl, rfl, rfl, rfl, eqI hkk, trivial⟩, ⟨rfl, ?_, trivial⟩⟩⟩
      show Box.rows 3 1 _ = Box.rows 3 1 _
      rw [hct, hm2, List.append_assoc, show ((k + 1 : Nat) : Int) - 1 = k by omega]
      exact congrArg _ (row_set hcl)
  · have hk : k = r.joints.length := by simp at h; omega
    subst hk
    (conv => whnf)
    refine ret0 ?_
    rw [Nat.sub_self, List.take_length]
    simp only [List.replicate_zero, List.append_nil]
    exact ⟨[(0, 1)], ⟨rfl, trivial⟩, ⟨rfl, trivial⟩⟩
theorem jerr_at {js : List Joint} : ∀ {l : List Joint} {i k : Nat} {j : Joint}, jointsErr js i l = 0 → l[k]? = some j → jointErr js (i + k) j = 0
  | [], _, _, _, _, h => by simp at h
  | x :: l, i, 0, j, h, hj => by
    simp at hj; subst hj
    rw [jointsErr] at h
    split at h
    · assumption
    · contradiction
  | x :: l, i, k + 1, j, h, hj => by
    rw [jointsErr] at h
    split at h
    · have := jerr_at (i := i + 1) (k := k) h (by simpa using hj)
      rw [← this]; congr 1; omega
    · contradiction
theorem serr_at {n : Nat} : ∀ {l : List Shape} {x : Shape}, shapesErr n l = 0 → x ∈ l → shapeErr n x = 0
  | [], _, _, h => by cases h
  | y :: l, x, h, hx => by
    rw [shapesErr] at h
    split at h
    · rcases List.mem_cons.1 hx with e | e
      · subst e; assumption
      · exact serr_at h e
    · contradiction
theorem robot_good {r : Robot} (h : checkRobot r = 0) : r.joints.length ≤ 10 ∧ 0 < r.joints.length ∧ downOk r.joints := by
  unfold checkRobot at h
  split at h
  · contradiction
  rename_i h1
  split at h
  · contradiction
  rename_i h2
  simp only [ne_eq, Decidable.not_not] at h2
  refine ⟨by omega, by omega, fun k j hj => ?_⟩
  have := jerr_at h2 hj
  rw [Nat.zero_add] at this
  unfold jointErr at this
  (repeat' split at this) <;> first | contradiction | omega
theorem scene_good {s : Scene} (h : checkScene s = 0) : checkRobot s.robot = 0 ∧ s.shapes.length ≤ 24 ∧ (∀ x ∈ s.shapes, -1 ≤ x.link ∧ x.link < s.robot.joints.length) ∧ s.skips.length ≤ 64 := by
  unfold checkScene at h
  split at h
  · contradiction
  rename_i h1
  split at h
  · contradiction
  split at h
  · contradiction
  rename_i h2
  split at h
  · contradiction
  simp only [ne_eq, Decidable.not_not] at h1 h2
  refine ⟨h1, by omega, fun x hx => ?_, by omega⟩
  have := serr_at h2 hx
  unfold shapeErr at this
  split at this
  · contradiction
  rename_i h3
  have h4 : linkOk s.robot.joints.length x.link = true := by
    cases h5 : linkOk s.robot.joints.length x.link
    · exact absurd (.inl h5) h3
    · rfl
  simp [linkOk] at h4
  exact h4
def carr (s : Scene) (k : Int) : Int := (carriers s.robot.joints).getD (k + 1).toNat 0
def wanted (s : Scene) (x y : Shape) : Bool := !(decide (carr s x.link = carr s y.link)) && !(skipped s x.link y.link)
def wantAt (s : Scene) (i j : Nat) : Bool := decide (i < j) && match s.shapes[i]?, s.shapes[j]? with
  | some x, some y => wanted s x y
  | _, _ => false
def pairRow (s : Scene) (i j : Nat) : List Pair := ((List.range j).filter (wantAt s i)).map fun (j : Nat) => ⟨(i : Int), (j : Int)⟩
def pairsTo (s : Scene) (k : Nat) : List Pair := (List.range k).flatMap fun i => pairRow s i s.shapes.length
def pairs (s : Scene) : List Pair := if checkScene s = 0 then pairsTo s s.shapes.length else []
theorem pairRow_self (s : Scene) (i : Nat) : pairRow s i (i + 1) = [] := by
  unfold pairRow
  rw [List.map_eq_nil_iff, List.filter_eq_nil_iff]
  intro j hj
  have := List.mem_range.1 hj
  simp [wantAt]; omega
theorem pairRow_succ (s : Scene) (i j : Nat) : pairRow s i (j + 1) = pairRow s i j ++ if wantAt s i j then [⟨(i : Int), (j : Int)⟩] else [] := by
  unfold pairRow
  rw [List.range_succ, List.filter_append, List.map_append]
  congr 1
  by_cases h : wantAt s i j <;> simp [h]
theorem pairsTo_succ (s : Scene) (k : Nat) : pairsTo s (k + 1) = pairsTo s k ++ pairRow s k s.shapes.length := by
  unfold pairsTo; rw [List.range_succ]; simp
theorem pairRow_len (s : Scene) (i j : Nat) : (pairRow s i j).length ≤ j := by
  unfold pairRow; rw [List.length_map]; exact Nat.le_trans (List.length_filter_le _ _) (by simp)
theorem pairsTo_len (s : Scene) (k : Nat) : (pairsTo s k).length ≤ k * s.shapes.length := by
  induction k with
  | zero => simp [pairsTo]
  | succ k ih => rw [pairsTo_succ, List.length_append, Nat.succ_mul]; have := pairRow_len s k s.shapes.length; omega
abbrev bPa (l : List Pair) : Box := .rows Y.Pair 2 (l.map encPa)
theorem scene_Pairs (s : Scene) (hs : small s) : FnOk Try.prog F.scene_Pairs [Sc s] [] 0 (.one (.row 0)) [(0, bPa (pairs s))] 1 := by
  refine fnOk tab mix G.scene_Pairs rfl rfl (by kernel_rfl) rfl rfl ?_
  (conv => whnf)
  refine call_i (scene_Check s hs) ?_
  (conv => whnf)
  refine ask_m (fun h => ?_) (fun h => ?_)
  · have h : ¬ checkScene s = 0 := by simpa using h
    (conv => whnf)
    refine retO [.own 2 Y.Pair 2] ?_
    (conv => whnf)
    have e : pairs s = [] := by unfold pairs; rw [if_neg h]
    rw [e]
    exact ⟨[(0, 1)], ⟨rfl, trivial⟩, ⟨rfl, trivial⟩⟩
  have h0 : checkScene s = 0 := by simpa using h
  obtain ⟨g1, g2, g3, g4⟩ := scene_good h0
  obtain ⟨g5, g6, g7⟩ := robot_good g1
  have e : pairs s = pairsTo s s.shapes.length := by unfold pairs; rw [if_pos h0]
  rw [e]
  (conv => whnf)
  refine call_i (scene_carriers s.robot (by omega) g7) ?_
  (conv => whnf)
  have hcl := car_len s.robot.joints
  have hcar : ∀ k : Int, -1 ≤ k → k < s.robot.joints.length → (carriers s.robot.joints)[(k + 1).toNat]? = some (carr s k) := fun k h1 h2 => by
    have h3 : (k + 1).toNat < (carriers s.robot.joints).length := by omega
    rw [carr, List.getD_eq_getElem?_getD, List.getElem?_eq_getElem h3]; rfl
  refine loop_intro (fun k : Nat => ⟨[(1, .one (.vptr 0 0)), (3, .one (.row 1)), (4, .one (.row 2)), (17, .one (.dv (dShs s.shapes))), (18, I s.shapes.length), (19, I k)], [(0, bSc s), (1, .rows 3 1 ((carriers s.robot.joints).map encI)), (2, bPa (pairsTo s k))], 3⟩) (fun k => k ≤ s.shapes.length) (fun k => s.shapes.length - k) [.own 4 Y.Pair 2] 0 [] (Nat.zero_le _) ⟨⟨rfl, rfl, rfl, rfl, eqI (by simp), rfl, trivial⟩, ⟨rfl, rfl, rfl, trivial⟩⟩ ?_
  rintro k hk
  (conv => whnf)
  refine ask_m (fun h => ?_) (fun h => ?_)
  · have hlt : k < s.shapes.length := by simpa using h
    obtain ⟨x, hx⟩ : ∃ j, s.shapes[k]? = some j := ⟨_, List.getElem?_eq_getElem hlt⟩
    have hkk : IntKind.i64.wrap ((k : Int) + 1) = ((k + 1 : Nat) : Int) := by rw [w64] <;> omega
    obtain ⟨x1, x2⟩ := g3 x (List.mem_of_getElem? hx)
    have hxl : IntKind.i64.wrap (x.link + 1) = x.link + 1 := by rw [w64] <;> omega
    (conv => whnf)
    refine idx_and (by omega) (by simpa using hx) ?_
    (conv => whnf)
    refine loop_intro (fun j : Nat => ⟨[(1, .one (.vptr 0 0)), (3, .one (.row 1)), (4, .one (.row 2)), (17, .one (.dv (dShs s.shapes))), (18, I s.shapes.length), (19, I k), (5, I k), (6, .one (.vptr 3 0)), (7, I j)], [(0, bSc s), (1, .rows 3 1 ((carriers s.robot.joints).map encI)), (2, bPa (pairsTo s k ++ pairRow s k j)), (3, .vars Y.Shape [.dv (.int .i64 x.link), .dv (.int .i64 x.radius), .dv (dVs x.points)])], 4⟩) (fun j => k < j ∧ j ≤ s.shapes.length) (fun j => s.shapes.length - j) [] (k + 1) [] ⟨by omega, by omega⟩ ⟨⟨rfl, rfl, rfl, rfl, rfl, rfl, rfl, rfl, eqI hkk, trivial⟩, ⟨rfl, rfl, ?_, rfl, trivial⟩⟩ ?_
    · show bPa _ = bPa _
      rw [pairRow_self, List.append_nil]
    rintro j ⟨hj1, hj2⟩
    (conv => whnf)
    refine ask_m (fun h => ?_) (fun h => ?_)
    · have hlj : j < s.shapes.length := by simpa using h
      obtain ⟨y, hy⟩ : ∃ y, s.shapes[j]? = some y := ⟨_, List.getElem?_eq_getElem hlj⟩
      have hjj : IntKind.i64.wrap ((j : Int) + 1) = ((j + 1 : Nat) : Int) := by rw [w64] <;> omega
      obtain ⟨y1, y2⟩ := g3 y (List.mem_of_getElem? hy)
      have hyl : IntKind.i64.wrap (y.link + 1) = y.link + 1 := by rw [w64] <;> omega
      have hw : wantAt s k j = wanted s x y := by simp [wantAt, hx, hy, hj1]
      (conv => whnf)
      refine idx_and (by omega) (by simpa using hy) ?_
      (conv => whnf)
      rw [hxl]
      refine ⟨⟨by omega, by simp; omega⟩, ?_⟩
      (conv => whnf)
      refine idx_map (hcar _ x1 x2) ?_
      (conv => whnf)
      rw [hyl]
      refine ⟨⟨by omega, by simp; omega⟩, ?_⟩
      (conv => whnf)
      refine idx_map (hcar _ y1 y2) ?_
      (conv => whnf)
      have hjl := pairsTo_len s k
      have hjr := pairRow_len s k j
      have hbig : (pairsTo s k ++ pairRow s k j).length ≤ 1000 := by
        rw [List.length_append]
        have := Nat.mul_le_mul (show k ≤ 24 by omega) g2
        omega
      generalize hb : (carr s x.link == carr s y.link) = b
      cases b with
      | true =>
        have hwf : wantAt s k j = false := by rw [hw, wanted]; simp at hb; simp [hb]
        (conv => whnf)
        refine ⟨j + 1, [], ⟨by omega, by omega⟩, by omega, ⟨⟨rfl, rfl, rfl, rfl, rfl, rfl, rfl, rfl, eqI hjj, trivial⟩, ⟨rfl, rfl, ?_, rfl, trivial⟩⟩⟩
        have e2 : pairRow s k (j + 1) = pairRow s k j := by rw [pairRow_succ, hwf]; simp
        rw [e2]; rfl
      | false =>
        (conv => whnf)
        refine call_i (scene_Skipped s x.link y.link (by omega)) ?_
        (conv => whnf)
        generalize hb2 : skipped s x.link y.link = b2
        have hwf : wantAt s k j = !b2 := by rw [hw, wanted, hb2]; simp at hb; simp [hb]
        refine ask_m (fun h => ?_) (fun h => ?_)
        · have e2 : pairRow s k (j + 1) = pairRow s k j ++ [⟨(k : Int), (j : Int)⟩] := by rw [pairRow_succ, hwf, h]; rfl
          (conv => whnf)
          rw [List.length_append] at hbig
          refine ⟨⟨by simp; omega, by simp; omega⟩, ?_⟩
          (conv => whnf)
          refine ⟨j + 1, [(2, 6)], ⟨by omega, by omega⟩, by omega, ⟨⟨rfl, rfl, rfl, rfl, rfl, rfl, rfl, rfl, eqI hjj, trivial⟩, ⟨rfl, rfl, ?_, rfl, trivial⟩⟩⟩
          show Box.rows Y.Pair 2 _ = Box.rows Y.Pair 2 _
          refine congrArg _ ?_
          rw [e2, ← List.append_assoc, List.map_append (l₁ := pairsTo s k ++ pairRow s k j)]; rfl
        · have e2 : pairRow s k (j + 1) = pairRow s k j := by rw [pairRow_succ, hwf, h]; simp
          (conv => whnf)
          refine ⟨j + 1, [], ⟨by omega, by omega⟩, by omega, ⟨⟨rfl, rfl, rfl, rfl, rfl, rfl, rfl, rfl, eqI hjj, trivial⟩, ⟨rfl, rfl, ?_, rfl, trivial⟩⟩⟩
          rw [e2]; rfl
    · have hj : j = s.shapes.length := by simp at h; omega
      subst hj
      (conv => whnf)
      refine ⟨k + 1, [], hlt, by omega, ⟨⟨rfl, rfl, rfl, rfl, rfl, eqI hkk, trivial⟩, ⟨rfl, rfl, ?_, trivial⟩⟩⟩
      rw [pairsTo_succ]; rfl
  · have hk : k = s.shapes.length := by simp at h; omega
    subst hk
    (conv => whnf)
    refine ret0 ?_
    exact ⟨[(0, 2)], ⟨rfl, trivial⟩, ⟨rfl, trivial⟩⟩
end Go.Proofs.Ytgakendcmakndaa
