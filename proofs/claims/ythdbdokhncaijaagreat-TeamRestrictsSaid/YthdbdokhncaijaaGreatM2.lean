import Derived.Test.YthdbdokhncaijaaGreatM1
import Derived.Test.YthdbdokhncaijaaGreatRows
import Derived.Test.YthdbdokhncaijaaGreatEngG
/- team.Join. -/
namespace Go.Proofs.YthdbdokhncaijaaGreat
open Eng
set_option maxRecDepth 10000
attribute [local irreducible] FnOk loopW idxF retX arrF

def encSc (s : Scene) : List DV := [dJs s.robot.joints, dMs s.robot.masses, dShs s.shapes, dSks s.skips]
abbrev dScs (l : List Scene) : DV := .lst 4 (l.map encSc)
def emptyS : Scene := ⟨⟨[], []⟩, [], []⟩
def joinTo (l : List Scene) (bs : List Vec) : Nat → Scene
  | 0 => emptyS
  | k + 1 => addScene (joinTo l bs k) (letter k) (bs.getD k ⟨0, 0, 0⟩) (l.getD k emptyS)
def firstBad : List Scene → Int
  | [] => 0
  | s :: l => if checkScene s = 0 then firstBad l else checkScene s
def joinOf (l : List Scene) (bs : List Vec) : Scene × Int :=
  if l.length < 1 ∨ 4 < l.length ∨ bs.length ≠ l.length then (emptyS, 3501)
  else if firstBad l ≠ 0 then (emptyS, firstBad l)
  else if checkScene (joinTo l bs l.length) ≠ 0 then (emptyS, 3502)
  else (joinTo l bs l.length, 0)
abbrev JnR (r : Scene × Int) : SV := .tup [(true, [.dv (dJs r.1.robot.joints), .dv (dMs r.1.robot.masses), .dv (dShs r.1.shapes), .dv (dSks r.1.skips)]), (false, [.dv (.int .i64 r.2)])]
abbrev bScZ : Box := .vars Y.Scene [.nil 12, .nil 5, .nil 3, .nil 2]
theorem getD_at {α : Type} {l : List α} {k : Nat} {x d : α} (h : l[k]? = some x) : l.getD k d = x := by
  rw [List.getD_eq_getElem?_getD, h]; rfl
theorem firstBad_all : ∀ {l : List Scene}, firstBad l = 0 → ∀ s ∈ l, checkScene s = 0
  | [], _, s, hs => by cases hs
  | x :: l, h, s, hs => by
    rw [firstBad] at h
    split at h
    · rename_i h0
      rcases List.mem_cons.1 hs with rfl | hs
      · exact h0
      · exact firstBad_all h s hs
    · rename_i h0; exact absurd h h0
structure Sized (n : Nat) (s : Scene) : Prop where
  joints : s.robot.joints.length ≤ 10 * n
  masses : s.robot.masses.length ≤ 32 * n
  shapes : s.shapes.length ≤ 24 * n
  skips : s.skips.length ≤ 64 * n
  points : ∀ x ∈ s.shapes, x.points.length ≤ 8
theorem Sized.small {n : Nat} {s : Scene} (h : Sized n s) (hn : n ≤ 1000) : small s := by
  have := h.joints; have := h.masses; have := h.shapes; have := h.skips
  exact ⟨by omega, by omega, by omega, by omega, fun x hx => by have := h.points x hx; omega⟩
theorem joinTo_sized {l : List Scene} (bs : List Vec) (hl : ∀ s ∈ l, checkScene s = 0) : ∀ k, k ≤ l.length → Sized k (joinTo l bs k)
  | 0, _ => ⟨Nat.le_refl _, Nat.le_refl _, Nat.le_refl _, Nat.le_refl _, fun x hx => by cases hx⟩
  | k + 1, h => by
    obtain ⟨i1, i2, i3, i4, i5⟩ := joinTo_sized bs hl k (by omega)
    obtain ⟨s, hs⟩ : ∃ s, l[k]? = some s := ⟨_, List.getElem?_eq_getElem (by omega)⟩
    obtain ⟨g0, g1, g2, g3, g4⟩ := scene_facts (hl s (List.mem_of_getElem? hs))
    obtain ⟨f1, _, f3, _⟩ := robot_facts g0
    rw [joinTo, getD_at hs]
    refine ⟨?_, ?_, ?_, ?_, fun x hx => ?_⟩
    · simp only [addScene, List.length_append, List.length_map]; omega
    · simp only [addScene, List.length_append, List.length_map]; omega
    · simp only [addScene, List.length_append, List.length_map]; omega
    · simp only [addScene, List.length_append, List.length_map]; omega
    · rcases List.mem_append.1 hx with hx | hx
      · exact i5 x hx
      · obtain ⟨y, hy, rfl⟩ := List.mem_map.1 hx
        have := (g2 y hy).2.2.1
        simp only [joinSh, List.length_map]; exact this
theorem enc_letter : ∀ k : Nat, k < 4 → Utf8.encode (IntKind.i32.wrap (IntKind.i64.wrap (97 + (k : Int)))) = letter k := by decide
theorem letter_size : ∀ k, k < 10 → (letter k).size = 1 := by decide
theorem firstBad_at {k : Nat} {l : List Scene} {s : Scene} (h : l[k]? = some s) : firstBad (l.drop k) = if checkScene s = 0 then firstBad (l.drop (k + 1)) else checkScene s := by
  rw [drop_cons h, firstBad]
theorem team_Join (l : List Scene) (bs : List Vec) (hl : l.length ≤ 4611686018427387904) (hb : bs.length ≤ 4611686018427387904) (hsm : ∀ s ∈ l, small s) : FnOk Tryz.prog F.team_Join [.one (.dv (dScs l)), .one (.dv (dVs bs))] [] 0 (JnR (joinOf l bs)) [] 0 := by
  refine fnOk tab mix G.team_Join rfl rfl (by kernel_rfl) rfl rfl ?_
  (conv => whnf)
  refine ask_m (fun h1 => ?_) (fun h1 => ?_)
  · have h1 : l.length < 1 := by have := of_decide_eq_true h1; simp only [List.length_map] at this; omega
    rw [joinOf, if_pos (.inl h1)]
    (conv => whnf)
    refine retO [.ownC 0 0 Y.Joint 12, .ownC 0 1 Y.Mass 5, .ownC 0 2 Y.Shape 3, .ownC 0 3 Y.Skip 2, .frz 1, .frz 2, .frz 3, .frz 4] ?_
    (conv => whnf)
    exact ⟨[], ⟨rfl, trivial⟩, trivial⟩
  have h1 : ¬ l.length < 1 := by have := of_decide_eq_false h1; simp only [List.length_map] at this; omega
  (conv => whnf)
  refine ask_m (fun h2 => ?_) (fun h2 => ?_)
  · have h2 : 4 < l.length := by have := of_decide_eq_true h2; simp only [List.length_map] at this; omega
    rw [joinOf, if_pos (.inr (.inl h2))]
    (conv => whnf)
    refine retO [.ownC 0 0 Y.Joint 12, .ownC 0 1 Y.Mass 5, .ownC 0 2 Y.Shape 3, .ownC 0 3 Y.Skip 2, .frz 1, .frz 2, .frz 3, .frz 4] ?_
    (conv => whnf)
    exact ⟨[], ⟨rfl, trivial⟩, trivial⟩
  have h2 : ¬ 4 < l.length := by have := of_decide_eq_false h2; simp only [List.length_map] at this; omega
  (conv => whnf)
  refine ask_m (fun h3 => ?_) (fun h3 => ?_)
  · have h3 : bs.length ≠ l.length := by simp at h3; omega
    rw [joinOf, if_pos (.inr (.inr h3))]
    (conv => whnf)
    refine retO [.ownC 0 0 Y.Joint 12, .ownC 0 1 Y.Mass 5, .ownC 0 2 Y.Shape 3, .ownC 0 3 Y.Skip 2, .frz 1, .frz 2, .frz 3, .frz 4] ?_
    (conv => whnf)
    exact ⟨[], ⟨rfl, trivial⟩, trivial⟩
  have h3 : bs.length = l.length := by simp at h3; omega
  rw [joinOf, if_neg (by omega)]
  (conv => whnf)
  refine loop_intro (fun k : Nat => ⟨[(0, .one (.dv (dScs l))), (1, .one (.dv (dVs bs))), (4, .one (.vptr 0 0)), (29, .one (.dv (dScs l))), (30, I l.length), (31, I k)], [(0, bScZ)], 1⟩) (fun k => k ≤ l.length ∧ firstBad (l.drop k) = firstBad l) (fun k => l.length - k) [] 0 [] ⟨Nat.zero_le _, rfl⟩ ⟨⟨rfl, rfl, rfl, rfl, eqI (by simp), rfl, trivial⟩, ⟨rfl, trivial⟩⟩ ?_
  rintro k ⟨hk, hf⟩
  have hkk : IntKind.i64.wrap ((k : Int) + 1) = ((k + 1 : Nat) : Int) := by rw [w64] <;> omega
  (conv => whnf)
  refine ask_m (fun hlt => ?_) (fun hlt => ?_)
  · have hlt : k < l.length := by have := of_decide_eq_true hlt; omega
    obtain ⟨s, hs⟩ : ∃ s, l[k]? = some s := ⟨_, List.getElem?_eq_getElem hlt⟩
    rw [firstBad_at hs] at hf
    (conv => whnf)
    refine idx_and (by omega) (by simpa using hs) ?_
    (conv => whnf)
    refine call_i (scene_Check s (hsm s (List.mem_of_getElem? hs))) ?_
    (conv => whnf)
    refine ask_m (fun h => ?_) (fun h => ?_)
    · have h : ¬ checkScene s = 0 := by simpa using h
      rw [if_neg h] at hf
      rw [← hf, if_pos h]
      (conv => whnf)
      refine retO [.ownC 0 0 Y.Joint 12, .ownC 0 1 Y.Mass 5, .ownC 0 2 Y.Shape 3, .ownC 0 3 Y.Skip 2, .frz 2, .frz 3, .frz 4, .frz 5] ?_
      (conv => whnf)
      exact ⟨[], ⟨rfl, trivial⟩, trivial⟩
    · have h : checkScene s = 0 := by simpa using h
      rw [if_pos h] at hf
      (conv => whnf)
      exact ⟨k + 1, [], ⟨hlt, hf⟩, by omega, ⟨⟨rfl, rfl, rfl, rfl, rfl, eqI hkk, trivial⟩, ⟨rfl, trivial⟩⟩⟩
  · have hk : k = l.length := by have := of_decide_eq_false hlt; omega
    subst hk
    rw [List.drop_length, firstBad] at hf
    rw [if_neg (by rw [← hf]; simp)]
    have hok := firstBad_all hf.symm
    (conv => whnf)
    refine loop_intro (fun k : Nat => ⟨[(0, .one (.dv (dScs l))), (1, .one (.dv (dVs bs))), (4, .one (.vptr 0 0)), (9, .one (.vptr 1 0)), (42, .one (.dv (dScs l))), (43, I l.length), (44, I k)], [(0, bScZ), (1, .vars Y.Scene [.row 2, .row 3, .row 4, .row 5]), (2, bJs (joinTo l bs k).robot.joints), (3, bMs (joinTo l bs k).robot.masses), (4, bShs (joinTo l bs k).shapes), (5, bSks (joinTo l bs k).skips)], 6⟩) (fun k => k ≤ l.length) (fun k => l.length - k) [.ownC 1 0 Y.Joint 12, .ownC 1 1 Y.Mass 5, .ownC 1 2 Y.Shape 3, .ownC 1 3 Y.Skip 2] 0 [] (Nat.zero_le _) ⟨⟨rfl, rfl, rfl, rfl, rfl, eqI (by simp), rfl, trivial⟩, ⟨rfl, rfl, rfl, rfl, rfl, rfl, trivial⟩⟩ ?_
    rintro k hk
    have hkk : IntKind.i64.wrap ((k : Int) + 1) = ((k + 1 : Nat) : Int) := by rw [w64] <;> omega
    have hz := joinTo_sized bs hok k hk
    have z1 := hz.joints; have z2 := hz.masses; have z3 := hz.shapes; have z4 := hz.skips
    (conv => whnf)
    refine ask_m (fun hlt => ?_) (fun hlt => ?_)
    · have hlt : k < l.length := by have := of_decide_eq_true hlt; omega
      obtain ⟨s, hs⟩ : ∃ s, l[k]? = some s := ⟨_, List.getElem?_eq_getElem hlt⟩
      obtain ⟨b, hbk⟩ : ∃ b, bs[k]? = some b := ⟨_, List.getElem?_eq_getElem (by omega)⟩
      have hsk := hok s (List.mem_of_getElem? hs)
      have hrk := (scene_facts hsk).1
      have hnx : joinTo l bs (k + 1) = addScene (joinTo l bs k) (letter k) b s := by rw [joinTo, getD_at hs, getD_at hbk]
      generalize joinTo l bs k = acc at *
      (conv => whnf)
      refine idx_and (by omega) (by simpa using hs) ?_
      (conv => whnf)
      refine idx_and (by omega) (by simpa using hbk) ?_
      (conv => whnf)
      rw [enc_letter k (by omega)]
      refine call_i (team_addRobot (letter k) (acc.robot.joints.map encJ).length b acc s.robot (by rw [letter_size k (by omega)]; omega) (by simp; omega) hrk (by omega)) ?_
      (conv => whnf)
      refine call_i (team_addShapes (letter k) (acc.robot.joints.map encJ).length b ⟨⟨acc.robot.joints ++ s.robot.joints.map (joinJ (letter k) (acc.robot.joints.map encJ).length b), acc.robot.masses ++ s.robot.masses.map (joinM (acc.robot.joints.map encJ).length)⟩, acc.shapes, acc.skips⟩ s (by simp; omega) hsk (by simp only; omega)) ?_
      (conv => whnf)
      exact ⟨k + 1, [(2, 8), (3, 9), (4, 10), (5, 11)], hlt, by omega, ⟨⟨rfl, rfl, rfl, rfl, rfl, rfl, eqI hkk, trivial⟩, ⟨rfl, rfl, rows_eq (by rw [hnx, List.length_map]; rfl), rows_eq (by rw [hnx, List.length_map]; rfl), rows_eq (by rw [hnx, List.length_map]; rfl), rows_eq (by rw [hnx, List.length_map]; rfl), trivial⟩⟩⟩
    · have hk : k = l.length := by have := of_decide_eq_false hlt; omega
      subst hk
      (conv => whnf)
      refine call_i (scene_Check (joinTo l bs l.length) (hz.small (by omega))) ?_
      (conv => whnf)
      refine ⟨⟨trivial, trivial⟩, ?_⟩
      (conv => whnf)
      refine ask_m (fun h => ?_) (fun h => ?_)
      · have h : ¬ checkScene (joinTo l bs l.length) = 0 := by simpa using h
        rw [if_pos h]
        (conv => whnf)
        refine retO [.ownC 0 0 Y.Joint 12, .ownC 0 1 Y.Mass 5, .ownC 0 2 Y.Shape 3, .ownC 0 3 Y.Skip 2, .frz 6, .frz 7, .frz 8, .frz 9] ?_
        (conv => whnf)
        exact ⟨[], ⟨rfl, trivial⟩, trivial⟩
      · have h : checkScene (joinTo l bs l.length) = 0 := by simpa using h
        rw [if_neg (by simp [h])]
        (conv => whnf)
        refine retO [.frz 2, .frz 3, .frz 4, .frz 5] ?_
        (conv => whnf)
        exact ⟨[], ⟨rfl, trivial⟩, trivial⟩
end Go.Proofs.YthdbdokhncaijaaGreat

/- mk.SameRobot and what it calls. -/
namespace Go.Proofs.YthdbdokhncaijaaGreat
open Eng
set_option maxRecDepth 10000
attribute [local irreducible] FnOk loopW idxF retX arrF

deriving instance DecidableEq for Joint
deriving instance DecidableEq for Mass
deriving instance DecidableEq for Shape
deriving instance DecidableEq for Robot
deriving instance DecidableEq for Scene
theorem cmp_mk_Same_Mass : cmpB Tryz.prog 8 Y.Mass = true ∧ Tryz.prog.eqGuardType Tryz.prog.depth Y.Mass = false := ⟨by kernel_rfl, by kernel_rfl⟩
theorem cmp_mk_Same_Joint : cmpB Tryz.prog 8 Y.Joint = true ∧ Tryz.prog.eqGuardType Tryz.prog.depth Y.Joint = false := ⟨by kernel_rfl, by kernel_rfl⟩
end Go.Proofs.YthdbdokhncaijaaGreat

/- law35: the comparisons of lists and scenes. -/
namespace Go.Proofs.YthdbdokhncaijaaGreat
open Eng
set_option maxRecDepth 10000
attribute [local irreducible] FnOk loopW idxF retX arrF

theorem cmp_mk_Same_Vec : cmpB Tryz.prog 8 Y.Vec = true ∧ Tryz.prog.eqGuardType Tryz.prog.depth Y.Vec = false := ⟨by kernel_rfl, by kernel_rfl⟩
theorem cmp_mk_Same_Skip : cmpB Tryz.prog 8 Y.Skip = true ∧ Tryz.prog.eqGuardType Tryz.prog.depth Y.Skip = false := ⟨by kernel_rfl, by kernel_rfl⟩
def smallB (s : Scene) : Bool := decide (s.robot.joints.length ≤ 4) && decide (s.robot.masses.length ≤ 6) && decide (s.shapes.length ≤ 6) && decide (s.skips.length ≤ 8)
end Go.Proofs.YthdbdokhncaijaaGreat

/- law35: parts of lists. -/
namespace Go.Proofs.YthdbdokhncaijaaGreat
open Eng
set_option maxRecDepth 10000
attribute [local irreducible] FnOk loopW idxF retX arrF

structure Ival where
  lo : Int
  hi : Int
deriving DecidableEq
def encIv (v : Ival) : List DV := [.int .i64 v.lo, .int .i64 v.hi]
abbrev dIvs (l : List Ival) : DV := .lst 2 (l.map encIv)
theorem mk_Same_int64 (a b : List Int) (ha : a.length ≤ 4611686018427387904) (hb : b.length ≤ 4611686018427387904) : FnOk Tryz.prog F.mk_Same_int64 [.one (.dv (.lst 1 (a.map encI))), .one (.dv (.lst 1 (b.map encI)))] [] 0 (Bo (decide (a = b))) [] 0 := by
  refine fnOk tab mix G.mk_Same_int64 rfl rfl (by kernel_rfl) rfl rfl ?_
  (conv => whnf)
  refine ask_m (fun h => ?_) (fun h => ?_)
  · (conv => whnf)
    refine ret0 ?_
    refine ret_b (Eq.symm (decide_eq_false ?_)) rfl
    rintro rfl
    simp at h
  have hl : a.length = b.length := by simp at h; omega
  (conv => whnf)
  refine loop_intro (fun k : Nat => ⟨[(0, .one (.dv (.lst 1 (a.map encI)))), (1, .one (.dv (.lst 1 (b.map encI)))), (5, I k)], [], 0⟩) (fun k => k ≤ a.length ∧ a.take k = b.take k) (fun k => a.length - k) [] 0 [] ⟨Nat.zero_le _, rfl⟩ ⟨⟨rfl, rfl, rfl, trivial⟩, trivial⟩ ?_
  rintro k ⟨hk, hall⟩
  (conv => whnf)
  refine ask_m (fun h => ?_) (fun h => ?_)
  · have hlt : k < a.length := by simpa using h
    obtain ⟨x, hx⟩ : ∃ j, a[k]? = some j := ⟨_, List.getElem?_eq_getElem hlt⟩
    obtain ⟨y, hy⟩ : ∃ j, b[k]? = some j := ⟨_, List.getElem?_eq_getElem (by omega)⟩
    have hkk : IntKind.i64.wrap ((k : Int) + 1) = ((k + 1 : Nat) : Int) := by rw [w64] <;> omega
    (conv => whnf)
    refine idx_and (by omega) (by simpa using hx) ?_
    (conv => whnf)
    refine idx_and (by omega) (by simpa using hy) ?_
    (conv => whnf)
    refine ask_m (fun h => ?_) (fun h => ?_)
    · (conv => whnf)
      refine ret0 ?_
      refine ret_b (Eq.symm (decide_eq_false (ne_at hx hy ?_))) rfl
      rintro rfl
      simp at h
    · skip
      have e : x = y := by simpa using h
      subst e
      (conv => whnf)
      exact ⟨k + 1, [], ⟨hlt, take_same hall hx hy⟩, by omega, ⟨⟨rfl, rfl, eqI hkk, trivial⟩, trivial⟩⟩
  · have hk : k = a.length := by simp at h; omega
    subst hk
    rw [List.take_length, hl, List.take_length] at hall
    (conv => whnf)
    refine ret0 ?_
    exact ret_b (decide_eq_true hall).symm rfl
theorem cmp_mk_Same_Interval : cmpB Tryz.prog 8 Y.Interval = true ∧ Tryz.prog.eqGuardType Tryz.prog.depth Y.Interval = false := ⟨by kernel_rfl, by kernel_rfl⟩
/-- joints of the first scenes -/
def cnt (l : List Scene) (k : Nat) : Nat := ((l.take k).map fun s => s.robot.joints.length).sum
theorem cnt_succ {l : List Scene} {k : Nat} {s : Scene} (h : l[k]? = some s) : cnt l (k + 1) = cnt l k + s.robot.joints.length := by
  rw [cnt, map_take1 _ h, List.sum_append]; simp [cnt]
theorem cnt_le (l : List Scene) : ∀ k d, cnt l k ≤ cnt l (k + d)
  | k, 0 => Nat.le_refl _
  | k, d + 1 => by
    refine Nat.le_trans (cnt_le l k d) ?_
    rcases Nat.lt_or_ge (k + d) l.length with h | h
    · rw [← Nat.add_assoc, cnt_succ (List.getElem?_eq_getElem h)]; omega
    · rw [cnt, cnt, List.take_of_length_le h, List.take_of_length_le (by omega)]; exact Nat.le_refl _
theorem cnt_bd {l : List Scene} (hj : ∀ s ∈ l, s.robot.joints.length ≤ 1000) : ∀ k, k ≤ l.length → cnt l k ≤ 1000 * k
  | 0, _ => Nat.le_refl _
  | k + 1, h => by
    have := cnt_bd hj k (by omega)
    obtain ⟨s, hs⟩ : ∃ s, l[k]? = some s := ⟨_, List.getElem?_eq_getElem (by omega)⟩
    have := hj s (List.mem_of_getElem? hs)
    rw [cnt_succ hs]; omega
def partOf {α : Type} (l : List Scene) (xs : List α) (k : Int) : List α × Bool :=
  if k < 0 ∨ (l.length : Int) ≤ k then ([], false) else if xs.length ≠ cnt l l.length then ([], false) else ((xs.take (cnt l (k.toNat + 1))).drop (cnt l k.toNat), true)
theorem part_map {α : Type} (enc : α → List DV) (xs : List α) (a b : Nat) : ((xs.map enc).take b).drop a = ((xs.take b).drop a).map enc := by
  rw [List.map_drop, List.map_take]
theorem clone_Int (xs : List Int) (hl : xs.length ≤ 1099511627776) : FnOk Tryz.prog F.slices_Clone_sint64_int64 [.one (.dv (.lst 1 (xs.map encI)))] [] 0 (.one (.row 0)) [(0, .rows Y.int64 1 (xs.map encI))] 1 := by
  refine fnOk tab mix G.slices_Clone_sint64_int64 rfl rfl (by kernel_rfl) rfl rfl ?_
  (conv => whnf)
  refine ⟨fun h => ?_, ?_⟩
  · (conv => whnf)
    refine retO [.own 2 Y.int64 1] ?_
    (conv => whnf)
    exact ⟨[], ⟨rfl, trivial⟩, ⟨by rw [h]; rfl, trivial⟩⟩
  · (conv => whnf)
    refine ⟨⟨by simp; omega, by simp; omega⟩, ?_⟩
    (conv => whnf)
    (conv => whnf)
    refine retO [] ?_
    (conv => whnf)
    exact ⟨[(0, 1)], ⟨rfl, trivial⟩, ⟨rfl, trivial⟩⟩
theorem team_partI (l : List Scene) (xs : List Int) (k : Int) (hl : l.length ≤ 1000) (hj : ∀ s ∈ l, s.robot.joints.length ≤ 1000) : FnOk Tryz.prog F.team_part_int64 [.one (.dv (dScs l)), .one (.dv (.lst 1 (xs.map encI))), I k] [] 0 (.tup [(false, [.dv (.lst 1 ((partOf l xs k).1.map encI))]), (false, [.dv (.bool (partOf l xs k).2)])]) [] 0 := by
  refine fnOk tab mix G.team_part_int64 rfl rfl (by kernel_rfl) rfl rfl ?_
  (conv => whnf)
  refine ask_m (fun h1 => ?_) (fun h1 => ?_)
  · have h1 : k < 0 := of_decide_eq_true h1
    rw [partOf, if_pos (.inl h1)]
    (conv => whnf)
    refine retO [.own 6 Y.int64 1, .frz 0] ?_
    (conv => whnf)
    exact ⟨[], ⟨rfl, trivial⟩, trivial⟩
  have h1 : ¬ k < 0 := of_decide_eq_false h1
  (conv => whnf)
  refine ask_m (fun h2 => ?_) (fun h2 => ?_)
  · have h2 : (l.length : Int) ≤ k := by have := of_decide_eq_true h2; simpa using this
    rw [partOf, if_pos (.inr h2)]
    (conv => whnf)
    refine retO [.own 6 Y.int64 1, .frz 0] ?_
    (conv => whnf)
    exact ⟨[], ⟨rfl, trivial⟩, trivial⟩
  have h2 : ¬ (l.length : Int) ≤ k := by have := of_decide_eq_false h2; simpa using this
  obtain ⟨c, rfl⟩ : ∃ c : Nat, k = c := ⟨k.toNat, by omega⟩
  rw [partOf, if_neg (by omega), Int.toNat_natCast]
  (conv => whnf)
  refine loop_intro (fun i : Nat => ⟨[(0, .one (.dv (dScs l))), (1, .one (.dv (.lst 1 (xs.map encI)))), (2, I c), (6, .one (.nil 1)), (8, I (cnt l i)), (9, I (if c < i then (cnt l c : Int) else 0)), (20, .one (.dv (dScs l))), (21, I l.length), (22, I i)], [], 0⟩) (fun i => i ≤ l.length) (fun i => l.length - i) [] 0 [] (Nat.zero_le _) ⟨⟨rfl, rfl, rfl, rfl, rfl, rfl, rfl, eqI (by simp), rfl, trivial⟩, trivial⟩ ?_
  rintro i hi
  have hii : IntKind.i64.wrap ((i : Int) + 1) = ((i + 1 : Nat) : Int) := by rw [w64] <;> omega
  have hb := cnt_bd hj i hi
  (conv => whnf)
  refine ask_m (fun hlt => ?_) (fun hlt => ?_)
  · have hlt : i < l.length := by have := of_decide_eq_true hlt; omega
    obtain ⟨s, hs⟩ : ∃ s, l[i]? = some s := ⟨_, List.getElem?_eq_getElem hlt⟩
    have hsj := hj s (List.mem_of_getElem? hs)
    have hcs := cnt_succ hs
    have e1 : IntKind.i64.wrap ((cnt l i : Int) + ((s.robot.joints.map encJ).length : Nat)) = (cnt l (i + 1) : Nat) := by rw [List.length_map, w64] <;> omega
    (conv => whnf)
    refine idx_and (by omega) (by simpa using hs) ?_
    (conv => whnf)
    refine ask_m (fun he => ?_) (fun he => ?_)
    · have he : i = c := by have : (i : Int) = c := by simpa using he
                            omega
      subst he
      (conv => whnf)
      exact ⟨i + 1, [], hlt, by omega, ⟨⟨rfl, rfl, rfl, rfl, eqI e1, eqI (by rw [if_pos (by omega)]), rfl, rfl, eqI hii, trivial⟩, trivial⟩⟩
    · have he : ¬ i = c := by have : ¬ (i : Int) = c := by simpa using he
                              omega
      (conv => whnf)
      have hc : c < i ↔ c < i + 1 := by omega
      exact ⟨i + 1, [], hlt, by omega, ⟨⟨rfl, rfl, rfl, rfl, eqI e1, eqI (by simp only [hc]), rfl, rfl, eqI hii, trivial⟩, trivial⟩⟩
  have hi : i = l.length := by have := of_decide_eq_false hlt; omega
  subst hi
  rw [if_pos (by omega : c < l.length)]
  (conv => whnf)
  refine ask_m (fun hn => ?_) (fun hn => ?_)
  · have hn : xs.length ≠ cnt l l.length := by have : ¬ ((xs.map encI).length : Int) = (cnt l l.length : Nat) := by simpa using hn
                                               rw [List.length_map] at this; omega
    rw [if_pos hn]
    (conv => whnf)
    refine retO [.own 6 Y.int64 1, .frz 0] ?_
    (conv => whnf)
    exact ⟨[], ⟨rfl, trivial⟩, trivial⟩
  have hn : xs.length = cnt l l.length := by have : ((xs.map encI).length : Int) = (cnt l l.length : Nat) := by simpa using hn
                                             rw [List.length_map] at this; omega
  rw [if_neg (by simp [hn])]
  obtain ⟨s, hs⟩ : ∃ s, l[c]? = some s := ⟨_, List.getElem?_eq_getElem (by omega)⟩
  have hsj := hj s (List.mem_of_getElem? hs)
  have hcs := cnt_succ hs
  have hbc := cnt_bd hj c (by omega)
  have hle : cnt l (c + 1) ≤ cnt l l.length := by have := cnt_le l (c + 1) (l.length - (c + 1)); rwa [show c + 1 + (l.length - (c + 1)) = l.length by omega] at this
  have e1 : IntKind.i64.wrap ((cnt l c : Int) + ((s.robot.joints.map encJ).length : Nat)) = (cnt l (c + 1) : Nat) := by rw [List.length_map, w64] <;> omega
  (conv => whnf)
  refine idx_and (by omega) (by simpa using hs) ?_
  (conv => whnf)
  rw [e1]
  refine ⟨⟨by omega, by omega, by simp only [List.length_map]; omega⟩, ?_⟩
  (conv => whnf)
  rw [Int.toNat_natCast, Int.toNat_natCast, part_map]
  refine call_i (clone_Int ((xs.take (cnt l (c + 1))).drop (cnt l c)) (by simp only [List.length_drop, List.length_take]; omega)) ?_
  (conv => whnf)
  (conv => whnf)
  refine retO [.frz 0] ?_
  (conv => whnf)
  exact ⟨[], ⟨rfl, trivial⟩, trivial⟩
theorem team_Part' (l : List Scene) (xs : List Int) (k : Int) (hl : l.length ≤ 1000) (hj : ∀ s ∈ l, s.robot.joints.length ≤ 1000) : FnOk Tryz.prog F.team_Part [.one (.dv (dScs l)), .one (.dv (.lst 1 (xs.map encI))), I k] [] 0 (.tup [(false, [.dv (.lst 1 ((partOf l xs k).1.map encI))]), (false, [.dv (.bool (partOf l xs k).2)])]) [] 0 := by
  refine fnOk tab mix G.team_Part rfl rfl (by kernel_rfl) rfl rfl ?_
  (conv => whnf)
  refine call_i (team_partI l xs k hl hj) ?_
  (conv => whnf)
  (conv => whnf)
  refine ret0 ?_
  exact ⟨[], ⟨rfl, trivial⟩, trivial⟩
theorem clone_Ival (xs : List Ival) (hl : xs.length ≤ 1099511627776) : FnOk Tryz.prog F.slices_Clone_sapi_Interval_api_Interval [.one (.dv (.lst 2 (xs.map encIv)))] [] 0 (.one (.row 0)) [(0, .rows Y.Interval 2 (xs.map encIv))] 1 := by
  refine fnOk tab mix G.slices_Clone_sapi_Interval_api_Interval rfl rfl (by kernel_rfl) rfl rfl ?_
  (conv => whnf)
  refine ⟨fun h => ?_, ?_⟩
  · (conv => whnf)
    refine retO [.own 2 Y.Interval 2] ?_
    (conv => whnf)
    exact ⟨[], ⟨rfl, trivial⟩, ⟨by rw [h]; rfl, trivial⟩⟩
  · (conv => whnf)
    refine ⟨⟨by simp; omega, by simp; omega⟩, ?_⟩
    (conv => whnf)
    (conv => whnf)
    refine retO [] ?_
    (conv => whnf)
    exact ⟨[(0, 1)], ⟨rfl, trivial⟩, ⟨rfl, trivial⟩⟩
theorem team_partB (l : List Scene) (xs : List Ival) (k : Int) (hl : l.length ≤ 1000) (hj : ∀ s ∈ l, s.robot.joints.length ≤ 1000) : FnOk Tryz.prog F.team_part_api_Interval [.one (.dv (dScs l)), .one (.dv (.lst 2 (xs.map encIv))), I k] [] 0 (.tup [(false, [.dv (.lst 2 ((partOf l xs k).1.map encIv))]), (false, [.dv (.bool (partOf l xs k).2)])]) [] 0 := by
  refine fnOk tab mix G.team_part_api_Interval rfl rfl (by kernel_rfl) rfl rfl ?_
  (conv => whnf)
  refine ask_m (fun h1 => ?_) (fun h1 => ?_)
  · have h1 : k < 0 := of_decide_eq_true h1
    rw [partOf, if_pos (.inl h1)]
    (conv => whnf)
    refine retO [.own 6 Y.Interval 2, .frz 0] ?_
    (conv => whnf)
    exact ⟨[], ⟨rfl, trivial⟩, trivial⟩
  have h1 : ¬ k < 0 := of_decide_eq_false h1
  (conv => whnf)
  refine ask_m (fun h2 => ?_) (fun h2 => ?_)
  · have h2 : (l.length : Int) ≤ k := by have := of_decide_eq_true h2; simpa using this
    rw [partOf, if_pos (.inr h2)]
    (conv => whnf)
    refine retO [.own 6 Y.Interval 2, .frz 0] ?_
    (conv => whnf)
    exact ⟨[], ⟨rfl, trivial⟩, trivial⟩
  have h2 : ¬ (l.length : Int) ≤ k := by have := of_decide_eq_false h2; simpa using this
  obtain ⟨c, rfl⟩ : ∃ c : Nat, k = c := ⟨k.toNat, by omega⟩
  rw [partOf, if_neg (by omega), Int.toNat_natCast]
  (conv => whnf)
  refine loop_intro (fun i : Nat => ⟨[(0, .one (.dv (dScs l))), (1, .one (.dv (.lst 2 (xs.map encIv)))), (2, I c), (6, .one (.nil 2)), (8, I (cnt l i)), (9, I (if c < i then (cnt l c : Int) else 0)), (20, .one (.dv (dScs l))), (21, I l.length), (22, I i)], [], 0⟩) (fun i => i ≤ l.length) (fun i => l.length - i) [] 0 [] (Nat.zero_le _) ⟨⟨rfl, rfl, rfl, rfl, rfl, rfl, rfl, eqI (by simp), rfl, trivial⟩, trivial⟩ ?_
  rintro i hi
  have hii : IntKind.i64.wrap ((i : Int) + 1) = ((i + 1 : Nat) : Int) := by rw [w64] <;> omega
  have hb := cnt_bd hj i hi
  (conv => whnf)
  refine ask_m (fun hlt => ?_) (fun hlt => ?_)
  · have hlt : i < l.length := by have := of_decide_eq_true hlt; omega
    obtain ⟨s, hs⟩ : ∃ s, l[i]? = some s := ⟨_, List.getElem?_eq_getElem hlt⟩
    have hsj := hj s (List.mem_of_getElem? hs)
    have hcs := cnt_succ hs
    have e1 : IntKind.i64.wrap ((cnt l i : Int) + ((s.robot.joints.map encJ).length : Nat)) = (cnt l (i + 1) : Nat) := by rw [List.length_map, w64] <;> omega
    (conv => whnf)
    refine idx_and (by omega) (by simpa using hs) ?_
    (conv => whnf)
    refine ask_m (fun he => ?_) (fun he => ?_)
    · have he : i = c := by have : (i : Int) = c := by simpa using he
                            omega
      subst he
      (conv => whnf)
      exact ⟨i + 1, [], hlt, by omega, ⟨⟨rfl, rfl, rfl, rfl, eqI e1, eqI (by rw [if_pos (by omega)]), rfl, rfl, eqI hii, trivial⟩, trivial⟩⟩
    · have he : ¬ i = c := by have : ¬ (i : Int) = c := by simpa using he
                              omega
      (conv => whnf)
      have hc : c < i ↔ c < i + 1 := by omega
      exact ⟨i + 1, [], hlt, by omega, ⟨⟨rfl, rfl, rfl, rfl, eqI e1, eqI (by simp only [hc]), rfl, rfl, eqI hii, trivial⟩, trivial⟩⟩
  have hi : i = l.length := by have := of_decide_eq_false hlt; omega
  subst hi
  rw [if_pos (by omega : c < l.length)]
  (conv => whnf)
  refine ask_m (fun hn => ?_) (fun hn => ?_)
  · have hn : xs.length ≠ cnt l l.length := by have : ¬ ((xs.map encIv).length : Int) = (cnt l l.length : Nat) := by simpa using hn
                                               rw [List.length_map] at this; omega
    rw [if_pos hn]
    (conv => whnf)
    refine retO [.own 6 Y.Interval 2, .frz 0] ?_
    (conv => whnf)
    exact ⟨[], ⟨rfl, trivial⟩, trivial⟩
  have hn : xs.length = cnt l l.length := by have : ((xs.map encIv).length : Int) = (cnt l l.length : Nat) := by simpa using hn
                                             rw [List.length_map] at this; omega
  rw [if_neg (by simp [hn])]
  obtain ⟨s, hs⟩ : ∃ s, l[c]? = some s := ⟨_, List.getElem?_eq_getElem (by omega)⟩
  have hsj := hj s (List.mem_of_getElem? hs)
  have hcs := cnt_succ hs
  have hbc := cnt_bd hj c (by omega)
  have hle : cnt l (c + 1) ≤ cnt l l.length := by have := cnt_le l (c + 1) (l.length - (c + 1)); rwa [show c + 1 + (l.length - (c + 1)) = l.length by omega] at this
  have e1 : IntKind.i64.wrap ((cnt l c : Int) + ((s.robot.joints.map encJ).length : Nat)) = (cnt l (c + 1) : Nat) := by rw [List.length_map, w64] <;> omega
  (conv => whnf)
  refine idx_and (by omega) (by simpa using hs) ?_
  (conv => whnf)
  rw [e1]
  refine ⟨⟨by omega, by omega, by simp only [List.length_map]; omega⟩, ?_⟩
  (conv => whnf)
  rw [Int.toNat_natCast, Int.toNat_natCast, part_map]
  refine call_i (clone_Ival ((xs.take (cnt l (c + 1))).drop (cnt l c)) (by simp only [List.length_drop, List.length_take]; omega)) ?_
  (conv => whnf)
  (conv => whnf)
  refine retO [.frz 0] ?_
  (conv => whnf)
  exact ⟨[], ⟨rfl, trivial⟩, trivial⟩
theorem team_PartBox' (l : List Scene) (xs : List Ival) (k : Int) (hl : l.length ≤ 1000) (hj : ∀ s ∈ l, s.robot.joints.length ≤ 1000) : FnOk Tryz.prog F.team_PartBox [.one (.dv (dScs l)), .one (.dv (.lst 2 (xs.map encIv))), I k] [] 0 (.tup [(false, [.dv (.lst 2 ((partOf l xs k).1.map encIv))]), (false, [.dv (.bool (partOf l xs k).2)])]) [] 0 := by
  refine fnOk tab mix G.team_PartBox rfl rfl (by kernel_rfl) rfl rfl ?_
  (conv => whnf)
  refine call_i (team_partB l xs k hl hj) ?_
  (conv => whnf)
  (conv => whnf)
  refine ret0 ?_
  exact ⟨[], ⟨rfl, trivial⟩, trivial⟩
end Go.Proofs.YthdbdokhncaijaaGreat

/- ref.JoinScenes. -/
namespace Go.Proofs.YthdbdokhncaijaaGreat
open Eng
set_option maxRecDepth 10000
attribute [local irreducible] FnOk loopW idxF retX arrF

theorem cut_letter : ∀ k, k < 4 → (⟨#[97, 98, 99, 100]⟩ : ByteArray).extract k (k + 1) = letter k := by decide
theorem inV_bd {v : Vec} {m : Int} (h : inV v m = true) : (-m ≤ v.x ∧ v.x ≤ m) ∧ (-m ≤ v.y ∧ v.y ≤ m) ∧ (-m ≤ v.z ∧ v.z ≤ m) := by
  simp only [inV, Bool.and_eq_true, decide_eq_true_eq] at h
  exact ⟨h.1.1, h.1.2, h.2⟩
theorem addV_zero {v : Vec} (h : inV v 4194304 = true) : addV ⟨0, 0, 0⟩ v = v := by
  obtain ⟨⟨a, b⟩, ⟨c, d⟩, ⟨e, f⟩⟩ := inV_bd h
  obtain ⟨x, y, z⟩ := v
  simp only at a b c d e f
  simp only [addV, Int.add_zero, ww]
  rw [w64 (by omega) (by omega), w64 (by omega) (by omega), w64 (by omega) (by omega)]
theorem joinSh_pts {p : Int} {b : Vec} {x : Shape} (h : ∀ v ∈ x.points, inV v 4194304 = true) : joinSh p b x = ⟨raise p x.link, x.radius, x.points.map (addV (if x.link = -1 then b else ⟨0, 0, 0⟩))⟩ := by
  rw [joinSh]
  congr 1
  refine List.map_congr_left fun v hv => ?_
  rw [joinV]
  split
  · rfl
  · exact (addV_zero (h v hv)).symm
abbrev bV (b : Vec) : Box := .vars Y.Vec [.dv (.int .i64 b.x), .dv (.int .i64 b.y), .dv (.int .i64 b.z)]
end Go.Proofs.YthdbdokhncaijaaGreat

/- law35: scenes, few, awake. -/
namespace Go.Proofs.YthdbdokhncaijaaGreat
open Eng
set_option maxRecDepth 10000
attribute [local irreducible] FnOk loopW idxF retX arrF

def rot (l : List Int) (n : Nat) : List Int := (List.range l.length).map fun i => l.getD ((i + n) % l.length) 0
def nSc (m : List Int) : Nat := 1 + (nxt m 0 3).toNat
def scAt (l m : List Int) (n i : Nat) : Scene := if nxt m (1 + 4 * i) 2 = 1 then mkTrack (rot l (n - i)) else mkScene (rot l (n - i))
def bsAt (m : List Int) (i : Nat) : Vec := ⟨(nxt m (1 + 4 * i + 1) 19 - 9) * 32768, (nxt m (1 + 4 * i + 2) 19 - 9) * 32768, nxt m (1 + 4 * i + 3) 7 - 3⟩
def scsTo (l m : List Int) (k : Nat) : List Scene := (List.range k).map (scAt l m (nSc m))
def bssTo (m : List Int) (k : Nat) : List Vec := (List.range k).map (bsAt m)
def scsOf (l m : List Int) : List Scene := scsTo l m (nSc m)
def bssOf (m : List Int) : List Vec := bssTo m (nSc m)
theorem nSc_bd (m : List Int) : 1 ≤ nSc m ∧ nSc m ≤ 3 := by
  have := nxt_bd (l := m) (j := 0) (m := 3) (by omega)
  unfold nSc; omega
theorem scAt_ok (l m : List Int) (n i : Nat) : checkScene (scAt l m n i) = 0 := by
  unfold scAt; split
  · exact mkTrack_ok _
  · exact mkScene_ok _
theorem scsOf_ok (l m : List Int) : ∀ s ∈ scsOf l m, checkScene s = 0 := by
  intro s hs
  obtain ⟨i, _, rfl⟩ := List.mem_map.1 hs
  exact scAt_ok _ _ _ _
theorem scsOf_len (l m : List Int) : (scsOf l m).length = nSc m := by simp [scsOf, scsTo]
theorem bssOf_len (m : List Int) : (bssOf m).length = nSc m := by simp [bssOf, bssTo]
theorem half9 {a : Int} (h0 : 0 ≤ a) (h1 : a < 19) : IntKind.i64.wrap ((IntKind.i64.wrap ((a - 9) * 65536)).tdiv 2) = (a - 9) * 32768 := by
  rw [w64 (x := (a - 9) * 65536) (by omega) (by omega), show (a - 9) * 65536 = (a - 9) * 32768 * 2 by omega, Int.mul_tdiv_cancel _ (by decide), w64] <;> omega
set_option maxHeartbeats 1000000 in
theorem law35_scenes (l m : List Int) (hl : l.length ≤ 17592186044416) (hm : m.length ≤ 17592186044416) : FnOk Tryz.prog F.law35_scenes [Li l, Li m] [] 0 (.tup [(false, [.row 0]), (false, [.row 1])]) [(0, .rows Y.Scene 4 ((scsOf l m).map encSc)), (1, .rows Y.Vec 3 ((bssOf m).map encV))] 2 := by
  refine fnOkG [(12, [.frz 3])] tab mix G.law35_scenes rfl rfl (by kernel_rfl) rfl rfl ?_
  (conv => whnf)
  refine call_i (mk_From m) ?_
  (conv => whnf)
  refine call_i (mk_Next m 0 3 (by omega) (by omega) (by omega)) ?_
  (conv => whnf)
  obtain ⟨c1, c2⟩ := nSc_bd m
  have n0 := nxt_bd (l := m) (j := 0) (m := 3) (by omega)
  have hn : IntKind.i64.wrap (1 + nxt m 0 3) = (nSc m : Nat) := by rw [w64 (by omega) (by omega)]; unfold nSc; omega
  rw [hn, scsOf, bssOf]
  refine loop_intro (fun i : Nat => ⟨[(0, Li l), (6, .one (.vptr 0 0)), (7, .one (.row 1)), (8, .one (.row 2)), (9, I ((nSc m : Int) - i))], [(0, SrcJ m (1 + 4 * i)), (1, .rows Y.Scene 4 ((scsTo l m i).map encSc)), (2, .rows Y.Vec 3 ((bssTo m i).map encV))], 3⟩) (fun i => i ≤ nSc m) (fun i => nSc m - i) [.own 7 Y.Scene 4, .own 8 Y.Vec 3] 0 [] (Nat.zero_le _) ⟨⟨rfl, rfl, rfl, rfl, eqI (by simp), trivial⟩, ⟨rfl, rfl, rfl, trivial⟩⟩ ?_
  rintro i hi
  have hii : IntKind.i64.wrap ((nSc m : Int) - i - 1) = (nSc m : Int) - ((i + 1 : Nat) : Int) := by rw [w64] <;> omega
  (conv => whnf)
  refine ask_m (fun h => ?_) (fun h => ?_)
  · have hlt : i < nSc m := by have := of_decide_eq_true h; omega
    (conv => whnf)
    refine loop_intro (fun j : Nat => ⟨[(0, Li l), (6, .one (.vptr 0 0)), (7, .one (.row 1)), (8, .one (.row 2)), (9, I ((nSc m : Int) - i)), (10, .one (.row 3)), (11, I j)], [(0, SrcJ m (1 + 4 * i)), (1, .rows Y.Scene 4 ((scsTo l m i).map encSc)), (2, .rows Y.Vec 3 ((bssTo m i).map encV)), (3, .rows Y.int 1 (((List.range j).map fun q => l.getD ((q + (nSc m - i)) % l.length) 0).map encI))], 4⟩) (fun j => j ≤ l.length) (fun j => l.length - j) [.own 10 Y.int 1] 0 [] (Nat.zero_le _) ⟨⟨rfl, rfl, rfl, rfl, rfl, rfl, rfl, trivial⟩, ⟨rfl, rfl, rfl, rfl, trivial⟩⟩ ?_
    rintro j hj
    have hjj : IntKind.i64.wrap ((j : Int) + 1) = ((j + 1 : Nat) : Int) := by rw [w64] <;> omega
    (conv => whnf)
    refine ask_m (fun hjl => ?_) (fun hjl => ?_)
    · have hjl : j < l.length := by simpa using hjl
      have e1 : (IntKind.i64.wrap ((j : Int) + ((nSc m : Int) - i))).tmod (((l.map encI).length : Nat) : Int) = (((j + (nSc m - i)) % l.length : Nat) : Int) := by
        rw [List.length_map, w64 (by omega) (by omega), Int.tmod_eq_emod_of_nonneg (by omega), show (j : Int) + ((nSc m : Int) - i) = ((j + (nSc m - i) : Nat) : Int) by omega]; rfl
      have hmod : (j + (nSc m - i)) % l.length < l.length := Nat.mod_lt _ (by omega)
      obtain ⟨y, hy⟩ : ∃ y, l[(j + (nSc m - i)) % l.length]? = some y := ⟨_, List.getElem?_eq_getElem hmod⟩
      (conv => whnf)
      refine ⟨by rw [List.length_map]; omega, ?_⟩
      (conv => whnf)
      rw [e1]
      refine idx_and (xs := l) (x := y) (by omega) (by rw [Int.toNat_natCast]; exact hy) ?_
      (conv => whnf)
      refine ⟨⟨by simp; omega, by simp; omega⟩, ?_⟩
      (conv => whnf)
      refine ⟨j + 1, [(3, 5)], hjl, by omega, ⟨⟨rfl, rfl, rfl, rfl, rfl, rfl, eqI hjj, trivial⟩, ⟨rfl, rfl, rfl, ?_, trivial⟩⟩⟩
      rw [range_enc, getD_at hy]; rfl
    · have hj : j = l.length := by simp at hjl; omega
      subst hj
      have er : ((List.range l.length).map fun q => l.getD ((q + (nSc m - i)) % l.length) 0) = rot l (nSc m - i) := rfl
      rw [er]
      have hrl : (rot l (nSc m - i)).length = l.length := by simp [rot]
      have m0 := nxt_bd (l := m) (j := 1 + 4 * i) (m := 2) (by omega)
      have m1 := nxt_bd (l := m) (j := 1 + 4 * i + 1) (m := 19) (by omega)
      have m2 := nxt_bd (l := m) (j := 1 + 4 * i + 2) (m := 19) (by omega)
      have m3 := nxt_bd (l := m) (j := 1 + 4 * i + 3) (m := 7) (by omega)
      have l1 : (scsTo l m i).length = i := by simp [scsTo]
      have l2 : (bssTo m i).length = i := by simp [bssTo]
      have n1 : (scsTo l m (i + 1)).map encSc = (scsTo l m i).map encSc ++ [encSc (scAt l m (nSc m) i)] := range_enc
      have n2 : (bssTo m (i + 1)).map encV = (bssTo m i).map encV ++ [encV (bsAt m i)] := range_enc
      have e5 : SrcJ m (1 + 4 * i + 1 + 1 + 1 + 1) = SrcJ m (1 + 4 * (i + 1)) := by rw [show 1 + 4 * (i + 1) = 1 + 4 * i + 1 + 1 + 1 + 1 by omega]
      (conv => whnf)
      refine call_i (mk_Scene (rot l (nSc m - i)) (by omega)) ?_
      (conv => whnf)
      refine call_i (mk_Next m (1 + 4 * i) 2 (by omega) (by omega) (by omega)) ?_
      (conv => whnf)
      refine ask_m (fun h2 => ?_) (fun h2 => ?_)
      · have h2 : nxt m (1 + 4 * i) 2 = 1 := by simpa using h2
        (conv => whnf)
        refine call_i (mk_Track (rot l (nSc m - i)) (by omega)) ?_
        (conv => whnf)
        refine ⟨⟨by simp; omega, by simp; omega⟩, ?_⟩
        (conv => whnf)
        refine call_i (mk_Signed m (1 + 4 * i + 1) 9 19 (by decide) (by decide) (by decide) (by omega)) ?_
        (conv => whnf)
        refine ⟨(by decide : (2 : Int) ≠ 0), ?_⟩
        (conv => whnf)
        rw [half9 m1.1 m1.2]
        refine call_i (mk_Signed m (1 + 4 * i + 1 + 1) 9 19 (by decide) (by decide) (by decide) (by omega)) ?_
        (conv => whnf)
        refine ⟨(by decide : (2 : Int) ≠ 0), ?_⟩
        (conv => whnf)
        rw [half9 m2.1 m2.2]
        refine call_i (mk_Signed m (1 + 4 * i + 1 + 1 + 1) 3 7 (by decide) (by decide) (by decide) (by omega)) ?_
        (conv => whnf)
        refine ⟨⟨by simp; omega, by simp; omega⟩, ?_⟩
        (conv => whnf)
        exact ⟨i + 1, [(1, 6), (2, 8)], hlt, by omega, ⟨⟨rfl, rfl, rfl, rfl, eqI hii, trivial⟩, ⟨e5, rows_eq (by rw [n1, scAt, if_pos h2]; rfl), rows_eq (by rw [n2]; rfl), trivial⟩⟩⟩
      · have h2 : ¬ nxt m (1 + 4 * i) 2 = 1 := by simpa using h2
        (conv => whnf)
        refine ⟨⟨by simp; omega, by simp; omega⟩, ?_⟩
        (conv => whnf)
        refine call_i (mk_Signed m (1 + 4 * i + 1) 9 19 (by decide) (by decide) (by decide) (by omega)) ?_
        (conv => whnf)
        refine ⟨(by decide : (2 : Int) ≠ 0), ?_⟩
        (conv => whnf)
        rw [half9 m1.1 m1.2]
        refine call_i (mk_Signed m (1 + 4 * i + 1 + 1) 9 19 (by decide) (by decide) (by decide) (by omega)) ?_
        (conv => whnf)
        refine ⟨(by decide : (2 : Int) ≠ 0), ?_⟩
        (conv => whnf)
        rw [half9 m2.1 m2.2]
        refine call_i (mk_Signed m (1 + 4 * i + 1 + 1 + 1) 3 7 (by decide) (by decide) (by decide) (by omega)) ?_
        (conv => whnf)
        refine ⟨⟨by simp; omega, by simp; omega⟩, ?_⟩
        (conv => whnf)
        exact ⟨i + 1, [(1, 6), (2, 8)], hlt, by omega, ⟨⟨rfl, rfl, rfl, rfl, eqI hii, trivial⟩, ⟨e5, rows_eq (by rw [n1, scAt, if_neg h2]; rfl), rows_eq (by rw [n2]; rfl), trivial⟩⟩⟩
  · have hi : i = nSc m := by have := of_decide_eq_false h; omega
    rw [← hi]
    (conv => whnf)
    refine retO [] ?_
    (conv => whnf)
    exact ⟨[(0, 1), (1, 2)], ⟨rfl, trivial⟩, ⟨rfl, rfl, trivial⟩⟩
def fewB (l : List Scene) (bs : List Vec) : Bool := decide (l.length ≤ 6) && decide (bs.length ≤ 8) && l.all smallB
def a1 : Scene := ⟨slider 1 9, [⟨0, 1, [⟨0, 0, 0⟩]⟩], []⟩
def j1 : Scene := ⟨⟨[⟨⟨#[97, 97]⟩, 4, -1, ⟨0, 0, 0⟩, 0, 9, 1, 65536, 65536, 65536⟩, ⟨⟨#[98, 97]⟩, 4, -1, ⟨0, 7, 0⟩, 0, 9, 1, 65536, 65536, 65536⟩], []⟩, [⟨0, 1, [⟨0, 0, 0⟩]⟩, ⟨1, 1, [⟨0, 0, 0⟩]⟩], []⟩
set_option maxHeartbeats 1000000 in
theorem join_a1 : joinOf [a1, a1] [⟨0, 0, 0⟩, ⟨0, 7, 0⟩] = (j1, 0) := by decide +kernel
theorem part_a1 : partOf [a1, a1] [(3 : Int), 4] 1 = ([4], true) := by decide +kernel
theorem a1_small : ∀ s ∈ [a1, a1], small s := by
  have h : small a1 := ⟨by decide, by decide, by decide, by decide, by decide⟩
  intro s hs
  simp only [List.mem_cons, List.not_mem_nil, or_false, or_self] at hs
  subst hs; exact h
theorem cmpVec : cmpB Tryz.prog 8 Y.Vec = true ∧ Tryz.prog.eqGuardType Tryz.prog.depth Y.Vec = false := ⟨by kernel_rfl, by kernel_rfl⟩
theorem law35_awake : FnOk Tryz.prog F.law35_awake [] [] 0 (Bo true) [] 0 := by
  refine fnOkG [(2, [.frz 1])] tab mix G.law35_awake rfl rfl (by kernel_rfl) rfl rfl ?_
  (conv => whnf)
  refine call_i (mk_Slider 1 9 (by decide)) ?_
  (conv => whnf)
  refine call_i (team_Join [a1, a1] [⟨0, 0, 0⟩, ⟨0, 7, 0⟩] (by decide) (by decide) a1_small) ?_
  (conv => whnf)
  rw [join_a1]
  (conv => whnf)
  refine call_i (team_Part' [a1, a1] [3, 4] 1 (by decide) (by decide)) ?_
  (conv => whnf)
  rw [part_a1]
  (conv => whnf)
  refine call_i (mk_Same_int64 [4] [4] (by decide) (by decide)) ?_
  (conv => whnf)
  refine ⟨⟨trivial, trivial⟩, ?_⟩
  (conv => whnf)
  refine idx_and (xs := j1.robot.joints) (x := ⟨⟨#[98, 97]⟩, 4, -1, ⟨0, 7, 0⟩, 0, 9, 1, 65536, 65536, 65536⟩) (by decide) rfl ?_
  (conv => whnf)
  refine idx_and (xs := j1.robot.joints) (x := ⟨⟨#[98, 97]⟩, 4, -1, ⟨0, 7, 0⟩, 0, 9, 1, 65536, 65536, 65536⟩) (by decide) rfl ?_
  (conv => whnf)
  refine ⟨cmpVec, ?_⟩
  (conv => whnf)
  refine idx_and (xs := j1.shapes) (x := ⟨1, 1, [⟨0, 0, 0⟩]⟩) (by decide) rfl ?_
  (conv => whnf)
  refine ret0 ?_
  exact ret_b (by decide) rfl
/- joins, TeamJoins -/
theorem emptyS_small : small emptyS := ⟨by decide, by decide, by decide, by decide, fun x hx => by cases hx⟩
theorem joinOf_small (l : List Scene) (bs : List Vec) : small (joinOf l bs).1 := by
  unfold joinOf
  split
  · exact emptyS_small
  · rename_i h1
    split
    · exact emptyS_small
    · rename_i h2
      split
      · exact emptyS_small
      · refine (joinTo_sized bs (firstBad_all (by simpa using h2)) l.length (Nat.le_refl _)).small (by omega)
theorem ok_small {s : Scene} (h : checkScene s = 0) : small s := by
  obtain ⟨g0, g1, g2, g3, g4⟩ := scene_facts h
  obtain ⟨f1, _, f3, _⟩ := robot_facts g0
  exact ⟨by omega, by omega, by omega, by omega, fun x hx => by have := (g2 x hx).2.2.1; omega⟩
def setC (v : Vec) (c : Nat) (y : Int) : Vec := if c = 0 then ⟨y, v.y, v.z⟩ else if c = 1 then ⟨v.x, y, v.z⟩ else ⟨v.x, v.y, y⟩
end Go.Proofs.YthdbdokhncaijaaGreat

/- Data of the types of robots and scenes. -/
namespace Go.Proofs.YthdbdokhncaijaaGreat
open Eng
set_option maxRecDepth 10000

theorem tz_i64 {n : Nat} {ds : List DV} (h : Typed T (n + 1) Y.int64 ds) : ∃ a, ds = [.int .i64 a] := by
  obtain ⟨a, h, _⟩ := h
  exact ⟨a, h⟩
theorem tz_int {n : Nat} {ds : List DV} (h : Typed T (n + 1) Y.int ds) : ∃ a, ds = [.int .i64 a] := by
  obtain ⟨a, h, _⟩ := h
  exact ⟨a, h⟩
theorem tz_str {n : Nat} {ds : List DV} (h : Typed T (n + 1) Y.string ds) : ∃ a, ds = [.str a] := by
  obtain ⟨a, h, _⟩ := h
  exact ⟨a, h⟩
theorem tz_Vec {n : Nat} {ds : List DV} (h : Typed T (n + 2) Y.Vec ds) : ∃ v, ds = encV v := by
  obtain ⟨ps, h1, h2, rfl⟩ := h
  match ps, h1 with
  | [a, b, c], _ =>
    obtain ⟨x, rfl⟩ := tz_i64 (h2 a (by simp))
    obtain ⟨y, rfl⟩ := tz_i64 (h2 b (by simp))
    obtain ⟨z, rfl⟩ := tz_i64 (h2 c (by simp))
    exact ⟨⟨x, y, z⟩, rfl⟩
theorem tz_Joint {n : Nat} {ds : List DV} (h : Typed T (n + 3) Y.Joint ds) : ∃ j, ds = encJ j := by
  obtain ⟨ps, h, rfl⟩ := h
  replace h := all2_cons h
  obtain ⟨d, q, rfl, h1, h⟩ := h
  obtain ⟨a1, rfl⟩ := tz_str h1
  replace h := all2_cons h
  obtain ⟨d, q, rfl, h1, h⟩ := h
  obtain ⟨a2, rfl⟩ := tz_int h1
  replace h := all2_cons h
  obtain ⟨d, q, rfl, h1, h⟩ := h
  obtain ⟨a3, rfl⟩ := tz_int h1
  replace h := all2_cons h
  obtain ⟨d, q, rfl, h1, h⟩ := h
  obtain ⟨a4, rfl⟩ := tz_Vec h1
  replace h := all2_cons h
  obtain ⟨d, q, rfl, h1, h⟩ := h
  obtain ⟨a5, rfl⟩ := tz_i64 h1
  replace h := all2_cons h
  obtain ⟨d, q, rfl, h1, h⟩ := h
  obtain ⟨a6, rfl⟩ := tz_i64 h1
  replace h := all2_cons h
  obtain ⟨d, q, rfl, h1, h⟩ := h
  obtain ⟨a7, rfl⟩ := tz_i64 h1
  replace h := all2_cons h
  obtain ⟨d, q, rfl, h1, h⟩ := h
  obtain ⟨a8, rfl⟩ := tz_i64 h1
  replace h := all2_cons h
  obtain ⟨d, q, rfl, h1, h⟩ := h
  obtain ⟨a9, rfl⟩ := tz_i64 h1
  replace h := all2_cons h
  obtain ⟨d, q, rfl, h1, h⟩ := h
  obtain ⟨a10, rfl⟩ := tz_i64 h1
  obtain rfl := all2_nil h
  exact ⟨⟨a1, a2, a3, a4, a5, a6, a7, a8, a9, a10⟩, rfl⟩
theorem tz_Mass {n : Nat} {ds : List DV} (h : Typed T (n + 3) Y.Mass ds) : ∃ j, ds = encM j := by
  obtain ⟨ps, h, rfl⟩ := h
  replace h := all2_cons h
  obtain ⟨d, q, rfl, h1, h⟩ := h
  obtain ⟨a1, rfl⟩ := tz_int h1
  replace h := all2_cons h
  obtain ⟨d, q, rfl, h1, h⟩ := h
  obtain ⟨a2, rfl⟩ := tz_i64 h1
  replace h := all2_cons h
  obtain ⟨d, q, rfl, h1, h⟩ := h
  obtain ⟨a3, rfl⟩ := tz_Vec h1
  obtain rfl := all2_nil h
  exact ⟨⟨a1, a2, a3⟩, rfl⟩
theorem tz_Skip {n : Nat} {ds : List DV} (h : Typed T (n + 2) Y.Skip ds) : ∃ j, ds = encSk j := by
  obtain ⟨ps, h, rfl⟩ := h
  replace h := all2_cons h
  obtain ⟨d, q, rfl, h1, h⟩ := h
  obtain ⟨a1, rfl⟩ := tz_int h1
  replace h := all2_cons h
  obtain ⟨d, q, rfl, h1, h⟩ := h
  obtain ⟨a2, rfl⟩ := tz_int h1
  obtain rfl := all2_nil h
  exact ⟨⟨a1, a2⟩, rfl⟩
theorem tz_sVec {n : Nat} {ds : List DV} (h : Typed T (n + 3) Y.s_Vec ds) : ∃ l : List Vec, ds = [dVs l] ∧ l.length ≤ 140737488351232 := by
  obtain ⟨rs, h1, h2, _, h3⟩ := h
  obtain ⟨l, rfl⟩ := map_of (enc := encV) fun r hr => tz_Vec (h3 r hr)
  refine ⟨l, h1, ?_⟩
  have : l.length * 24 ≤ reachBytes := by simpa using h2
  unfold reachBytes at this; omega
theorem tz_Shape {n : Nat} {ds : List DV} (h : Typed T (n + 4) Y.Shape ds) : ∃ j, ds = encSh j ∧ j.points.length ≤ 140737488351232 := by
  obtain ⟨ps, h, rfl⟩ := h
  replace h := all2_cons h
  obtain ⟨d, q, rfl, h1, h⟩ := h
  obtain ⟨a1, rfl⟩ := tz_int h1
  replace h := all2_cons h
  obtain ⟨d, q, rfl, h1, h⟩ := h
  obtain ⟨a2, rfl⟩ := tz_i64 h1
  replace h := all2_cons h
  obtain ⟨d, q, rfl, h1, h⟩ := h
  obtain ⟨a3, rfl, h3⟩ := tz_sVec h1
  obtain rfl := all2_nil h
  exact ⟨⟨a1, a2, a3⟩, rfl, h3⟩
theorem map_of' {α : Type} {enc : α → List DV} {Q : α → Prop} : ∀ {rs : List (List DV)}, (∀ r ∈ rs, ∃ a, r = enc a ∧ Q a) → ∃ xs : List α, rs = xs.map enc ∧ ∀ x ∈ xs, Q x
  | [], _ => ⟨[], rfl, by simp⟩
  | r :: rs, h => by
    obtain ⟨a, ha, qa⟩ := h r (by simp)
    obtain ⟨xs, hx, qx⟩ := map_of' (rs := rs) fun r hr => h r (by simp [hr])
    exact ⟨a :: xs, by rw [ha, hx]; rfl, fun x hx' => by
      rcases List.mem_cons.1 hx' with rfl | hx'
      · exact qa
      · exact qx x hx'⟩
theorem tz_Robot {n : Nat} {ds : List DV} (h : Typed T (n + 5) Y.Robot ds) : ∃ r : Robot, ds = [dJs r.joints, dMs r.masses] ∧ r.joints.length ≤ 140737488351232 ∧ r.masses.length ≤ 140737488351232 := by
  obtain ⟨ps, h, rfl⟩ := h
  replace h := all2_cons h
  obtain ⟨d, q, rfl, h1, h⟩ := h
  obtain ⟨rs, e1, b1, _, g1⟩ := h1
  obtain ⟨js, rfl⟩ := map_of (enc := encJ) fun r hr => tz_Joint (g1 r hr)
  replace h := all2_cons h
  obtain ⟨d2, q, rfl, h2, h⟩ := h
  obtain ⟨rs, e2, b2, _, g2⟩ := h2
  obtain ⟨ms, rfl⟩ := map_of (enc := encM) fun r hr => tz_Mass (g2 r hr)
  obtain rfl := all2_nil h
  refine ⟨⟨js, ms⟩, by rw [e1, e2]; rfl, ?_, ?_⟩
  · have : js.length * 104 ≤ reachBytes := by simpa using b1
    unfold reachBytes at this; simp only; omega
  · have : ms.length * 40 ≤ reachBytes := by simpa using b2
    unfold reachBytes at this; simp only; omega
theorem tyB_Robot {n : Nat} {ds : List DV} (h : Typed T (n + 5) Y.Robot ds) : ∃ r : Robot, ds = [dJs r.joints, dMs r.masses] ∧ (r.joints.length ≤ 140737488351232 ∧ r.masses.length ≤ 140737488351232) := tz_Robot h
theorem tyB_Scene {n : Nat} {ds : List DV} (h : Typed T (n + 6) Y.Scene ds) : ∃ s : Scene, ds = [dJs s.robot.joints, dMs s.robot.masses, dShs s.shapes, dSks s.skips] ∧ small s := by
  obtain ⟨ps, h, rfl⟩ := h
  replace h := all2_cons h
  obtain ⟨d, q, rfl, h1, h⟩ := h
  obtain ⟨r, rfl, r1, r2⟩ := tz_Robot h1
  replace h := all2_cons h
  obtain ⟨d, q, rfl, h1, h⟩ := h
  obtain ⟨rs, e1, b1, _, g1⟩ := h1
  obtain ⟨shs, rfl, gs⟩ := map_of' (enc := encSh) (Q := fun x => x.points.length ≤ 140737488351232) fun r hr => tz_Shape (g1 r hr)
  replace h := all2_cons h
  obtain ⟨d2, q, rfl, h2, h⟩ := h
  obtain ⟨rs, e2, b2, _, g2⟩ := h2
  obtain ⟨sks, rfl⟩ := map_of (enc := encSk) fun r hr => tz_Skip (g2 r hr)
  obtain rfl := all2_nil h
  refine ⟨⟨r, shs, sks⟩, by rw [e1, e2]; rfl, ?_⟩
  have a1 : shs.length * 40 ≤ reachBytes := by simpa using b1
  have a2 : sks.length * 16 ≤ reachBytes := by simpa using b2
  unfold reachBytes at a1 a2
  exact ⟨by simp only; omega, by simp only; omega, by simp only; omega, by simp only; omega, fun x hx => by have := gs x hx; omega⟩
end Go.Proofs.YthdbdokhncaijaaGreat

/- law35: data of the law's types. -/
namespace Go.Proofs.YthdbdokhncaijaaGreat
open Eng
set_option maxRecDepth 10000

theorem tyB_s_Vec {n : Nat} {ds : List DV} (h : Typed T (n + 3) Y.s_Vec ds) : ∃ l : List Vec, ds = [dVs l] ∧ l.length ≤ 4611686018427387904 := by
  obtain ⟨l, h1, h2⟩ := tz_sVec h
  exact ⟨l, h1, by omega⟩
theorem tyB_s_Scene {n : Nat} {ds : List DV} (h : Typed T (n + 7) Y.s_Scene ds) : ∃ l : List Scene, ds = [dScs l] ∧ (l.length ≤ 4611686018427387904 ∧ ∀ s ∈ l, small s) := by
  obtain ⟨rs, h1, h2, _, h3⟩ := h
  obtain ⟨l, rfl, hs⟩ := map_of' (enc := encSc) (Q := small) fun r hr => tyB_Scene (h3 r hr)
  refine ⟨l, h1, ?_, hs⟩
  have : l.length * 96 ≤ reachBytes := by simpa using h2
  unfold reachBytes at this; omega
end Go.Proofs.YthdbdokhncaijaaGreat

/- mk.Config. -/
namespace Go.Proofs.YthdbdokhncaijaaGreat
open Eng
set_option maxRecDepth 10000
attribute [local irreducible] FnOk loopW idxF retX arrF

def cfgV (l : List Int) (q : Nat) (j : Joint) : Int := if nxt l q 6 = 0 then j.lo else if nxt l q 6 = 1 then j.hi else j.lo + nxt l (q + 1) (j.hi - j.lo + 1)
def cfgN (l : List Int) (q : Nat) : Nat := if nxt l q 6 = 0 then q + 1 else if nxt l q 6 = 1 then q + 1 else q + 1 + 1
def cfgP (l : List Int) : Nat → Nat
  | 0 => 0
  | k + 1 => cfgN l (cfgP l k)
def cfgTo (js : List Joint) (l : List Int) : Nat → List Int
  | 0 => []
  | k + 1 => cfgTo js l k ++ (js[k]?.toList.map (cfgV l (cfgP l k)))
def cfg (r : Robot) (l : List Int) : List Int := cfgTo r.joints l r.joints.length
theorem cfgTo_len (js : List Joint) (l : List Int) : ∀ k, k ≤ js.length → (cfgTo js l k).length = k
  | 0, _ => rfl
  | k + 1, h => by
    rw [cfgTo, List.length_append, cfgTo_len js l k (by omega), List.getElem?_eq_getElem (by omega)]; rfl
theorem cfg_len (r : Robot) (l : List Int) : (cfg r l).length = r.joints.length := cfgTo_len _ _ _ (Nat.le_refl _)
theorem limits {r : Robot} (h : checkRobot r = 0) {k : Nat} {j : Joint} (hj : r.joints[k]? = some j) : j.lo ≤ j.hi ∧ -4194304 ≤ j.lo ∧ j.hi ≤ 4194304 := by
  obtain ⟨_, ⟨_, _⟩, _, _, ⟨h1, h2, h3⟩, _⟩ := (robot_facts h).2.1 k j hj
  have := reach_cases j.kind
  omega
end Go.Proofs.YthdbdokhncaijaaGreat

/- law35: Concat, TeamApart. -/
namespace Go.Proofs.YthdbdokhncaijaaGreat
open Eng
set_option maxRecDepth 10000
attribute [local irreducible] FnOk loopW idxF retX arrF

def encL (l : List Int) : List DV := [.lst 1 (l.map encI)]
abbrev dLs (l : List (List Int)) : DV := .lst 1 (l.map encL)
theorem flat_map (l : List (List Int)) (x : List Int) : (l ++ [x]).flatten.map encI = l.flatten.map encI ++ x.map encI := by
  rw [List.flatten_append, List.map_append]; simp
/- the parts of a concatenation -/
theorem flat_part {α : Type} : ∀ (ls : List (List α)) (k : Nat) (x : List α), ls[k]? = some x → (ls.flatten.take ((ls.take (k + 1)).map List.length).sum).drop ((ls.take k).map List.length).sum = x
  | [], k, x, h => by simp at h
  | y :: ls, 0, x, h => by
    simp at h; subst h; simp
  | y :: ls, k + 1, x, h => by
    have := flat_part ls k x (by simpa using h)
    show ((y ++ ls.flatten).take ((y :: ls.take (k + 1)).map List.length).sum).drop ((y :: ls.take k).map List.length).sum = x
    rw [List.map_cons, List.map_cons, List.sum_cons, List.sum_cons, List.take_length_add_append, List.drop_length_add_append]
    exact this
theorem parts_of {x : List Scene} {ls : List (List Int)} (hl : ls.length = x.length) (he : ∀ (k : Nat) s c, x[k]? = some s → ls[k]? = some c → c.length = s.robot.joints.length) : ∀ k, k ≤ x.length → ((ls.take k).map List.length).sum = cnt x k
  | 0, _ => rfl
  | k + 1, h => by
    obtain ⟨s, hs⟩ : ∃ s, x[k]? = some s := ⟨_, List.getElem?_eq_getElem (by omega)⟩
    obtain ⟨c, hc⟩ : ∃ c, ls[k]? = some c := ⟨_, List.getElem?_eq_getElem (by omega)⟩
    rw [cnt_succ hs, map_take1 _ hc, List.sum_append, parts_of hl he k (by omega)]
    have := he k s c hs hc
    simp; omega
theorem flat_len (ls : List (List Int)) : ls.flatten.length = ((ls.take ls.length).map List.length).sum := by
  rw [List.take_length, List.length_flatten]
def cfgsTo (x : List Scene) (o : List Int) (k : Nat) : List (List Int) := (List.range k).map fun i => cfg (x.getD i emptyS).robot ((i : Int) :: o)
end Go.Proofs.YthdbdokhncaijaaGreat

/- The bulk of arguments, as the second form of the statements bounds it. -/
namespace Go.Proofs.YthdbdokhncaijaaGreat
open Eng

theorem upto_all {H : Type} : ∀ ds : List (DataW H), Rows.uptoBulkAll ds = (ds.map Rows.uptoBulk).sum
  | [] => by simp only [Rows.uptoBulkAll]; rfl
  | d :: ds => by simp only [Rows.uptoBulkAll, List.map_cons, List.sum_cons]; rw [upto_all ds]
theorem bulkRows {H : Type} : BulkOk (Rows.uptoBulk (H := H)) where
  str := fun b => by simp only [Rows.uptoBulk]; exact Nat.le_refl _
  lit := fun l => by cases l <;> simp only [Rows.uptoBulk] <;> omega
  nil := by simp only [Rows.uptoBulk]; exact Nat.le_refl _
  slice := fun es sp => by simp only [Rows.uptoBulk, upto_all]; omega
  agg := fun ps => by simp only [Rows.uptoBulk, upto_all]; omega
theorem small_sum {H : Type} {ds gs : List (DataW H)} (h : Rows.uptoSmall H (ds ++ gs) = true) : (ds.map Rows.uptoBulk).sum ≤ 1048576 := by
  have := of_decide_eq_true h
  rw [upto_all, List.map_append, List.sum_append] at this
  omega
end Go.Proofs.YthdbdokhncaijaaGreat

/- law35: ref.Concat, ref.Box, TeamParts. -/
namespace Go.Proofs.YthdbdokhncaijaaGreat
open Eng
set_option maxRecDepth 10000
attribute [local irreducible] FnOk loopW idxF retX arrF

theorem tyB_s_int64 {n : Nat} {ds : List DV} (h : Typed T (n + 2) Y.s_int64 ds) : ∃ xs : List Int, ds = [.lst 1 (xs.map encI)] ∧ xs.length ≤ 17592186044416 := by
  obtain ⟨rs, h1, h2, _, h3⟩ := h
  obtain ⟨l, rfl⟩ := map_of (enc := encI) fun r hr => tz_i64 (h3 r hr)
  refine ⟨l, h1, ?_⟩
  have : l.length * 8 ≤ reachBytes := by simpa using h2
  unfold reachBytes at this; omega
theorem tz_Ival {n : Nat} {ds : List DV} (h : Typed T (n + 2) Y.Interval ds) : ∃ v, ds = encIv v := by
  obtain ⟨ps, h1, h2⟩ := h
  obtain ⟨a, r, rfl, ha, h1⟩ := all2_cons h1
  obtain ⟨b, r, rfl, hb, h1⟩ := all2_cons h1
  obtain rfl := all2_nil h1
  obtain ⟨a, rfl⟩ := tz_i64 ha
  obtain ⟨b, rfl⟩ := tz_i64 hb
  exact ⟨⟨a, b⟩, h2⟩
theorem tyB_s_Interval {n : Nat} {ds : List DV} (h : Typed T (n + 3) Y.s_Interval ds) : ∃ xs : List Ival, ds = [dIvs xs] ∧ xs.length ≤ 17592186044416 := by
  obtain ⟨rs, h1, h2, _, h3⟩ := h
  obtain ⟨l, rfl⟩ := map_of (enc := encIv) fun r hr => tz_Ival (h3 r hr)
  refine ⟨l, h1, ?_⟩
  have : l.length * 16 ≤ reachBytes := by simpa using h2
  unfold reachBytes at this; omega
theorem bulk_encI : ∀ x : List Int, bulkRs (x.map encI) = x.length
  | [] => rfl
  | a :: x => by rw [List.map_cons, bulkRs, bulk_encI x]; simp [encI, bulkDs, bulkD]; omega
theorem bulk_flat : ∀ l : List (List Int), l.flatten.length ≤ bulkRs (l.map encL)
  | [] => Nat.le_refl _
  | x :: l => by
    have := bulk_flat l
    rw [List.map_cons, bulkRs, List.flatten_cons, List.length_append]
    have e : bulkDs (encL x) = x.length + 1 := by rw [encL, bulkDs, bulkDs, bulkD, bulk_encI]
    omega
def smI (x : Int) : Bool := decide (-2147483648 ≤ x) && decide (x ≤ 2147483648)
def boxOf (q : List Int) : List Ival := if q.all smI = true then q.map fun x => ⟨x, x⟩ else []
theorem boxOf_len (q : List Int) : (boxOf q).length ≤ q.length := by
  unfold boxOf; split <;> simp
theorem partOf_len {α : Type} (l : List Scene) (xs : List α) (k : Int) : (partOf l xs k).1.length ≤ xs.length := by
  unfold partOf
  split
  · simp
  · split
    · simp
    · simp only [List.length_drop, List.length_take]; omega
def cfgsCat (x : List Scene) (o : List Int) (k : Nat) : List Int := ((List.range k).map fun i => cfg (x.getD i emptyS).robot o).flatten
theorem cfgsCat_succ {x : List Scene} {o : List Int} {k : Nat} {s : Scene} (h : x[k]? = some s) : cfgsCat x o (k + 1) = cfgsCat x o k ++ cfg s.robot o := by
  rw [cfgsCat, List.range_succ, List.map_append, List.flatten_append, List.map_singleton, getD_at h]; simp [cfgsCat]
end Go.Proofs.YthdbdokhncaijaaGreat

/- Pairs of joined scenes. -/
namespace Go.Proofs.YthdbdokhncaijaaGreat
open Eng
set_option maxRecDepth 10000

/-- shapes of the first scenes -/
def nSh (l : List Scene) (k : Nat) : Nat := ((l.take k).map fun s => s.shapes.length).sum
theorem nSh_succ {l : List Scene} {k : Nat} {s : Scene} (h : l[k]? = some s) : nSh l (k + 1) = nSh l k + s.shapes.length := by
  rw [nSh, map_take1 _ h, List.sum_append]; simp [nSh]
theorem joinTo_succ {l : List Scene} (bs : List Vec) {k : Nat} {s : Scene} (h : l[k]? = some s) : joinTo l bs (k + 1) = addScene (joinTo l bs k) (letter k) (bs.getD k ⟨0, 0, 0⟩) s := by
  rw [joinTo, getD_at h]
theorem join_len {l : List Scene} (bs : List Vec) : ∀ k, k ≤ l.length → (joinTo l bs k).robot.joints.length = cnt l k ∧ (joinTo l bs k).shapes.length = nSh l k
  | 0, _ => ⟨rfl, rfl⟩
  | k + 1, h => by
    obtain ⟨s, hs⟩ : ∃ s, l[k]? = some s := ⟨_, List.getElem?_eq_getElem (by omega)⟩
    obtain ⟨h1, h2⟩ := join_len (l := l) bs k (by omega)
    rw [joinTo_succ bs hs, cnt_succ hs, nSh_succ hs]
    simp only [addScene, List.length_append, List.length_map]
    omega
theorem join_pre {l : List Scene} (bs : List Vec) (k : Nat) : ∀ d, k + d ≤ l.length → (∃ r, (joinTo l bs (k + d)).robot.joints = (joinTo l bs k).robot.joints ++ r) ∧ (∃ r, (joinTo l bs (k + d)).shapes = (joinTo l bs k).shapes ++ r)
  | 0, _ => ⟨⟨[], by simp⟩, ⟨[], by simp⟩⟩
  | d + 1, h => by
    obtain ⟨⟨r1, h1⟩, ⟨r2, h2⟩⟩ := join_pre (l := l) bs k d (by omega)
    obtain ⟨s, hs⟩ : ∃ s, l[k + d]? = some s := ⟨_, List.getElem?_eq_getElem (by omega)⟩
    rw [← Nat.add_assoc, joinTo_succ bs hs]
    simp only [addScene]
    exact ⟨⟨_, by rw [h1, List.append_assoc]⟩, ⟨_, by rw [h2, List.append_assoc]⟩⟩
theorem join_at {l : List Scene} (bs : List Vec) {k : Nat} {s : Scene} (hs : l[k]? = some s) :
    (∀ (i : Nat) j, s.robot.joints[i]? = some j → (joinTo l bs l.length).robot.joints[cnt l k + i]? = some (joinJ (letter k) (cnt l k) (bs.getD k ⟨0, 0, 0⟩) j)) ∧
    (∀ (i : Nat) x, s.shapes[i]? = some x → (joinTo l bs l.length).shapes[nSh l k + i]? = some (joinSh (cnt l k) (bs.getD k ⟨0, 0, 0⟩) x)) := by
  have hk : k < l.length := (List.getElem?_eq_some_iff.1 hs).1
  obtain ⟨e1, e2⟩ := join_len (l := l) bs k (by omega)
  obtain ⟨⟨r1, h1⟩, ⟨r2, h2⟩⟩ := join_pre (l := l) bs (k + 1) (l.length - (k + 1)) (by omega)
  rw [show k + 1 + (l.length - (k + 1)) = l.length by omega] at h1 h2
  rw [joinTo_succ bs hs] at h1 h2
  simp only [addScene] at h1 h2
  refine ⟨fun i j hj => ?_, fun i x hx => ?_⟩
  · have hi : i < s.robot.joints.length := (List.getElem?_eq_some_iff.1 hj).1
    rw [h1, List.append_assoc, List.getElem?_append_right (by omega), e1, Nat.add_sub_cancel_left, List.getElem?_append_left (by rw [List.length_map]; exact hi), List.getElem?_map, hj]
    rfl
  · have hi : i < s.shapes.length := (List.getElem?_eq_some_iff.1 hx).1
    rw [h2, List.append_assoc, List.getElem?_append_right (by omega), e2, Nat.add_sub_cancel_left, List.getElem?_append_left (by rw [List.length_map]; exact hi), List.getElem?_map, hx, e1]
    rfl
theorem join_skips {l : List Scene} (bs : List Vec) : ∀ m, m ≤ l.length → ∀ x, x ∈ (joinTo l bs m).skips ↔ ∃ k s z, k < m ∧ l[k]? = some s ∧ z ∈ s.skips ∧ x = joinSk (cnt l k) z
  | 0, _, x => by
    constructor
    · intro h; cases h
    · rintro ⟨k, s, z, h, _⟩; omega
  | m + 1, h, x => by
    obtain ⟨s, hs⟩ : ∃ s, l[m]? = some s := ⟨_, List.getElem?_eq_getElem (by omega)⟩
    have ih := join_skips (l := l) bs m (by omega) x
    obtain ⟨e1, _⟩ := join_len (l := l) bs m (by omega)
    rw [joinTo_succ bs hs]
    simp only [addScene, List.mem_append, List.mem_map, ih, e1]
    constructor
    · rintro (⟨k, t, z, h1, h2, h3, h4⟩ | ⟨z, h1, h2⟩)
      · exact ⟨k, t, z, by omega, h2, h3, h4⟩
      · exact ⟨m, s, z, by omega, hs, h1, h2.symm⟩
    · rintro ⟨k, t, z, h1, h2, h3, h4⟩
      rcases Nat.lt_or_ge k m with hk | hk
      · exact .inl ⟨k, t, z, hk, h2, h3, h4⟩
      · have : k = m := by omega
        subst this
        rw [hs] at h2; injection h2 with h2; subst h2
        exact .inr ⟨z, h3, h4.symm⟩
theorem raise_inj {p a b : Int} (hp : 0 ≤ p) (ha : -1 ≤ a) (hb : -1 ≤ b) (h : raise p a = raise p b) : a = b := by
  unfold raise at h; split at h <;> split at h <;> omega
theorem car_bd {js : List Joint} (hd : downOk js) : ∀ a : Int, -1 ≤ a → a < js.length → -1 ≤ car js a ∧ car js a ≤ a := by
  refine link_ind hd ?_ ?_
  · rw [car_world]; decide
  · intro k j hj ih
    obtain ⟨d1, d2⟩ := hd k j hj
    rw [car_step hd hj]
    split
    · omega
    · omega
structure Ok (l : List Scene) (bs : List Vec) : Prop where
  each : ∀ s ∈ l, checkScene s = 0
  all : checkScene (joinTo l bs l.length) = 0
theorem join_car {l : List Scene} {bs : List Vec} (ho : Ok l bs) {k : Nat} {s : Scene} (hs : l[k]? = some s) : ∀ a : Int, -1 ≤ a → a < s.robot.joints.length → car (joinTo l bs l.length).robot.joints (raise (cnt l k) a) = raise (cnt l k) (car s.robot.joints a) := by
  have hc := ho.each s (List.mem_of_getElem? hs)
  obtain ⟨_, _, hd⟩ := robot_good (scene_good hc).1
  obtain ⟨_, _, hD⟩ := robot_good (scene_good ho.all).1
  obtain ⟨hat, _⟩ := join_at bs hs
  refine link_ind hd ?_ ?_
  · have e : raise (cnt l k : Int) (-1) = -1 := rfl
    rw [e, car_world, car_world, e]
  · intro i j hj ih
    have hJ := hat i j hj
    have e : raise (cnt l k : Int) (i : Int) = ((cnt l k + i : Nat) : Int) := by rw [raise, if_neg (by omega)]; omega
    rw [e, car_step hD hJ, car_step hd hj]
    have e1 : (joinJ (letter k) (cnt l k) (bs.getD k ⟨0, 0, 0⟩) j).lo = j.lo := rfl
    have e2 : (joinJ (letter k) (cnt l k) (bs.getD k ⟨0, 0, 0⟩) j).hi = j.hi := rfl
    have e3 : (joinJ (letter k) (cnt l k) (bs.getD k ⟨0, 0, 0⟩) j).parent = raise (cnt l k) j.parent := rfl
    rw [e1, e2, e3]
    split
    · exact ih
    · exact e.symm
theorem cnt_mono (l : List Scene) {a b : Nat} (h : a ≤ b) : cnt l a ≤ cnt l b := by
  have := cnt_le l a (b - a); rwa [show a + (b - a) = b by omega] at this
theorem raise_cases {p : Nat} {a : Int} {n : Nat} (h1 : -1 ≤ a) (h2 : a < n) : (a = -1 ∧ raise p a = -1) ∨ ((p : Int) ≤ raise p a ∧ raise p a < p + n ∧ 0 ≤ a) := by
  unfold raise; split <;> omega
theorem isSkip_iff (a b : Int) (k : Skip) : isSkip a b k = true ↔ (k.a = a ∧ k.b = b) ∨ (k.a = b ∧ k.b = a) := by simp [isSkip]
theorem joinSk_a (p : Nat) (z : Skip) : (joinSk p z).a = raise p z.a := rfl
theorem joinSk_b (p : Nat) (z : Skip) : (joinSk p z).b = raise p z.b := rfl
theorem join_skipped {l : List Scene} {bs : List Vec} (ho : Ok l bs) {k : Nat} {s : Scene} (hs : l[k]? = some s) {a b : Int} (a1 : -1 ≤ a) (a2 : a < s.robot.joints.length) (b1 : -1 ≤ b) (b2 : b < s.robot.joints.length) (hne : a ≠ b) :
    skipped (joinTo l bs l.length) (raise (cnt l k) a) (raise (cnt l k) b) = skipped s a b := by
  have hk : k < l.length := (List.getElem?_eq_some_iff.1 hs).1
  have hp : (0 : Int) ≤ cnt l k := by omega
  rw [Bool.eq_iff_iff]
  unfold skipped
  rw [List.any_eq_true, List.any_eq_true]
  have links : ∀ {t : Scene} {i : Nat}, l[i]? = some t → ∀ z ∈ t.skips, (-1 ≤ z.a ∧ z.a < t.robot.joints.length) ∧ (-1 ≤ z.b ∧ z.b < t.robot.joints.length) := fun {t i} ht z hz => by
    obtain ⟨_, _, _, _, g⟩ := scene_facts (ho.each t (List.mem_of_getElem? ht))
    exact ⟨link_bd (g z hz).1, link_bd (g z hz).2⟩
  constructor
  · rintro ⟨x, hx, hi⟩
    obtain ⟨k', t, z, h1, h2, h3, rfl⟩ := (join_skips bs l.length (Nat.le_refl _) x).1 hx
    obtain ⟨⟨za1, za2⟩, ⟨zb1, zb2⟩⟩ := links h2 z h3
    rw [isSkip_iff, joinSk_a, joinSk_b] at hi
    by_cases hkk : k' = k
    · subst hkk
      rw [hs] at h2; injection h2 with h2; subst h2
      refine ⟨z, h3, ?_⟩
      rw [isSkip_iff]
      rcases hi with ⟨i1, i2⟩ | ⟨i1, i2⟩
      · exact .inl ⟨raise_inj hp za1 a1 i1, raise_inj hp zb1 b1 i2⟩
      · exact .inr ⟨raise_inj hp za1 b1 i1, raise_inj hp zb1 a1 i2⟩
    · exfalso
      have c1 := cnt_succ hs
      have c2 := cnt_succ h2
      have apart : cnt l k + s.robot.joints.length ≤ cnt l k' ∨ cnt l k' + t.robot.joints.length ≤ cnt l k := by
        rcases Nat.lt_or_ge k k' with h | h
        · have := cnt_mono l (show k + 1 ≤ k' by omega); omega
        · have := cnt_mono l (show k' + 1 ≤ k by omega); omega
      have ra := raise_cases (p := cnt l k) a1 a2
      have rb := raise_cases (p := cnt l k) b1 b2
      have za := raise_cases (p := cnt l k') za1 za2
      have zb := raise_cases (p := cnt l k') zb1 zb2
      omega
  · rintro ⟨z, hz, hi⟩
    refine ⟨joinSk (cnt l k) z, (join_skips bs l.length (Nat.le_refl _) _).2 ⟨k, s, z, hk, hs, hz, rfl⟩, ?_⟩
    rw [isSkip_iff] at hi
    rw [isSkip_iff, joinSk_a, joinSk_b]
    rcases hi with ⟨i1, i2⟩ | ⟨i1, i2⟩
    · exact .inl ⟨by rw [i1], by rw [i2]⟩
    · exact .inr ⟨by rw [i1], by rw [i2]⟩
theorem join_want {l : List Scene} {bs : List Vec} (ho : Ok l bs) {k : Nat} {s : Scene} (hs : l[k]? = some s) {i j : Nat} (hi : i < s.shapes.length) (hj : j < s.shapes.length) : wantAt (joinTo l bs l.length) (nSh l k + i) (nSh l k + j) = wantAt s i j := by
  have hc := ho.each s (List.mem_of_getElem? hs)
  obtain ⟨g1, _, g3, _⟩ := scene_good hc
  obtain ⟨_, _, hd⟩ := robot_good g1
  obtain ⟨_, hat⟩ := join_at bs hs
  obtain ⟨x, hx⟩ : ∃ x, s.shapes[i]? = some x := ⟨_, List.getElem?_eq_getElem hi⟩
  obtain ⟨y, hy⟩ : ∃ y, s.shapes[j]? = some y := ⟨_, List.getElem?_eq_getElem hj⟩
  obtain ⟨x1, x2⟩ := g3 x (List.mem_of_getElem? hx)
  obtain ⟨y1, y2⟩ := g3 y (List.mem_of_getElem? hy)
  have e : decide (nSh l k + i < nSh l k + j) = decide (i < j) := by rw [decide_eq_decide]; omega
  rw [wantAt, wantAt, hat i x hx, hat j y hy, hx, hy, e]
  simp only
  congr 1
  unfold wanted
  rw [carr_car, carr_car, carr_car, carr_car]
  have ex : (joinSh (cnt l k) (bs.getD k ⟨0, 0, 0⟩) x).link = raise (cnt l k) x.link := rfl
  have ey : (joinSh (cnt l k) (bs.getD k ⟨0, 0, 0⟩) y).link = raise (cnt l k) y.link := rfl
  rw [ex, ey, join_car ho hs _ x1 x2, join_car ho hs _ y1 y2]
  by_cases hcar : car s.robot.joints x.link = car s.robot.joints y.link
  · rw [hcar]; simp
  · have b1 := car_bd hd _ x1 x2
    have b2 := car_bd hd _ y1 y2
    have hne : raise (cnt l k) (car s.robot.joints x.link) ≠ raise (cnt l k) (car s.robot.joints y.link) := fun h => hcar (raise_inj (by omega) b1.1 b2.1 h)
    have hl : x.link ≠ y.link := fun h => hcar (by rw [h])
    rw [join_skipped ho hs x1 x2 y1 y2 hl, decide_eq_false hcar, decide_eq_false hne]
/- pairs -/
theorem mem_row {s : Scene} {i m : Nat} {q : Pair} : q ∈ pairRow s i m ↔ ∃ j, j < m ∧ wantAt s i j = true ∧ q = ⟨i, j⟩ := by
  unfold pairRow
  simp only [List.mem_map, List.mem_filter, List.mem_range]
  constructor
  · rintro ⟨j, ⟨h1, h2⟩, rfl⟩; exact ⟨j, h1, h2, rfl⟩
  · rintro ⟨j, h1, h2, rfl⟩; exact ⟨j, ⟨h1, h2⟩, rfl⟩
theorem mem_to {s : Scene} : ∀ {m : Nat} {q : Pair}, q ∈ pairsTo s m ↔ ∃ i j, i < m ∧ j < s.shapes.length ∧ wantAt s i j = true ∧ q = ⟨i, j⟩ := by
  intro m q
  unfold pairsTo
  simp only [List.mem_flatMap, List.mem_range, mem_row]
  constructor
  · rintro ⟨i, h1, j, h2, h3, h4⟩; exact ⟨i, j, h1, h2, h3, h4⟩
  · rintro ⟨i, j, h1, h2, h3, h4⟩; exact ⟨i, h1, j, h2, h3, h4⟩
theorem row_nodup (s : Scene) (i : Nat) : ∀ m, (pairRow s i m).Nodup
  | 0 => by simp [pairRow]
  | m + 1 => by
    rw [pairRow_succ, List.nodup_append]
    refine ⟨row_nodup s i m, by split <;> simp, fun a ha b hb => ?_⟩
    split at hb
    · simp only [List.mem_singleton] at hb
      subst hb
      obtain ⟨j, h1, _, rfl⟩ := mem_row.1 ha
      intro e; injection e with e1 e2; omega
    · cases hb
theorem to_nodup (s : Scene) : ∀ m, (pairsTo s m).Nodup
  | 0 => by simp [pairsTo]
  | m + 1 => by
    rw [pairsTo_succ, List.nodup_append]
    refine ⟨to_nodup s m, row_nodup s m _, fun a ha b hb => ?_⟩
    obtain ⟨i, j, h1, _, _, rfl⟩ := mem_to.1 ha
    obtain ⟨j', _, _, rfl⟩ := mem_row.1 hb
    intro e; injection e with e1 e2; omega
theorem pairs_nodup (s : Scene) : (pairs s).Nodup := by
  unfold pairs; split
  · exact to_nodup s _
  · simp
theorem pairs_mem {s : Scene} {q : Pair} (h : q ∈ pairs s) : ∃ i j : Nat, i < s.shapes.length ∧ j < s.shapes.length ∧ wantAt s i j = true ∧ q = ⟨i, j⟩ := by
  unfold pairs at h; split at h
  · exact mem_to.1 h
  · cases h
theorem pairs_few (s : Scene) : (pairs s).length ≤ 1000 := by
  unfold pairs; split
  · rename_i h
    obtain ⟨_, g2, _⟩ := scene_good h
    have h1 := pairsTo_len s s.shapes.length
    have := Nat.mul_le_mul g2 g2
    omega
  · simp
def up (n : Nat) (q : Pair) : Pair := ⟨q.a + n, q.b + n⟩
theorem join_pairs {l : List Scene} {bs : List Vec} (ho : Ok l bs) {k : Nat} {s : Scene} (hs : l[k]? = some s) {q : Pair} (hq : q ∈ pairs s) : up (nSh l k) q ∈ pairs (joinTo l bs l.length) := by
  obtain ⟨i, j, h1, h2, h3, rfl⟩ := pairs_mem hq
  rw [pairs, if_pos ho.all]
  obtain ⟨_, hat⟩ := join_at bs hs
  have b1 := (List.getElem?_eq_some_iff.1 (hat i _ (List.getElem?_eq_getElem h1))).1
  have b2 := (List.getElem?_eq_some_iff.1 (hat j _ (List.getElem?_eq_getElem h2))).1
  refine mem_to.2 ⟨nSh l k + i, nSh l k + j, b1, b2, by rw [join_want ho hs h1 h2]; exact h3, ?_⟩
  simp only [up, Pair.mk.injEq]; omega
/- the place of a pair -/
def idxP (q : Pair) : List Pair → Nat → Int
  | [], _ => -1
  | x :: l, i => if x = q then i else idxP q l (i + 1)
theorem idxP_mem {q : Pair} : ∀ {l : List Pair} {i : Nat}, q ∈ l → ∃ j : Nat, l[j]? = some q ∧ idxP q l i = ((i + j : Nat) : Int)
  | x :: l, i, h => by
    rw [idxP]
    by_cases e : x = q
    · exact ⟨0, by simp [e], by rw [if_pos e]; simp⟩
    · rcases List.mem_cons.1 h with h | h
      · exact absurd h.symm e
      · obtain ⟨j, h1, h2⟩ := idxP_mem (i := i + 1) h
        exact ⟨j + 1, by simpa using h1, by rw [if_neg e, h2]; omega⟩
def matchTo (q : Pair) (l : List Pair) : Nat → List Int
  | 0 => []
  | k + 1 => match l[k]? with
    | some x => if x = q then matchTo q l k ++ [(k : Int)] else matchTo q l k
    | none => matchTo q l k
theorem matchTo_len (q : Pair) (l : List Pair) : ∀ k, (matchTo q l k).length ≤ k
  | 0 => Nat.le_refl _
  | k + 1 => by
    have := matchTo_len q l k
    rw [matchTo]
    split
    · split
      · rw [List.length_append, List.length_singleton]; omega
      · omega
    · omega
theorem matchTo_yes {q : Pair} {l : List Pair} {k : Nat} (h : l[k]? = some q) : matchTo q l (k + 1) = matchTo q l k ++ [(k : Int)] := by
  rw [matchTo, h]; simp
theorem matchTo_no {q x : Pair} {l : List Pair} {k : Nat} (h : l[k]? = some x) (e : ¬ x = q) : matchTo q l (k + 1) = matchTo q l k := by
  rw [matchTo, h]; simp [e]
theorem match_once {q : Pair} {l : List Pair} (hn : l.Nodup) {j : Nat} (hj : l[j]? = some q) : ∀ k, k ≤ l.length → matchTo q l k = if j < k then [(j : Int)] else []
  | 0, _ => rfl
  | k + 1, h => by
    obtain ⟨x, hx⟩ : ∃ x, l[k]? = some x := ⟨_, List.getElem?_eq_getElem (by omega)⟩
    have ih := match_once hn hj k (by omega)
    by_cases e : x = q
    · subst e
      have hjk : j = k := by
        have hjl := (List.getElem?_eq_some_iff.1 hj)
        have hkl := (List.getElem?_eq_some_iff.1 hx)
        exact (List.getElem_inj hn).1 (hjl.2.trans hkl.2.symm)
      subst hjk
      rw [matchTo_yes hx, ih, if_neg (by omega), if_pos (by omega)]; rfl
    · rw [matchTo_no hx e, ih]
      have hjk : j ≠ k := by rintro rfl; rw [hj] at hx; injection hx with hx; exact e hx.symm
      by_cases hlt : j < k
      · rw [if_pos hlt, if_pos (by omega)]
      · rw [if_neg hlt, if_neg (by omega)]
theorem match_all {q : Pair} {l : List Pair} (hn : l.Nodup) (hq : q ∈ l) : matchTo q l l.length = [idxP q l 0] := by
  obtain ⟨j, h1, h2⟩ := idxP_mem (i := 0) hq
  rw [match_once hn h1 l.length (Nat.le_refl _), if_pos (List.getElem?_eq_some_iff.1 h1).1, h2, Nat.zero_add]
/-- the numbers in the joined scene of the pairs of scene k -/
def innerN (l : List Scene) (bs : List Vec) (k : Nat) : List Int := (pairs (l.getD k emptyS)).map fun q => idxP (up (nSh l k) q) (pairs (joinTo l bs l.length)) 0
def innerOf (l : List Scene) (bs : List Vec) (k : Int) : List Int × Bool :=
  if (joinOf l bs).2 ≠ 0 ∨ k < 0 ∨ (l.length : Int) ≤ k then ([], false) else (innerN l bs k.toNat, true)
theorem joinOf_ok {l : List Scene} {bs : List Vec} (h : (joinOf l bs).2 = 0) : Ok l bs ∧ (joinOf l bs).1 = joinTo l bs l.length ∧ 1 ≤ l.length ∧ l.length ≤ 4 ∧ bs.length = l.length := by
  unfold joinOf at h ⊢
  split at h
  · exact absurd h (by show ¬ (3501 : Int) = 0; decide)
  rename_i c1; rw [if_neg c1]
  split at h
  · rename_i c2; exact absurd h c2
  rename_i c2; rw [if_neg c2]
  split at h
  · exact absurd h (by show ¬ (3502 : Int) = 0; decide)
  rename_i c3; rw [if_neg c3]
  exact ⟨⟨firstBad_all (by simpa using c2), by simpa using c3⟩, rfl, by omega, by omega, by omega⟩
theorem inner_at {l : List Scene} {bs : List Vec} (ho : Ok l bs) {k : Nat} {s : Scene} (hs : l[k]? = some s) {i : Nat} {q : Pair} (hq : (pairs s)[i]? = some q) : ∃ j : Nat, (innerN l bs k)[i]? = some (j : Int) ∧ (pairs (joinTo l bs l.length))[j]? = some (up (nSh l k) q) := by
  obtain ⟨j, h1, h2⟩ := idxP_mem (i := 0) (join_pairs ho hs (List.mem_of_getElem? hq))
  refine ⟨j, ?_, h1⟩
  rw [innerN, getD_at hs, List.getElem?_map, hq]
  simp only [Option.map_some]
  rw [h2, Nat.zero_add]
theorem nSh_bd {l : List Scene} (h : ∀ s ∈ l, checkScene s = 0) : ∀ k, k ≤ l.length → nSh l k ≤ 24 * k
  | 0, _ => Nat.le_refl _
  | k + 1, hk => by
    obtain ⟨s, hs⟩ : ∃ s, l[k]? = some s := ⟨_, List.getElem?_eq_getElem (by omega)⟩
    have := nSh_bd h k (by omega)
    obtain ⟨_, g2, _⟩ := scene_good (h s (List.mem_of_getElem? hs))
    rw [nSh_succ hs]; omega
theorem up_bd {s : Scene} (h : checkScene s = 0) {q : Pair} (hq : q ∈ pairs s) : 0 ≤ q.a ∧ q.a < 24 ∧ 0 ≤ q.b ∧ q.b < 24 := by
  obtain ⟨i, j, h1, h2, _, rfl⟩ := pairs_mem hq
  obtain ⟨_, g2, _⟩ := scene_good h
  simp only; omega
end Go.Proofs.YthdbdokhncaijaaGreat

/- Interval kinematics of the reference, in plain Lean: numbers, intervals, vectors and matrices of intervals, poses. -/
namespace Go.Proofs.YthdbdokhncaijaaGreat
open Eng
set_option maxRecDepth 10000

def clampM (a : Int) : Int := max (-2147483648) (min a 2147483648)
def flr (a b : Int) : Int := a / b
def cel (a b : Int) : Int := -(-a / b)
def i0 : Ival := ⟨0, 0⟩
def okI (v : Ival) : Bool := decide (-2147483648 ≤ v.lo) && decide (v.lo ≤ v.hi) && decide (v.hi ≤ 2147483648)
def limI (lo hi : Int) : Ival := ⟨clampM lo, clampM hi⟩
def ofI (x : Int) : Ival := limI x x
def addI (a b : Ival) : Ival := if okI a = true ∧ okI b = true then limI (a.lo + b.lo) (a.hi + b.hi) else i0
def mulI (a b : Ival) : Ival := if okI a = true ∧ okI b = true then
    limI (flr (min (min (min (a.lo * b.lo) (a.lo * b.hi)) (a.hi * b.lo)) (a.hi * b.hi)) 65536) (cel (max (max (max (a.lo * b.lo) (a.lo * b.hi)) (a.hi * b.lo)) (a.hi * b.hi)) 65536)
  else i0
def negI (a : Ival) : Ival := if okI a = true then ⟨-a.hi, -a.lo⟩ else i0
def hullI (a b : Ival) : Ival := if okI a = true ∧ okI b = true then ⟨min a.lo b.lo, max a.hi b.hi⟩ else i0
structure IV where
  x : Ival
  y : Ival
  z : Ival
deriving DecidableEq
structure IM where
  a : IV
  b : IV
  c : IV
structure Ps where
  r : IM
  t : IV
def v0 : IV := ⟨i0, i0, i0⟩
def one1 : Ival := ⟨65536, 65536⟩
def unitM : IM := ⟨⟨one1, i0, i0⟩, ⟨i0, one1, i0⟩, ⟨i0, i0, one1⟩⟩
def ptV (v : Vec) : IV := ⟨ofI v.x, ofI v.y, ofI v.z⟩
def sumV (a b : IV) : IV := ⟨addI a.x b.x, addI a.y b.y, addI a.z b.z⟩
def dotR (r v : IV) : Ival := addI (addI (mulI r.x v.x) (mulI r.y v.y)) (mulI r.z v.z)
def appM (m : IM) (v : IV) : IV := ⟨dotR m.a v, dotR m.b v, dotR m.c v⟩
def clO (v : Ival) : Ival := ⟨max (-65536) (min v.lo 65536), max (-65536) (min v.hi 65536)⟩
def rowM (r : IV) (m : IM) : IV := ⟨clO (dotR r ⟨m.a.x, m.b.x, m.c.x⟩), clO (dotR r ⟨m.a.y, m.b.y, m.c.y⟩), clO (dotR r ⟨m.a.z, m.b.z, m.c.z⟩)⟩
def comM (a b : IM) : IM := ⟨rowM a.a b, rowM a.b b, rowM a.c b⟩
def comP (a b : Ps) : Ps := ⟨comM a.r b.r, sumV a.t (appM a.r b.t)⟩
def appP (p : Ps) (v : IV) : IV := sumV p.t (appM p.r v)
def restP : Ps := ⟨unitM, v0⟩
def shiftP (v : IV) : Ps := ⟨unitM, v⟩

/- sine and cosine -/
def pwA (x : Int) : Nat → Int
  | 0 => 0
  | 1 => flr (ww (x * 6746518852)) 65536
  | k + 1 => flr (ww (pwA x k * flr (ww (x * 6746518852)) 65536)) 1073741824
def pwB (x : Int) : Nat → Int
  | 0 => 0
  | 1 => cel (ww (x * 6746518853)) 65536
  | k + 1 => cel (ww (pwB x k * cel (ww (x * 6746518853)) 65536)) 1073741824
def encl (lo hi : Int) : Ival := ⟨max 0 (flr lo 16384), min 65536 (cel hi 16384)⟩
def sineM (x : Int) : Ival := encl (ww (ww (ww (pwA x 1 - cel (pwB x 3) 6) + flr (pwA x 5) 120) - cel (pwB x 7) 5040)) (ww (ww (ww (ww (pwB x 1 - flr (pwA x 3) 6) + cel (pwB x 5) 120) - flr (pwA x 7) 5040) + cel (pwB x 9) 362880))
def cosineM (x : Int) : Ival := encl (ww (ww (ww (ww (ww (1073741824 - cel (pwB x 2) 2) + flr (pwA x 4) 24) - cel (pwB x 6) 720) + flr (pwA x 8) 40320) - cel (pwB x 10) 3628800)) (ww (ww (ww (ww (1073741824 - flr (pwA x 2) 2) + cel (pwB x 4) 24) - flr (pwA x 6) 720) + cel (pwB x 8) 40320))
def quarterM (r : Int) : Ival := if r ≤ 8192 then sineM r else cosineM (16384 - r)
def sinM (a : Int) : Ival :=
  if a % 65536 / 16384 = 0 then quarterM (a % 65536 % 16384)
  else if a % 65536 / 16384 = 1 then quarterM (16384 - a % 65536 % 16384)
  else if a % 65536 / 16384 = 2 then negI (quarterM (a % 65536 % 16384))
  else negI (quarterM (16384 - a % 65536 % 16384))
def cosM (a : Int) : Ival := sinM (a % 65536 + 16384)
def meetsB (a : Ival) (c : Int) : Bool := decide (a.lo + (c - a.lo) % 65536 ≤ a.hi)
def overM (a low high : Ival) (top bottom : Int) : Ival :=
  if okI a = false then i0
  else if 65536 ≤ a.hi - a.lo then ⟨-65536, 65536⟩
  else if meetsB a bottom = true then hullI (if meetsB a top = true then hullI (hullI low high) (ofI 65536) else hullI low high) (ofI (-65536))
  else if meetsB a top = true then hullI (hullI low high) (ofI 65536) else hullI low high
def sinO (a : Ival) : Ival := overM a (sinM a.lo) (sinM a.hi) 16384 49152
def cosO (a : Ival) : Ival := overM a (cosM a.lo) (cosM a.hi) 0 32768
def zeroM : IM := ⟨v0, v0, v0⟩
def turnM (axis : Int) (a : Ival) : IM :=
  if okI a = false then zeroM
  else if axis = 0 then ⟨⟨one1, i0, i0⟩, ⟨i0, cosO a, negI (sinO a)⟩, ⟨i0, sinO a, cosO a⟩⟩
  else if axis = 1 then ⟨⟨cosO a, i0, sinO a⟩, ⟨i0, one1, i0⟩, ⟨negI (sinO a), i0, cosO a⟩⟩
  else if axis = 2 then ⟨⟨cosO a, negI (sinO a), i0⟩, ⟨sinO a, cosO a, i0⟩, ⟨i0, i0, one1⟩⟩
  else zeroM
/- links and points -/
def slideV (k : Int) (v : Ival) : IV := ⟨if k = 4 then v else i0, if k = 5 then v else i0, if k = 6 then v else i0⟩
def moveP (k : Int) (v : Ival) : Ps :=
  if k = 1 ∨ k = 2 ∨ k = 3 then ⟨turnM (k - 1) v, v0⟩ else if k = 4 ∨ k = 5 ∨ k = 6 then shiftP (slideV k v) else restP
def jointP (j : Joint) (v : Ival) : Ps := comP (shiftP (ptV j.off)) (moveP j.kind v)
def linkP (l : List Ps) (j : Joint) (v : Ival) : Ps := if j.parent = -1 then jointP j v else comP (l.getD j.parent.toNat restP) (jointP j v)
def linksTo (js : List Joint) (box : List Ival) : Nat → List Ps
  | 0 => []
  | k + 1 => linksTo js box k ++ [linkP (linksTo js box k) (js.getD k ⟨⟨#[]⟩, 0, 0, ⟨0, 0, 0⟩, 0, 0, 0, 0, 0, 0⟩) (box.getD k i0)]
def isBox (r : Robot) (box : List Ival) : Bool := decide (box.length = r.joints.length) && box.all okI
def placeOf (p : Ps) (x : Shape) : List IV := x.points.map fun v => appP p (ptV v)
def shapeP (l : List Ps) (x : Shape) : Ps := if x.link = -1 then restP else l.getD x.link.toNat restP
def pointsOf (s : Scene) (box : List Ival) : List (List IV) :=
  if checkScene s = 0 ∧ isBox s.robot box = true then s.shapes.map fun x => placeOf (shapeP (linksTo s.robot.joints box box.length) x) x else []

/- bounds -/
def inI (v : Ival) (M : Int) : Prop := -M ≤ v.lo ∧ v.lo ≤ v.hi ∧ v.hi ≤ M
def mvI (v : Ival) (d : Int) : Ival := ⟨v.lo + d, v.hi + d⟩
def inV3 (v : IV) (M : Int) : Prop := inI v.x M ∧ inI v.y M ∧ inI v.z M
def mvV (v : IV) (d : Vec) : IV := ⟨mvI v.x d.x, mvI v.y d.y, mvI v.z d.z⟩
def tiI (v : Ival) : Prop := -65536 ≤ v.lo ∧ v.hi ≤ 65536
def tiV (v : IV) : Prop := tiI v.x ∧ tiI v.y ∧ tiI v.z
def tiM (m : IM) : Prop := tiV m.a ∧ tiV m.b ∧ tiV m.c
theorem clampM_id {a : Int} (h1 : -2147483648 ≤ a) (h2 : a ≤ 2147483648) : clampM a = a := by unfold clampM; omega
theorem okI_iff {v : Ival} : okI v = true ↔ inI v 2147483648 := by
  unfold okI inI; simp only [Bool.and_eq_true, decide_eq_true_eq, and_assoc]
theorem inI_pos {v : Ival} {M : Int} (h : inI v M) : 0 ≤ M := by unfold inI at h; omega
theorem inI_mono {v : Ival} {M N : Int} (h : inI v M) (hl : M ≤ N) : inI v N := by unfold inI at *; omega
theorem addI_eq {a b : Ival} {M N : Int} (ha : inI a M) (hb : inI b N) (h : M + N ≤ 2147483648) : addI a b = ⟨a.lo + b.lo, a.hi + b.hi⟩ := by
  have h1 := inI_pos ha; have h2 := inI_pos hb
  rw [addI, if_pos ⟨okI_iff.2 (inI_mono ha (by omega)), okI_iff.2 (inI_mono hb (by omega))⟩, limI]
  unfold inI at ha hb
  rw [clampM_id (by omega) (by omega), clampM_id (by omega) (by omega)]
theorem addI_in {a b : Ival} {M N : Int} (ha : inI a M) (hb : inI b N) (h : M + N ≤ 2147483648) : inI (addI a b) (M + N) := by
  rw [addI_eq ha hb h]; unfold inI at *; simp only; omega
theorem addI_mv {a b : Ival} {M M' N : Int} {d : Int} (ha : inI a M) (ha' : inI (mvI a d) M') (hb : inI b N) (h : M + N ≤ 2147483648) (h' : M' + N ≤ 2147483648) : addI (mvI a d) b = mvI (addI a b) d := by
  rw [addI_eq ha hb h, addI_eq ha' hb h']; simp only [mvI, Ival.mk.injEq]; omega
theorem mul_abs {x y A B : Int} (hx : -A ≤ x ∧ x ≤ A) (hy : -B ≤ y ∧ y ≤ B) : -(A * B) ≤ x * y ∧ x * y ≤ A * B := by
  have h1 : (x * y).natAbs ≤ A.natAbs * B.natAbs := by
    rw [Int.natAbs_mul]; exact Nat.mul_le_mul (by omega) (by omega)
  have h2 : ((A.natAbs * B.natAbs : Nat) : Int) = A * B := by
    rw [Int.natCast_mul, Int.natAbs_of_nonneg (by omega), Int.natAbs_of_nonneg (by omega)]
  omega
theorem mulI_in {a b : Ival} {M : Int} (ha : tiI a) (hb : inI b M) (h : M ≤ 2147483648) : inI (mulI a b) M := by
  unfold mulI
  split
  · rename_i c
    have c1 := okI_iff.1 c.1
    unfold tiI at ha; unfold inI at c1 hb
    have e1 := mul_abs (x := a.lo) (y := b.lo) (A := 65536) (B := M) (by omega) (by omega)
    have e2 := mul_abs (x := a.lo) (y := b.hi) (A := 65536) (B := M) (by omega) (by omega)
    have e3 := mul_abs (x := a.hi) (y := b.lo) (A := 65536) (B := M) (by omega) (by omega)
    have e4 := mul_abs (x := a.hi) (y := b.hi) (A := 65536) (B := M) (by omega) (by omega)
    generalize a.lo * b.lo = p at *
    generalize a.lo * b.hi = q at *
    generalize a.hi * b.lo = r at *
    generalize a.hi * b.hi = s at *
    unfold inI limI flr cel
    simp only
    have g1 : -M ≤ min (min (min p q) r) s / 65536 := by omega
    have g2 : -(-max (max (max p q) r) s / 65536) ≤ M := by omega
    have g3 : min (min (min p q) r) s / 65536 ≤ -(-max (max (max p q) r) s / 65536) := by omega
    rw [clampM_id (by omega) (by omega), clampM_id (by omega) (by omega)]
    exact ⟨g1, g3, g2⟩
  · unfold inI at hb ⊢; simp only [i0]; omega
theorem mulI_one {b : Ival} (hb : inI b 2147483648) : mulI one1 b = b := by
  rw [mulI, if_pos ⟨by decide, okI_iff.2 hb⟩]
  unfold inI at hb
  simp only [one1, flr, cel, limI]
  rw [clampM_id (by omega) (by omega), clampM_id (by omega) (by omega)]
  cases b; simp only [Ival.mk.injEq] at *; omega
theorem mulI_zero (b : Ival) : mulI i0 b = i0 := by
  unfold mulI
  split
  · simp [i0, flr, cel, limI, clampM]; decide
  · rfl
theorem addI_zero {a : Ival} (h : inI a 2147483648) : addI a i0 = a ∧ addI i0 a = a := by
  have z : inI i0 0 := by simp [inI, i0]
  rw [addI_eq h z (by omega), addI_eq z h (by omega)]
  simp [i0]
theorem i0_in : inI i0 2147483648 := by simp [inI, i0]
theorem dotR_in {r v : IV} {M : Int} (hr : tiV r) (hv : inV3 v M) (h : 3 * M ≤ 2147483648) : inI (dotR r v) (3 * M) := by
  have h0 := inI_pos hv.1
  have e1 := mulI_in hr.1 hv.1 (by omega)
  have e2 := mulI_in hr.2.1 hv.2.1 (by omega)
  have e3 := mulI_in hr.2.2 hv.2.2 (by omega)
  have e4 := addI_in e1 e2 (by omega)
  exact inI_mono (addI_in e4 e3 (by omega)) (by omega)
theorem appM_in {m : IM} {v : IV} {M : Int} (hm : tiM m) (hv : inV3 v M) (h : 3 * M ≤ 2147483648) : inV3 (appM m v) (3 * M) := ⟨dotR_in hm.1 hv h, dotR_in hm.2.1 hv h, dotR_in hm.2.2 hv h⟩
theorem inV3_mono {v : IV} {M N : Int} (h : inV3 v M) (hl : M ≤ N) : inV3 v N := ⟨inI_mono h.1 hl, inI_mono h.2.1 hl, inI_mono h.2.2 hl⟩
theorem appM_unit {v : IV} (hv : inV3 v 2147483648) : appM unitM v = v := by
  obtain ⟨h1, h2, h3⟩ := hv
  cases v
  simp only [appM, unitM, dotR, mulI_one, mulI_zero, h1, h2, h3, addI_zero, i0_in]
theorem clO_ti (v : Ival) : tiI (clO v) := by unfold tiI clO; simp only; omega
theorem comM_ti (a b : IM) : tiM (comM a b) := ⟨⟨clO_ti _, clO_ti _, clO_ti _⟩, ⟨clO_ti _, clO_ti _, clO_ti _⟩, ⟨clO_ti _, clO_ti _, clO_ti _⟩⟩
theorem comP_ti (a b : Ps) : tiM (comP a b).r := comM_ti _ _
theorem sumV_in {a b : IV} {M N : Int} (ha : inV3 a M) (hb : inV3 b N) (h : M + N ≤ 2147483648) : inV3 (sumV a b) (M + N) := ⟨addI_in ha.1 hb.1 h, addI_in ha.2.1 hb.2.1 h, addI_in ha.2.2 hb.2.2 h⟩
theorem sumV_mv {a b : IV} {M M' N : Int} {d : Vec} (ha : inV3 a M) (ha' : inV3 (mvV a d) M') (hb : inV3 b N) (h : M + N ≤ 2147483648) (h' : M' + N ≤ 2147483648) : sumV (mvV a d) b = mvV (sumV a b) d := by
  simp only [sumV, mvV, IV.mk.injEq]
  exact ⟨addI_mv ha.1 ha'.1 hb.1 h h', addI_mv ha.2.1 ha'.2.1 hb.2.1 h h', addI_mv ha.2.2 ha'.2.2 hb.2.2 h h'⟩
/-- coordinates of a vector are within a bound -/
def nrV (v : Vec) (M : Int) : Prop := (-M ≤ v.x ∧ v.x ≤ M) ∧ (-M ≤ v.y ∧ v.y ≤ M) ∧ (-M ≤ v.z ∧ v.z ≤ M)
def adV (a b : Vec) : Vec := ⟨a.x + b.x, a.y + b.y, a.z + b.z⟩
theorem inV_iff {v : Vec} {M : Int} : inV v M = true ↔ nrV v M := by
  unfold inV nrV; simp only [Bool.and_eq_true, decide_eq_true_eq, and_assoc]
theorem ofI_id {x : Int} (h1 : -2147483648 ≤ x) (h2 : x ≤ 2147483648) : ofI x = ⟨x, x⟩ := by rw [ofI, limI, clampM_id h1 h2]
theorem ptV_eq {v : Vec} {M : Int} (h : nrV v M) (hM : M ≤ 2147483648) : ptV v = ⟨⟨v.x, v.x⟩, ⟨v.y, v.y⟩, ⟨v.z, v.z⟩⟩ := by
  unfold nrV at h
  rw [ptV, ofI_id (by omega) (by omega), ofI_id (by omega) (by omega), ofI_id (by omega) (by omega)]
theorem ptV_in {v : Vec} {M : Int} (h : nrV v M) (hM : M ≤ 2147483648) : inV3 (ptV v) M := by
  rw [ptV_eq h hM]; unfold nrV at h; unfold inV3 inI; simp only; omega
theorem ptV_mv {v d : Vec} {M N : Int} (h : nrV v M) (hM : M ≤ 2147483648) (h' : nrV (adV v d) N) (hN : N ≤ 2147483648) : ptV (adV v d) = mvV (ptV v) d := by
  rw [ptV_eq h hM, ptV_eq h' hN]; rfl
end Go.Proofs.YthdbdokhncaijaaGreat

/- Interval kinematics: the walks of the reference's numbers and intervals. -/
namespace Go.Proofs.YthdbdokhncaijaaGreat
open Eng
set_option maxRecDepth 10000
attribute [local irreducible] FnOk loopW idxF retX arrF

abbrev Iv (v : Ival) : SV := .agg [.dv (.int .i64 v.lo), .dv (.int .i64 v.hi)]
def rg (x : Int) : Prop := -9223372036854775808 ≤ x ∧ x ≤ 9223372036854775807
theorem ww_rg (x : Int) : rg (ww x) := by
  unfold rg ww; rw [IntKind.wrap_i64]; omega
theorem tdiv_rg {a b : Int} (h : rg a) (hb : 1 < b) : rg (a.tdiv b) := by
  have h1 : (a.tdiv b).natAbs = a.natAbs / b.natAbs := Int.natAbs_tdiv a b
  have h2 : a.natAbs / b.natAbs ≤ a.natAbs / 2 := Nat.div_le_div_left (by omega) (by omega)
  unfold rg at *; omega
theorem flr_of {a b : Int} (hb : 1 < b) : flr a b = if a.tmod b < 0 then a.tdiv b - 1 else a.tdiv b := by
  obtain ⟨h1, h2, h3, h4⟩ := tmod_pos (x := a) (m := b) (by omega)
  have h5 := Int.mul_tdiv_add_tmod a b
  unfold flr
  split
  · rename_i c
    refine ((Int.ediv_emod_unique (a := a) (b := b) (r := a.tmod b + b) (q := a.tdiv b - 1) (by omega)).2 ⟨?_, by omega, by omega⟩).1
    rw [Int.mul_sub]; omega
  · rename_i c
    exact ((Int.ediv_emod_unique (a := a) (b := b) (r := a.tmod b) (q := a.tdiv b) (by omega)).2 ⟨by omega, by omega, by omega⟩).1
theorem cel_of {a b : Int} (hb : 1 < b) : cel a b = if 0 < a.tmod b then a.tdiv b + 1 else a.tdiv b := by
  obtain ⟨h1, h2, h3, h4⟩ := tmod_pos (x := a) (m := b) (by omega)
  have h5 := Int.mul_tdiv_add_tmod a b
  unfold cel
  split
  · rename_i c
    have := ((Int.ediv_emod_unique (a := -a) (b := b) (r := b - a.tmod b) (q := -a.tdiv b - 1) (by omega)).2 ⟨by rw [Int.mul_sub, Int.mul_neg]; omega, by omega, by omega⟩).1
    omega
  · rename_i c
    have := ((Int.ediv_emod_unique (a := -a) (b := b) (r := -a.tmod b) (q := -a.tdiv b) (by omega)).2 ⟨by rw [Int.mul_neg]; omega, by omega, by omega⟩).1
    omega
theorem flr_rg {a b : Int} (h : rg a) (hb : 1 < b) : rg (flr a b) := by
  have h1 : (a.tdiv b).natAbs = a.natAbs / b.natAbs := Int.natAbs_tdiv a b
  have h2 : a.natAbs / b.natAbs ≤ a.natAbs / 2 := Nat.div_le_div_left (by omega) (by omega)
  rw [flr_of hb]; unfold rg at *; split <;> omega
theorem cel_rg {a b : Int} (h : rg a) (hb : 1 < b) : rg (cel a b) := by
  have h1 : (a.tdiv b).natAbs = a.natAbs / b.natAbs := Int.natAbs_tdiv a b
  have h2 : a.natAbs / b.natAbs ≤ a.natAbs / 2 := Nat.div_le_div_left (by omega) (by omega)
  rw [cel_of hb]; unfold rg at *; split <;> omega
theorem ww_id {x : Int} (h : rg x) : ww x = x := w64 h.1 h.2
theorem ref1_Clamp (a : Int) : FnOk Tryz.prog F.ref1_Clamp [I a] [] 0 (I (clampM a)) [] 0 := by
  refine fnOk tab mix G.ref1_Clamp rfl rfl (by kernel_rfl) rfl rfl ?_
  (conv => whnf)
  (conv => whnf)
  refine ret0 ?_
  exact ret_i rfl rfl
theorem ref1_limited (a b : Int) : FnOk Tryz.prog F.ref1_limited [I a, I b] [] 0 (Iv (limI a b)) [] 0 := by
  refine fnOk tab mix G.ref1_limited rfl rfl (by kernel_rfl) rfl rfl ?_
  (conv => whnf)
  refine call_i (ref1_Clamp a) ?_
  (conv => whnf)
  refine call_i (ref1_Clamp b) ?_
  (conv => whnf)
  (conv => whnf)
  refine ret0 ?_
  exact ⟨[], ⟨rfl, trivial⟩, trivial⟩
theorem ref1_Of (a : Int) : FnOk Tryz.prog F.ref1_Of [I a] [] 0 (Iv (ofI a)) [] 0 := by
  refine fnOk tab mix G.ref1_Of rfl rfl (by kernel_rfl) rfl rfl ?_
  (conv => whnf)
  refine call_i (ref1_Clamp a) ?_
  (conv => whnf)
  refine call_i (ref1_Clamp a) ?_
  (conv => whnf)
  (conv => whnf)
  refine ret0 ?_
  exact ⟨[], ⟨rfl, trivial⟩, trivial⟩
theorem ref1_Valid (v : Ival) : FnOk Tryz.prog F.ref1_Valid [Iv v] [] 0 (Bo (okI v)) [] 0 := by
  refine fnOk tab mix G.ref1_Valid rfl rfl (by kernel_rfl) rfl rfl ?_
  (conv => whnf)
  cases h1 : decide (-2147483648 ≤ v.lo) with
  | false =>
    (conv => whnf)
    (conv => whnf)
    refine ret0 ?_
    exact ret_b (by simp [okI, h1]) rfl
  | true =>
  (conv => whnf)
  cases h2 : decide (v.lo ≤ v.hi) with
  | false =>
    (conv => whnf)
    (conv => whnf)
    refine ret0 ?_
    exact ret_b (by simp [okI, h2]) rfl
  | true =>
  (conv => whnf)
  (conv => whnf)
  refine ret0 ?_
  exact ret_b (by simp [okI, h1, h2]) rfl
theorem ref1_Floor (a b : Int) (ha : rg a) (hb : 1 < b) : FnOk Tryz.prog F.ref1_Floor [I a, I b] [] 0 (I (flr a b)) [] 0 := by
  have e1 := ww_id (tdiv_rg ha hb)
  have e2 := flr_rg ha hb
  rw [flr_of hb] at e2 ⊢
  refine fnOk tab mix G.ref1_Floor rfl rfl (by kernel_rfl) rfl rfl ?_
  (conv => whnf)
  refine ⟨by omega, ?_⟩
  (conv => whnf)
  refine ⟨by omega, ?_⟩
  (conv => whnf)
  refine ask_m (fun h => ?_) (fun h => ?_)
  · have h : a.tmod b < 0 := by simpa using h
    rw [if_pos h] at e2 ⊢
    (conv => whnf)
    refine ret0 ?_
    exact ret_i (by rw [show IntKind.i64.wrap (a.tdiv b) = a.tdiv b from e1]; exact ww_id e2) rfl
  · have h : ¬ a.tmod b < 0 := by simpa using h
    rw [if_neg h]
    (conv => whnf)
    refine ret0 ?_
    exact ret_i e1 rfl
theorem ref1_Ceil (a b : Int) (ha : rg a) (hb : 1 < b) : FnOk Tryz.prog F.ref1_Ceil [I a, I b] [] 0 (I (cel a b)) [] 0 := by
  have e1 := ww_id (tdiv_rg ha hb)
  have e2 := cel_rg ha hb
  rw [cel_of hb] at e2 ⊢
  refine fnOk tab mix G.ref1_Ceil rfl rfl (by kernel_rfl) rfl rfl ?_
  (conv => whnf)
  refine ⟨by omega, ?_⟩
  (conv => whnf)
  refine ⟨by omega, ?_⟩
  (conv => whnf)
  refine ask_m (fun h => ?_) (fun h => ?_)
  · have h : 0 < a.tmod b := by simpa using h
    rw [if_pos h] at e2 ⊢
    (conv => whnf)
    refine ret0 ?_
    exact ret_i (by rw [show IntKind.i64.wrap (a.tdiv b) = a.tdiv b from e1]; exact ww_id e2) rfl
  · have h : ¬ 0 < a.tmod b := by simpa using h
    rw [if_neg h]
    (conv => whnf)
    refine ret0 ?_
    exact ret_i e1 rfl
theorem ref1_Add (a b : Ival) : FnOk Tryz.prog F.ref1_Add [Iv a, Iv b] [] 0 (Iv (addI a b)) [] 0 := by
  cases ha : okI a with
  | false =>
    rw [show addI a b = i0 by simp [addI, ha]]
    refine fnOk tab mix G.ref1_Add rfl rfl (by kernel_rfl) rfl rfl ?_
    (conv => whnf)
    refine call_i (ref1_Valid a) ?_
    (conv => whnf)
    rw [ha]
    (conv => whnf)
    (conv => whnf)
    refine ret0 ?_
    exact ⟨[], ⟨rfl, trivial⟩, trivial⟩
  | true =>
  cases hb : okI b with
  | false =>
    rw [show addI a b = i0 by simp [addI, hb]]
    refine fnOk tab mix G.ref1_Add rfl rfl (by kernel_rfl) rfl rfl ?_
    (conv => whnf)
    refine call_i (ref1_Valid a) ?_
    (conv => whnf)
    rw [ha]
    (conv => whnf)
    refine call_i (ref1_Valid b) ?_
    (conv => whnf)
    rw [hb]
    (conv => whnf)
    (conv => whnf)
    refine ret0 ?_
    exact ⟨[], ⟨rfl, trivial⟩, trivial⟩
  | true =>
  have h1 := okI_iff.1 ha
  have h2 := okI_iff.1 hb
  unfold inI at h1 h2
  rw [show addI a b = limI (ww (a.lo + b.lo)) (ww (a.hi + b.hi)) by rw [addI, if_pos ⟨ha, hb⟩, ww_id (by unfold rg; omega), ww_id (by unfold rg; omega)]]
  refine fnOk tab mix G.ref1_Add rfl rfl (by kernel_rfl) rfl rfl ?_
  (conv => whnf)
  refine call_i (ref1_Valid a) ?_
  (conv => whnf)
  rw [ha]
  (conv => whnf)
  refine call_i (ref1_Valid b) ?_
  (conv => whnf)
  rw [hb]
  (conv => whnf)
  refine call_i (ref1_limited (ww (a.lo + b.lo)) (ww (a.hi + b.hi))) ?_
  (conv => whnf)
  (conv => whnf)
  refine ret0 ?_
  exact ⟨[], ⟨rfl, trivial⟩, trivial⟩
theorem mul_rg {x y : Int} (hx : -2147483648 ≤ x ∧ x ≤ 2147483648) (hy : -2147483648 ≤ y ∧ y ≤ 2147483648) : rg (x * y) := by
  have := mul_abs hx hy; unfold rg; omega
theorem ref1_Mul (a b : Ival) : FnOk Tryz.prog F.ref1_Mul [Iv a, Iv b] [] 0 (Iv (mulI a b)) [] 0 := by
  cases ha : okI a with
  | false =>
    rw [show mulI a b = i0 by simp [mulI, ha]]
    refine fnOk tab mix G.ref1_Mul rfl rfl (by kernel_rfl) rfl rfl ?_
    (conv => whnf)
    refine call_i (ref1_Valid a) ?_
    (conv => whnf)
    rw [ha]
    (conv => whnf)
    (conv => whnf)
    refine ret0 ?_
    exact ⟨[], ⟨rfl, trivial⟩, trivial⟩
  | true =>
  cases hb : okI b with
  | false =>
    rw [show mulI a b = i0 by simp [mulI, hb]]
    refine fnOk tab mix G.ref1_Mul rfl rfl (by kernel_rfl) rfl rfl ?_
    (conv => whnf)
    refine call_i (ref1_Valid a) ?_
    (conv => whnf)
    rw [ha]
    (conv => whnf)
    refine call_i (ref1_Valid b) ?_
    (conv => whnf)
    rw [hb]
    (conv => whnf)
    (conv => whnf)
    refine ret0 ?_
    exact ⟨[], ⟨rfl, trivial⟩, trivial⟩
  | true =>
  have h1 := okI_iff.1 ha
  have h2 := okI_iff.1 hb
  unfold inI at h1 h2
  have r1 := mul_rg (x := a.lo) (y := b.lo) (by omega) (by omega)
  have r2 := mul_rg (x := a.lo) (y := b.hi) (by omega) (by omega)
  have r3 := mul_rg (x := a.hi) (y := b.lo) (by omega) (by omega)
  have r4 := mul_rg (x := a.hi) (y := b.hi) (by omega) (by omega)
  rw [show mulI a b = limI (flr (min (min (min (ww (a.lo * b.lo)) (ww (a.lo * b.hi))) (ww (a.hi * b.lo))) (ww (a.hi * b.hi))) 65536) (cel (max (max (max (ww (a.lo * b.lo)) (ww (a.lo * b.hi))) (ww (a.hi * b.lo))) (ww (a.hi * b.hi))) 65536) by
    rw [mulI, if_pos ⟨ha, hb⟩, ww_id r1, ww_id r2, ww_id r3, ww_id r4]]
  have w1 := ww_rg (a.lo * b.lo)
  have w2 := ww_rg (a.lo * b.hi)
  have w3 := ww_rg (a.hi * b.lo)
  have w4 := ww_rg (a.hi * b.hi)
  refine fnOk tab mix G.ref1_Mul rfl rfl (by kernel_rfl) rfl rfl ?_
  (conv => whnf)
  refine call_i (ref1_Valid a) ?_
  (conv => whnf)
  rw [ha]
  (conv => whnf)
  refine call_i (ref1_Valid b) ?_
  (conv => whnf)
  rw [hb]
  (conv => whnf)
  refine call_i (ref1_Floor (min (min (min (ww (a.lo * b.lo)) (ww (a.lo * b.hi))) (ww (a.hi * b.lo))) (ww (a.hi * b.hi))) 65536 (by unfold rg at *; omega) (by decide)) ?_
  (conv => whnf)
  refine call_i (ref1_Ceil (max (max (max (ww (a.lo * b.lo)) (ww (a.lo * b.hi))) (ww (a.hi * b.lo))) (ww (a.hi * b.hi))) 65536 (by unfold rg at *; omega) (by decide)) ?_
  (conv => whnf)
  refine call_i (ref1_limited _ _) ?_
  (conv => whnf)
  (conv => whnf)
  refine ret0 ?_
  exact ⟨[], ⟨rfl, trivial⟩, trivial⟩
theorem ref1_Neg (a : Ival) : FnOk Tryz.prog F.ref1_Neg [Iv a] [] 0 (Iv (negI a)) [] 0 := by
  cases ha : okI a with
  | false =>
    rw [show negI a = i0 by simp [negI, ha]]
    refine fnOk tab mix G.ref1_Neg rfl rfl (by kernel_rfl) rfl rfl ?_
    (conv => whnf)
    refine call_i (ref1_Valid a) ?_
    (conv => whnf)
    rw [ha]
    (conv => whnf)
    (conv => whnf)
    refine ret0 ?_
    exact ⟨[], ⟨rfl, trivial⟩, trivial⟩
  | true =>
  have h1 := okI_iff.1 ha
  unfold inI at h1
  rw [show negI a = ⟨ww (0 - a.hi), ww (0 - a.lo)⟩ by rw [negI, if_pos ha, ww_id (by unfold rg; omega), ww_id (by unfold rg; omega), Int.zero_sub, Int.zero_sub]]
  refine fnOk tab mix G.ref1_Neg rfl rfl (by kernel_rfl) rfl rfl ?_
  (conv => whnf)
  refine call_i (ref1_Valid a) ?_
  (conv => whnf)
  rw [ha]
  (conv => whnf)
  (conv => whnf)
  refine ret0 ?_
  exact ⟨[], ⟨rfl, trivial⟩, trivial⟩
theorem ref1_Hull (a b : Ival) : FnOk Tryz.prog F.ref1_Hull [Iv a, Iv b] [] 0 (Iv (hullI a b)) [] 0 := by
  cases ha : okI a with
  | false =>
    rw [show hullI a b = i0 by simp [hullI, ha]]
    refine fnOk tab mix G.ref1_Hull rfl rfl (by kernel_rfl) rfl rfl ?_
    (conv => whnf)
    refine call_i (ref1_Valid a) ?_
    (conv => whnf)
    rw [ha]
    (conv => whnf)
    (conv => whnf)
    refine ret0 ?_
    exact ⟨[], ⟨rfl, trivial⟩, trivial⟩
  | true =>
  cases hb : okI b with
  | false =>
    rw [show hullI a b = i0 by simp [hullI, hb]]
    refine fnOk tab mix G.ref1_Hull rfl rfl (by kernel_rfl) rfl rfl ?_
    (conv => whnf)
    refine call_i (ref1_Valid a) ?_
    (conv => whnf)
    rw [ha]
    (conv => whnf)
    refine call_i (ref1_Valid b) ?_
    (conv => whnf)
    rw [hb]
    (conv => whnf)
    (conv => whnf)
    refine ret0 ?_
    exact ⟨[], ⟨rfl, trivial⟩, trivial⟩
  | true =>
  rw [show hullI a b = ⟨min a.lo b.lo, max a.hi b.hi⟩ by rw [hullI, if_pos ⟨ha, hb⟩]]
  refine fnOk tab mix G.ref1_Hull rfl rfl (by kernel_rfl) rfl rfl ?_
  (conv => whnf)
  refine call_i (ref1_Valid a) ?_
  (conv => whnf)
  rw [ha]
  (conv => whnf)
  refine call_i (ref1_Valid b) ?_
  (conv => whnf)
  rw [hb]
  (conv => whnf)
  (conv => whnf)
  refine ret0 ?_
  exact ⟨[], ⟨rfl, trivial⟩, trivial⟩
theorem ref1_Mod (a : Int) : FnOk Tryz.prog F.ref1_Mod [I a] [] 0 (I (a % 65536)) [] 0 := by
  obtain ⟨h1, h2, h3, h4⟩ := tmod_pos (x := a) (m := 65536) (by omega)
  have e1 : ww (a.tmod 65536 + 65536) = a.tmod 65536 + 65536 := ww_id (by unfold rg; omega)
  have e2 : (a.tmod 65536 + 65536).tmod 65536 = a % 65536 := by
    rw [Int.tmod_eq_emod_of_nonneg (by omega)]; omega
  refine fnOk tab mix G.ref1_Mod rfl rfl (by kernel_rfl) rfl rfl ?_
  (conv => whnf)
  refine ⟨by decide, ?_⟩
  (conv => whnf)
  refine ⟨by decide, ?_⟩
  (conv => whnf)
  (conv => whnf)
  refine ret0 ?_
  exact ret_i (by rw [show IntKind.i64.wrap (a.tmod 65536 + 65536) = a.tmod 65536 + 65536 from e1, e2]) rfl
theorem ref1_meets (a : Ival) (c : Int) (ha : okI a = true) (hc : 0 ≤ c ∧ c ≤ 65536) : FnOk Tryz.prog F.ref1_meets [Iv a, I c] [] 0 (Bo (meetsB a c)) [] 0 := by
  have h1 := okI_iff.1 ha
  unfold inI at h1
  have e1 : ww (c - a.lo) = c - a.lo := ww_id (by unfold rg; omega)
  rw [show meetsB a c = decide (ww (a.lo + ww (c - a.lo) % 65536) ≤ a.hi) by rw [e1, ww_id (by unfold rg; omega), meetsB]]
  refine fnOk tab mix G.ref1_meets rfl rfl (by kernel_rfl) rfl rfl ?_
  (conv => whnf)
  refine call_i (ref1_Mod (ww (c - a.lo))) ?_
  (conv => whnf)
  (conv => whnf)
  refine ret0 ?_
  exact ret_b rfl rfl
end Go.Proofs.YthdbdokhncaijaaGreat

/- Interval kinematics: the walks of the reference's sine and cosine. -/
namespace Go.Proofs.YthdbdokhncaijaaGreat
open Eng
set_option maxRecDepth 10000
attribute [local irreducible] FnOk loopW idxF retX arrF

abbrev pc (f : Nat → Int) (k i : Nat) : CV := .dv (.int .i64 (bif Nat.blt i k then f i else 0))
abbrev pwL (f : Nat → Int) (k : Nat) : List CV := [pc f k 0, pc f k 1, pc f k 2, pc f k 3, pc f k 4, pc f k 5, pc f k 6, pc f k 7, pc f k 8, pc f k 9, pc f k 10]
theorem pwA_rg (x : Int) : ∀ k, rg (pwA x k)
  | 0 => by rw [pwA]; unfold rg; omega
  | 1 => by rw [pwA]; exact flr_rg (ww_rg _) (by decide)
  | k + 2 => flr_rg (ww_rg _) (by decide)
theorem pwB_rg (x : Int) : ∀ k, rg (pwB x k)
  | 0 => by rw [pwB]; unfold rg; omega
  | 1 => by rw [pwB]; exact cel_rg (ww_rg _) (by decide)
  | k + 2 => cel_rg (ww_rg _) (by decide)
abbrev z11 : List CV := [.dv (.int .i64 0), .dv (.int .i64 0), .dv (.int .i64 0), .dv (.int .i64 0), .dv (.int .i64 0), .dv (.int .i64 0), .dv (.int .i64 0), .dv (.int .i64 0), .dv (.int .i64 0), .dv (.int .i64 0), .dv (.int .i64 0)]
set_option maxHeartbeats 2000000 in
theorem ref1_powers (x : Int) : FnOk Tryz.prog F.ref1_powers [I x] [] 0 (.tup [(true, pwL (pwA x) 11), (true, pwL (pwB x) 11)]) [] 0 := by
  refine fnOk tab mix G.ref1_powers rfl rfl (by kernel_rfl) rfl rfl ?_
  (conv => whnf)
  refine call_i (ref1_Floor (ww (x * 6746518852)) 65536 (ww_rg _) (by decide)) ?_
  (conv => whnf)
  refine ⟨⟨by decide, by decide⟩, ?_⟩
  (conv => whnf)
  refine call_i (ref1_Ceil (ww (x * 6746518853)) 65536 (ww_rg _) (by decide)) ?_
  (conv => whnf)
  refine ⟨⟨by decide, by decide⟩, ?_⟩
  (conv => whnf)
  refine loop_intro (fun k : Nat => ⟨[(2, .one (.vptr 0 0)), (3, .one (.vptr 1 0)), (4, .one (.vptr 2 0)), (5, .one (.vptr 3 0)), (6, I k)], [(0, .vars Y.a11_int64 z11), (1, .vars Y.a11_int64 z11), (2, .vars Y.a11_int64 (pwL (pwA x) k)), (3, .vars Y.a11_int64 (pwL (pwB x) k))], 4⟩) (fun k => 2 ≤ k ∧ k ≤ 11) (fun k => 11 - k) [] 2 [] (by decide) ⟨⟨rfl, rfl, rfl, rfl, rfl, trivial⟩, ⟨rfl, rfl, rfl, rfl, trivial⟩⟩ ?_
  rintro k hk
  obtain rfl | rfl | rfl | rfl | rfl | rfl | rfl | rfl | rfl | rfl : k = 2 ∨ k = 3 ∨ k = 4 ∨ k = 5 ∨ k = 6 ∨ k = 7 ∨ k = 8 ∨ k = 9 ∨ k = 10 ∨ k = 11 := by omega
  · (conv => whnf)
    refine ⟨⟨by decide, by decide⟩, ?_⟩
    (conv => whnf)
    refine ⟨⟨by decide, by decide⟩, ?_⟩
    (conv => whnf)
    refine call_i (ref1_Floor (ww (pwA x 1 * pwA x 1)) 1073741824 (ww_rg _) (by decide)) ?_
    (conv => whnf)
    refine ⟨⟨by decide, by decide⟩, ?_⟩
    (conv => whnf)
    refine ⟨⟨by decide, by decide⟩, ?_⟩
    (conv => whnf)
    refine ⟨⟨by decide, by decide⟩, ?_⟩
    (conv => whnf)
    refine call_i (ref1_Ceil (ww (pwB x 1 * pwB x 1)) 1073741824 (ww_rg _) (by decide)) ?_
    (conv => whnf)
    refine ⟨⟨by decide, by decide⟩, ?_⟩
    (conv => whnf)
    exact ⟨3, [], by decide, by decide, ⟨⟨rfl, rfl, rfl, rfl, eqI (by decide), trivial⟩, ⟨rfl, rfl, rfl, rfl, trivial⟩⟩⟩
  · (conv => whnf)
    refine ⟨⟨by decide, by decide⟩, ?_⟩
    (conv => whnf)
    refine ⟨⟨by decide, by decide⟩, ?_⟩
    (conv => whnf)
    refine call_i (ref1_Floor (ww (pwA x 2 * pwA x 1)) 1073741824 (ww_rg _) (by decide)) ?_
    (conv => whnf)
    refine ⟨⟨by decide, by decide⟩, ?_⟩
    (conv => whnf)
    refine ⟨⟨by decide, by decide⟩, ?_⟩
    (conv => whnf)
    refine ⟨⟨by decide, by decide⟩, ?_⟩
    (conv => whnf)
    refine call_i (ref1_Ceil (ww (pwB x 2 * pwB x 1)) 1073741824 (ww_rg _) (by decide)) ?_
    (conv => whnf)
    refine ⟨⟨by decide, by decide⟩, ?_⟩
    (conv => whnf)
    exact ⟨4, [], by decide, by decide, ⟨⟨rfl, rfl, rfl, rfl, eqI (by decide), trivial⟩, ⟨rfl, rfl, rfl, rfl, trivial⟩⟩⟩
  · (conv => whnf)
    refine ⟨⟨by decide, by decide⟩, ?_⟩
    (conv => whnf)
    refine ⟨⟨by decide, by decide⟩, ?_⟩
    (conv => whnf)
    refine call_i (ref1_Floor (ww (pwA x 3 * pwA x 1)) 1073741824 (ww_rg _) (by decide)) ?_
    (conv => whnf)
    refine ⟨⟨by decide, by decide⟩, ?_⟩
    (conv => whnf)
    refine ⟨⟨by decide, by decide⟩, ?_⟩
    (conv => whnf)
    refine ⟨⟨by decide, by decide⟩, ?_⟩
    (conv => whnf)
    refine call_i (ref1_Ceil (ww (pwB x 3 * pwB x 1)) 1073741824 (ww_rg _) (by decide)) ?_
    (conv => whnf)
    refine ⟨⟨by decide, by decide⟩, ?_⟩
    (conv => whnf)
    exact ⟨5, [], by decide, by decide, ⟨⟨rfl, rfl, rfl, rfl, eqI (by decide), trivial⟩, ⟨rfl, rfl, rfl, rfl, trivial⟩⟩⟩
  · (conv => whnf)
    refine ⟨⟨by decide, by decide⟩, ?_⟩
    (conv => whnf)
    refine ⟨⟨by decide, by decide⟩, ?_⟩
    (conv => whnf)
    refine call_i (ref1_Floor (ww (pwA x 4 * pwA x 1)) 1073741824 (ww_rg _) (by decide)) ?_
    (conv => whnf)
    refine ⟨⟨by decide, by decide⟩, ?_⟩
    (conv => whnf)
    refine ⟨⟨by decide, by decide⟩, ?_⟩
    (conv => whnf)
    refine ⟨⟨by decide, by decide⟩, ?_⟩
    (conv => whnf)
    refine call_i (ref1_Ceil (ww (pwB x 4 * pwB x 1)) 1073741824 (ww_rg _) (by decide)) ?_
    (conv => whnf)
    refine ⟨⟨by decide, by decide⟩, ?_⟩
    (conv => whnf)
    exact ⟨6, [], by decide, by decide, ⟨⟨rfl, rfl, rfl, rfl, eqI (by decide), trivial⟩, ⟨rfl, rfl, rfl, rfl, trivial⟩⟩⟩
  · (conv => whnf)
    refine ⟨⟨by decide, by decide⟩, ?_⟩
    (conv => whnf)
    refine ⟨⟨by decide, by decide⟩, ?_⟩
    (conv => whnf)
    refine call_i (ref1_Floor (ww (pwA x 5 * pwA x 1)) 1073741824 (ww_rg _) (by decide)) ?_
    (conv => whnf)
    refine ⟨⟨by decide, by decide⟩, ?_⟩
    (conv => whnf)
    refine ⟨⟨by decide, by decide⟩, ?_⟩
    (conv => whnf)
    refine ⟨⟨by decide, by decide⟩, ?_⟩
    (conv => whnf)
    refine call_i (ref1_Ceil (ww (pwB x 5 * pwB x 1)) 1073741824 (ww_rg _) (by decide)) ?_
    (conv => whnf)
    refine ⟨⟨by decide, by decide⟩, ?_⟩
    (conv => whnf)
    exact ⟨7, [], by decide, by decide, ⟨⟨rfl, rfl, rfl, rfl, eqI (by decide), trivial⟩, ⟨rfl, rfl, rfl, rfl, trivial⟩⟩⟩
  · (conv => whnf)
    refine ⟨⟨by decide, by decide⟩, ?_⟩
    (conv => whnf)
    refine ⟨⟨by decide, by decide⟩, ?_⟩
    (conv => whnf)
    refine call_i (ref1_Floor (ww (pwA x 6 * pwA x 1)) 1073741824 (ww_rg _) (by decide)) ?_
    (conv => whnf)
    refine ⟨⟨by decide, by decide⟩, ?_⟩
    (conv => whnf)
    refine ⟨⟨by decide, by decide⟩, ?_⟩
    (conv => whnf)
    refine ⟨⟨by decide, by decide⟩, ?_⟩
    (conv => whnf)
    refine call_i (ref1_Ceil (ww (pwB x 6 * pwB x 1)) 1073741824 (ww_rg _) (by decide)) ?_
    (conv => whnf)
    refine ⟨⟨by decide, by decide⟩, ?_⟩
    (conv => whnf)
    exact ⟨8, [], by decide, by decide, ⟨⟨rfl, rfl, rfl, rfl, eqI (by decide), trivial⟩, ⟨rfl, rfl, rfl, rfl, trivial⟩⟩⟩
  · (conv => whnf)
    refine ⟨⟨by decide, by decide⟩, ?_⟩
    (conv => whnf)
    refine ⟨⟨by decide, by decide⟩, ?_⟩
    (conv => whnf)
    refine call_i (ref1_Floor (ww (pwA x 7 * pwA x 1)) 1073741824 (ww_rg _) (by decide)) ?_
    (conv => whnf)
    refine ⟨⟨by decide, by decide⟩, ?_⟩
    (conv => whnf)
    refine ⟨⟨by decide, by decide⟩, ?_⟩
    (conv => whnf)
    refine ⟨⟨by decide, by decide⟩, ?_⟩
    (conv => whnf)
    refine call_i (ref1_Ceil (ww (pwB x 7 * pwB x 1)) 1073741824 (ww_rg _) (by decide)) ?_
    (conv => whnf)
    refine ⟨⟨by decide, by decide⟩, ?_⟩
    (conv => whnf)
    exact ⟨9, [], by decide, by decide, ⟨⟨rfl, rfl, rfl, rfl, eqI (by decide), trivial⟩, ⟨rfl, rfl, rfl, rfl, trivial⟩⟩⟩
  · (conv => whnf)
    refine ⟨⟨by decide, by decide⟩, ?_⟩
    (conv => whnf)
    refine ⟨⟨by decide, by decide⟩, ?_⟩
    (conv => whnf)
    refine call_i (ref1_Floor (ww (pwA x 8 * pwA x 1)) 1073741824 (ww_rg _) (by decide)) ?_
    (conv => whnf)
    refine ⟨⟨by decide, by decide⟩, ?_⟩
    (conv => whnf)
    refine ⟨⟨by decide, by decide⟩, ?_⟩
    (conv => whnf)
    refine ⟨⟨by decide, by decide⟩, ?_⟩
    (conv => whnf)
    refine call_i (ref1_Ceil (ww (pwB x 8 * pwB x 1)) 1073741824 (ww_rg _) (by decide)) ?_
    (conv => whnf)
    refine ⟨⟨by decide, by decide⟩, ?_⟩
    (conv => whnf)
    exact ⟨10, [], by decide, by decide, ⟨⟨rfl, rfl, rfl, rfl, eqI (by decide), trivial⟩, ⟨rfl, rfl, rfl, rfl, trivial⟩⟩⟩
  · (conv => whnf)
    refine ⟨⟨by decide, by decide⟩, ?_⟩
    (conv => whnf)
    refine ⟨⟨by decide, by decide⟩, ?_⟩
    (conv => whnf)
    refine call_i (ref1_Floor (ww (pwA x 9 * pwA x 1)) 1073741824 (ww_rg _) (by decide)) ?_
    (conv => whnf)
    refine ⟨⟨by decide, by decide⟩, ?_⟩
    (conv => whnf)
    refine ⟨⟨by decide, by decide⟩, ?_⟩
    (conv => whnf)
    refine ⟨⟨by decide, by decide⟩, ?_⟩
    (conv => whnf)
    refine call_i (ref1_Ceil (ww (pwB x 9 * pwB x 1)) 1073741824 (ww_rg _) (by decide)) ?_
    (conv => whnf)
    refine ⟨⟨by decide, by decide⟩, ?_⟩
    (conv => whnf)
    exact ⟨11, [], by decide, by decide, ⟨⟨rfl, rfl, rfl, rfl, eqI (by decide), trivial⟩, ⟨rfl, rfl, rfl, rfl, trivial⟩⟩⟩
  · (conv => whnf)
    (conv => whnf)
    refine ret0 ?_
    exact ⟨[], ⟨rfl, trivial⟩, trivial⟩
theorem ref1_enclosure (a b : Int) (ha : rg a) (hb : rg b) : FnOk Tryz.prog F.ref1_enclosure [I a, I b] [] 0 (Iv (encl a b)) [] 0 := by
  refine fnOk tab mix G.ref1_enclosure rfl rfl (by kernel_rfl) rfl rfl ?_
  (conv => whnf)
  refine call_i (ref1_Floor a 16384 ha (by decide)) ?_
  (conv => whnf)
  refine call_i (ref1_Ceil b 16384 hb (by decide)) ?_
  (conv => whnf)
  (conv => whnf)
  refine ret0 ?_
  exact ⟨[], ⟨rfl, trivial⟩, trivial⟩
theorem ref1_sine (x : Int) : FnOk Tryz.prog F.ref1_sine [I x] [] 0 (Iv (sineM x)) [] 0 := by
  refine fnOk tab mix G.ref1_sine rfl rfl (by kernel_rfl) rfl rfl ?_
  (conv => whnf)
  refine call_i (ref1_powers x) ?_
  (conv => whnf)
  refine ⟨⟨by decide, by decide⟩, ?_⟩
  (conv => whnf)
  refine ⟨⟨by decide, by decide⟩, ?_⟩
  (conv => whnf)
  refine call_i (ref1_Ceil (pwB x 3) 6 (pwB_rg x 3) (by decide)) ?_
  (conv => whnf)
  refine ⟨⟨by decide, by decide⟩, ?_⟩
  (conv => whnf)
  refine call_i (ref1_Floor (pwA x 5) 120 (pwA_rg x 5) (by decide)) ?_
  (conv => whnf)
  refine ⟨⟨by decide, by decide⟩, ?_⟩
  (conv => whnf)
  refine call_i (ref1_Ceil (pwB x 7) 5040 (pwB_rg x 7) (by decide)) ?_
  (conv => whnf)
  refine ⟨⟨by decide, by decide⟩, ?_⟩
  (conv => whnf)
  refine ⟨⟨by decide, by decide⟩, ?_⟩
  (conv => whnf)
  refine call_i (ref1_Floor (pwA x 3) 6 (pwA_rg x 3) (by decide)) ?_
  (conv => whnf)
  refine ⟨⟨by decide, by decide⟩, ?_⟩
  (conv => whnf)
  refine call_i (ref1_Ceil (pwB x 5) 120 (pwB_rg x 5) (by decide)) ?_
  (conv => whnf)
  refine ⟨⟨by decide, by decide⟩, ?_⟩
  (conv => whnf)
  refine call_i (ref1_Floor (pwA x 7) 5040 (pwA_rg x 7) (by decide)) ?_
  (conv => whnf)
  refine ⟨⟨by decide, by decide⟩, ?_⟩
  (conv => whnf)
  refine call_i (ref1_Ceil (pwB x 9) 362880 (pwB_rg x 9) (by decide)) ?_
  (conv => whnf)
  refine call_i (ref1_enclosure _ _ (ww_rg _) (ww_rg _)) ?_
  (conv => whnf)
  (conv => whnf)
  refine ret0 ?_
  exact ⟨[], ⟨rfl, trivial⟩, trivial⟩
theorem ref1_cosine (x : Int) : FnOk Tryz.prog F.ref1_cosine [I x] [] 0 (Iv (cosineM x)) [] 0 := by
  refine fnOk tab mix G.ref1_cosine rfl rfl (by kernel_rfl) rfl rfl ?_
  (conv => whnf)
  refine call_i (ref1_powers x) ?_
  (conv => whnf)
  refine ⟨⟨by decide, by decide⟩, ?_⟩
  (conv => whnf)
  refine call_i (ref1_Ceil (pwB x 2) 2 (pwB_rg x 2) (by decide)) ?_
  (conv => whnf)
  refine ⟨⟨by decide, by decide⟩, ?_⟩
  (conv => whnf)
  refine call_i (ref1_Floor (pwA x 4) 24 (pwA_rg x 4) (by decide)) ?_
  (conv => whnf)
  refine ⟨⟨by decide, by decide⟩, ?_⟩
  (conv => whnf)
  refine call_i (ref1_Ceil (pwB x 6) 720 (pwB_rg x 6) (by decide)) ?_
  (conv => whnf)
  refine ⟨⟨by decide, by decide⟩, ?_⟩
  (conv => whnf)
  refine call_i (ref1_Floor (pwA x 8) 40320 (pwA_rg x 8) (by decide)) ?_
  (conv => whnf)
  refine ⟨⟨by decide, by decide⟩, ?_⟩
  (conv => whnf)
  refine call_i (ref1_Ceil (pwB x 10) 3628800 (pwB_rg x 10) (by decide)) ?_
  (conv => whnf)
  refine ⟨⟨by decide, by decide⟩, ?_⟩
  (conv => whnf)
  refine call_i (ref1_Floor (pwA x 2) 2 (pwA_rg x 2) (by decide)) ?_
  (conv => whnf)
  refine ⟨⟨by decide, by decide⟩, ?_⟩
  (conv => whnf)
  refine call_i (ref1_Ceil (pwB x 4) 24 (pwB_rg x 4) (by decide)) ?_
  (conv => whnf)
  refine ⟨⟨by decide, by decide⟩, ?_⟩
  (conv => whnf)
  refine call_i (ref1_Floor (pwA x 6) 720 (pwA_rg x 6) (by decide)) ?_
  (conv => whnf)
  refine ⟨⟨by decide, by decide⟩, ?_⟩
  (conv => whnf)
  refine call_i (ref1_Ceil (pwB x 8) 40320 (pwB_rg x 8) (by decide)) ?_
  (conv => whnf)
  refine call_i (ref1_enclosure _ _ (ww_rg _) (ww_rg _)) ?_
  (conv => whnf)
  (conv => whnf)
  refine ret0 ?_
  exact ⟨[], ⟨rfl, trivial⟩, trivial⟩
theorem ref1_Quarter (r : Int) (hr : 0 ≤ r ∧ r ≤ 16384) : FnOk Tryz.prog F.ref1_Quarter [I r] [] 0 (Iv (quarterM r)) [] 0 := by
  by_cases h : r ≤ 8192
  · rw [quarterM, if_pos h]
    refine fnOk tab mix G.ref1_Quarter rfl rfl (by kernel_rfl) rfl rfl ?_
    (conv => whnf)
    refine ask_mt (decide_eq_true h) ?_
    (conv => whnf)
    refine call_i (ref1_sine r) ?_
    (conv => whnf)
    (conv => whnf)
    refine ret0 ?_
    exact ⟨[], ⟨rfl, trivial⟩, trivial⟩
  · rw [quarterM, if_neg h, show 16384 - r = ww (16384 - r) from (ww_id (by unfold rg; omega)).symm]
    refine fnOk tab mix G.ref1_Quarter rfl rfl (by kernel_rfl) rfl rfl ?_
    (conv => whnf)
    refine ask_mf (decide_eq_false h) ?_
    (conv => whnf)
    refine call_i (ref1_cosine (ww (16384 - r))) ?_
    (conv => whnf)
    (conv => whnf)
    refine ret0 ?_
    exact ⟨[], ⟨rfl, trivial⟩, trivial⟩
theorem ref1_Sin (a : Int) : FnOk Tryz.prog F.ref1_Sin [I a] [] 0 (Iv (sinM a)) [] 0 := by
  have q1 := Int.emod_nonneg a (show (65536 : Int) ≠ 0 by decide)
  have q2 := Int.emod_lt_of_pos a (show (0 : Int) < 65536 by decide)
  have e1 : ww ((a % 65536).tdiv 16384) = a % 65536 / 16384 := by rw [Int.tdiv_eq_ediv_of_nonneg q1]; exact ww_id (by unfold rg; omega)
  have e2 : (a % 65536).tmod 16384 = a % 65536 % 16384 := Int.tmod_eq_emod_of_nonneg q1
  have e3 : ww (16384 - (a % 65536).tmod 16384) = 16384 - a % 65536 % 16384 := by rw [e2]; exact ww_id (by unfold rg; omega)
  unfold sinM
  rw [← e3, ← e2, ← e1]
  refine fnOk tab mix G.ref1_Sin rfl rfl (by kernel_rfl) rfl rfl ?_
  (conv => whnf)
  refine call_i (ref1_Mod a) ?_
  (conv => whnf)
  refine ⟨by decide, ?_⟩
  (conv => whnf)
  refine ⟨by decide, ?_⟩
  (conv => whnf)
  refine ask_m (fun h1 => ?_) (fun h1 => ?_)
  · have h1 : ww ((a % 65536).tdiv 16384) = 0 := by simpa using h1
    rw [if_pos h1]
    (conv => whnf)
    refine call_i (ref1_Quarter ((a % 65536).tmod 16384) (by omega)) ?_
    (conv => whnf)
    (conv => whnf)
    refine ret0 ?_
    exact ⟨[], ⟨rfl, trivial⟩, trivial⟩
  have h1 : ¬ ww ((a % 65536).tdiv 16384) = 0 := by simpa using h1
  rw [if_neg h1]
  (conv => whnf)
  refine ask_m (fun h2 => ?_) (fun h2 => ?_)
  · have h2 : ww ((a % 65536).tdiv 16384) = 1 := by simpa using h2
    rw [if_pos h2]
    (conv => whnf)
    refine call_i (ref1_Quarter (ww (16384 - (a % 65536).tmod 16384)) (by omega)) ?_
    (conv => whnf)
    (conv => whnf)
    refine ret0 ?_
    exact ⟨[], ⟨rfl, trivial⟩, trivial⟩
  have h2 : ¬ ww ((a % 65536).tdiv 16384) = 1 := by simpa using h2
  rw [if_neg h2]
  (conv => whnf)
  refine ask_m (fun h3 => ?_) (fun h3 => ?_)
  · have h3 : ww ((a % 65536).tdiv 16384) = 2 := by simpa using h3
    rw [if_pos h3]
    (conv => whnf)
    refine call_i (ref1_Quarter ((a % 65536).tmod 16384) (by omega)) ?_
    (conv => whnf)
    refine call_i (ref1_Neg _) ?_
    (conv => whnf)
    (conv => whnf)
    refine ret0 ?_
    exact ⟨[], ⟨rfl, trivial⟩, trivial⟩
  have h3 : ¬ ww ((a % 65536).tdiv 16384) = 2 := by simpa using h3
  rw [if_neg h3]
  (conv => whnf)
  refine call_i (ref1_Quarter (ww (16384 - (a % 65536).tmod 16384)) (by omega)) ?_
  (conv => whnf)
  refine call_i (ref1_Neg _) ?_
  (conv => whnf)
  (conv => whnf)
  refine ret0 ?_
  exact ⟨[], ⟨rfl, trivial⟩, trivial⟩
theorem ref1_Cos (a : Int) : FnOk Tryz.prog F.ref1_Cos [I a] [] 0 (Iv (cosM a)) [] 0 := by
  rw [cosM, show a % 65536 + 16384 = ww (a % 65536 + 16384) from (ww_id (by unfold rg; omega)).symm]
  refine fnOk tab mix G.ref1_Cos rfl rfl (by kernel_rfl) rfl rfl ?_
  (conv => whnf)
  refine call_i (ref1_Mod a) ?_
  (conv => whnf)
  refine call_i (ref1_Sin (ww (a % 65536 + 16384))) ?_
  (conv => whnf)
  (conv => whnf)
  refine ret0 ?_
  exact ⟨[], ⟨rfl, trivial⟩, trivial⟩
theorem ref1_over (a low high : Ival) (t b : Int) (ht : 0 ≤ t ∧ t ≤ 65536) (hb : 0 ≤ b ∧ b ≤ 65536) : FnOk Tryz.prog F.ref1_over [Iv a, Iv low, Iv high, I t, I b] [] 0 (Iv (overM a low high t b)) [] 0 := by
  unfold overM
  cases ha : okI a with
  | false =>
    rw [if_pos rfl]
    refine fnOk tab mix G.ref1_over rfl rfl (by kernel_rfl) rfl rfl ?_
    (conv => whnf)
    refine call_i (ref1_Valid a) ?_
    (conv => whnf)
    rw [ha]
    (conv => whnf)
    (conv => whnf)
    refine ret0 ?_
    exact ⟨[], ⟨rfl, trivial⟩, trivial⟩
  | true =>
  have h1 := okI_iff.1 ha
  unfold inI at h1
  have e1 : ww (a.hi - a.lo) = a.hi - a.lo := ww_id (by unfold rg; omega)
  rw [if_neg (by decide), ← e1]
  refine fnOk tab mix G.ref1_over rfl rfl (by kernel_rfl) rfl rfl ?_
  (conv => whnf)
  refine call_i (ref1_Valid a) ?_
  (conv => whnf)
  rw [ha]
  (conv => whnf)
  refine ask_m (fun h => ?_) (fun h => ?_)
  · have h : 65536 ≤ ww (a.hi - a.lo) := of_decide_eq_true h
    rw [if_pos h]
    (conv => whnf)
    refine ret0 ?_
    exact ⟨[], ⟨rfl, trivial⟩, trivial⟩
  have h : ¬ 65536 ≤ ww (a.hi - a.lo) := of_decide_eq_false h
  rw [if_neg h]
  (conv => whnf)
  refine call_i (ref1_Hull low high) ?_
  (conv => whnf)
  refine call_i (ref1_meets a t ha ht) ?_
  (conv => whnf)
  cases m1 : meetsB a t with
  | true =>
    rw [if_pos rfl]
    (conv => whnf)
    refine call_i (ref1_Of 65536) ?_
    (conv => whnf)
    refine call_i (ref1_Hull (hullI low high) (ofI 65536)) ?_
    (conv => whnf)
    refine call_i (ref1_meets a b ha hb) ?_
    (conv => whnf)
    cases m2 : meetsB a b with
    | true =>
      rw [if_pos rfl]
      (conv => whnf)
      refine call_i (ref1_Of (-65536)) ?_
      (conv => whnf)
      refine call_i (ref1_Hull (hullI (hullI low high) (ofI 65536)) (ofI (-65536))) ?_
      (conv => whnf)
      (conv => whnf)
      refine ret0 ?_
      exact ⟨[], ⟨rfl, trivial⟩, trivial⟩
    | false =>
      rw [if_neg (by decide)]
      (conv => whnf)
      (conv => whnf)
      refine ret0 ?_
      exact ⟨[], ⟨rfl, trivial⟩, trivial⟩
  | false =>
    rw [if_neg (show ¬ (false = true) by decide)]
    (conv => whnf)
    refine call_i (ref1_meets a b ha hb) ?_
    (conv => whnf)
    cases m2 : meetsB a b with
    | true =>
      rw [if_pos rfl]
      (conv => whnf)
      refine call_i (ref1_Of (-65536)) ?_
      (conv => whnf)
      refine call_i (ref1_Hull (hullI low high) (ofI (-65536))) ?_
      (conv => whnf)
      (conv => whnf)
      refine ret0 ?_
      exact ⟨[], ⟨rfl, trivial⟩, trivial⟩
    | false =>
      rw [if_neg (by decide)]
      (conv => whnf)
      (conv => whnf)
      refine ret0 ?_
      exact ⟨[], ⟨rfl, trivial⟩, trivial⟩
theorem ref1_SinOver (a : Ival) : FnOk Tryz.prog F.ref1_SinOver [Iv a] [] 0 (Iv (sinO a)) [] 0 := by
  refine fnOk tab mix G.ref1_SinOver rfl rfl (by kernel_rfl) rfl rfl ?_
  (conv => whnf)
  refine call_i (ref1_Sin a.lo) ?_
  (conv => whnf)
  refine call_i (ref1_Sin a.hi) ?_
  (conv => whnf)
  refine call_i (ref1_over a (sinM a.lo) (sinM a.hi) 16384 49152 (by decide) (by decide)) ?_
  (conv => whnf)
  (conv => whnf)
  refine ret0 ?_
  exact ⟨[], ⟨rfl, trivial⟩, trivial⟩
theorem ref1_CosOver (a : Ival) : FnOk Tryz.prog F.ref1_CosOver [Iv a] [] 0 (Iv (cosO a)) [] 0 := by
  refine fnOk tab mix G.ref1_CosOver rfl rfl (by kernel_rfl) rfl rfl ?_
  (conv => whnf)
  refine call_i (ref1_Cos a.lo) ?_
  (conv => whnf)
  refine call_i (ref1_Cos a.hi) ?_
  (conv => whnf)
  refine call_i (ref1_over a (cosM a.lo) (cosM a.hi) 0 32768 (by decide) (by decide)) ?_
  (conv => whnf)
  (conv => whnf)
  refine ret0 ?_
  exact ⟨[], ⟨rfl, trivial⟩, trivial⟩
end Go.Proofs.YthdbdokhncaijaaGreat

/- Interval kinematics: the walks of the reference's vectors, matrices and poses of intervals. -/
namespace Go.Proofs.YthdbdokhncaijaaGreat
open Eng
set_option maxRecDepth 10000
attribute [local irreducible] FnOk loopW idxF retX arrF

abbrev c6 (v : IV) : List CV := [.dv (.int .i64 v.x.lo), .dv (.int .i64 v.x.hi), .dv (.int .i64 v.y.lo), .dv (.int .i64 v.y.hi), .dv (.int .i64 v.z.lo), .dv (.int .i64 v.z.hi)]
abbrev c18 (m : IM) : List CV := [.dv (.int .i64 m.a.x.lo), .dv (.int .i64 m.a.x.hi), .dv (.int .i64 m.a.y.lo), .dv (.int .i64 m.a.y.hi), .dv (.int .i64 m.a.z.lo), .dv (.int .i64 m.a.z.hi), .dv (.int .i64 m.b.x.lo), .dv (.int .i64 m.b.x.hi), .dv (.int .i64 m.b.y.lo), .dv (.int .i64 m.b.y.hi), .dv (.int .i64 m.b.z.lo), .dv (.int .i64 m.b.z.hi), .dv (.int .i64 m.c.x.lo), .dv (.int .i64 m.c.x.hi), .dv (.int .i64 m.c.y.lo), .dv (.int .i64 m.c.y.hi), .dv (.int .i64 m.c.z.lo), .dv (.int .i64 m.c.z.hi)]
abbrev c24 (p : Ps) : List CV := [.dv (.int .i64 p.r.a.x.lo), .dv (.int .i64 p.r.a.x.hi), .dv (.int .i64 p.r.a.y.lo), .dv (.int .i64 p.r.a.y.hi), .dv (.int .i64 p.r.a.z.lo), .dv (.int .i64 p.r.a.z.hi), .dv (.int .i64 p.r.b.x.lo), .dv (.int .i64 p.r.b.x.hi), .dv (.int .i64 p.r.b.y.lo), .dv (.int .i64 p.r.b.y.hi), .dv (.int .i64 p.r.b.z.lo), .dv (.int .i64 p.r.b.z.hi), .dv (.int .i64 p.r.c.x.lo), .dv (.int .i64 p.r.c.x.hi), .dv (.int .i64 p.r.c.y.lo), .dv (.int .i64 p.r.c.y.hi), .dv (.int .i64 p.r.c.z.lo), .dv (.int .i64 p.r.c.z.hi), .dv (.int .i64 p.t.x.lo), .dv (.int .i64 p.t.x.hi), .dv (.int .i64 p.t.y.lo), .dv (.int .i64 p.t.y.hi), .dv (.int .i64 p.t.z.lo), .dv (.int .i64 p.t.z.hi)]
def encIV (v : IV) : List DV := [.int .i64 v.x.lo, .int .i64 v.x.hi, .int .i64 v.y.lo, .int .i64 v.y.hi, .int .i64 v.z.lo, .int .i64 v.z.hi]
def encPs (p : Ps) : List DV := [.int .i64 p.r.a.x.lo, .int .i64 p.r.a.x.hi, .int .i64 p.r.a.y.lo, .int .i64 p.r.a.y.hi, .int .i64 p.r.a.z.lo, .int .i64 p.r.a.z.hi, .int .i64 p.r.b.x.lo, .int .i64 p.r.b.x.hi, .int .i64 p.r.b.y.lo, .int .i64 p.r.b.y.hi, .int .i64 p.r.b.z.lo, .int .i64 p.r.b.z.hi, .int .i64 p.r.c.x.lo, .int .i64 p.r.c.x.hi, .int .i64 p.r.c.y.lo, .int .i64 p.r.c.y.hi, .int .i64 p.r.c.z.lo, .int .i64 p.r.c.z.hi, .int .i64 p.t.x.lo, .int .i64 p.t.x.hi, .int .i64 p.t.y.lo, .int .i64 p.t.y.hi, .int .i64 p.t.z.lo, .int .i64 p.t.z.hi]
abbrev IvV (v : IV) : SV := .agg (c6 v)
abbrev IvM (m : IM) : SV := .agg (c18 m)
abbrev IvP (p : Ps) : SV := .agg (c24 p)
theorem ref1_Point (v : Vec) : FnOk Tryz.prog F.ref1_Point [Ve v] [] 0 (IvV (ptV v)) [] 0 := by
  refine fnOk tab mix G.ref1_Point rfl rfl (by kernel_rfl) rfl rfl ?_
  (conv => whnf)
  refine ⟨⟨by decide, by decide⟩, ?_⟩
  (conv => whnf)
  refine call_i (ref1_Of v.x) ?_
  (conv => whnf)
  refine ⟨⟨by decide, by decide⟩, ?_⟩
  (conv => whnf)
  refine call_i (ref1_Of v.y) ?_
  (conv => whnf)
  refine ⟨⟨by decide, by decide⟩, ?_⟩
  (conv => whnf)
  refine call_i (ref1_Of v.z) ?_
  (conv => whnf)
  (conv => whnf)
  refine ret0 ?_
  exact ⟨[], ⟨rfl, trivial⟩, trivial⟩
theorem ref1_AddVec (a b : IV) : FnOk Tryz.prog F.ref1_AddVec [IvV a, IvV b] [] 0 (IvV (sumV a b)) [] 0 := by
  refine fnOk tab mix G.ref1_AddVec rfl rfl (by kernel_rfl) rfl rfl ?_
  (conv => whnf)
  refine ⟨⟨by decide, by decide⟩, ?_⟩
  (conv => whnf)
  refine ⟨⟨by decide, by decide⟩, ?_⟩
  (conv => whnf)
  refine call_i (ref1_Add a.x b.x) ?_
  (conv => whnf)
  refine ⟨⟨by decide, by decide⟩, ?_⟩
  (conv => whnf)
  refine ⟨⟨by decide, by decide⟩, ?_⟩
  (conv => whnf)
  refine call_i (ref1_Add a.y b.y) ?_
  (conv => whnf)
  refine ⟨⟨by decide, by decide⟩, ?_⟩
  (conv => whnf)
  refine ⟨⟨by decide, by decide⟩, ?_⟩
  (conv => whnf)
  refine call_i (ref1_Add a.z b.z) ?_
  (conv => whnf)
  (conv => whnf)
  refine ret0 ?_
  exact ⟨[], ⟨rfl, trivial⟩, trivial⟩
theorem ref1_Unit : FnOk Tryz.prog F.ref1_Unit [] [] 0 (IvM unitM) [] 0 := by
  refine fnOk tab mix G.ref1_Unit rfl rfl (by kernel_rfl) rfl rfl ?_
  (conv => whnf)
  refine call_i (ref1_Of 65536) ?_
  (conv => whnf)
  (conv => whnf)
  refine ret0 ?_
  exact ⟨[], ⟨rfl, trivial⟩, trivial⟩
theorem ref1_Rest : FnOk Tryz.prog F.ref1_Rest [] [] 0 (IvP restP) [] 0 := by
  refine fnOk tab mix G.ref1_Rest rfl rfl (by kernel_rfl) rfl rfl ?_
  (conv => whnf)
  refine call_i (ref1_Unit) ?_
  (conv => whnf)
  (conv => whnf)
  refine ret0 ?_
  exact ⟨[], ⟨rfl, trivial⟩, trivial⟩
theorem ref1_Shift (v : IV) : FnOk Tryz.prog F.ref1_Shift [IvV v] [] 0 (IvP (shiftP v)) [] 0 := by
  refine fnOk tab mix G.ref1_Shift rfl rfl (by kernel_rfl) rfl rfl ?_
  (conv => whnf)
  refine call_i (ref1_Unit) ?_
  (conv => whnf)
  (conv => whnf)
  refine ret0 ?_
  exact ⟨[], ⟨rfl, trivial⟩, trivial⟩
theorem ref1_Turn (k : Int) (a : Ival) : FnOk Tryz.prog F.ref1_Turn [I k, Iv a] [] 0 (IvM (turnM k a)) [] 0 := by
  unfold turnM
  cases ha : okI a with
  | false =>
    rw [if_pos rfl]
    refine fnOk tab mix G.ref1_Turn rfl rfl (by kernel_rfl) rfl rfl ?_
    (conv => whnf)
    refine call_i (ref1_Valid a) ?_
    (conv => whnf)
    rw [ha]
    (conv => whnf)
    (conv => whnf)
    refine ret0 ?_
    exact ⟨[], ⟨rfl, trivial⟩, trivial⟩
  | true =>
  rw [if_neg (by decide)]
  refine fnOk tab mix G.ref1_Turn rfl rfl (by kernel_rfl) rfl rfl ?_
  (conv => whnf)
  refine call_i (ref1_Valid a) ?_
  (conv => whnf)
  rw [ha]
  (conv => whnf)
  refine call_i (ref1_Of 65536) ?_
  (conv => whnf)
  refine call_i (ref1_CosOver a) ?_
  (conv => whnf)
  refine call_i (ref1_SinOver a) ?_
  (conv => whnf)
  refine call_i (ref1_Neg (sinO a)) ?_
  (conv => whnf)
  refine ask_m (fun h1 => ?_) (fun h1 => ?_)
  · have h1 : k = 0 := by simpa using h1
    rw [if_pos h1]
    (conv => whnf)
    refine ret0 ?_
    exact ⟨[], ⟨rfl, trivial⟩, trivial⟩
  have h1 : ¬ k = 0 := by simpa using h1
  rw [if_neg h1]
  (conv => whnf)
  refine ask_m (fun h2 => ?_) (fun h2 => ?_)
  · have h2 : k = 1 := by simpa using h2
    rw [if_pos h2]
    (conv => whnf)
    refine ret0 ?_
    exact ⟨[], ⟨rfl, trivial⟩, trivial⟩
  have h2 : ¬ k = 1 := by simpa using h2
  rw [if_neg h2]
  (conv => whnf)
  refine ask_m (fun h3 => ?_) (fun h3 => ?_)
  · have h3 : k = 2 := by simpa using h3
    rw [if_pos h3]
    (conv => whnf)
    refine ret0 ?_
    exact ⟨[], ⟨rfl, trivial⟩, trivial⟩
  have h3 : ¬ k = 2 := by simpa using h3
  rw [if_neg h3]
  (conv => whnf)
  refine ret0 ?_
  exact ⟨[], ⟨rfl, trivial⟩, trivial⟩
theorem ref1_TurnPose (k : Int) (a : Ival) : FnOk Tryz.prog F.ref1_TurnPose [I k, Iv a] [] 0 (IvP ⟨turnM k a, v0⟩) [] 0 := by
  refine fnOk tab mix G.ref1_TurnPose rfl rfl (by kernel_rfl) rfl rfl ?_
  (conv => whnf)
  refine call_i (ref1_Turn k a) ?_
  (conv => whnf)
  (conv => whnf)
  refine ret0 ?_
  exact ⟨[], ⟨rfl, trivial⟩, trivial⟩
abbrev apS (m : IM) (v : IV) (k : Nat) : List CV := [.dv (.int .i64 (bif Nat.blt 0 k then (appM m v).x.lo else 0)), .dv (.int .i64 (bif Nat.blt 0 k then (appM m v).x.hi else 0)), .dv (.int .i64 (bif Nat.blt 1 k then (appM m v).y.lo else 0)), .dv (.int .i64 (bif Nat.blt 1 k then (appM m v).y.hi else 0)), .dv (.int .i64 (bif Nat.blt 2 k then (appM m v).z.lo else 0)), .dv (.int .i64 (bif Nat.blt 2 k then (appM m v).z.hi else 0))]
abbrev coS (a b : IM) (k : Nat) : List CV := [.dv (.int .i64 (bif Nat.blt 0 k then (comM a b).a.x.lo else 0)), .dv (.int .i64 (bif Nat.blt 0 k then (comM a b).a.x.hi else 0)), .dv (.int .i64 (bif Nat.blt 1 k then (comM a b).a.y.lo else 0)), .dv (.int .i64 (bif Nat.blt 1 k then (comM a b).a.y.hi else 0)), .dv (.int .i64 (bif Nat.blt 2 k then (comM a b).a.z.lo else 0)), .dv (.int .i64 (bif Nat.blt 2 k then (comM a b).a.z.hi else 0)), .dv (.int .i64 (bif Nat.blt 3 k then (comM a b).b.x.lo else 0)), .dv (.int .i64 (bif Nat.blt 3 k then (comM a b).b.x.hi else 0)), .dv (.int .i64 (bif Nat.blt 4 k then (comM a b).b.y.lo else 0)), .dv (.int .i64 (bif Nat.blt 4 k then (comM a b).b.y.hi else 0)), .dv (.int .i64 (bif Nat.blt 5 k then (comM a b).b.z.lo else 0)), .dv (.int .i64 (bif Nat.blt 5 k then (comM a b).b.z.hi else 0)), .dv (.int .i64 (bif Nat.blt 6 k then (comM a b).c.x.lo else 0)), .dv (.int .i64 (bif Nat.blt 6 k then (comM a b).c.x.hi else 0)), .dv (.int .i64 (bif Nat.blt 7 k then (comM a b).c.y.lo else 0)), .dv (.int .i64 (bif Nat.blt 7 k then (comM a b).c.y.hi else 0)), .dv (.int .i64 (bif Nat.blt 8 k then (comM a b).c.z.lo else 0)), .dv (.int .i64 (bif Nat.blt 8 k then (comM a b).c.z.hi else 0))]
abbrev z6 : List CV := [.dv (.int .i64 0), .dv (.int .i64 0), .dv (.int .i64 0), .dv (.int .i64 0), .dv (.int .i64 0), .dv (.int .i64 0)]
abbrev z18 : List CV := [.dv (.int .i64 0), .dv (.int .i64 0), .dv (.int .i64 0), .dv (.int .i64 0), .dv (.int .i64 0), .dv (.int .i64 0), .dv (.int .i64 0), .dv (.int .i64 0), .dv (.int .i64 0), .dv (.int .i64 0), .dv (.int .i64 0), .dv (.int .i64 0), .dv (.int .i64 0), .dv (.int .i64 0), .dv (.int .i64 0), .dv (.int .i64 0), .dv (.int .i64 0), .dv (.int .i64 0)]
set_option maxHeartbeats 2000000 in
theorem ref1_ApplyMat (m : IM) (v : IV) : FnOk Tryz.prog F.ref1_ApplyMat [IvM m, IvV v] [] 0 (IvV (appM m v)) [] 0 := by
  refine fnOk tab mix G.ref1_ApplyMat rfl rfl (by kernel_rfl) rfl rfl ?_
  (conv => whnf)
  refine loop_intro (fun k : Nat => ⟨[(2, .one (.vptr 0 0)), (3, .one (.vptr 1 0)), (4, .one (.vptr 2 0)), (5, .one (.vptr 3 0)), (6, I k)], [(0, .vars Y.IMat (c18 m)), (1, .vars Y.IVec (c6 v)), (2, .vars Y.IVec z6), (3, .vars Y.IVec (apS m v k))], 4⟩) (fun k => k ≤ 3) (fun k => 3 - k) [] 0 [] (by decide) ⟨⟨rfl, rfl, rfl, rfl, rfl, trivial⟩, ⟨rfl, rfl, rfl, rfl, trivial⟩⟩ ?_
  rintro k hk
  obtain rfl | rfl | rfl | rfl : k = 0 ∨ k = 1 ∨ k = 2 ∨ k = 3 := by omega
  · (conv => whnf)
    refine ⟨⟨by decide, by decide⟩, ?_⟩
    (conv => whnf)
    refine ⟨⟨by decide, by decide⟩, ?_⟩
    (conv => whnf)
    refine ⟨⟨by decide, by decide⟩, ?_⟩
    (conv => whnf)
    refine call_i (ref1_Mul m.a.x v.x) ?_
    (conv => whnf)
    refine ⟨⟨by decide, by decide⟩, ?_⟩
    (conv => whnf)
    refine ⟨⟨by decide, by decide⟩, ?_⟩
    (conv => whnf)
    refine ⟨⟨by decide, by decide⟩, ?_⟩
    (conv => whnf)
    refine call_i (ref1_Mul m.a.y v.y) ?_
    (conv => whnf)
    refine call_i (ref1_Add _ _) ?_
    (conv => whnf)
    refine ⟨⟨by decide, by decide⟩, ?_⟩
    (conv => whnf)
    refine ⟨⟨by decide, by decide⟩, ?_⟩
    (conv => whnf)
    refine ⟨⟨by decide, by decide⟩, ?_⟩
    (conv => whnf)
    refine call_i (ref1_Mul m.a.z v.z) ?_
    (conv => whnf)
    refine call_i (ref1_Add _ _) ?_
    (conv => whnf)
    refine ⟨⟨by decide, by decide⟩, ?_⟩
    (conv => whnf)
    exact ⟨1, [], by decide, by decide, ⟨⟨rfl, rfl, rfl, rfl, eqI (by decide), trivial⟩, ⟨rfl, rfl, rfl, rfl, trivial⟩⟩⟩
  · (conv => whnf)
    refine ⟨⟨by decide, by decide⟩, ?_⟩
    (conv => whnf)
    refine ⟨⟨by decide, by decide⟩, ?_⟩
    (conv => whnf)
    refine ⟨⟨by decide, by decide⟩, ?_⟩
    (conv => whnf)
    refine call_i (ref1_Mul m.b.x v.x) ?_
    (conv => whnf)
    refine ⟨⟨by decide, by decide⟩, ?_⟩
    (conv => whnf)
    refine ⟨⟨by decide, by decide⟩, ?_⟩
    (conv => whnf)
    refine ⟨⟨by decide, by decide⟩, ?_⟩
    (conv => whnf)
    refine call_i (ref1_Mul m.b.y v.y) ?_
    (conv => whnf)
    refine call_i (ref1_Add _ _) ?_
    (conv => whnf)
    refine ⟨⟨by decide, by decide⟩, ?_⟩
    (conv => whnf)
    refine ⟨⟨by decide, by decide⟩, ?_⟩
    (conv => whnf)
    refine ⟨⟨by decide, by decide⟩, ?_⟩
    (conv => whnf)
    refine call_i (ref1_Mul m.b.z v.z) ?_
    (conv => whnf)
    refine call_i (ref1_Add _ _) ?_
    (conv => whnf)
    refine ⟨⟨by decide, by decide⟩, ?_⟩
    (conv => whnf)
    exact ⟨2, [], by decide, by decide, ⟨⟨rfl, rfl, rfl, rfl, eqI (by decide), trivial⟩, ⟨rfl, rfl, rfl, rfl, trivial⟩⟩⟩
  · (conv => whnf)
    refine ⟨⟨by decide, by decide⟩, ?_⟩
    (conv => whnf)
    refine ⟨⟨by decide, by decide⟩, ?_⟩
    (conv => whnf)
    refine ⟨⟨by decide, by decide⟩, ?_⟩
    (conv => whnf)
    refine call_i (ref1_Mul m.c.x v.x) ?_
    (conv => whnf)
    refine ⟨⟨by decide, by decide⟩, ?_⟩
    (conv => whnf)
    refine ⟨⟨by decide, by decide⟩, ?_⟩
    (conv => whnf)
    refine ⟨⟨by decide, by decide⟩, ?_⟩
    (conv => whnf)
    refine call_i (ref1_Mul m.c.y v.y) ?_
    (conv => whnf)
    refine call_i (ref1_Add _ _) ?_
    (conv => whnf)
    refine ⟨⟨by decide, by decide⟩, ?_⟩
    (conv => whnf)
    refine ⟨⟨by decide, by decide⟩, ?_⟩
    (conv => whnf)
    refine ⟨⟨by decide, by decide⟩, ?_⟩
    (conv => whnf)
    refine call_i (ref1_Mul m.c.z v.z) ?_
    (conv => whnf)
    refine call_i (ref1_Add _ _) ?_
    (conv => whnf)
    refine ⟨⟨by decide, by decide⟩, ?_⟩
    (conv => whnf)
    exact ⟨3, [], by decide, by decide, ⟨⟨rfl, rfl, rfl, rfl, eqI (by decide), trivial⟩, ⟨rfl, rfl, rfl, rfl, trivial⟩⟩⟩
  · (conv => whnf)
    (conv => whnf)
    refine ret0 ?_
    exact ⟨[], ⟨rfl, trivial⟩, trivial⟩
set_option maxHeartbeats 8000000 in
theorem ref1_ComposeMat (a b : IM) : FnOk Tryz.prog F.ref1_ComposeMat [IvM a, IvM b] [] 0 (IvM (comM a b)) [] 0 := by
  refine fnOk tab mix G.ref1_ComposeMat rfl rfl (by kernel_rfl) rfl rfl ?_
  (conv => whnf)
  refine loop_intro (fun k : Nat => ⟨[(2, .one (.vptr 0 0)), (3, .one (.vptr 1 0)), (4, .one (.vptr 2 0)), (5, .one (.vptr 3 0)), (6, I k)], [(0, .vars Y.IMat (c18 a)), (1, .vars Y.IMat (c18 b)), (2, .vars Y.IMat z18), (3, .vars Y.IMat (coS a b (3 * k)))], 4⟩) (fun k => k ≤ 3) (fun k => 3 - k) [] 0 [] (by decide) ⟨⟨rfl, rfl, rfl, rfl, rfl, trivial⟩, ⟨rfl, rfl, rfl, rfl, trivial⟩⟩ ?_
  rintro k hk
  obtain rfl | rfl | rfl | rfl : k = 0 ∨ k = 1 ∨ k = 2 ∨ k = 3 := by omega
  · (conv => whnf)
    refine loop_intro (fun k : Nat => ⟨[(2, .one (.vptr 0 0)), (3, .one (.vptr 1 0)), (4, .one (.vptr 2 0)), (5, .one (.vptr 3 0)), (6, I 0), (7, I k)], [(0, .vars Y.IMat (c18 a)), (1, .vars Y.IMat (c18 b)), (2, .vars Y.IMat z18), (3, .vars Y.IMat (coS a b (3 * 0 + k)))], 4⟩) (fun k => k ≤ 3) (fun k => 3 - k) [] 0 [] (by decide) ⟨⟨rfl, rfl, rfl, rfl, rfl, rfl, trivial⟩, ⟨rfl, rfl, rfl, rfl, trivial⟩⟩ ?_
    rintro k hk
    obtain rfl | rfl | rfl | rfl : k = 0 ∨ k = 1 ∨ k = 2 ∨ k = 3 := by omega
    · (conv => whnf)
      refine ⟨⟨by decide, by decide⟩, ?_⟩
      (conv => whnf)
      refine ⟨⟨by decide, by decide⟩, ?_⟩
      (conv => whnf)
      refine ⟨⟨by decide, by decide⟩, ?_⟩
      (conv => whnf)
      refine ⟨⟨by decide, by decide⟩, ?_⟩
      (conv => whnf)
      refine call_i (ref1_Mul a.a.x b.a.x) ?_
      (conv => whnf)
      refine ⟨⟨by decide, by decide⟩, ?_⟩
      (conv => whnf)
      refine ⟨⟨by decide, by decide⟩, ?_⟩
      (conv => whnf)
      refine ⟨⟨by decide, by decide⟩, ?_⟩
      (conv => whnf)
      refine ⟨⟨by decide, by decide⟩, ?_⟩
      (conv => whnf)
      refine call_i (ref1_Mul a.a.y b.b.x) ?_
      (conv => whnf)
      refine call_i (ref1_Add _ _) ?_
      (conv => whnf)
      refine ⟨⟨by decide, by decide⟩, ?_⟩
      (conv => whnf)
      refine ⟨⟨by decide, by decide⟩, ?_⟩
      (conv => whnf)
      refine ⟨⟨by decide, by decide⟩, ?_⟩
      (conv => whnf)
      refine ⟨⟨by decide, by decide⟩, ?_⟩
      (conv => whnf)
      refine call_i (ref1_Mul a.a.z b.c.x) ?_
      (conv => whnf)
      refine call_i (ref1_Add _ _) ?_
      (conv => whnf)
      refine ⟨⟨by decide, by decide⟩, ?_⟩
      (conv => whnf)
      refine ⟨⟨by decide, by decide⟩, ?_⟩
      (conv => whnf)
      exact ⟨1, [], by decide, by decide, ⟨⟨rfl, rfl, rfl, rfl, rfl, eqI (by decide), trivial⟩, ⟨rfl, rfl, rfl, rfl, trivial⟩⟩⟩
    · (conv => whnf)
      refine ⟨⟨by decide, by decide⟩, ?_⟩
      (conv => whnf)
      refine ⟨⟨by decide, by decide⟩, ?_⟩
      (conv => whnf)
      refine ⟨⟨by decide, by decide⟩, ?_⟩
      (conv => whnf)
      refine ⟨⟨by decide, by decide⟩, ?_⟩
      (conv => whnf)
      refine call_i (ref1_Mul a.a.x b.a.y) ?_
      (conv => whnf)
      refine ⟨⟨by decide, by decide⟩, ?_⟩
      (conv => whnf)
      refine ⟨⟨by decide, by decide⟩, ?_⟩
      (conv => whnf)
      refine ⟨⟨by decide, by decide⟩, ?_⟩
      (conv => whnf)
      refine ⟨⟨by decide, by decide⟩, ?_⟩
      (conv => whnf)
      refine call_i (ref1_Mul a.a.y b.b.y) ?_
      (conv => whnf)
      refine call_i (ref1_Add _ _) ?_
      (conv => whnf)
      refine ⟨⟨by decide, by decide⟩, ?_⟩
      (conv => whnf)
      refine ⟨⟨by decide, by decide⟩, ?_⟩
      (conv => whnf)
      refine ⟨⟨by decide, by decide⟩, ?_⟩
      (conv => whnf)
      refine ⟨⟨by decide, by decide⟩, ?_⟩
      (conv => whnf)
      refine call_i (ref1_Mul a.a.z b.c.y) ?_
      (conv => whnf)
      refine call_i (ref1_Add _ _) ?_
      (conv => whnf)
      refine ⟨⟨by decide, by decide⟩, ?_⟩
      (conv => whnf)
      refine ⟨⟨by decide, by decide⟩, ?_⟩
      (conv => whnf)
      exact ⟨2, [], by decide, by decide, ⟨⟨rfl, rfl, rfl, rfl, rfl, eqI (by decide), trivial⟩, ⟨rfl, rfl, rfl, rfl, trivial⟩⟩⟩
    · (conv => whnf)
      refine ⟨⟨by decide, by decide⟩, ?_⟩
      (conv => whnf)
      refine ⟨⟨by decide, by decide⟩, ?_⟩
      (conv => whnf)
      refine ⟨⟨by decide, by decide⟩, ?_⟩
      (conv => whnf)
      refine ⟨⟨by decide, by decide⟩, ?_⟩
      (conv => whnf)
      refine call_i (ref1_Mul a.a.x b.a.z) ?_
      (conv => whnf)
      refine ⟨⟨by decide, by decide⟩, ?_⟩
      (conv => whnf)
      refine ⟨⟨by decide, by decide⟩, ?_⟩
      (conv => whnf)
      refine ⟨⟨by decide, by decide⟩, ?_⟩
      (conv => whnf)
      refine ⟨⟨by decide, by decide⟩, ?_⟩
      (conv => whnf)
      refine call_i (ref1_Mul a.a.y b.b.z) ?_
      (conv => whnf)
      refine call_i (ref1_Add _ _) ?_
      (conv => whnf)
      refine ⟨⟨by decide, by decide⟩, ?_⟩
      (conv => whnf)
      refine ⟨⟨by decide, by decide⟩, ?_⟩
      (conv => whnf)
      refine ⟨⟨by decide, by decide⟩, ?_⟩
      (conv => whnf)
      refine ⟨⟨by decide, by decide⟩, ?_⟩
      (conv => whnf)
      refine call_i (ref1_Mul a.a.z b.c.z) ?_
      (conv => whnf)
      refine call_i (ref1_Add _ _) ?_
      (conv => whnf)
      refine ⟨⟨by decide, by decide⟩, ?_⟩
      (conv => whnf)
      refine ⟨⟨by decide, by decide⟩, ?_⟩
      (conv => whnf)
      exact ⟨3, [], by decide, by decide, ⟨⟨rfl, rfl, rfl, rfl, rfl, eqI (by decide), trivial⟩, ⟨rfl, rfl, rfl, rfl, trivial⟩⟩⟩
    · (conv => whnf)
      exact ⟨1, [], by decide, by decide, ⟨⟨rfl, rfl, rfl, rfl, eqI (by decide), trivial⟩, ⟨rfl, rfl, rfl, rfl, trivial⟩⟩⟩
  · (conv => whnf)
    refine loop_intro (fun k : Nat => ⟨[(2, .one (.vptr 0 0)), (3, .one (.vptr 1 0)), (4, .one (.vptr 2 0)), (5, .one (.vptr 3 0)), (6, I 1), (7, I k)], [(0, .vars Y.IMat (c18 a)), (1, .vars Y.IMat (c18 b)), (2, .vars Y.IMat z18), (3, .vars Y.IMat (coS a b (3 * 1 + k)))], 4⟩) (fun k => k ≤ 3) (fun k => 3 - k) [] 0 [] (by decide) ⟨⟨rfl, rfl, rfl, rfl, rfl, rfl, trivial⟩, ⟨rfl, rfl, rfl, rfl, trivial⟩⟩ ?_
    rintro k hk
    obtain rfl | rfl | rfl | rfl : k = 0 ∨ k = 1 ∨ k = 2 ∨ k = 3 := by omega
    · (conv => whnf)
      refine ⟨⟨by decide, by decide⟩, ?_⟩
      (conv => whnf)
      refine ⟨⟨by decide, by decide⟩, ?_⟩
      (conv => whnf)
      refine ⟨⟨by decide, by decide⟩, ?_⟩
      (conv => whnf)
      refine ⟨⟨by decide, by decide⟩, ?_⟩
      (conv => whnf)
      refine call_i (ref1_Mul a.b.x b.a.x) ?_
      (conv => whnf)
      refine ⟨⟨by decide, by decide⟩, ?_⟩
      (conv => whnf)
      refine ⟨⟨by decide, by decide⟩, ?_⟩
      (conv => whnf)
      refine ⟨⟨by decide, by decide⟩, ?_⟩
      (conv => whnf)
      refine ⟨⟨by decide, by decide⟩, ?_⟩
      (conv => whnf)
      refine call_i (ref1_Mul a.b.y b.b.x) ?_
      (conv => whnf)
      refine call_i (ref1_Add _ _) ?_
      (conv => whnf)
      refine ⟨⟨by decide, by decide⟩, ?_⟩
      (conv => whnf)
      refine ⟨⟨by decide, by decide⟩, ?_⟩
      (conv => whnf)
      refine ⟨⟨by decide, by decide⟩, ?_⟩
      (conv => whnf)
      refine ⟨⟨by decide, by decide⟩, ?_⟩
      (conv => whnf)
      refine call_i (ref1_Mul a.b.z b.c.x) ?_
      (conv => whnf)
      refine call_i (ref1_Add _ _) ?_
      (conv => whnf)
      refine ⟨⟨by decide, by decide⟩, ?_⟩
      (conv => whnf)
      refine ⟨⟨by decide, by decide⟩, ?_⟩
      (conv => whnf)
      exact ⟨1, [], by decide, by decide, ⟨⟨rfl, rfl, rfl, rfl, rfl, eqI (by decide), trivial⟩, ⟨rfl, rfl, rfl, rfl, trivial⟩⟩⟩
    · (conv => whnf)
      refine ⟨⟨by decide, by decide⟩, ?_⟩
      (conv => whnf)
      refine ⟨⟨by decide, by decide⟩, ?_⟩
      (conv => whnf)
      refine ⟨⟨by decide, by decide⟩, ?_⟩
      (conv => whnf)
      refine ⟨⟨by decide, by decide⟩, ?_⟩
      (conv => whnf)
      refine call_i (ref1_Mul a.b.x b.a.y) ?_
      (conv => whnf)
      refine ⟨⟨by decide, by decide⟩, ?_⟩
      (conv => whnf)
      refine ⟨⟨by decide, by decide⟩, ?_⟩
      (conv => whnf)
      refine ⟨⟨by decide, by decide⟩, ?_⟩
      (conv => whnf)
      refine ⟨⟨by decide, by decide⟩, ?_⟩
      (conv => whnf)
      refine call_i (ref1_Mul a.b.y b.b.y) ?_
      (conv => whnf)
      refine call_i (ref1_Add _ _) ?_
      (conv => whnf)
      refine ⟨⟨by decide, by decide⟩, ?_⟩
      (conv => whnf)
      refine ⟨⟨by decide, by decide⟩, ?_⟩
      (conv => whnf)
      refine ⟨⟨by decide, by decide⟩, ?_⟩
      (conv => whnf)
      refine ⟨⟨by decide, by decide⟩, ?_⟩
      (conv => whnf)
      refine call_i (ref1_Mul a.b.z b.c.y) ?_
      (conv => whnf)
      refine call_i (ref1_Add _ _) ?_
      (conv => whnf)
      refine ⟨⟨by decide, by decide⟩, ?_⟩
      (conv => whnf)
      refine ⟨⟨by decide, by decide⟩, ?_⟩
      (conv => whnf)
      exact ⟨2, [], by decide, by decide, ⟨⟨rfl, rfl, rfl, rfl, rfl, eqI (by decide), trivial⟩, ⟨rfl, rfl, rfl, rfl, trivial⟩⟩⟩
    · (conv => whnf)
      refine ⟨⟨by decide, by decide⟩, ?_⟩
      (conv => whnf)
      refine ⟨⟨by decide, by decide⟩, ?_⟩
      (conv => whnf)
      refine ⟨⟨by decide, by decide⟩, ?_⟩
      (conv => whnf)
      refine ⟨⟨by decide, by decide⟩, ?_⟩
      (conv => whnf)
      refine call_i (ref1_Mul a.b.x b.a.z) ?_
      (conv => whnf)
      refine ⟨⟨by decide, by decide⟩, ?_⟩
      (conv => whnf)
      refine ⟨⟨by decide, by decide⟩, ?_⟩
      (conv => whnf)
      refine ⟨⟨by decide, by decide⟩, ?_⟩
      (conv => whnf)
      refine ⟨⟨by decide, by decide⟩, ?_⟩
      (conv => whnf)
      refine call_i (ref1_Mul a.b.y b.b.z) ?_
      (conv => whnf)
      refine call_i (ref1_Add _ _) ?_
      (conv => whnf)
      refine ⟨⟨by decide, by decide⟩, ?_⟩
      (conv => whnf)
      refine ⟨⟨by decide, by decide⟩, ?_⟩
      (conv => whnf)
      refine ⟨⟨by decide, by decide⟩, ?_⟩
      (conv => whnf)
      refine ⟨⟨by decide, by decide⟩, ?_⟩
      (conv => whnf)
      refine call_i (ref1_Mul a.b.z b.c.z) ?_
      (conv => whnf)
      refine call_i (ref1_Add _ _) ?_
      (conv => whnf)
      refine ⟨⟨by decide, by decide⟩, ?_⟩
      (conv => whnf)
      refine ⟨⟨by decide, by decide⟩, ?_⟩
      (conv => whnf)
      exact ⟨3, [], by decide, by decide, ⟨⟨rfl, rfl, rfl, rfl, rfl, eqI (by decide), trivial⟩, ⟨rfl, rfl, rfl, rfl, trivial⟩⟩⟩
    · (conv => whnf)
      exact ⟨2, [], by decide, by decide, ⟨⟨rfl, rfl, rfl, rfl, eqI (by decide), trivial⟩, ⟨rfl, rfl, rfl, rfl, trivial⟩⟩⟩
  · (conv => whnf)
    refine loop_intro (fun k : Nat => ⟨[(2, .one (.vptr 0 0)), (3, .one (.vptr 1 0)), (4, .one (.vptr 2 0)), (5, .one (.vptr 3 0)), (6, I 2), (7, I k)], [(0, .vars Y.IMat (c18 a)), (1, .vars Y.IMat (c18 b)), (2, .vars Y.IMat z18), (3, .vars Y.IMat (coS a b (3 * 2 + k)))], 4⟩) (fun k => k ≤ 3) (fun k => 3 - k) [] 0 [] (by decide) ⟨⟨rfl, rfl, rfl, rfl, rfl, rfl, trivial⟩, ⟨rfl, rfl, rfl, rfl, trivial⟩⟩ ?_
    rintro k hk
    obtain rfl | rfl | rfl | rfl : k = 0 ∨ k = 1 ∨ k = 2 ∨ k = 3 := by omega
    · (conv => whnf)
      refine ⟨⟨by decide, by decide⟩, ?_⟩
      (conv => whnf)
      refine ⟨⟨by decide, by decide⟩, ?_⟩
      (conv => whnf)
      refine ⟨⟨by decide, by decide⟩, ?_⟩
      (conv => whnf)
      refine ⟨⟨by decide, by decide⟩, ?_⟩
      (conv => whnf)
      refine call_i (ref1_Mul a.c.x b.a.x) ?_
      (conv => whnf)
      refine ⟨⟨by decide, by decide⟩, ?_⟩
      (conv => whnf)
      refine ⟨⟨by decide, by decide⟩, ?_⟩
      (conv => whnf)
      refine ⟨⟨by decide, by decide⟩, ?_⟩
      (conv => whnf)
      refine ⟨⟨by decide, by decide⟩, ?_⟩
      (conv => whnf)
      refine call_i (ref1_Mul a.c.y b.b.x) ?_
      (conv => whnf)
      refine call_i (ref1_Add _ _) ?_
      (conv => whnf)
      refine ⟨⟨by decide, by decide⟩, ?_⟩
      (conv => whnf)
      refine ⟨⟨by decide, by decide⟩, ?_⟩
      (conv => whnf)
      refine ⟨⟨by decide, by decide⟩, ?_⟩
      (conv => whnf)
      refine ⟨⟨by decide, by decide⟩, ?_⟩
      (conv => whnf)
      refine call_i (ref1_Mul a.c.z b.c.x) ?_
      (conv => whnf)
      refine call_i (ref1_Add _ _) ?_
      (conv => whnf)
      refine ⟨⟨by decide, by decide⟩, ?_⟩
      (conv => whnf)
      refine ⟨⟨by decide, by decide⟩, ?_⟩
      (conv => whnf)
      exact ⟨1, [], by decide, by decide, ⟨⟨rfl, rfl, rfl, rfl, rfl, eqI (by decide), trivial⟩, ⟨rfl, rfl, rfl, rfl, trivial⟩⟩⟩
    · (conv => whnf)
      refine ⟨⟨by decide, by decide⟩, ?_⟩
      (conv => whnf)
      refine ⟨⟨by decide, by decide⟩, ?_⟩
      (conv => whnf)
      refine ⟨⟨by decide, by decide⟩, ?_⟩
      (conv => whnf)
      refine ⟨⟨by decide, by decide⟩, ?_⟩
      (conv => whnf)
      refine call_i (ref1_Mul a.c.x b.a.y) ?_
      (conv => whnf)
      refine ⟨⟨by decide, by decide⟩, ?_⟩
      (conv => whnf)
      refine ⟨⟨by decide, by decide⟩, ?_⟩
      (conv => whnf)
      refine ⟨⟨by decide, by decide⟩, ?_⟩
      (conv => whnf)
      refine ⟨⟨by decide, by decide⟩, ?_⟩
      (conv => whnf)
      refine call_i (ref1_Mul a.c.y b.b.y) ?_
      (conv => whnf)
      refine call_i (ref1_Add _ _) ?_
      (conv => whnf)
      refine ⟨⟨by decide, by decide⟩, ?_⟩
      (conv => whnf)
      refine ⟨⟨by decide, by decide⟩, ?_⟩
      (conv => whnf)
      refine ⟨⟨by decide, by decide⟩, ?_⟩
      (conv => whnf)
      refine ⟨⟨by decide, by decide⟩, ?_⟩
      (conv => whnf)
      refine call_i (ref1_Mul a.c.z b.c.y) ?_
      (conv => whnf)
      refine call_i (ref1_Add _ _) ?_
      (conv => whnf)
      refine ⟨⟨by decide, by decide⟩, ?_⟩
      (conv => whnf)
      refine ⟨⟨by decide, by decide⟩, ?_⟩
      (conv => whnf)
      exact ⟨2, [], by decide, by decide, ⟨⟨rfl, rfl, rfl, rfl, rfl, eqI (by decide), trivial⟩, ⟨rfl, rfl, rfl, rfl, trivial⟩⟩⟩
    · (conv => whnf)
      refine ⟨⟨by decide, by decide⟩, ?_⟩
      (conv => whnf)
      refine ⟨⟨by decide, by decide⟩, ?_⟩
      (conv => whnf)
      refine ⟨⟨by decide, by decide⟩, ?_⟩
      (conv => whnf)
      refine ⟨⟨by decide, by decide⟩, ?_⟩
      (conv => whnf)
      refine call_i (ref1_Mul a.c.x b.a.z) ?_
      (conv => whnf)
      refine ⟨⟨by decide, by decide⟩, ?_⟩
      (conv => whnf)
      refine ⟨⟨by decide, by decide⟩, ?_⟩
      (conv => whnf)
      refine ⟨⟨by decide, by decide⟩, ?_⟩
      (conv => whnf)
      refine ⟨⟨by decide, by decide⟩, ?_⟩
      (conv => whnf)
      refine call_i (ref1_Mul a.c.y b.b.z) ?_
      (conv => whnf)
      refine call_i (ref1_Add _ _) ?_
      (conv => whnf)
      refine ⟨⟨by decide, by decide⟩, ?_⟩
      (conv => whnf)
      refine ⟨⟨by decide, by decide⟩, ?_⟩
      (conv => whnf)
      refine ⟨⟨by decide, by decide⟩, ?_⟩
      (conv => whnf)
      refine ⟨⟨by decide, by decide⟩, ?_⟩
      (conv => whnf)
      refine call_i (ref1_Mul a.c.z b.c.z) ?_
      (conv => whnf)
      refine call_i (ref1_Add _ _) ?_
      (conv => whnf)
      refine ⟨⟨by decide, by decide⟩, ?_⟩
      (conv => whnf)
      refine ⟨⟨by decide, by decide⟩, ?_⟩
      (conv => whnf)
      exact ⟨3, [], by decide, by decide, ⟨⟨rfl, rfl, rfl, rfl, rfl, eqI (by decide), trivial⟩, ⟨rfl, rfl, rfl, rfl, trivial⟩⟩⟩
    · (conv => whnf)
      exact ⟨3, [], by decide, by decide, ⟨⟨rfl, rfl, rfl, rfl, eqI (by decide), trivial⟩, ⟨rfl, rfl, rfl, rfl, trivial⟩⟩⟩
  · (conv => whnf)
    (conv => whnf)
    refine ret0 ?_
    exact ⟨[], ⟨rfl, trivial⟩, trivial⟩
theorem ref1_Compose (a b : Ps) : FnOk Tryz.prog F.ref1_Compose [IvP a, IvP b] [] 0 (IvP (comP a b)) [] 0 := by
  refine fnOk tab mix G.ref1_Compose rfl rfl (by kernel_rfl) rfl rfl ?_
  (conv => whnf)
  refine call_i (ref1_ComposeMat a.r b.r) ?_
  (conv => whnf)
  refine call_i (ref1_ApplyMat a.r b.t) ?_
  (conv => whnf)
  refine call_i (ref1_AddVec a.t (appM a.r b.t)) ?_
  (conv => whnf)
  (conv => whnf)
  refine ret0 ?_
  exact ⟨[], ⟨rfl, trivial⟩, trivial⟩
theorem ref1_Apply (p : Ps) (v : IV) : FnOk Tryz.prog F.ref1_Apply [IvP p, IvV v] [] 0 (IvV (appP p v)) [] 0 := by
  refine fnOk tab mix G.ref1_Apply rfl rfl (by kernel_rfl) rfl rfl ?_
  (conv => whnf)
  refine call_i (ref1_ApplyMat p.r v) ?_
  (conv => whnf)
  refine call_i (ref1_AddVec p.t (appM p.r v)) ?_
  (conv => whnf)
  (conv => whnf)
  refine ret0 ?_
  exact ⟨[], ⟨rfl, trivial⟩, trivial⟩
end Go.Proofs.YthdbdokhncaijaaGreat

/- Interval kinematics: the walks of the reference's joints, links and points. -/
namespace Go.Proofs.YthdbdokhncaijaaGreat
open Eng
set_option maxRecDepth 10000
attribute [local irreducible] FnOk loopW idxF retX arrF

def shapeB (s : Shape) : Bool := decide (1 ≤ s.radius) && decide (s.radius ≤ 1048576) && decide (1 ≤ s.points.length) && decide (s.points.length ≤ 8) && s.points.all (inV · 4194304)
theorem ref_CheckShape (s : Shape) (hp : s.points.length ≤ 4611686018427387904) : FnOk Tryz.prog F.ref10_CheckShape [Sh s] [] 0 (Bo (shapeB s)) [] 0 := by
  refine fnOk tab mix G.ref10_CheckShape rfl rfl (by kernel_rfl) rfl rfl ?_
  (conv => whnf)
  refine ask_m (fun h1 => ?_) (fun h1 => ?_)
  · have h1 := of_decide_eq_true h1
    (conv => whnf)
    refine ret0 ?_
    exact ret_b (by simp [shapeB]; omega) rfl
  have h1 := of_decide_eq_false h1
  (conv => whnf)
  refine ask_m (fun h2 => ?_) (fun h2 => ?_)
  · have h2 := of_decide_eq_true h2
    (conv => whnf)
    refine ret0 ?_
    exact ret_b (by simp [shapeB]; omega) rfl
  have h2 := of_decide_eq_false h2
  (conv => whnf)
  refine ask_m (fun h3 => ?_) (fun h3 => ?_)
  · have h3 := of_decide_eq_true h3
    simp only [List.length_map] at h3
    (conv => whnf)
    refine ret0 ?_
    exact ret_b (by simp [shapeB]; omega) rfl
  have h3 := of_decide_eq_false h3
  simp only [List.length_map] at h3
  (conv => whnf)
  refine ask_m (fun h4 => ?_) (fun h4 => ?_)
  · have h4 := of_decide_eq_true h4
    simp only [List.length_map] at h4
    (conv => whnf)
    refine ret0 ?_
    exact ret_b (by simp [shapeB]; omega) rfl
  have h4 := of_decide_eq_false h4
  simp only [List.length_map] at h4
  have e : shapeB s = s.points.all (inV · 4194304) := by
    rw [shapeB, decide_eq_true (show 1 ≤ s.radius by omega), decide_eq_true (show s.radius ≤ 1048576 by omega), decide_eq_true (show 1 ≤ s.points.length by omega), decide_eq_true (show s.points.length ≤ 8 by omega)]
    simp
  rw [e]
  (conv => whnf)
  refine loop_intro (fun k : Nat => ⟨[(1, .one (.vptr 0 0)), (3, I k)], [(0, .vars Y.Shape [.dv (.int .i64 s.link), .dv (.int .i64 s.radius), .dv (dVs s.points)])], 1⟩) (fun k => k ≤ s.points.length ∧ (s.points.take k).all (inV · 4194304) = true) (fun k => s.points.length - k) [] 0 [] ⟨Nat.zero_le _, rfl⟩ ⟨⟨rfl, rfl, trivial⟩, ⟨rfl, trivial⟩⟩ ?_
  rintro k ⟨hk, hall⟩
  have hkk : IntKind.i64.wrap ((k : Int) + 1) = ((k + 1 : Nat) : Int) := by rw [w64] <;> omega
  (conv => whnf)
  refine ask_m (fun h => ?_) (fun h => ?_)
  · have hlt : k < s.points.length := by have := of_decide_eq_true h; simp only [List.length_map] at this; omega
    obtain ⟨p, hpk⟩ : ∃ j, s.points[k]? = some j := ⟨_, List.getElem?_eq_getElem hlt⟩
    (conv => whnf)
    refine idx_and (by omega) (by simpa using hpk) ?_
    (conv => whnf)
    refine call_i (ref_Near p 4194304 (by decide) (by decide)) ?_
    (conv => whnf)
    refine ask_m (fun h6 => ?_) (fun h6 => ?_)
    · have h6 : inV p 4194304 = false := by simpa using h6
      (conv => whnf)
      refine ret0 ?_
      exact ret_b (all_not (f := (inV · 4194304)) hpk h6).symm rfl
    have h6 : inV p 4194304 = true := by simpa using h6
    (conv => whnf)
    exact ⟨k + 1, [], ⟨hlt, all_take hall hpk h6⟩, by omega, ⟨⟨rfl, eqI hkk, trivial⟩, ⟨rfl, trivial⟩⟩⟩
  · have hk : k = s.points.length := by have := of_decide_eq_false h; simp only [List.length_map] at this; omega
    subst hk
    rw [List.take_length] at hall
    (conv => whnf)
    refine ret0 ?_
    exact ret_b hall.symm rfl
abbrev dIVs (l : List IV) : DV := .lst 6 (l.map encIV)
abbrev dPss (l : List Ps) : DV := .lst 24 (l.map encPs)
theorem ref10_allValid (l : List Ival) (hl : l.length ≤ 4611686018427387904) : FnOk Tryz.prog F.ref10_allValid [.one (.dv (dIvs l))] [] 0 (Bo (l.all okI)) [] 0 := by
  refine fnOk tab mix G.ref10_allValid rfl rfl (by kernel_rfl) rfl rfl ?_
  (conv => whnf)
  refine loop_intro (fun k : Nat => ⟨[(0, .one (.dv (dIvs l))), (3, I k)], [], 0⟩) (fun k => k ≤ l.length ∧ (l.take k).all okI = true) (fun k => l.length - k) [] 0 [] ⟨Nat.zero_le _, rfl⟩ ⟨⟨rfl, rfl, trivial⟩, trivial⟩ ?_
  rintro k ⟨hk, hall⟩
  have hkk : IntKind.i64.wrap ((k : Int) + 1) = ((k + 1 : Nat) : Int) := by rw [w64] <;> omega
  (conv => whnf)
  refine ask_m (fun hlt => ?_) (fun hlt => ?_)
  · have hlt : k < l.length := by simpa using hlt
    obtain ⟨v, hv⟩ : ∃ j, l[k]? = some j := ⟨_, List.getElem?_eq_getElem hlt⟩
    (conv => whnf)
    refine idx_and (by omega) (by simpa using hv) ?_
    (conv => whnf)
    refine call_i (ref1_Valid v) ?_
    (conv => whnf)
    refine ask_m (fun h => ?_) (fun h => ?_)
    · have h : okI v = false := by simpa using h
      (conv => whnf)
      refine ret0 ?_
      exact ret_b (all_not hv h).symm rfl
    have h : okI v = true := by simpa using h
    (conv => whnf)
    exact ⟨k + 1, [], ⟨hlt, all_take hall hv h⟩, by omega, ⟨⟨rfl, eqI hkk, trivial⟩, trivial⟩⟩
  · have hk : k = l.length := by simp at hlt; omega
    subst hk
    rw [List.take_length] at hall
    (conv => whnf)
    refine ret0 ?_
    exact ret_b hall.symm rfl
theorem ref10_IsBox (r : Robot) (l : List Ival) (hl : l.length ≤ 4611686018427387904) : FnOk Tryz.prog F.ref10_IsBox [Ro r, .one (.dv (dIvs l))] [] 0 (Bo (isBox r l)) [] 0 := by
  refine fnOk tab mix G.ref10_IsBox rfl rfl (by kernel_rfl) rfl rfl ?_
  (conv => whnf)
  by_cases h : l.length = r.joints.length
  · rw [show (((l.map encIv).length : Int) == ((r.joints.map encJ).length : Int)) = true by simp [h]]
    (conv => whnf)
    refine call_i (ref10_allValid l hl) ?_
    (conv => whnf)
    (conv => whnf)
    refine ret0 ?_
    exact ret_b (by simp [isBox, h]) rfl
  · rw [show (((l.map encIv).length : Int) == ((r.joints.map encJ).length : Int)) = false by simp; omega]
    (conv => whnf)
    (conv => whnf)
    refine ret0 ?_
    exact ret_b (by simp [isBox, h]) rfl
theorem joint_0 (n : ByteArray) (p : Int) (o : Vec) (l1 l2 l3 l4 l5 l6 : Int) (v : Ival) : FnOk Tryz.prog F.ref10_Joint [Jo ⟨n, 0, p, o, l1, l2, l3, l4, l5, l6⟩, Iv v] [] 0 (IvP (jointP ⟨n, 0, p, o, l1, l2, l3, l4, l5, l6⟩ v)) [] 0 := by
  refine fnOk tab mix G.ref10_Joint rfl rfl (by kernel_rfl) rfl rfl ?_
  (conv => whnf)
  refine call_i (ref1_Rest) ?_
  (conv => whnf)
  refine call_i (ref1_Point o) ?_
  (conv => whnf)
  refine call_i (ref1_Shift (ptV o)) ?_
  (conv => whnf)
  refine call_i (ref1_Compose (shiftP (ptV o)) (moveP 0 v)) ?_
  (conv => whnf)
  (conv => whnf)
  refine ret0 ?_
  exact ⟨[], ⟨rfl, trivial⟩, trivial⟩
theorem joint_1 (n : ByteArray) (p : Int) (o : Vec) (l1 l2 l3 l4 l5 l6 : Int) (v : Ival) : FnOk Tryz.prog F.ref10_Joint [Jo ⟨n, 1, p, o, l1, l2, l3, l4, l5, l6⟩, Iv v] [] 0 (IvP (jointP ⟨n, 1, p, o, l1, l2, l3, l4, l5, l6⟩ v)) [] 0 := by
  refine fnOk tab mix G.ref10_Joint rfl rfl (by kernel_rfl) rfl rfl ?_
  (conv => whnf)
  refine call_i (ref1_Rest) ?_
  (conv => whnf)
  refine call_i (ref1_TurnPose 0 v) ?_
  (conv => whnf)
  refine call_i (ref1_Point o) ?_
  (conv => whnf)
  refine call_i (ref1_Shift (ptV o)) ?_
  (conv => whnf)
  refine call_i (ref1_Compose (shiftP (ptV o)) (moveP 1 v)) ?_
  (conv => whnf)
  (conv => whnf)
  refine ret0 ?_
  exact ⟨[], ⟨rfl, trivial⟩, trivial⟩
theorem joint_2 (n : ByteArray) (p : Int) (o : Vec) (l1 l2 l3 l4 l5 l6 : Int) (v : Ival) : FnOk Tryz.prog F.ref10_Joint [Jo ⟨n, 2, p, o, l1, l2, l3, l4, l5, l6⟩, Iv v] [] 0 (IvP (jointP ⟨n, 2, p, o, l1, l2, l3, l4, l5, l6⟩ v)) [] 0 := by
  refine fnOk tab mix G.ref10_Joint rfl rfl (by kernel_rfl) rfl rfl ?_
  (conv => whnf)
  refine call_i (ref1_Rest) ?_
  (conv => whnf)
  refine call_i (ref1_TurnPose 1 v) ?_
  (conv => whnf)
  refine call_i (ref1_Point o) ?_
  (conv => whnf)
  refine call_i (ref1_Shift (ptV o)) ?_
  (conv => whnf)
  refine call_i (ref1_Compose (shiftP (ptV o)) (moveP 2 v)) ?_
  (conv => whnf)
  (conv => whnf)
  refine ret0 ?_
  exact ⟨[], ⟨rfl, trivial⟩, trivial⟩
theorem joint_3 (n : ByteArray) (p : Int) (o : Vec) (l1 l2 l3 l4 l5 l6 : Int) (v : Ival) : FnOk Tryz.prog F.ref10_Joint [Jo ⟨n, 3, p, o, l1, l2, l3, l4, l5, l6⟩, Iv v] [] 0 (IvP (jointP ⟨n, 3, p, o, l1, l2, l3, l4, l5, l6⟩ v)) [] 0 := by
  refine fnOk tab mix G.ref10_Joint rfl rfl (by kernel_rfl) rfl rfl ?_
  (conv => whnf)
  refine call_i (ref1_Rest) ?_
  (conv => whnf)
  refine call_i (ref1_TurnPose 2 v) ?_
  (conv => whnf)
  refine call_i (ref1_Point o) ?_
  (conv => whnf)
  refine call_i (ref1_Shift (ptV o)) ?_
  (conv => whnf)
  refine call_i (ref1_Compose (shiftP (ptV o)) (moveP 3 v)) ?_
  (conv => whnf)
  (conv => whnf)
  refine ret0 ?_
  exact ⟨[], ⟨rfl, trivial⟩, trivial⟩
theorem joint_4 (n : ByteArray) (p : Int) (o : Vec) (l1 l2 l3 l4 l5 l6 : Int) (v : Ival) : FnOk Tryz.prog F.ref10_Joint [Jo ⟨n, 4, p, o, l1, l2, l3, l4, l5, l6⟩, Iv v] [] 0 (IvP (jointP ⟨n, 4, p, o, l1, l2, l3, l4, l5, l6⟩ v)) [] 0 := by
  refine fnOk tab mix G.ref10_Joint rfl rfl (by kernel_rfl) rfl rfl ?_
  (conv => whnf)
  refine call_i (ref1_Rest) ?_
  (conv => whnf)
  refine ⟨⟨(show (0 : Int) ≤ IntKind.i64.wrap (4 - 4) by decide), (show IntKind.i64.wrap (4 - 4) < 3 by decide)⟩, ?_⟩
  (conv => whnf)
  refine call_i (ref1_Shift (slideV 4 v)) ?_
  (conv => whnf)
  refine call_i (ref1_Point o) ?_
  (conv => whnf)
  refine call_i (ref1_Shift (ptV o)) ?_
  (conv => whnf)
  refine call_i (ref1_Compose (shiftP (ptV o)) (moveP 4 v)) ?_
  (conv => whnf)
  (conv => whnf)
  refine ret0 ?_
  exact ⟨[], ⟨rfl, trivial⟩, trivial⟩
theorem joint_5 (n : ByteArray) (p : Int) (o : Vec) (l1 l2 l3 l4 l5 l6 : Int) (v : Ival) : FnOk Tryz.prog F.ref10_Joint [Jo ⟨n, 5, p, o, l1, l2, l3, l4, l5, l6⟩, Iv v] [] 0 (IvP (jointP ⟨n, 5, p, o, l1, l2, l3, l4, l5, l6⟩ v)) [] 0 := by
  refine fnOk tab mix G.ref10_Joint rfl rfl (by kernel_rfl) rfl rfl ?_
  (conv => whnf)
  refine call_i (ref1_Rest) ?_
  (conv => whnf)
  refine ⟨⟨(show (0 : Int) ≤ IntKind.i64.wrap (5 - 4) by decide), (show IntKind.i64.wrap (5 - 4) < 3 by decide)⟩, ?_⟩
  (conv => whnf)
  refine call_i (ref1_Shift (slideV 5 v)) ?_
  (conv => whnf)
  refine call_i (ref1_Point o) ?_
  (conv => whnf)
  refine call_i (ref1_Shift (ptV o)) ?_
  (conv => whnf)
  refine call_i (ref1_Compose (shiftP (ptV o)) (moveP 5 v)) ?_
  (conv => whnf)
  (conv => whnf)
  refine ret0 ?_
  exact ⟨[], ⟨rfl, trivial⟩, trivial⟩
theorem joint_6 (n : ByteArray) (p : Int) (o : Vec) (l1 l2 l3 l4 l5 l6 : Int) (v : Ival) : FnOk Tryz.prog F.ref10_Joint [Jo ⟨n, 6, p, o, l1, l2, l3, l4, l5, l6⟩, Iv v] [] 0 (IvP (jointP ⟨n, 6, p, o, l1, l2, l3, l4, l5, l6⟩ v)) [] 0 := by
  refine fnOk tab mix G.ref10_Joint rfl rfl (by kernel_rfl) rfl rfl ?_
  (conv => whnf)
  refine call_i (ref1_Rest) ?_
  (conv => whnf)
  refine ⟨⟨(show (0 : Int) ≤ IntKind.i64.wrap (6 - 4) by decide), (show IntKind.i64.wrap (6 - 4) < 3 by decide)⟩, ?_⟩
  (conv => whnf)
  refine call_i (ref1_Shift (slideV 6 v)) ?_
  (conv => whnf)
  refine call_i (ref1_Point o) ?_
  (conv => whnf)
  refine call_i (ref1_Shift (ptV o)) ?_
  (conv => whnf)
  refine call_i (ref1_Compose (shiftP (ptV o)) (moveP 6 v)) ?_
  (conv => whnf)
  (conv => whnf)
  refine ret0 ?_
  exact ⟨[], ⟨rfl, trivial⟩, trivial⟩
theorem ref10_Joint (j : Joint) (v : Ival) (hk : 0 ≤ j.kind ∧ j.kind ≤ 6) : FnOk Tryz.prog F.ref10_Joint [Jo j, Iv v] [] 0 (IvP (jointP j v)) [] 0 := by
  obtain ⟨n, k, p, o, l1, l2, l3, l4, l5, l6⟩ := j
  simp only at hk
  obtain rfl | rfl | rfl | rfl | rfl | rfl | rfl : k = 0 ∨ k = 1 ∨ k = 2 ∨ k = 3 ∨ k = 4 ∨ k = 5 ∨ k = 6 := by omega
  · exact joint_0 n p o l1 l2 l3 l4 l5 l6 v
  · exact joint_1 n p o l1 l2 l3 l4 l5 l6 v
  · exact joint_2 n p o l1 l2 l3 l4 l5 l6 v
  · exact joint_3 n p o l1 l2 l3 l4 l5 l6 v
  · exact joint_4 n p o l1 l2 l3 l4 l5 l6 v
  · exact joint_5 n p o l1 l2 l3 l4 l5 l6 v
  · exact joint_6 n p o l1 l2 l3 l4 l5 l6 v
theorem linksTo_len (js : List Joint) (box : List Ival) : ∀ k, (linksTo js box k).length = k
  | 0 => rfl
  | k + 1 => by rw [linksTo, List.length_append, linksTo_len js box k]; rfl
theorem linksTo_next {js : List Joint} {box : List Ival} {k : Nat} {j : Joint} {v : Ival} (hj : js[k]? = some j) (hv : box[k]? = some v) : linksTo js box (k + 1) = linksTo js box k ++ [linkP (linksTo js box k) j v] := by
  rw [linksTo, getD_at hj, getD_at hv]
set_option maxHeartbeats 1000000 in
theorem ref10_Links (r : Robot) (box : List Ival) (hc : checkRobot r = 0) (hb : isBox r box = true) : FnOk Tryz.prog F.ref10_Links [Ro r, .one (.dv (dIvs box))] [] 0 (.one (.dv (dPss (linksTo r.joints box box.length)))) [] 0 := by
  obtain ⟨f1, f2, f3, _⟩ := robot_facts hc
  have hbl : box.length = r.joints.length := by
    unfold isBox at hb; simp only [Bool.and_eq_true, decide_eq_true_eq] at hb; exact hb.1
  refine fnOk tab mix G.ref10_Links rfl rfl (by kernel_rfl) rfl rfl ?_
  (conv => whnf)
  refine call_i (ref_CheckRobot r (by omega) (by omega)) ?_
  (conv => whnf)
  rw [hc]
  (conv => whnf)
  refine call_i (ref10_IsBox r box (by omega)) ?_
  (conv => whnf)
  rw [hb]
  (conv => whnf)
  refine loop_intro (fun k : Nat => ⟨[(1, .one (.dv (dIvs box))), (2, .one (.vptr 0 0)), (5, .one (.row 1)), (6, I k)], [(0, bRo r), (1, .rows Y.Pose 24 ((linksTo r.joints box k).map encPs))], 2⟩) (fun k => k ≤ box.length) (fun k => box.length - k) [.own 5 Y.Pose 24] 0 [] (Nat.zero_le _) ⟨⟨rfl, rfl, rfl, rfl, trivial⟩, ⟨rfl, rfl, trivial⟩⟩ ?_
  rintro k hk
  have hkk : IntKind.i64.wrap ((k : Int) + 1) = ((k + 1 : Nat) : Int) := by rw [w64] <;> omega
  have hll := linksTo_len r.joints box k
  (conv => whnf)
  refine ask_m (fun hlt => ?_) (fun hlt => ?_)
  · have hlt : k < box.length := by simpa using hlt
    obtain ⟨v, hv⟩ : ∃ j, box[k]? = some j := ⟨_, List.getElem?_eq_getElem hlt⟩
    obtain ⟨j, hj⟩ : ∃ j, r.joints[k]? = some j := ⟨_, List.getElem?_eq_getElem (by omega)⟩
    obtain ⟨_, b1, b2, _⟩ := f2 k j hj
    have hn := linksTo_next hj hv
    (conv => whnf)
    refine idx_and (by omega) (by simpa using hj) ?_
    (conv => whnf)
    refine idx_and (by omega) (by simpa using hv) ?_
    (conv => whnf)
    refine call_i (ref10_Joint j v b1) ?_
    (conv => whnf)
    refine idx_and (by omega) (by simpa using hj) ?_
    (conv => whnf)
    refine ask_m (fun hp => ?_) (fun hp => ?_)
    · have hp : ¬ j.parent = -1 := by simpa using hp
      obtain ⟨p, hpp⟩ : ∃ p : Nat, j.parent = p := ⟨j.parent.toNat, by omega⟩
      obtain ⟨q, hq⟩ : ∃ q, (linksTo r.joints box k)[p]? = some q := ⟨_, List.getElem?_eq_getElem (by omega)⟩
      have e : linkP (linksTo r.joints box k) j v = comP q (jointP j v) := by
        rw [linkP, if_neg hp, hpp, Int.toNat_natCast, getD_at hq]
      rw [e] at hn
      (conv => whnf)
      refine idx_and (by omega) (by simpa using hj) ?_
      (conv => whnf)
      refine ⟨⟨by omega, by rw [List.length_map]; omega⟩, ?_⟩
      (conv => whnf)
      refine idx_map (x := q) (by rw [hpp, Int.toNat_natCast]; exact hq) ?_
      (conv => whnf)
      refine call_i (ref1_Compose q (jointP j v)) ?_
      (conv => whnf)
      refine ⟨⟨by simp [hll]; omega, by simp [hll]; omega⟩, ?_⟩
      (conv => whnf)
      exact ⟨k + 1, [(1, 4)], hlt, by omega, ⟨⟨rfl, rfl, rfl, eqI hkk, trivial⟩, ⟨rfl, rows_eq (by rw [hn, List.map_append]; rfl), trivial⟩⟩⟩
    · have hp : j.parent = -1 := by simpa using hp
      have e : linkP (linksTo r.joints box k) j v = jointP j v := by rw [linkP, if_pos hp]
      rw [e] at hn
      (conv => whnf)
      refine ⟨⟨by simp [hll]; omega, by simp [hll]; omega⟩, ?_⟩
      (conv => whnf)
      exact ⟨k + 1, [(1, 4)], hlt, by omega, ⟨⟨rfl, rfl, rfl, eqI hkk, trivial⟩, ⟨rfl, rows_eq (by rw [hn, List.map_append]; rfl), trivial⟩⟩⟩
  · have hk : k = box.length := by simp at hlt; omega
    subst hk
    (conv => whnf)
    refine retO [.frz 1] ?_
    (conv => whnf)
    exact ⟨[], ⟨rfl, trivial⟩, trivial⟩
theorem ref10_Place (x : Shape) (p : Ps) (hx : shapeB x = true) : FnOk Tryz.prog F.ref10_Place [Sh x, IvP p] [] 0 (.one (.dv (dIVs (placeOf p x)))) [] 0 := by
  have hpl : x.points.length ≤ 8 := by
    simp only [shapeB, Bool.and_eq_true, decide_eq_true_eq] at hx; exact hx.1.2
  refine fnOk tab mix G.ref10_Place rfl rfl (by kernel_rfl) rfl rfl ?_
  (conv => whnf)
  refine call_i (ref_CheckShape x (by omega)) ?_
  (conv => whnf)
  rw [hx]
  (conv => whnf)
  refine loop_intro (fun k : Nat => ⟨[(2, .one (.vptr 0 0)), (3, .one (.vptr 1 0)), (5, .one (.row 2)), (6, I k)], [(0, .vars Y.Shape [.dv (.int .i64 x.link), .dv (.int .i64 x.radius), .dv (dVs x.points)]), (1, .vars Y.Pose (c24 p)), (2, .rows Y.IVec 6 (((x.points.take k).map fun v => appP p (ptV v)).map encIV))], 3⟩) (fun k => k ≤ x.points.length) (fun k => x.points.length - k) [.own 5 Y.IVec 6] 0 [] (Nat.zero_le _) ⟨⟨rfl, rfl, rfl, rfl, trivial⟩, ⟨rfl, rfl, rfl, trivial⟩⟩ ?_
  rintro k hk
  have hkk : IntKind.i64.wrap ((k : Int) + 1) = ((k + 1 : Nat) : Int) := by rw [w64] <;> omega
  (conv => whnf)
  refine ask_m (fun hlt => ?_) (fun hlt => ?_)
  · have hlt : k < x.points.length := by simpa using hlt
    obtain ⟨v, hv⟩ : ∃ j, x.points[k]? = some j := ⟨_, List.getElem?_eq_getElem hlt⟩
    have hn : (x.points.take (k + 1)).map (fun v => appP p (ptV v)) = (x.points.take k).map (fun v => appP p (ptV v)) ++ [appP p (ptV v)] := map_take1 _ hv
    (conv => whnf)
    refine idx_and (by omega) (by simpa using hv) ?_
    (conv => whnf)
    refine call_i (ref1_Point v) ?_
    (conv => whnf)
    refine call_i (ref1_Apply p (ptV v)) ?_
    (conv => whnf)
    refine ⟨⟨by simp; omega, by simp; omega⟩, ?_⟩
    (conv => whnf)
    exact ⟨k + 1, [(2, 4)], hlt, by omega, ⟨⟨rfl, rfl, rfl, eqI hkk, trivial⟩, ⟨rfl, rfl, rows_eq (by rw [hn, List.map_append]; rfl), trivial⟩⟩⟩
  · have hk : k = x.points.length := by simp at hlt; omega
    subst hk
    rw [List.take_length]
    (conv => whnf)
    refine retO [.frz 2] ?_
    (conv => whnf)
    exact ⟨[], ⟨rfl, trivial⟩, trivial⟩
def encP1 (l : List IV) : List DV := [dIVs l]
abbrev dPtss (l : List (List IV)) : DV := .lst 1 (l.map encP1)
theorem scene_shapeB {s : Scene} (hc : checkScene s = 0) {x : Shape} (hx : x ∈ s.shapes) : shapeB x = true := by
  obtain ⟨_, h1, h2, ⟨h3, h4⟩, h5⟩ := (scene_facts hc).2.2.1 x hx
  simp only [shapeB, Bool.and_eq_true, decide_eq_true_eq, List.all_eq_true]
  exact ⟨⟨⟨⟨h3, h4⟩, h1⟩, h2⟩, h5⟩
set_option maxHeartbeats 1000000 in
theorem ref10_Points (s : Scene) (box : List Ival) (hc : checkScene s = 0) (hb : isBox s.robot box = true) : FnOk Tryz.prog F.ref10_Points [Sc s, .one (.dv (dIvs box))] [] 0 (.one (.dv (dPtss (pointsOf s box)))) [] 0 := by
  have hcs := scene_facts hc
  obtain ⟨f1, f2, f3, _⟩ := robot_facts hcs.1
  have hbl : box.length = s.robot.joints.length := by
    unfold isBox at hb; simp only [Bool.and_eq_true, decide_eq_true_eq] at hb; exact hb.1
  have hL := linksTo_len s.robot.joints box box.length
  rw [pointsOf, if_pos ⟨hc, hb⟩]
  refine fnOk tab mix G.ref10_Points rfl rfl (by kernel_rfl) rfl rfl ?_
  (conv => whnf)
  refine call_i (ref_CheckScene s (ok_small hc)) ?_
  (conv => whnf)
  rw [hc]
  (conv => whnf)
  refine call_i (ref10_IsBox s.robot box (by omega)) ?_
  (conv => whnf)
  rw [hb]
  (conv => whnf)
  refine call_i (ref10_Links s.robot box hcs.1 hb) ?_
  (conv => whnf)
  generalize linksTo s.robot.joints box box.length = L at *
  refine loop_intro (fun k : Nat => ⟨[(2, .one (.vptr 0 0)), (5, .one (.dv (dPss L))), (6, .one (.row 1)), (7, I k)], [(0, bSc s), (1, .rows Y.s_IVec 1 (((s.shapes.take k).map fun x => placeOf (shapeP L x) x).map encP1))], 2⟩) (fun k => k ≤ s.shapes.length) (fun k => s.shapes.length - k) [.own 6 Y.s_IVec 1] 0 [] (Nat.zero_le _) ⟨⟨rfl, rfl, rfl, rfl, trivial⟩, ⟨rfl, rfl, trivial⟩⟩ ?_
  rintro k hk
  have hkk : IntKind.i64.wrap ((k : Int) + 1) = ((k + 1 : Nat) : Int) := by rw [w64] <;> omega
  (conv => whnf)
  refine ask_m (fun hlt => ?_) (fun hlt => ?_)
  · have hlt : k < s.shapes.length := by simpa using hlt
    obtain ⟨x, hx⟩ : ∃ j, s.shapes[k]? = some j := ⟨_, List.getElem?_eq_getElem hlt⟩
    have hxm := List.mem_of_getElem? hx
    have hxb := scene_shapeB hc hxm
    have hxl := link_bd (hcs.2.2.1 x hxm).1
    have hn : (s.shapes.take (k + 1)).map (fun x => placeOf (shapeP L x) x) = (s.shapes.take k).map (fun x => placeOf (shapeP L x) x) ++ [placeOf (shapeP L x) x] := map_take1 _ hx
    (conv => whnf)
    refine call_i (ref1_Rest) ?_
    (conv => whnf)
    refine idx_and (by omega) (by simpa using hx) ?_
    (conv => whnf)
    refine ask_m (fun hp => ?_) (fun hp => ?_)
    · have hp : ¬ x.link = -1 := by simpa using hp
      obtain ⟨p, hpp⟩ : ∃ p : Nat, x.link = p := ⟨x.link.toNat, by omega⟩
      obtain ⟨q, hq⟩ : ∃ q, L[p]? = some q := ⟨_, List.getElem?_eq_getElem (by omega)⟩
      have e : shapeP L x = q := by rw [shapeP, if_neg hp, hpp, Int.toNat_natCast, getD_at hq]
      rw [e] at hn
      (conv => whnf)
      refine idx_and (by omega) (by simpa using hx) ?_
      (conv => whnf)
      refine idx_and (by omega) (x := q) (by rw [hpp, Int.toNat_natCast]; simpa using hq) ?_
      (conv => whnf)
      refine idx_and (by omega) (by simpa using hx) ?_
      (conv => whnf)
      refine call_i (ref10_Place x q hxb) ?_
      (conv => whnf)
      refine ⟨⟨by simp; omega, by simp; omega⟩, ?_⟩
      (conv => whnf)
      exact ⟨k + 1, [(1, 4)], hlt, by omega, ⟨⟨rfl, rfl, rfl, eqI hkk, trivial⟩, ⟨rfl, rows_eq (by rw [hn, List.map_append]; rfl), trivial⟩⟩⟩
    · have hp : x.link = -1 := by simpa using hp
      have e : shapeP L x = restP := by rw [shapeP, if_pos hp]
      rw [e] at hn
      (conv => whnf)
      refine idx_and (by omega) (by simpa using hx) ?_
      (conv => whnf)
      refine call_i (ref10_Place x restP hxb) ?_
      (conv => whnf)
      refine ⟨⟨by simp; omega, by simp; omega⟩, ?_⟩
      (conv => whnf)
      exact ⟨k + 1, [(1, 4)], hlt, by omega, ⟨⟨rfl, rfl, rfl, eqI hkk, trivial⟩, ⟨rfl, rows_eq (by rw [hn, List.map_append]; rfl), trivial⟩⟩⟩
  · have hk : k = s.shapes.length := by simp at hlt; omega
    subst hk
    rw [List.take_length]
    (conv => whnf)
    refine retO [.frz 1] ?_
    (conv => whnf)
    exact ⟨[], ⟨rfl, trivial⟩, trivial⟩
end Go.Proofs.YthdbdokhncaijaaGreat

/- mk.Box. -/
namespace Go.Proofs.YthdbdokhncaijaaGreat
open Eng
set_option maxRecDepth 10000
attribute [local irreducible] FnOk loopW idxF retX arrF

def bxW (l : List Int) (q : Nat) (d : Int) : Int := if nxt l (q + 1) 5 = 0 then d else if nxt l (q + 1) 5 = 1 ∨ nxt l (q + 1) 5 = 2 then nxt l (q + 1 + 1) 3000 else if nxt l (q + 1) 5 = 3 then nxt l (q + 1 + 1) 200 else 0
def bxV (l : List Int) (q : Nat) (j : Joint) : Ival := ⟨j.lo + nxt l q (j.hi - j.lo + 1), min j.hi (j.lo + nxt l q (j.hi - j.lo + 1) + bxW l q (j.hi - j.lo))⟩
def bxN (l : List Int) (q : Nat) : Nat := if nxt l (q + 1) 5 = 1 ∨ nxt l (q + 1) 5 = 2 ∨ nxt l (q + 1) 5 = 3 then q + 1 + 1 + 1 else q + 1 + 1
def bxP (l : List Int) : Nat → Nat
  | 0 => 0
  | k + 1 => bxN l (bxP l k)
def bxTo (js : List Joint) (l : List Int) : Nat → List Ival
  | 0 => []
  | k + 1 => bxTo js l k ++ (js[k]?.toList.map (bxV l (bxP l k)))
def bxs (r : Robot) (l : List Int) : List Ival := bxTo r.joints l r.joints.length
theorem bxTo_len (js : List Joint) (l : List Int) : ∀ k, k ≤ js.length → (bxTo js l k).length = k
  | 0, _ => rfl
  | k + 1, h => by
    rw [bxTo, List.length_append, bxTo_len js l k (by omega), List.getElem?_eq_getElem (by omega)]; rfl
theorem bxs_len (r : Robot) (l : List Int) : (bxs r l).length = r.joints.length := bxTo_len _ _ _ (Nat.le_refl _)
theorem bxW_bd (l : List Int) (q : Nat) {d : Int} (hd : 0 ≤ d) : 0 ≤ bxW l q d ∧ bxW l q d ≤ max d 3000 := by
  have h1 := nxt_bd (l := l) (j := q + 1 + 1) (m := 3000) (by omega)
  have h2 := nxt_bd (l := l) (j := q + 1 + 1) (m := 200) (by omega)
  unfold bxW
  split
  · omega
  · split
    · omega
    · split <;> omega
theorem bxV_in (l : List Int) (q : Nat) {j : Joint} (h : j.lo ≤ j.hi) : j.lo ≤ (bxV l q j).lo ∧ (bxV l q j).lo ≤ (bxV l q j).hi ∧ (bxV l q j).hi ≤ j.hi := by
  have h1 := nxt_bd (l := l) (j := q) (m := j.hi - j.lo + 1) (by omega)
  have h2 := bxW_bd l q (d := j.hi - j.lo) (by omega)
  simp only [bxV]; omega
theorem bxTo_at (js : List Joint) (l : List Int) : ∀ (k : Nat), k ≤ js.length → ∀ (i : Nat) (v : Ival), (bxTo js l k)[i]? = some v → ∃ (j : Joint) (q : Nat), js[i]? = some j ∧ v = bxV l q j
  | 0, _, i, v, hv => by simp [bxTo] at hv
  | k + 1, hk, i, v, hv => by
    have hl := bxTo_len js l k (by omega)
    obtain ⟨j, hj⟩ : ∃ j, js[k]? = some j := ⟨_, List.getElem?_eq_getElem (by omega)⟩
    rw [bxTo, hj] at hv
    rcases Nat.lt_or_ge i k with h | h
    · rw [List.getElem?_append_left (by omega)] at hv
      exact bxTo_at js l k (by omega) i v hv
    · rw [List.getElem?_append_right (by omega), hl] at hv
      have : i - k = 0 := by
        rcases Nat.eq_zero_or_pos (i - k) with h0 | h0
        · exact h0
        · rw [List.getElem?_eq_none (by simp; omega)] at hv; cases hv
      rw [this] at hv
      have e : i = k := by omega
      subst e
      simp at hv
      exact ⟨j, _, hj, hv.symm⟩
theorem bxs_at {r : Robot} (hr : checkRobot r = 0) (l : List Int) {i : Nat} {v : Ival} (hv : (bxs r l)[i]? = some v) : ∃ j, r.joints[i]? = some j ∧ j.lo ≤ v.lo ∧ v.lo ≤ v.hi ∧ v.hi ≤ j.hi := by
  obtain ⟨j, q, hj, rfl⟩ := bxTo_at r.joints l _ (Nat.le_refl _) i v hv
  exact ⟨j, hj, bxV_in l q (limits hr hj).1⟩
set_option maxHeartbeats 1000000 in
theorem mk_Box (r : Robot) (l : List Int) (hr : checkRobot r = 0) (hl : l.length ≤ 4611686018427387904) : FnOk Tryz.prog F.mk_Box [Ro r, Li l] [] 0 (.one (.dv (dIvs (bxs r l)))) [] 0 := by
  have h10 := (robot_facts hr).1
  refine fnOk tab mix G.mk_Box rfl rfl (by kernel_rfl) rfl rfl ?_
  (conv => whnf)
  refine call_i (mk_From l) ?_
  (conv => whnf)
  refine loop_intro (fun k : Nat => ⟨[(2, .one (.vptr 0 0)), (5, .one (.vptr 1 0)), (6, .one (.row 2)), (7, I k)], [(0, bRo r), (1, SrcJ l (bxP l k)), (2, .rows Y.Interval 2 ((bxTo r.joints l k).map encIv))], 3⟩) (fun k => k ≤ r.joints.length) (fun k => r.joints.length - k) [.own 6 Y.Interval 2] 0 [] (Nat.zero_le _) ⟨⟨rfl, rfl, rfl, rfl, trivial⟩, ⟨rfl, rfl, rfl, trivial⟩⟩ ?_
  rintro k hk
  have hkk : IntKind.i64.wrap ((k : Int) + 1) = ((k + 1 : Nat) : Int) := by rw [w64] <;> omega
  have hlen := bxTo_len r.joints l k hk
  (conv => whnf)
  refine ask_m (fun hlt => ?_) (fun hlt => ?_)
  · have hlt : k < r.joints.length := by simpa using hlt
    obtain ⟨j, hj⟩ : ∃ j, r.joints[k]? = some j := ⟨_, List.getElem?_eq_getElem hlt⟩
    obtain ⟨l1, l2, l3⟩ := limits hr hj
    have hn : bxTo r.joints l (k + 1) = bxTo r.joints l k ++ [bxV l (bxP l k) j] := by rw [bxTo, hj]; rfl
    have hp : bxP l (k + 1) = bxN l (bxP l k) := rfl
    generalize bxTo r.joints l k = xs at *
    generalize bxP l k = q at *
    have e1 : IntKind.i64.wrap (IntKind.i64.wrap (j.hi - j.lo) + 1) = j.hi - j.lo + 1 := by rw [w64 (x := j.hi - j.lo) (by omega) (by omega), w64] <;> omega
    have nb := nxt_bd (l := l) (j := q) (m := j.hi - j.lo + 1) (by omega)
    have nw := bxW_bd l q (d := j.hi - j.lo) (by omega)
    have hv : bxV l q j = ⟨ww (j.lo + nxt l q (j.hi - j.lo + 1)), min j.hi (ww (ww (j.lo + nxt l q (j.hi - j.lo + 1)) + bxW l q (ww (j.hi - j.lo))))⟩ := by
      rw [ww_id (x := j.hi - j.lo) (by unfold rg; omega), ww_id (x := j.lo + nxt l q (j.hi - j.lo + 1)) (by unfold rg; omega), ww_id (by unfold rg; omega), bxV]
    have n5 := nxt_bd (l := l) (j := q + 1) (m := 5) (by omega)
    (conv => whnf)
    refine idx_and (by omega) (by simpa using hj) ?_
    (conv => whnf)
    refine idx_and (by omega) (by simpa using hj) ?_
    (conv => whnf)
    rw [e1]
    refine call_i (mk_Next l q (j.hi - j.lo + 1) (by omega) (by omega) hl) ?_
    (conv => whnf)
    refine call_i (mk_Next l (q + 1) 5 (by decide) (by decide) hl) ?_
    (conv => whnf)
    have h5 : nxt l (q + 1) 5 = 0 ∨ nxt l (q + 1) 5 = 1 ∨ nxt l (q + 1) 5 = 2 ∨ nxt l (q + 1) 5 = 3 ∨ nxt l (q + 1) 5 = 4 := by omega
    rcases h5 with h5 | h5 | h5 | h5 | h5
    · rw [h5]
      (conv => whnf)
      refine ⟨⟨by simp; omega, by simp; omega⟩, ?_⟩
      (conv => whnf)
      exact ⟨k + 1, [(2, 4)], hlt, by omega, ⟨⟨rfl, rfl, rfl, eqI hkk, trivial⟩, ⟨rfl, by rw [hp, bxN, h5]; rfl, rows_eq (by rw [hn, hv, bxW, h5, List.map_append]; rfl), trivial⟩⟩⟩
    · rw [h5]
      (conv => whnf)
      refine call_i (mk_Next l (q + 1 + 1) 3000 (by decide) (by decide) hl) ?_
      (conv => whnf)
      refine ⟨⟨by simp; omega, by simp; omega⟩, ?_⟩
      (conv => whnf)
      exact ⟨k + 1, [(2, 4)], hlt, by omega, ⟨⟨rfl, rfl, rfl, eqI hkk, trivial⟩, ⟨rfl, by rw [hp, bxN, h5]; rfl, rows_eq (by rw [hn, hv, bxW, h5, List.map_append]; rfl), trivial⟩⟩⟩
    · rw [h5]
      (conv => whnf)
      refine call_i (mk_Next l (q + 1 + 1) 3000 (by decide) (by decide) hl) ?_
      (conv => whnf)
      refine ⟨⟨by simp; omega, by simp; omega⟩, ?_⟩
      (conv => whnf)
      exact ⟨k + 1, [(2, 4)], hlt, by omega, ⟨⟨rfl, rfl, rfl, eqI hkk, trivial⟩, ⟨rfl, by rw [hp, bxN, h5]; rfl, rows_eq (by rw [hn, hv, bxW, h5, List.map_append]; rfl), trivial⟩⟩⟩
    · rw [h5]
      (conv => whnf)
      refine call_i (mk_Next l (q + 1 + 1) 200 (by decide) (by decide) hl) ?_
      (conv => whnf)
      refine ⟨⟨by simp; omega, by simp; omega⟩, ?_⟩
      (conv => whnf)
      exact ⟨k + 1, [(2, 4)], hlt, by omega, ⟨⟨rfl, rfl, rfl, eqI hkk, trivial⟩, ⟨rfl, by rw [hp, bxN, h5]; rfl, rows_eq (by rw [hn, hv, bxW, h5, List.map_append]; rfl), trivial⟩⟩⟩
    · rw [h5]
      (conv => whnf)
      refine ⟨⟨by simp; omega, by simp; omega⟩, ?_⟩
      (conv => whnf)
      exact ⟨k + 1, [(2, 4)], hlt, by omega, ⟨⟨rfl, rfl, rfl, eqI hkk, trivial⟩, ⟨rfl, by rw [hp, bxN, h5]; rfl, rows_eq (by rw [hn, hv, bxW, h5, List.map_append]; rfl), trivial⟩⟩⟩
  · have hk : k = r.joints.length := by simp at hlt; omega
    subst hk
    (conv => whnf)
    refine retO [.frz 2] ?_
    (conv => whnf)
    exact ⟨[], ⟨rfl, trivial⟩, trivial⟩
end Go.Proofs.YthdbdokhncaijaaGreat

/- The points of the shapes of a scene, in the joined scene: translated by the base. No program in sight. -/
namespace Go.Proofs.YthdbdokhncaijaaGreat
open Eng
set_option maxRecDepth 10000

def mvP (p : Ps) (d : Vec) : Ps := ⟨p.r, mvV p.t d⟩
abbrev j0 : Joint := ⟨⟨#[]⟩, 0, 0, ⟨0, 0, 0⟩, 0, 0, 0, 0, 0, 0⟩
theorem linksTo_at (js : List Joint) (box : List Ival) : ∀ (k i : Nat), i < k → (linksTo js box k)[i]? = some (linkP (linksTo js box i) (js.getD i j0) (box.getD i i0))
  | 0, i, h => by omega
  | k + 1, i, h => by
    have hl := linksTo_len js box k
    rw [linksTo]
    rcases Nat.lt_or_ge i k with h1 | h1
    · rw [List.getElem?_append_left (by omega)]; exact linksTo_at js box k i h1
    · have e : i = k := by omega
      subst e
      rw [List.getElem?_append_right (by omega), hl, Nat.sub_self]; rfl
theorem inI_mv {v : Ival} {M d D : Int} (h : inI v M) (hd : -D ≤ d ∧ d ≤ D) : inI (mvI v d) (M + D) := by unfold inI mvI at *; simp only; omega
theorem inV3_mv {v : IV} {M D : Int} {d : Vec} (h : inV3 v M) (hd : nrV d D) : inV3 (mvV v d) (M + D) := ⟨inI_mv h.1 hd.1, inI_mv h.2.1 hd.2.1, inI_mv h.2.2 hd.2.2⟩
theorem v0_in {M : Int} (h : 0 ≤ M) : inV3 v0 M := by unfold inV3 inI v0 i0; simp only; omega
theorem slideV_in {k : Int} {v : Ival} {M : Int} (h : inI v M) : inV3 (slideV k v) M := by
  have h0 := inI_pos h
  have z : inI i0 M := by unfold inI i0; simp only; omega
  unfold slideV inV3
  refine ⟨?_, ?_, ?_⟩ <;> simp only <;> split <;> assumption
/-- the translation of a joint -/
theorem moveP_in {k : Int} {v : Ival} (hv : k = 4 ∨ k = 5 ∨ k = 6 → inI v 4194304) : inV3 (moveP k v).t 4194304 := by
  unfold moveP
  split
  · exact v0_in (by decide)
  · split
    · rename_i h; exact slideV_in (hv h)
    · exact v0_in (by decide)
theorem jointP_t {j : Joint} {v : Ival} (hv : j.kind = 4 ∨ j.kind = 5 ∨ j.kind = 6 → inI v 4194304) : (jointP j v).t = sumV (ptV j.off) (moveP j.kind v).t := by
  show sumV (ptV j.off) (appM unitM (moveP j.kind v).t) = _
  rw [appM_unit (inV3_mono (moveP_in hv) (by decide))]
theorem jointP_in {j : Joint} {v : Ival} (hv : j.kind = 4 ∨ j.kind = 5 ∨ j.kind = 6 → inI v 4194304) (ho : nrV j.off 4194304) : inV3 (jointP j v).t 8388608 := by
  rw [jointP_t hv]; exact sumV_in (ptV_in ho (by decide)) (moveP_in hv) (by decide)
theorem sumV_mv' {a b : IV} {M N : Int} {d : Vec} (ha : inV3 a M) (hd : nrV d 1048576) (hb : inV3 b N) (h : M + N + 1048576 ≤ 2147483648) : sumV (mvV a d) b = mvV (sumV a b) d :=
  sumV_mv ha (inV3_mv ha hd) hb (by omega) (by omega)
/-- how far link number i can be -/
abbrev far (i : Nat) : Int := 8388608 + 25165824 * i
/-- a valid joint with a value within its limits -/
def jOk (i : Nat) (j : Joint) (v : Ival) : Prop := (-1 ≤ j.parent ∧ j.parent < (i : Int)) ∧ nrV j.off 4194304 ∧ (j.kind = 4 ∨ j.kind = 5 ∨ j.kind = 6 → inI v 4194304)
theorem links_in {js : List Joint} {box : List Ival} (hn : js.length ≤ 10) (hj : ∀ (i : Nat) j, js[i]? = some j → jOk i j (box.getD i i0)) : ∀ (n i : Nat), i < n → i < js.length → tiM (linkP (linksTo js box i) (js.getD i j0) (box.getD i i0)).r ∧ inV3 (linkP (linksTo js box i) (js.getD i j0) (box.getD i i0)).t (far i)
  | 0, i, h, _ => by omega
  | n + 1, i, h, hi => by
    obtain ⟨j, hji⟩ : ∃ j, js[i]? = some j := ⟨_, List.getElem?_eq_getElem hi⟩
    obtain ⟨⟨p1, p2⟩, ho, hv⟩ := hj i j hji
    rw [getD_at hji, linkP]
    split
    · exact ⟨comP_ti _ _, inV3_mono (jointP_in hv ho) (by unfold far; omega)⟩
    · rename_i hp
      refine ⟨comP_ti _ _, ?_⟩
      obtain ⟨q, hq⟩ : ∃ q : Nat, j.parent = q := ⟨j.parent.toNat, by omega⟩
      have hqi : q < i := by omega
      have e := linksTo_at js box i q hqi
      obtain ⟨i1, i2⟩ := links_in hn hj n q (by omega) (by omega)
      rw [hq, Int.toNat_natCast, getD_at e]
      exact inV3_mono (sumV_in i2 (appM_in i1 (jointP_in hv ho) (by decide)) (by unfold far; omega)) (by unfold far; omega)
theorem links_mv {js Js : List Joint} {box Box : List Ival} {c : Nat} {d : Vec} (hd : nrV d 1048576) (hn : js.length ≤ 10) (hj : ∀ (i : Nat) j, js[i]? = some j → jOk i j (box.getD i i0))
    (hbox : ∀ i, i < js.length → Box.getD (c + i) i0 = box.getD i i0)
    (hJ : ∀ (i : Nat) j, js[i]? = some j → ∃ J : Joint, Js[c + i]? = some J ∧ J.kind = j.kind ∧ J.parent = (if j.parent = -1 then -1 else j.parent + c) ∧ J.off = (if j.parent = -1 then adV j.off d else j.off) ∧ nrV J.off 4194304) :
    ∀ (n i : Nat), i < n → i < js.length → linkP (linksTo Js Box (c + i)) (Js.getD (c + i) j0) (Box.getD (c + i) i0) = mvP (linkP (linksTo js box i) (js.getD i j0) (box.getD i i0)) d
  | 0, i, h, _ => by omega
  | n + 1, i, h, hi => by
    obtain ⟨j, hji⟩ : ∃ j, js[i]? = some j := ⟨_, List.getElem?_eq_getElem hi⟩
    obtain ⟨⟨p1, p2⟩, ho, hv⟩ := hj i j hji
    obtain ⟨J, hJi, hJk, hJp, hJo, hJn⟩ := hJ i j hji
    rw [getD_at hji, getD_at hJi, hbox i hi, linkP, linkP]
    by_cases hp : j.parent = -1
    · rw [if_pos hp] at hJp hJo
      rw [if_pos hp, if_pos hJp]
      show (⟨_, _⟩ : Ps) = ⟨_, _⟩
      have hvJ : J.kind = 4 ∨ J.kind = 5 ∨ J.kind = 6 → inI (box.getD i i0) 4194304 := by rw [hJk]; exact hv
      have e1 := jointP_t hv
      have e2 := jointP_t hvJ
      have e3 : (jointP J (box.getD i i0)).r = (jointP j (box.getD i i0)).r := by
        show comM unitM (moveP J.kind _).r = comM unitM (moveP j.kind _).r
        rw [hJk]
      have e4 : (jointP J (box.getD i i0)).t = mvV (jointP j (box.getD i i0)).t d := by
        rw [e1, e2, hJk, hJo]
        rw [hJo] at hJn
        rw [ptV_mv ho (by decide) hJn (by decide)]
        exact sumV_mv' (ptV_in ho (by decide)) hd (moveP_in hv) (by decide)
      show jointP J (box.getD i i0) = mvP (jointP j (box.getD i i0)) d
      generalize jointP J (box.getD i i0) = A at *
      generalize jointP j (box.getD i i0) = B at *
      cases A; cases B; simp only at e3 e4; subst e3 e4; rfl
    · rw [if_neg hp] at hJp hJo
      rw [if_neg hp, if_neg (by omega)]
      obtain ⟨q, hq⟩ : ∃ q : Nat, j.parent = q := ⟨j.parent.toNat, by omega⟩
      have hqi : q < i := by omega
      have e := linksTo_at js box i q hqi
      have E := linksTo_at Js Box (c + i) (c + q) (by omega)
      have ih := links_mv hd hn hj hbox hJ n q (by omega) (by omega)
      obtain ⟨i1, i2⟩ := links_in hn hj (q + 1) q (by omega) (by omega)
      have eJ : jointP J (box.getD i i0) = jointP j (box.getD i i0) := by unfold jointP; rw [hJk, hJo]
      rw [hJp, hq, show ((q : Int) + (c : Int)).toNat = c + q by omega, Int.toNat_natCast, getD_at e, getD_at E, ih, eJ]
      generalize linkP (linksTo js box q) (js.getD q j0) (box.getD q i0) = A at *
      show (⟨_, _⟩ : Ps) = ⟨_, _⟩
      have := sumV_mv' (d := d) i2 hd (appM_in i1 (jointP_in hv ho) (by decide)) (by unfold far; omega)
      show (⟨comM A.r (jointP j (box.getD i i0)).r, sumV (mvV A.t d) (appM A.r (jointP j (box.getD i i0)).t)⟩ : Ps) = ⟨comM A.r (jointP j (box.getD i i0)).r, mvV (sumV A.t (appM A.r (jointP j (box.getD i i0)).t)) d⟩
      rw [this]
theorem rest_pt {v : Vec} (h : nrV v 4194304) : appP restP (ptV v) = ptV v := by
  have hin := ptV_in h (by decide)
  show sumV v0 (appM unitM (ptV v)) = _
  rw [appM_unit (inV3_mono hin (by decide))]
  obtain ⟨h1, h2, h3⟩ := inV3_mono hin (show (4194304 : Int) ≤ 2147483648 by decide)
  generalize ptV v = w at *
  cases w
  simp only [sumV, v0, (addI_zero h1).2, (addI_zero h2).2, (addI_zero h3).2]
end Go.Proofs.YthdbdokhncaijaaGreat

/- The points of a joined scene are those of its scenes, translated. No program in sight. -/
namespace Go.Proofs.YthdbdokhncaijaaGreat
open Eng
set_option maxRecDepth 10000

/-- the boxes of the first scenes, one after the other -/
def bxCat (x : List Scene) (o : List Int) (k : Nat) : List Ival := ((List.range k).map fun i => bxs (x.getD i emptyS).robot o).flatten
theorem bxCat_succ {x : List Scene} {o : List Int} {k : Nat} {s : Scene} (h : x[k]? = some s) : bxCat x o (k + 1) = bxCat x o k ++ bxs s.robot o := by
  rw [bxCat, List.range_succ, List.map_append, List.flatten_append, List.map_singleton, getD_at h]; simp [bxCat]
theorem bxCat_len {x : List Scene} {o : List Int} : ∀ k, k ≤ x.length → (bxCat x o k).length = cnt x k
  | 0, _ => rfl
  | k + 1, h => by
    obtain ⟨s, hs⟩ : ∃ s, x[k]? = some s := ⟨_, List.getElem?_eq_getElem (by omega)⟩
    rw [bxCat_succ hs, List.length_append, bxCat_len k (by omega), bxs_len, cnt_succ hs]
theorem bxCat_pre {x : List Scene} {o : List Int} (k : Nat) : ∀ d, k + d ≤ x.length → ∃ r, bxCat x o (k + d) = bxCat x o k ++ r
  | 0, _ => ⟨[], by simp⟩
  | d + 1, h => by
    obtain ⟨r, hr⟩ := bxCat_pre (x := x) (o := o) k d (by omega)
    obtain ⟨s, hs⟩ : ∃ s, x[k + d]? = some s := ⟨_, List.getElem?_eq_getElem (by omega)⟩
    rw [← Nat.add_assoc, bxCat_succ hs, hr, List.append_assoc]
    exact ⟨_, rfl⟩
theorem bxCat_split {x : List Scene} {o : List Int} {c : Nat} {s : Scene} (hs : x[c]? = some s) : ∃ r, bxCat x o x.length = bxCat x o c ++ bxs s.robot o ++ r := by
  have hc := (List.getElem?_eq_some_iff.1 hs).1
  obtain ⟨r, hr⟩ := bxCat_pre (x := x) (o := o) (c + 1) (x.length - (c + 1)) (by omega)
  rw [show c + 1 + (x.length - (c + 1)) = x.length by omega, bxCat_succ hs] at hr
  exact ⟨r, hr⟩
theorem bxCat_part {x : List Scene} {o : List Int} {c : Nat} {s : Scene} (hs : x[c]? = some s) : partOf x (bxCat x o x.length) (c : Int) = (bxs s.robot o, true) := by
  have hc := (List.getElem?_eq_some_iff.1 hs).1
  obtain ⟨r, hr⟩ := bxCat_split (o := o) hs
  have h1 := bxCat_len (x := x) (o := o) c (by omega)
  have h2 := bxs_len s.robot o
  have h3 := cnt_succ hs
  rw [partOf, if_neg (by omega), if_neg (by rw [bxCat_len _ (Nat.le_refl _)]; simp), Int.toNat_natCast, hr]
  congr 1
  rw [List.take_append_of_le_length (by rw [List.length_append]; omega), List.take_of_length_le (by rw [List.length_append]; omega), ← h1, List.drop_left]
theorem bxCat_at {x : List Scene} {o : List Int} {c : Nat} {s : Scene} (hs : x[c]? = some s) {i : Nat} (hi : i < s.robot.joints.length) : (bxCat x o x.length).getD (cnt x c + i) i0 = (bxs s.robot o).getD i i0 := by
  have hc := (List.getElem?_eq_some_iff.1 hs).1
  obtain ⟨r, hr⟩ := bxCat_split (o := o) hs
  have h1 := bxCat_len (x := x) (o := o) c (by omega)
  have h2 := bxs_len s.robot o
  rw [hr, List.getD_eq_getElem?_getD, List.getD_eq_getElem?_getD, List.append_assoc, List.getElem?_append_right (by omega), List.getElem?_append_left (by omega), h1, Nat.add_sub_cancel_left]
theorem bxs_in {r : Robot} (hr : checkRobot r = 0) (o : List Int) : ∀ v ∈ bxs r o, inI v 4194304 := fun v hv => by
  obtain ⟨i, hi⟩ := List.getElem?_of_mem hv
  obtain ⟨j, hj, h1, h2, h3⟩ := bxs_at hr o hi
  obtain ⟨l1, l2, l3⟩ := limits hr hj
  unfold inI; omega
theorem bxCat_in {x : List Scene} (hx : ∀ s ∈ x, checkScene s = 0) (o : List Int) : ∀ k, k ≤ x.length → ∀ v ∈ bxCat x o k, inI v 4194304
  | 0, _, v, hv => by cases hv
  | k + 1, h, v, hv => by
    obtain ⟨s, hs⟩ : ∃ s, x[k]? = some s := ⟨_, List.getElem?_eq_getElem (by omega)⟩
    rw [bxCat_succ hs] at hv
    rcases List.mem_append.1 hv with hv | hv
    · exact bxCat_in hx o k (by omega) v hv
    · exact bxs_in (scene_facts (hx s (List.mem_of_getElem? hs))).1 o v hv
theorem box_all {l : List Ival} (h : ∀ v ∈ l, inI v 4194304) : l.all okI = true := List.all_eq_true.2 fun v hv => okI_iff.2 (inI_mono (h v hv) (by decide))
theorem isBox_own {s : Scene} (hc : checkScene s = 0) (o : List Int) : isBox s.robot (bxs s.robot o) = true := by
  unfold isBox; rw [bxs_len, box_all (bxs_in (scene_facts hc).1 o)]; simp
theorem isBox_all {x : List Scene} {bs : List Vec} (ho : Ok x bs) (o : List Int) : isBox (joinTo x bs x.length).robot (bxCat x o x.length) = true := by
  unfold isBox
  rw [bxCat_len _ (Nat.le_refl _), (join_len bs x.length (Nat.le_refl _)).1, box_all (bxCat_in ho.each o _ (Nat.le_refl _))]; simp
theorem addV_ad {b v : Vec} (hb : nrV b 1048576) (hv : nrV v 4194304) : addV b v = adV v b := by
  unfold nrV at hb hv
  unfold addV adV
  rw [ww_id (by unfold rg; omega), ww_id (by unfold rg; omega), ww_id (by unfold rg; omega)]
theorem pointsOf_at {s : Scene} {box : List Ival} (hc : checkScene s = 0) (hb : isBox s.robot box = true) {i : Nat} {x : Shape} (hx : s.shapes[i]? = some x) : (pointsOf s box)[i]? = some (placeOf (shapeP (linksTo s.robot.joints box box.length) x) x) := by
  rw [pointsOf, if_pos ⟨hc, hb⟩, List.getElem?_map, hx]; rfl
theorem pointsOf_len {s : Scene} {box : List Ival} (hc : checkScene s = 0) (hb : isBox s.robot box = true) : (pointsOf s box).length = s.shapes.length := by
  rw [pointsOf, if_pos ⟨hc, hb⟩, List.length_map]
theorem own_jOk {r : Robot} (hr : checkRobot r = 0) (o : List Int) : ∀ (i : Nat) j, r.joints[i]? = some j → jOk i j ((bxs r o).getD i i0) := fun i j hj => by
  have hi := (List.getElem?_eq_some_iff.1 hj).1
  obtain ⟨_, b1, b2, b3, _⟩ := (robot_facts hr).2.1 i j hj
  obtain ⟨v, hv⟩ : ∃ v, (bxs r o)[i]? = some v := ⟨_, List.getElem?_eq_getElem (by rw [bxs_len]; exact hi)⟩
  rw [getD_at hv]
  exact ⟨b2, inV_iff.1 b3, fun _ => bxs_in hr o v (List.mem_of_getElem? hv)⟩
theorem pts_mv {x : List Scene} {bs : List Vec} (ho : Ok x bs) (o : List Int) {c : Nat} {s : Scene} {d : Vec} (hs : x[c]? = some s) (hd : bs.getD c ⟨0, 0, 0⟩ = d) (hdn : nrV d 1048576) {i : Nat} {sh : Shape} (hsh : s.shapes[i]? = some sh) :
    ∃ pts, (pointsOf s (bxs s.robot o))[i]? = some pts ∧ (pointsOf (joinTo x bs x.length) (bxCat x o x.length))[nSh x c + i]? = some (pts.map (mvV · d)) ∧ pts.length = sh.points.length ∧ ∀ p ∈ pts, inV3 p 268435456 := by
  have hc := ho.each s (List.mem_of_getElem? hs)
  have hcl := (List.getElem?_eq_some_iff.1 hs).1
  have hsf := scene_facts hc
  obtain ⟨f1, _⟩ := robot_facts hsf.1
  have hJf := scene_facts ho.all
  obtain ⟨hatJ, hatS⟩ := join_at bs hs
  rw [hd] at hatJ hatS
  have hj := own_jOk hsf.1 o
  have hJ : ∀ (i : Nat) j, s.robot.joints[i]? = some j → ∃ J : Joint, (joinTo x bs x.length).robot.joints[cnt x c + i]? = some J ∧ J.kind = j.kind ∧ J.parent = (if j.parent = -1 then -1 else j.parent + cnt x c) ∧ J.off = (if j.parent = -1 then adV j.off d else j.off) ∧ nrV J.off 4194304 := fun i j hji => by
    have h1 := hatJ i j hji
    obtain ⟨_, _, _, b3, _⟩ := (robot_facts hJf.1).2.1 _ _ h1
    refine ⟨_, h1, rfl, rfl, ?_, inV_iff.1 b3⟩
    show joinV d j.off j.parent = _
    unfold joinV; rw [addV_ad hdn (hj i j hji).2.1]
  have hbx := fun i hi => bxCat_at (o := o) hs (i := i) hi
  have hpp := pointsOf_at hc (isBox_own hc o) hsh
  have hPP := pointsOf_at ho.all (isBox_all ho o) (hatS i sh hsh)
  obtain ⟨xl, _, _, _, xp⟩ := hsf.2.2.1 sh (List.mem_of_getElem? hsh)
  obtain ⟨_, _, _, _, XP⟩ := hJf.2.2.1 _ (List.mem_of_getElem? (hatS i sh hsh))
  have xl := link_bd xl
  have elen : (bxs s.robot o).length = s.robot.joints.length := bxs_len _ _
  have eLen : (bxCat x o x.length).length = cnt x x.length := bxCat_len _ (Nat.le_refl _)
  have hcc := cnt_succ hs
  have hcm := cnt_mono x (show c + 1 ≤ x.length by omega)
  refine ⟨_, hpp, ?_, by simp [placeOf], fun p hp => ?_⟩
  · rw [hPP]
    congr 1
    show (sh.points.map fun v => joinV d v sh.link).map _ = _
    rw [placeOf, List.map_map, List.map_map]
    refine List.map_congr_left fun v hv => ?_
    have hv1 := inV_iff.1 (xp v hv)
    show appP (shapeP _ (joinSh (cnt x c) d sh)) (ptV (joinV d v sh.link)) = mvV (appP (shapeP _ sh) (ptV v)) d
    have eL : (joinSh (cnt x c) d sh).link = raise (cnt x c) sh.link := rfl
    unfold shapeP
    by_cases hl : sh.link = -1
    · have hv2 : nrV (adV v d) 4194304 := by
        have := XP (joinV d v sh.link) (List.mem_map.2 ⟨v, hv, rfl⟩)
        rw [joinV, if_pos hl, addV_ad hdn hv1] at this
        exact inV_iff.1 this
      rw [if_pos hl, eL, raise, if_pos hl, if_pos rfl, joinV, if_pos hl, addV_ad hdn hv1, rest_pt hv1, rest_pt hv2, ptV_mv hv1 (by decide) hv2 (by decide)]
    · obtain ⟨q, hq⟩ : ∃ q : Nat, sh.link = q := ⟨sh.link.toNat, by omega⟩
      have e := linksTo_at s.robot.joints (bxs s.robot o) (bxs s.robot o).length q (by omega)
      have E := linksTo_at (joinTo x bs x.length).robot.joints (bxCat x o x.length) (bxCat x o x.length).length (cnt x c + q) (by omega)
      have hm := links_mv hdn f1 hj hbx hJ (q + 1) q (by omega) (by omega)
      obtain ⟨i1, i2⟩ := links_in f1 hj (q + 1) q (by omega) (by omega)
      rw [if_neg hl, eL, raise, if_neg hl, if_neg (by omega), joinV, if_neg hl, hq, show ((q : Int) + (cnt x c : Int)).toNat = cnt x c + q by omega, Int.toNat_natCast, getD_at e, getD_at E, hm]
      generalize linkP (linksTo s.robot.joints (bxs s.robot o) q) (s.robot.joints.getD q j0) ((bxs s.robot o).getD q i0) = A at *
      exact sumV_mv' i2 hdn (appM_in i1 (ptV_in hv1 (by decide)) (by decide)) (by unfold far; omega)
  · rw [placeOf] at hp
    obtain ⟨v, hv, rfl⟩ := List.mem_map.1 hp
    have hv1 := inV_iff.1 (xp v hv)
    unfold shapeP
    split
    · rw [rest_pt hv1]; exact inV3_mono (ptV_in hv1 (by decide)) (by decide)
    · obtain ⟨q, hq⟩ : ∃ q : Nat, sh.link = q := ⟨sh.link.toNat, by omega⟩
      have e := linksTo_at s.robot.joints (bxs s.robot o) (bxs s.robot o).length q (by omega)
      obtain ⟨i1, i2⟩ := links_in f1 hj (q + 1) q (by omega) (by omega)
      rw [hq, Int.toNat_natCast, getD_at e]
      exact inV3_mono (sumV_in i2 (appM_in i1 (ptV_in hv1 (by decide)) (by decide)) (by unfold far; omega)) (by unfold far; omega)
theorem bs_near {l : List Int} {c : Nat} (h : c < (bssOf l).length) : nrV ((bssOf l).getD c ⟨0, 0, 0⟩) 1048576 := by
  obtain ⟨b, hb⟩ : ∃ b, (bssOf l)[c]? = some b := ⟨_, List.getElem?_eq_getElem h⟩
  rw [getD_at hb]
  have hm := List.mem_of_getElem? hb
  simp only [bssOf, bssTo, List.mem_map] at hm
  obtain ⟨i, _, rfl⟩ := hm
  have h1 := nxt_bd (l := l) (j := 1 + 4 * i + 1) (m := 19) (by omega)
  have h2 := nxt_bd (l := l) (j := 1 + 4 * i + 2) (m := 19) (by omega)
  have h3 := nxt_bd (l := l) (j := 1 + 4 * i + 3) (m := 7) (by omega)
  unfold nrV bsAt; simp only; omega
end Go.Proofs.YthdbdokhncaijaaGreat

/- Nearest points, proofs and candidates of the reference, in plain Lean. -/
namespace Go.Proofs.YthdbdokhncaijaaGreat
open Eng
set_option maxRecDepth 10000

/-- placed points: few, and near enough -/
structure Plc (l : List IV) : Prop where
  one : 1 ≤ l.length
  few : l.length ≤ 8
  near : ∀ v ∈ l, inV3 v 268435456
theorem Plc.first {l : List IV} (h : Plc l) : ∃ v r, l = v :: r := by
  cases l with
  | nil => exact absurd h.one (by simp)
  | cons v r => exact ⟨v, r, rfl⟩
def radB (r : Int) : Prop := 0 ≤ r ∧ r ≤ 1048576
/- roots -/
def rootGo (n : Int) : Nat → Int → Int → Int
  | 0, lo, _ => lo
  | f + 1, lo, hi => if 1 < hi - lo then (if lo + (hi - lo) / 2 ≤ n / (lo + (hi - lo) / 2) then rootGo n f (lo + (hi - lo) / 2) hi else rootGo n f lo (lo + (hi - lo) / 2)) else lo
def rootM (n : Int) : Int := if n < 1 then 0 else rootGo n 33 1 4294967296
def rootUpM (n : Int) : Int := if 0 < n ∧ ww (rootM n * rootM n) < n then ww (rootM n + 1) else rootM n
/- vectors -/
def z3 : Vec := ⟨0, 0, 0⟩
def usable (n : Vec) : Bool := !decide (n = z3) && inV n 16384
def normM (n : Vec) : Int := if usable n = true then rootUpM (ww (ww (ww (n.x * n.x) + ww (n.y * n.y)) + ww (n.z * n.z))) else 0
def mid (v : Ival) : Int := flr (v.lo + v.hi) 2
def midV (v : IV) : Vec := ⟨mid v.x, mid v.y, mid v.z⟩
def dot3 (a b : Vec) : Int := ww (ww (ww (a.x * b.x) + ww (a.y * b.y)) + ww (a.z * b.z))
/- normals: halved until they are small enough -/
def hv (s : Int) (v : Vec) : Vec := ⟨ww (v.x.tdiv s), ww (v.y.tdiv s), ww (v.z.tdiv s)⟩
def nrmGo (v : Vec) : Nat → Int → Vec
  | 0, s => hv s v
  | f + 1, s => if inV (hv s v) 16384 = true then hv s v else nrmGo v f (s * 2)
def nrmM (v : Vec) : Vec × Bool := if v = z3 then (v, false) else (nrmGo v 50 1, true)
/- support values -/
def lo1 (n : Int) (v : Ival) : Int := min (n * v.lo) (n * v.hi)
def hi1 (n : Int) (v : Ival) : Int := max (n * v.lo) (n * v.hi)
def dotLo (n : Vec) (v : IV) : Int := lo1 n.x v.x + lo1 n.y v.y + lo1 n.z v.z
def dotHi (n : Vec) (v : IV) : Int := hi1 n.x v.x + hi1 n.y v.y + hi1 n.z v.z
def leastTo (n : Vec) (l : List IV) : Nat → Int × Int
  | 0 => (0, 0)
  | k + 1 => if k = 0 ∨ dotLo n (l.getD k v0) < (leastTo n l k).1 then (dotLo n (l.getD k v0), (k : Int)) else leastTo n l k
def mostTo (n : Vec) (l : List IV) : Nat → Int × Int
  | 0 => (0, 0)
  | k + 1 => if k = 0 ∨ (mostTo n l k).1 < dotHi n (l.getD k v0) then (dotHi n (l.getD k v0), (k : Int)) else mostTo n l k
def margin (n : Vec) (a : List IV) (ra : Int) (b : List IV) (rb : Int) : Int × Bool :=
  if usable n = true then (ww (ww ((leastTo n a a.length).1 - (mostTo n b b.length).1) - ww (normM n * ww (ra + rb))), true) else (0, false)
def sepB (n : Vec) (a : List IV) (ra : Int) (b : List IV) (rb : Int) : Bool := (margin n a ra b rb).2 && decide (0 < (margin n a ra b rb).1)
def firstM (l : List Vec) (a : List IV) (ra : Int) (b : List IV) (rb : Int) : Nat → Nat → Int × Bool
  | 0, _ => (0, false)
  | f + 1, i => if sepB (l.getD i z3) a ra b rb = true then ((i : Int), true) else firstM l a ra b rb f (i + 1)
/- translation -/
theorem dotLo_mv (n d : Vec) (v : IV) : dotLo n (mvV v d) = dotLo n v + (n.x * d.x + n.y * d.y + n.z * d.z) := by
  have h : ∀ (n d : Int) (v : Ival), lo1 n (mvI v d) = lo1 n v + n * d := fun n d v => by
    unfold lo1 mvI; simp only [Int.mul_add]; omega
  unfold dotLo mvV; simp only [h]; omega
theorem dotHi_mv (n d : Vec) (v : IV) : dotHi n (mvV v d) = dotHi n v + (n.x * d.x + n.y * d.y + n.z * d.z) := by
  have h : ∀ (n d : Int) (v : Ival), hi1 n (mvI v d) = hi1 n v + n * d := fun n d v => by
    unfold hi1 mvI; simp only [Int.mul_add]; omega
  unfold dotHi mvV; simp only [h]; omega
theorem getD_mv {l : List IV} {d : Vec} {k : Nat} (h : k < l.length) : (l.map (mvV · d)).getD k v0 = mvV (l.getD k v0) d := by
  rw [List.getD_eq_getElem?_getD, List.getD_eq_getElem?_getD, List.getElem?_map, List.getElem?_eq_getElem h]; rfl
theorem least_mv (n d : Vec) (l : List IV) : ∀ k, k ≤ l.length → (0 < k → (leastTo n (l.map (mvV · d)) k).1 = (leastTo n l k).1 + (n.x * d.x + n.y * d.y + n.z * d.z)) ∧ (leastTo n (l.map (mvV · d)) k).2 = (leastTo n l k).2
  | 0, _ => ⟨fun h => absurd h (by decide), rfl⟩
  | k + 1, h => by
    obtain ⟨h1, h2⟩ := least_mv n d l k (by omega)
    rw [leastTo, leastTo, getD_mv (by omega), dotLo_mv]
    rcases Nat.eq_zero_or_pos k with h0 | h0
    · rw [if_pos (.inl h0), if_pos (.inl h0)]; exact ⟨fun _ => rfl, rfl⟩
    · have h1 := h1 h0
      by_cases c : dotLo n (l.getD k v0) < (leastTo n l k).1
      · rw [if_pos (.inr (by omega)), if_pos (.inr c)]; exact ⟨fun _ => rfl, rfl⟩
      · rw [if_neg (by omega), if_neg (by omega)]; exact ⟨fun _ => h1, h2⟩
theorem most_mv (n d : Vec) (l : List IV) : ∀ k, k ≤ l.length → (0 < k → (mostTo n (l.map (mvV · d)) k).1 = (mostTo n l k).1 + (n.x * d.x + n.y * d.y + n.z * d.z)) ∧ (mostTo n (l.map (mvV · d)) k).2 = (mostTo n l k).2
  | 0, _ => ⟨fun h => absurd h (by decide), rfl⟩
  | k + 1, h => by
    obtain ⟨h1, h2⟩ := most_mv n d l k (by omega)
    rw [mostTo, mostTo, getD_mv (by omega), dotHi_mv]
    rcases Nat.eq_zero_or_pos k with h0 | h0
    · rw [if_pos (.inl h0), if_pos (.inl h0)]; exact ⟨fun _ => rfl, rfl⟩
    · have h1 := h1 h0
      by_cases c : (mostTo n l k).1 < dotHi n (l.getD k v0)
      · rw [if_pos (.inr (by omega)), if_pos (.inr c)]; exact ⟨fun _ => rfl, rfl⟩
      · rw [if_neg (by omega), if_neg (by omega)]; exact ⟨fun _ => h1, h2⟩
theorem sep_mv {n d : Vec} {a b : List IV} {ra rb : Int} (ha : 0 < a.length) (hb : 0 < b.length) : sepB n (a.map (mvV · d)) ra (b.map (mvV · d)) rb = sepB n a ra b rb := by
  have h1 := (least_mv n d a a.length (Nat.le_refl _)).1 ha
  have h2 := (most_mv n d b b.length (Nat.le_refl _)).1 hb
  have e : margin n (a.map (mvV · d)) ra (b.map (mvV · d)) rb = margin n a ra b rb := by
    unfold margin
    rw [List.length_map, List.length_map, h1, h2]
    rw [show ∀ x y z : Int, x + z - (y + z) = x - y by intro x y z; omega]
  rw [sepB, sepB, e]
theorem first_sep {l : List Vec} {a : List IV} {ra : Int} {b : List IV} {rb : Int} : ∀ (f i : Nat), (firstM l a ra b rb f i).2 = true → ∃ j : Nat, i ≤ j ∧ j < i + f ∧ (firstM l a ra b rb f i).1 = (j : Int) ∧ sepB (l.getD j z3) a ra b rb = true
  | 0, i, h => by cases h
  | f + 1, i, h => by
    rw [firstM] at h ⊢
    split at h
    · rename_i c; rw [if_pos c]; exact ⟨i, Nat.le_refl _, by omega, rfl, c⟩
    · rename_i c; rw [if_neg c]
      obtain ⟨j, h1, h2, h3, h4⟩ := first_sep f (i + 1) h
      exact ⟨j, by omega, by omega, h3, h4⟩
end Go.Proofs.YthdbdokhncaijaaGreat

/- Nearest points: the walks of the reference's roots and vectors. -/
namespace Go.Proofs.YthdbdokhncaijaaGreat
open Eng
set_option maxRecDepth 10000
attribute [local irreducible] FnOk loopW idxF retX arrF

theorem ref1_Root (n : Int) (hn : rg n) : FnOk Tryz.prog F.ref1_Root [I n] [] 0 (I (rootM n)) [] 0 := by
  refine fnOk tab mix G.ref1_Root rfl rfl (by kernel_rfl) rfl rfl ?_
  (conv => whnf)
  refine ask_m (fun h => ?_) (fun h => ?_)
  · have h : n < 1 := of_decide_eq_true h
    (conv => whnf)
    refine ret0 ?_
    exact ret_i (by rw [rootM, if_pos h]) rfl
  have h : ¬ n < 1 := of_decide_eq_false h
  (conv => whnf)
  refine loop_intro (fun p : Nat × Int × Int => ⟨[(0, I n), (3, I p.2.1), (4, I p.2.2)], [], 0⟩) (fun p => rootGo n p.1 p.2.1 p.2.2 = rootM n ∧ 1 ≤ p.2.1 ∧ p.2.1 ≤ p.2.2 ∧ p.2.2 ≤ 4294967296 ∧ p.2.2 - p.2.1 ≤ 2 ^ p.1) (fun p => p.1) [] (33, 1, 4294967296) [] ⟨by rw [rootM, if_neg h], by decide, by decide, by decide, by decide⟩ ⟨⟨rfl, rfl, rfl, trivial⟩, trivial⟩ ?_
  rintro ⟨f, lo, hi⟩ ⟨e, b1, b2, b3, b4⟩
  simp only at e b1 b2 b3 b4
  have e1 : ww (hi - lo) = hi - lo := ww_id (by unfold rg; omega)
  (conv => whnf)
  refine ask_m (fun q => ?_) (fun q => ?_)
  · have hlt : 1 < hi - lo := by have := of_decide_eq_true q; clear q; rw [← e1]; exact this
    clear q
    cases f with
    | zero => exact absurd b4 (by simp; omega)
    | succ f =>
    rw [rootGo, if_pos hlt] at e
    rw [Int.pow_succ] at b4
    have e2 : ww (lo + ww ((ww (hi - lo)).tdiv 2)) = lo + (hi - lo) / 2 := by
      rw [e1, Int.tdiv_eq_ediv_of_nonneg (by omega), ww_id (x := (hi - lo) / 2) (by unfold rg; omega), ww_id (by unfold rg; omega)]
    have hm : 1 ≤ lo + (hi - lo) / 2 := by omega
    generalize hmm : lo + (hi - lo) / 2 = mm at *
    have hd1 : n / mm ≤ n := Int.ediv_le_self _ (by omega)
    have hd2 : 0 ≤ n / mm := Int.ediv_nonneg (by omega) (by omega)
    have e3 : ww (n.tdiv mm) = n / mm := by
      rw [Int.tdiv_eq_ediv_of_nonneg (by omega)]; exact ww_id (by unfold rg at *; omega)
    (conv => whnf)
    refine ⟨by decide, ?_⟩
    (conv => whnf)
    refine ⟨(show ww (lo + ww ((ww (hi - lo)).tdiv 2)) ≠ 0 by rw [e2]; omega), ?_⟩
    (conv => whnf)
    refine ask_m (fun hc => ?_) (fun hc => ?_)
    · have hc : mm ≤ n / mm := by
        have := of_decide_eq_true hc
        have : ww (lo + ww ((ww (hi - lo)).tdiv 2)) ≤ ww (n.tdiv (ww (lo + ww ((ww (hi - lo)).tdiv 2)))) := this
        rw [e2, e3] at this; exact this
      rw [if_pos hc] at e
      (conv => whnf)
      exact ⟨(f, mm, hi), [], ⟨e, hm, by simp only; omega, b3, by simp only; omega⟩, Nat.lt_succ_self f, ⟨⟨rfl, eqI e2, rfl, trivial⟩, trivial⟩⟩
    · have hc : ¬ mm ≤ n / mm := by
        have := of_decide_eq_false hc
        have : ¬ ww (lo + ww ((ww (hi - lo)).tdiv 2)) ≤ ww (n.tdiv (ww (lo + ww ((ww (hi - lo)).tdiv 2)))) := this
        rw [e2, e3] at this; exact this
      rw [if_neg hc] at e
      (conv => whnf)
      exact ⟨(f, lo, mm), [], ⟨e, b1, by simp only; omega, by simp only; omega, by simp only; omega⟩, Nat.lt_succ_self f, ⟨⟨rfl, rfl, eqI e2, trivial⟩, trivial⟩⟩
  · have hlt : ¬ 1 < hi - lo := by have := of_decide_eq_false q; rw [← e1]; exact this
    clear q
    have e : lo = rootM n := by
      rw [← e]; cases f with
      | zero => rfl
      | succ f => rw [rootGo, if_neg hlt]
    (conv => whnf)
    refine ret0 ?_
    exact ret_i e rfl
theorem ref1_RootUp (n : Int) (hn : rg n) : FnOk Tryz.prog F.ref1_RootUp [I n] [] 0 (I (rootUpM n)) [] 0 := by
  unfold rootUpM
  refine fnOk tab mix G.ref1_RootUp rfl rfl (by kernel_rfl) rfl rfl ?_
  (conv => whnf)
  refine call_i (ref1_Root n hn) ?_
  (conv => whnf)
  cases h1 : decide (0 < n) with
  | false =>
    have h1' := of_decide_eq_false h1
    rw [if_neg (by omega)]
    (conv => whnf)
    (conv => whnf)
    refine ret0 ?_
    exact ret_i rfl rfl
  | true =>
  have h1' := of_decide_eq_true h1
  (conv => whnf)
  refine ask_m (fun h2 => ?_) (fun h2 => ?_)
  · have h2 : ww (rootM n * rootM n) < n := of_decide_eq_true h2
    rw [if_pos ⟨h1', h2⟩]
    (conv => whnf)
    refine ret0 ?_
    exact ret_i rfl rfl
  · have h2 : ¬ ww (rootM n * rootM n) < n := of_decide_eq_false h2
    rw [if_neg (by omega)]
    (conv => whnf)
    refine ret0 ?_
    exact ret_i rfl rfl
theorem ref14_radius (r : Int) (h : radB r) : FnOk Tryz.prog F.ref14_radius [I r] [] 0 (Bo true) [] 0 := by
  obtain ⟨h1, h2⟩ := h
  refine fnOk tab mix G.ref14_radius rfl rfl (by kernel_rfl) rfl rfl ?_
  (conv => whnf)
  rw [show decide (0 ≤ r) = true from decide_eq_true h1]
  (conv => whnf)
  (conv => whnf)
  refine ret0 ?_
  exact ret_b (decide_eq_true h2) rfl
theorem ref14_size (x : Int) : FnOk Tryz.prog F.ref14_size [I x] [] 0 (I (max x (ww (0 - x)))) [] 0 := by
  refine fnOk tab mix G.ref14_size rfl rfl (by kernel_rfl) rfl rfl ?_
  (conv => whnf)
  (conv => whnf)
  refine ret0 ?_
  exact ret_i rfl rfl
theorem ref1_Mid (v : Ival) (h : okI v = true) : FnOk Tryz.prog F.ref1_Mid [Iv v] [] 0 (I (mid v)) [] 0 := by
  have h1 := okI_iff.1 h
  unfold inI at h1
  rw [mid, show v.lo + v.hi = ww (v.lo + v.hi) from (ww_id (by unfold rg; omega)).symm]
  refine fnOk tab mix G.ref1_Mid rfl rfl (by kernel_rfl) rfl rfl ?_
  (conv => whnf)
  refine call_i (ref1_Valid v) ?_
  (conv => whnf)
  rw [h]
  (conv => whnf)
  refine call_i (ref1_Floor (ww (v.lo + v.hi)) 2 (ww_rg _) (by decide)) ?_
  (conv => whnf)
  (conv => whnf)
  refine ret0 ?_
  exact ret_i rfl rfl
theorem cmp_Vec : cmpB Tryz.prog 8 Y.Vec = true ∧ Tryz.prog.eqGuardType Tryz.prog.depth Y.Vec = false := ⟨by kernel_rfl, by kernel_rfl⟩
theorem ref10_Usable (v : Vec) : FnOk Tryz.prog F.ref10_Usable [Ve v] [] 0 (Bo (usable v)) [] 0 := by
  refine fnOk tab mix G.ref10_Usable rfl rfl (by kernel_rfl) rfl rfl ?_
  (conv => whnf)
  refine ⟨cmp_Vec, ?_⟩
  (conv => whnf)
  refine ask_m (fun h => ?_) (fun h => ?_)
  · have h : ¬ v = z3 := by rintro rfl; simp [z3] at h
    (conv => whnf)
    refine call_i (ref_Near v 16384 (by decide) (by decide)) ?_
    (conv => whnf)
    (conv => whnf)
    refine ret0 ?_
    exact ret_b (by simp [usable, h]) rfl
  · have h : v = z3 := by cases v; simp at h; simp [z3, h]
    (conv => whnf)
    refine ret0 ?_
    exact ret_b (by simp [usable, h]) rfl
theorem ref14_dot (a b : Vec) : FnOk Tryz.prog F.ref14_dot [Ve a, Ve b] [] 0 (I (dot3 a b)) [] 0 := by
  refine fnOk tab mix G.ref14_dot rfl rfl (by kernel_rfl) rfl rfl ?_
  (conv => whnf)
  refine ⟨⟨by decide, by decide⟩, ?_⟩
  (conv => whnf)
  refine ⟨⟨by decide, by decide⟩, ?_⟩
  (conv => whnf)
  refine ⟨⟨by decide, by decide⟩, ?_⟩
  (conv => whnf)
  refine ⟨⟨by decide, by decide⟩, ?_⟩
  (conv => whnf)
  refine ⟨⟨by decide, by decide⟩, ?_⟩
  (conv => whnf)
  refine ⟨⟨by decide, by decide⟩, ?_⟩
  (conv => whnf)
  (conv => whnf)
  refine ret0 ?_
  exact ret_i rfl rfl
def minusM (a b : Vec) : Vec := ⟨ww (a.x - b.x), ww (a.y - b.y), ww (a.z - b.z)⟩
theorem ref14_minus (a b : Vec) : FnOk Tryz.prog F.ref14_minus [Ve a, Ve b] [] 0 (Ve (minusM a b)) [] 0 := by
  refine fnOk tab mix G.ref14_minus rfl rfl (by kernel_rfl) rfl rfl ?_
  (conv => whnf)
  refine ⟨⟨by decide, by decide⟩, ?_⟩
  (conv => whnf)
  refine ⟨⟨by decide, by decide⟩, ?_⟩
  (conv => whnf)
  refine ⟨⟨by decide, by decide⟩, ?_⟩
  (conv => whnf)
  refine ⟨⟨by decide, by decide⟩, ?_⟩
  (conv => whnf)
  refine ⟨⟨by decide, by decide⟩, ?_⟩
  (conv => whnf)
  refine ⟨⟨by decide, by decide⟩, ?_⟩
  (conv => whnf)
  (conv => whnf)
  refine ret0 ?_
  exact ⟨[], ⟨rfl, trivial⟩, trivial⟩
theorem ref10_Norm (v : Vec) : FnOk Tryz.prog F.ref10_Norm [Ve v] [] 0 (I (normM v)) [] 0 := by
  unfold normM
  refine fnOk tab mix G.ref10_Norm rfl rfl (by kernel_rfl) rfl rfl ?_
  (conv => whnf)
  refine call_i (ref10_Usable v) ?_
  (conv => whnf)
  cases h : usable v with
  | false =>
    rw [if_neg (by decide)]
    (conv => whnf)
    (conv => whnf)
    refine ret0 ?_
    exact ret_i rfl rfl
  | true =>
  rw [if_pos rfl]
  (conv => whnf)
  refine ⟨⟨by decide, by decide⟩, ?_⟩
  (conv => whnf)
  refine ⟨⟨by decide, by decide⟩, ?_⟩
  (conv => whnf)
  refine ⟨⟨by decide, by decide⟩, ?_⟩
  (conv => whnf)
  refine ⟨⟨by decide, by decide⟩, ?_⟩
  (conv => whnf)
  refine ⟨⟨by decide, by decide⟩, ?_⟩
  (conv => whnf)
  refine ⟨⟨by decide, by decide⟩, ?_⟩
  (conv => whnf)
  refine call_i (ref1_RootUp _ (ww_rg _)) ?_
  (conv => whnf)
  (conv => whnf)
  refine ret0 ?_
  exact ret_i rfl rfl
end Go.Proofs.YthdbdokhncaijaaGreat
