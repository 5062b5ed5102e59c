import Derived.Test.YthdbdokhncaijaaM1
import Derived.Test.YthdbdokhncaijaaRows
import Derived.Test.YthdbdokhncaijaaEngG
/- team.Join. -/
namespace Go.Proofs.Ythdbdokhncaijaa
open Eng
set_option maxRecDepth 10000
attribute [local irreducible] FnOk loopW idxF retX arrF

def encSc (s : Scene) : List DV := [dJs s.robot.joints, dMs s.robot.masses, dShs s.shapes, dSks s.skips]
abbrev dScs (l : List Scene) : DV := .lst 4 (l.map encSc)
def emptyS : Scene := ⟨⟨[], []⟩, [], []⟩
def joinTo (l : List Scene) (bs : List Vec) : Nat → Scene
  | 0 => emptyS
  | k + 1 => addScene (joinTo l bs k) (letter k) (bs.getD k ⟨0, 0, 0⟩) (l.getD k emptyS)
def firstBad : List Scene → Int
  | [] => 0
  | s :: l => if checkScene s = 0 then firstBad l else checkScene s
def joinOf (l : List Scene) (bs : List Vec) : Scene × Int :=
  if l.length < 1 ∨ 4 < l.length ∨ bs.length ≠ l.length then (emptyS, 3501)
  else if firstBad l ≠ 0 then (emptyS, firstBad l)
  else if checkScene (joinTo l bs l.length) ≠ 0 then (emptyS, 3502)
  else (joinTo l bs l.length, 0)
abbrev JnR (r : Scene × Int) : SV := .tup [(true, [.dv (dJs r.1.robot.joints), .dv (dMs r.1.robot.masses), .dv (dShs r.1.shapes), .dv (dSks r.1.skips)]), (false, [.dv (.int .i64 r.2)])]
abbrev bScZ : Box := .vars Y.Scene [.nil 12, .nil 5, .nil 3, .nil 2]
theorem getD_at {α : Type} {l : List α} {k : Nat} {x d : α} (h : l[k]? = some x) : l.getD k d = x := by
  rw [List.getD_eq_getElem?_getD, h]; rfl
theorem firstBad_all : ∀ {l : List Scene}, firstBad l = 0 → ∀ s ∈ l, checkScene s = 0
  | [], _, s, hs => by cases hs
  | x :: l, h, s, hs => by
    rw [firstBad] at h
    split at h
    · rename_i h0
      rcases List.mem_cons.1 hs with rfl | hs
      · exact h0
      · exact firstBad_all h s hs
    · rename_i h0; exact absurd h h0
structure Sized (n : Nat) (s : Scene) : Prop where
  joints : s.robot.joints.length ≤ 10 * n
  masses : s.robot.masses.length ≤ 32 * n
  shapes : s.shapes.length ≤ 24 * n
  skips : s.skips.length ≤ 64 * n
  points : ∀ x ∈ s.shapes, x.points.length ≤ 8
theorem Sized.small {n : Nat} {s : Scene} (h : Sized n s) (hn : n ≤ 1000) : small s := by
  have := h.joints; have := h.masses; have := h.shapes; have := h.skips
  exact ⟨by omega, by omega, by omega, by omega, fun x hx => by have := h.points x hx; omega⟩
theorem joinTo_sized {l : List Scene} (bs : List Vec) (hl : ∀ s ∈ l, checkScene s = 0) : ∀ k, k ≤ l.length → Sized k (joinTo l bs k)
  | 0, _ => ⟨Nat.le_refl _, Nat.le_refl _, Nat.le_refl _, Nat.le_refl _, fun x hx => by cases hx⟩
  | k + 1, h => by
    obtain ⟨i1, i2, i3, i4, i5⟩ := joinTo_sized bs hl k (by omega)
    obtain ⟨s, hs⟩ : ∃ s, l[k]? = some s := ⟨_, List.getElem?_eq_getElem (by omega)⟩
    obtain ⟨g0, g1, g2, g3, g4⟩ := scene_facts (hl s (List.mem_of_getElem? hs))
    obtain ⟨f1, _, f3, _⟩ := robot_facts g0
    rw [joinTo, getD_at hs]
    refine ⟨?_, ?_, ?_, ?_, fun x hx => ?_⟩
    · simp only [addScene, List.length_append, List.length_map]; omega
    · simp only [addScene, List.length_append, List.length_map]; omega
    · simp only [addScene, List.length_append, List.length_map]; omega
    · simp only [addScene, List.length_append, List.length_map]; omega
    · rcases List.mem_append.1 hx with hx | hx
      · exact i5 x hx
      · obtain ⟨y, hy, rfl⟩ := List.mem_map.1 hx
        have := (g2 y hy).2.2.1
        simp only [joinSh, List.length_map]; exact this
theorem enc_letter : ∀ k : Nat, k < 4 → Utf8.encode (IntKind.i32.wrap (IntKind.i64.wrap (97 + (k : Int)))) = letter k := by decide
theorem letter_size : ∀ k, k < 10 → (letter k).size = 1 := by decide
theorem firstBad_at {k : Nat} {l : List Scene} {s : Scene} (h : l[k]? = some s) : firstBad (l.drop k) = if checkScene s = 0 then firstBad (l.drop (k + 1)) else checkScene s := by
  rw [drop_cons h, firstBad]
theorem team_Join (l : List Scene) (bs : List Vec) (hl : l.length ≤ 4611686018427387904) (hb : bs.length ≤ 4611686018427387904) (hsm : ∀ s ∈ l, small s) : FnOk Try.prog F.team_Join [.one (.dv (dScs l)), .one (.dv (dVs bs))] [] 0 (JnR (joinOf l bs)) [] 0 := by
  refine fnOk tab mix G.team_Join rfl rfl (by kernel_rfl) rfl rfl ?_
  (conv => whnf)
  refine ask_m (fun h1 => ?_) (fun h1 => ?_)
  · have h1 : l.length < 1 := by have := of_decide_eq_true h1; simp only [List.length_map] at this; omega
    rw [joinOf, if_pos (.inl h1)]
    (conv => whnf)
    refine retO [.ownC 0 0 Y.Joint 12, .ownC 0 1 Y.Mass 5, .ownC 0 2 Y.Shape 3, .ownC 0 3 Y.Skip 2, .frz 1, .frz 2, .frz 3, .frz 4] ?_
    (conv => whnf)
    exact ⟨[], ⟨rfl, trivial⟩, trivial⟩
  have h1 : ¬ l.length < 1 := by have := of_decide_eq_false h1; simp only [List.length_map] at this; omega
  (conv => whnf)
  refine ask_m (fun h2 => ?_) (fun h2 => ?_)
  · have h2 : 4 < l.length := by have := of_decide_eq_true h2; simp only [List.length_map] at this; omega
    rw [joinOf, if_pos (.inr (.inl h2))]
    (conv => whnf)
    refine retO [.ownC 0 0 Y.Joint 12, .ownC 0 1 Y.Mass 5, .ownC 0 2 Y.Shape 3, .ownC 0 3 Y.Skip 2, .frz 1, .frz 2, .frz 3, .frz 4] ?_
    (conv => whnf)
    exact ⟨[], ⟨rfl, trivial⟩, trivial⟩
  have h2 : ¬ 4 < l.length := by have := of_decide_eq_false h2; simp only [List.length_map] at this; omega
  (conv => whnf)
  refine ask_m (fun h3 => ?_) (fun h3 => ?_)
  · have h3 : bs.length ≠ l.length := by simp at h3; omega
    rw [joinOf, if_pos (.inr (.inr h3))]
    (conv => whnf)
    refine retO [.ownC 0 0 Y.Joint 12, .ownC 0 1 Y.Mass 5, .ownC 0 2 Y.Shape 3, .ownC 0 3 Y.Skip 2, .frz 1, .frz 2, .frz 3, .frz 4] ?_
    (conv => whnf)
    exact ⟨[], ⟨rfl, trivial⟩, trivial⟩
  have h3 : bs.length = l.length := by simp at h3; omega
  rw [joinOf, if_neg (by omega)]
  (conv => whnf)
  refine loop_intro (fun k : Nat => ⟨[(0, .one (.dv (dScs l))), (1, .one (.dv (dVs bs))), (4, .one (.vptr 0 0)), (29, .one (.dv (dScs l))), (30, I l.length), (31, I k)], [(0, bScZ)], 1⟩) (fun k => k ≤ l.length ∧ firstBad (l.drop k) = firstBad l) (fun k => l.length - k) [] 0 [] ⟨Nat.zero_le _, rfl⟩ ⟨⟨rfl, rfl, rfl, rfl, eqI (by simp), rfl, trivial⟩, ⟨rfl, trivial⟩⟩ ?_
  rintro k ⟨hk, hf⟩
  have hkk : IntKind.i64.wrap ((k : Int) + 1) = ((k + 1 : Nat) : Int) := by rw [w64] <;> omega
  (conv => whnf)
  refine ask_m (fun hlt => ?_) (fun hlt => ?_)
  · have hlt : k < l.length := by have := of_decide_eq_true hlt; omega
    obtain ⟨s, hs⟩ : ∃ s, l[k]? = some s := ⟨_, List.getElem?_eq_getElem hlt⟩
    rw [firstBad_at hs] at hf
    (conv => whnf)
    refine idx_and (by omega) (by simpa using hs) ?_
    (conv => whnf)
    refine call_i (scene_Check s (hsm s (List.mem_of_getElem? hs))) ?_
    (conv => whnf)
    refine ask_m (fun h => ?_) (fun h => ?_)
    · have h : ¬ checkScene s = 0 := by simpa using h
      rw [if_neg h] at hf
      rw [← hf, if_pos h]
      (conv => whnf)
      refine retO [.ownC 0 0 Y.Joint 12, .ownC 0 1 Y.Mass 5, .ownC 0 2 Y.Shape 3, .ownC 0 3 Y.Skip 2, .frz 2, .frz 3, .frz 4, .frz 5] ?_
      (conv => whnf)
      exact ⟨[], ⟨rfl, trivial⟩, trivial⟩
    · have h : checkScene s = 0 := by simpa using h
      rw [if_pos h] at hf
      (conv => whnf)
      exact ⟨k + 1, [], ⟨hlt, hf⟩, by omega, ⟨⟨rfl, rfl, rfl, rfl, rfl, eqI hkk, trivial⟩, ⟨rfl, trivial⟩⟩⟩
  · have hk : k = l.length := by have := of_decide_eq_false hlt; omega
    subst hk
    rw [List.drop_length, firstBad] at hf
    rw [if_neg (by rw [← hf]; simp)]
    have hok := firstBad_all hf.symm
    (conv => whnf)
    refine loop_intro (fun k : Nat => ⟨[(0, .one (.dv (dScs l))), (1, .one (.dv (dVs bs))), (4, .one (.vptr 0 0)), (9, .one (.vptr 1 0)), (42, .one (.dv (dScs l))), (43, I l.length), (44, I k)], [(0, bScZ), (1, .vars Y.Scene [.row 2, .row 3, .row 4, .row 5]), (2, bJs (joinTo l bs k).robot.joints), (3, bMs (joinTo l bs k).robot.masses), (4, bShs (joinTo l bs k).shapes), (5, bSks (joinTo l bs k).skips)], 6⟩) (fun k => k ≤ l.length) (fun k => l.length - k) [.ownC 1 0 Y.Joint 12, .ownC 1 1 Y.Mass 5, .ownC 1 2 Y.Shape 3, .ownC 1 3 Y.Skip 2] 0 [] (Nat.zero_le _) ⟨⟨rfl, rfl, rfl, rfl, rfl, eqI (by simp), rfl, trivial⟩, ⟨rfl, rfl, rfl, rfl, rfl, rfl, trivial⟩⟩ ?_
    rintro k hk
    have hkk : IntKind.i64.wrap ((k : Int) + 1) = ((k + 1 : Nat) : Int) := by rw [w64] <;> omega
    have hz := joinTo_sized bs hok k hk
    have z1 := hz.joints; have z2 := hz.masses; have z3 := hz.shapes; have z4 := hz.skips
    (conv => whnf)
    refine ask_m (fun hlt => ?_) (fun hlt => ?_)
    · have hlt : k < l.length := by have := of_decide_eq_true hlt; omega
      obtain ⟨s, hs⟩ : ∃ s, l[k]? = some s := ⟨_, List.getElem?_eq_getElem hlt⟩
      obtain ⟨b, hbk⟩ : ∃ b, bs[k]? = some b := ⟨_, List.getElem?_eq_getElem (by omega)⟩
      have hsk := hok s (List.mem_of_getElem? hs)
      have hrk := (scene_facts hsk).1
      have hnx : joinTo l bs (k + 1) = addScene (joinTo l bs k) (letter k) b s := by rw [joinTo, getD_at hs, getD_at hbk]
      generalize joinTo l bs k = acc at *
      (conv => whnf)
      refine idx_and (by omega) (by simpa using hs) ?_
      (conv => whnf)
      refine idx_and (by omega) (by simpa using hbk) ?_
      (conv => whnf)
      rw [enc_letter k (by omega)]
      refine call_i (team_addRobot (letter k) (acc.robot.joints.map encJ).length b acc s.robot (by rw [letter_size k (by omega)]; omega) (by simp; omega) hrk (by omega)) ?_
      (conv => whnf)
      refine call_i (team_addShapes (letter k) (acc.robot.joints.map encJ).length b ⟨⟨acc.robot.joints ++ s.robot.joints.map (joinJ (letter k) (acc.robot.joints.map encJ).length b), acc.robot.masses ++ s.robot.masses.map (joinM (acc.robot.joints.map encJ).length)⟩, acc.shapes, acc.skips⟩ s (by simp; omega) hsk (by simp only; omega)) ?_
      (conv => whnf)
      exact ⟨k + 1, [(2, 8), (3, 9), (4, 10), (5, 11)], hlt, by omega, ⟨⟨rfl, rfl, rfl, rfl, rfl, rfl, eqI hkk, trivial⟩, ⟨rfl, rfl, rows_eq (by rw [hnx, List.length_map]; rfl), rows_eq (by rw [hnx, List.length_map]; rfl), rows_eq (by rw [hnx, List.length_map]; rfl), rows_eq (by rw [hnx, List.length_map]; rfl), trivial⟩⟩⟩
    · have hk : k = l.length := by have := of_decide_eq_false hlt; omega
      subst hk
      (conv => whnf)
      refine call_i (scene_Check (joinTo l bs l.length) (hz.small (by omega))) ?_
      (conv => whnf)
      refine ⟨⟨trivial, trivial⟩, ?_⟩
      (conv => whnf)
      refine ask_m (fun h => ?_) (fun h => ?_)
      · have h : ¬ checkScene (joinTo l bs l.length) = 0 := by simpa using h
        rw [if_pos h]
        (conv => whnf)
        refine retO [.ownC 0 0 Y.Joint 12, .ownC 0 1 Y.Mass 5, .ownC 0 2 Y.Shape 3, .ownC 0 3 Y.Skip 2, .frz 6, .frz 7, .frz 8, .frz 9] ?_
        (conv => whnf)
        exact ⟨[], ⟨rfl, trivial⟩, trivial⟩
      · have h : checkScene (joinTo l bs l.length) = 0 := by simpa using h
        rw [if_neg (by simp [h])]
        (conv => whnf)
        refine retO [.frz 2, .frz 3, .frz 4, .frz 5] ?_
        (conv => whnf)
        exact ⟨[], ⟨rfl, trivial⟩, trivial⟩
end Go.Proofs.Ythdbdokhncaijaa

/- mk.SameRobot and what it calls. -/
namespace Go.Proofs.Ythdbdokhncaijaa
open Eng
set_option maxRecDepth 10000
attribute [local irreducible] FnOk loopW idxF retX arrF

deriving instance DecidableEq for Joint
deriving instance DecidableEq for Mass
deriving instance DecidableEq for Shape
deriving instance DecidableEq for Robot
deriving instance DecidableEq for Scene
theorem cmp_mk_Same_Mass : cmpB Try.prog 8 Y.Mass = true ∧ Try.prog.eqGuardType Try.prog.depth Y.Mass = false := ⟨by kernel_rfl, by kernel_rfl⟩
theorem mk_Same_Mass (a b : List Mass) (ha : a.length ≤ 4611686018427387904) (hb : b.length ≤ 4611686018427387904) : FnOk Try.prog F.mk_Same_api_Mass [.one (.dv (.lst 5 (a.map encM))), .one (.dv (.lst 5 (b.map encM)))] [] 0 (Bo (decide (a = b))) [] 0 := by
  refine fnOk tab mix G.mk_Same_api_Mass rfl rfl (by kernel_rfl) rfl rfl ?_
  (conv => whnf)
  refine ask_m (fun h => ?_) (fun h => ?_)
  · (conv => whnf)
    refine ret0 ?_
    refine ret_b (Eq.symm (decide_eq_false ?_)) rfl
    rintro rfl
    simp at h
  have hl : a.length = b.length := by simp at h; omega
  (conv => whnf)
  refine loop_intro (fun k : Nat => ⟨[(0, .one (.dv (.lst 5 (a.map encM)))), (1, .one (.dv (.lst 5 (b.map encM)))), (5, I k)], [], 0⟩) (fun k => k ≤ a.length ∧ a.take k = b.take k) (fun k => a.length - k) [] 0 [] ⟨Nat.zero_le _, rfl⟩ ⟨⟨rfl, rfl, rfl, trivial⟩, trivial⟩ ?_
  rintro k ⟨hk, hall⟩
  (conv => whnf)
  refine ask_m (fun h => ?_) (fun h => ?_)
  · have hlt : k < a.length := by simpa using h
    obtain ⟨x, hx⟩ : ∃ j, a[k]? = some j := ⟨_, List.getElem?_eq_getElem hlt⟩
    obtain ⟨y, hy⟩ : ∃ j, b[k]? = some j := ⟨_, List.getElem?_eq_getElem (by omega)⟩
    have hkk : IntKind.i64.wrap ((k : Int) + 1) = ((k + 1 : Nat) : Int) := by rw [w64] <;> omega
    (conv => whnf)
    refine idx_and (by omega) (by simpa using hx) ?_
    (conv => whnf)
    refine idx_and (by omega) (by simpa using hy) ?_
    (conv => whnf)
    refine ⟨cmp_mk_Same_Mass, ?_⟩
    (conv => whnf)
    refine ask_m (fun h => ?_) (fun h => ?_)
    · (conv => whnf)
      refine ret0 ?_
      refine ret_b (Eq.symm (decide_eq_false (ne_at hx hy ?_))) rfl
      rintro rfl
      simp at h
    · skip
      have e : x = y := by
        obtain ⟨a1, a2, ⟨a3, a4, a5⟩⟩ := x
        obtain ⟨b1, b2, ⟨b3, b4, b5⟩⟩ := y
        simp at h; simp [h]
      subst e
      (conv => whnf)
      exact ⟨k + 1, [], ⟨hlt, take_same hall hx hy⟩, by omega, ⟨⟨rfl, rfl, eqI hkk, trivial⟩, trivial⟩⟩
  · have hk : k = a.length := by simp at h; omega
    subst hk
    rw [List.take_length, hl, List.take_length] at hall
    (conv => whnf)
    refine ret0 ?_
    exact ret_b (decide_eq_true hall).symm rfl
theorem cmp_mk_Same_Joint : cmpB Try.prog 8 Y.Joint = true ∧ Try.prog.eqGuardType Try.prog.depth Y.Joint = false := ⟨by kernel_rfl, by kernel_rfl⟩
theorem mk_Same_Joint (a b : List Joint) (ha : a.length ≤ 4611686018427387904) (hb : b.length ≤ 4611686018427387904) : FnOk Try.prog F.mk_Same_api_Joint [.one (.dv (.lst 12 (a.map encJ))), .one (.dv (.lst 12 (b.map encJ)))] [] 0 (Bo (decide (a = b))) [] 0 := by
  refine fnOk tab mix G.mk_Same_api_Joint rfl rfl (by kernel_rfl) rfl rfl ?_
  (conv => whnf)
  refine ask_m (fun h => ?_) (fun h => ?_)
  · (conv => whnf)
    refine ret0 ?_
    refine ret_b (Eq.symm (decide_eq_false ?_)) rfl
    rintro rfl
    simp at h
  have hl : a.length = b.length := by simp at h; omega
  (conv => whnf)
  refine loop_intro (fun k : Nat => ⟨[(0, .one (.dv (.lst 12 (a.map encJ)))), (1, .one (.dv (.lst 12 (b.map encJ)))), (5, I k)], [], 0⟩) (fun k => k ≤ a.length ∧ a.take k = b.take k) (fun k => a.length - k) [] 0 [] ⟨Nat.zero_le _, rfl⟩ ⟨⟨rfl, rfl, rfl, trivial⟩, trivial⟩ ?_
  rintro k ⟨hk, hall⟩
  (conv => whnf)
  refine ask_m (fun h => ?_) (fun h => ?_)
  · have hlt : k < a.length := by simpa using h
    obtain ⟨x, hx⟩ : ∃ j, a[k]? = some j := ⟨_, List.getElem?_eq_getElem hlt⟩
    obtain ⟨y, hy⟩ : ∃ j, b[k]? = some j := ⟨_, List.getElem?_eq_getElem (by omega)⟩
    have hkk : IntKind.i64.wrap ((k : Int) + 1) = ((k + 1 : Nat) : Int) := by rw [w64] <;> omega
    (conv => whnf)
    refine idx_and (by omega) (by simpa using hx) ?_
    (conv => whnf)
    refine idx_and (by omega) (by simpa using hy) ?_
    (conv => whnf)
    refine ⟨cmp_mk_Same_Joint, ?_⟩
    (conv => whnf)
    refine ask_m (fun h => ?_) (fun h => ?_)
    · (conv => whnf)
      refine ret0 ?_
      refine ret_b (Eq.symm (decide_eq_false (ne_at hx hy ?_))) rfl
      rintro rfl
      simp at h
    · skip
      have e : x = y := by
        obtain ⟨a1, a2, a3, ⟨a4, a5, a6⟩, a7, a8, a9, a10, a11, a12⟩ := x
        obtain ⟨b1, b2, b3, ⟨b4, b5, b6⟩, b7, b8, b9, b10, b11, b12⟩ := y
        simp at h; simp [h]
      subst e
      (conv => whnf)
      exact ⟨k + 1, [], ⟨hlt, take_same hall hx hy⟩, by omega, ⟨⟨rfl, rfl, eqI hkk, trivial⟩, trivial⟩⟩
  · have hk : k = a.length := by simp at h; omega
    subst hk
    rw [List.take_length, hl, List.take_length] at hall
    (conv => whnf)
    refine ret0 ?_
    exact ret_b (decide_eq_true hall).symm rfl
theorem mk_SameRobot (a b : Robot) (ha : a.joints.length ≤ 4611686018427387904 ∧ a.masses.length ≤ 4611686018427387904) (hb : b.joints.length ≤ 4611686018427387904 ∧ b.masses.length ≤ 4611686018427387904) : FnOk Try.prog F.mk_SameRobot [Ro a, Ro b] [] 0 (Bo (decide (a = b))) [] 0 := by
  refine fnOk tab mix G.mk_SameRobot rfl rfl (by kernel_rfl) rfl rfl ?_
  (conv => whnf)
  obtain ⟨j, m⟩ := a
  obtain ⟨j', m'⟩ := b
  refine call_i (mk_Same_Joint j j' ha.1 hb.1) ?_
  (conv => whnf)
  by_cases h1 : j = j'
  · rw [decide_eq_true h1]
    (conv => whnf)
    refine call_i (mk_Same_Mass m m' ha.2 hb.2) ?_
    (conv => whnf)
    (conv => whnf)
    refine ret0 ?_
    exact ret_b (by simp [h1]) rfl
  · rw [decide_eq_false h1]
    (conv => whnf)
    refine ret0 ?_
    exact ret_b (by simp [h1]) rfl
end Go.Proofs.Ythdbdokhncaijaa

/- law35: the comparisons of lists and scenes. -/
namespace Go.Proofs.Ythdbdokhncaijaa
open Eng
set_option maxRecDepth 10000
attribute [local irreducible] FnOk loopW idxF retX arrF

theorem cmp_mk_Same_Vec : cmpB Try.prog 8 Y.Vec = true ∧ Try.prog.eqGuardType Try.prog.depth Y.Vec = false := ⟨by kernel_rfl, by kernel_rfl⟩
theorem mk_Same_Vec (a b : List Vec) (ha : a.length ≤ 4611686018427387904) (hb : b.length ≤ 4611686018427387904) : FnOk Try.prog F.mk_Same_api_Vec [.one (.dv (.lst 3 (a.map encV))), .one (.dv (.lst 3 (b.map encV)))] [] 0 (Bo (decide (a = b))) [] 0 := by
  refine fnOk tab mix G.mk_Same_api_Vec rfl rfl (by kernel_rfl) rfl rfl ?_
  (conv => whnf)
  refine ask_m (fun h => ?_) (fun h => ?_)
  · (conv => whnf)
    refine ret0 ?_
    refine ret_b (Eq.symm (decide_eq_false ?_)) rfl
    rintro rfl
    simp at h
  have hl : a.length = b.length := by simp at h; omega
  (conv => whnf)
  refine loop_intro (fun k : Nat => ⟨[(0, .one (.dv (.lst 3 (a.map encV)))), (1, .one (.dv (.lst 3 (b.map encV)))), (5, I k)], [], 0⟩) (fun k => k ≤ a.length ∧ a.take k = b.take k) (fun k => a.length - k) [] 0 [] ⟨Nat.zero_le _, rfl⟩ ⟨⟨rfl, rfl, rfl, trivial⟩, trivial⟩ ?_
  rintro k ⟨hk, hall⟩
  (conv => whnf)
  refine ask_m (fun h => ?_) (fun h => ?_)
  · have hlt : k < a.length := by simpa using h
    obtain ⟨x, hx⟩ : ∃ j, a[k]? = some j := ⟨_, List.getElem?_eq_getElem hlt⟩
    obtain ⟨y, hy⟩ : ∃ j, b[k]? = some j := ⟨_, List.getElem?_eq_getElem (by omega)⟩
    have hkk : IntKind.i64.wrap ((k : Int) + 1) = ((k + 1 : Nat) : Int) := by rw [w64] <;> omega
    (conv => whnf)
    refine idx_and (by omega) (by simpa using hx) ?_
    (conv => whnf)
    refine idx_and (by omega) (by simpa using hy) ?_
    (conv => whnf)
    refine ⟨cmp_mk_Same_Vec, ?_⟩
    (conv => whnf)
    refine ask_m (fun h => ?_) (fun h => ?_)
    · (conv => whnf)
      refine ret0 ?_
      refine ret_b (Eq.symm (decide_eq_false (ne_at hx hy ?_))) rfl
      rintro rfl
      simp at h
    · skip
      have e : x = y := by
        obtain ⟨a1, a2, a3⟩ := x
        obtain ⟨b1, b2, b3⟩ := y
        simp at h; simp [h]
      subst e
      (conv => whnf)
      exact ⟨k + 1, [], ⟨hlt, take_same hall hx hy⟩, by omega, ⟨⟨rfl, rfl, eqI hkk, trivial⟩, trivial⟩⟩
  · have hk : k = a.length := by simp at h; omega
    subst hk
    rw [List.take_length, hl, List.take_length] at hall
    (conv => whnf)
    refine ret0 ?_
    exact ret_b (decide_eq_true hall).symm rfl
theorem cmp_mk_Same_Skip : cmpB Try.prog 8 Y.Skip = true ∧ Try.prog.eqGuardType Try.prog.depth Y.Skip = false := ⟨by kernel_rfl, by kernel_rfl⟩
theorem mk_Same_Skip (a b : List Skip) (ha : a.length ≤ 4611686018427387904) (hb : b.length ≤ 4611686018427387904) : FnOk Try.prog F.mk_Same_api_Skip [.one (.dv (.lst 2 (a.map encSk))), .one (.dv (.lst 2 (b.map encSk)))] [] 0 (Bo (decide (a = b))) [] 0 := by
  refine fnOk tab mix G.mk_Same_api_Skip rfl rfl (by kernel_rfl) rfl rfl ?_
  (conv => whnf)
  refine ask_m (fun h => ?_) (fun h => ?_)
  · (conv => whnf)
    refine ret0 ?_
    refine ret_b (Eq.symm (decide_eq_false ?_)) rfl
    rintro rfl
    simp at h
  have hl : a.length = b.length := by simp at h; omega
  (conv => whnf)
  refine loop_intro (fun k : Nat => ⟨[(0, .one (.dv (.lst 2 (a.map encSk)))), (1, .one (.dv (.lst 2 (b.map encSk)))), (5, I k)], [], 0⟩) (fun k => k ≤ a.length ∧ a.take k = b.take k) (fun k => a.length - k) [] 0 [] ⟨Nat.zero_le _, rfl⟩ ⟨⟨rfl, rfl, rfl, trivial⟩, trivial⟩ ?_
  rintro k ⟨hk, hall⟩
  (conv => whnf)
  refine ask_m (fun h => ?_) (fun h => ?_)
  · have hlt : k < a.length := by simpa using h
    obtain ⟨x, hx⟩ : ∃ j, a[k]? = some j := ⟨_, List.getElem?_eq_getElem hlt⟩
    obtain ⟨y, hy⟩ : ∃ j, b[k]? = some j := ⟨_, List.getElem?_eq_getElem (by omega)⟩
    have hkk : IntKind.i64.wrap ((k : Int) + 1) = ((k + 1 : Nat) : Int) := by rw [w64] <;> omega
    (conv => whnf)
    refine idx_and (by omega) (by simpa using hx) ?_
    (conv => whnf)
    refine idx_and (by omega) (by simpa using hy) ?_
    (conv => whnf)
    refine ⟨cmp_mk_Same_Skip, ?_⟩
    (conv => whnf)
    refine ask_m (fun h => ?_) (fun h => ?_)
    · (conv => whnf)
      refine ret0 ?_
      refine ret_b (Eq.symm (decide_eq_false (ne_at hx hy ?_))) rfl
      rintro rfl
      simp at h
    · skip
      have e : x = y := by
        obtain ⟨a1, a2⟩ := x
        obtain ⟨b1, b2⟩ := y
        simp at h; simp [h]
      subst e
      (conv => whnf)
      exact ⟨k + 1, [], ⟨hlt, take_same hall hx hy⟩, by omega, ⟨⟨rfl, rfl, eqI hkk, trivial⟩, trivial⟩⟩
  · have hk : k = a.length := by simp at h; omega
    subst hk
    rw [List.take_length, hl, List.take_length] at hall
    (conv => whnf)
    refine ret0 ?_
    exact ret_b (decide_eq_true hall).symm rfl
theorem mk_SameScene (a b : Scene) (ha : small a) (hb : small b) : FnOk Try.prog F.mk_SameScene [Sc a, Sc b] [] 0 (Bo (decide (a = b))) [] 0 := by
  refine fnOk tab mix G.mk_SameScene rfl rfl (by kernel_rfl) rfl rfl ?_
  (conv => whnf)
  obtain ⟨ra, sa, ka⟩ := a
  obtain ⟨rb, sb, kb⟩ := b
  obtain ⟨a1, a2, a3, a4, a5⟩ := ha
  obtain ⟨b1, b2, b3, b4, b5⟩ := hb
  simp only at a1 a2 a3 a4 a5 b1 b2 b3 b4 b5
  refine call_i (mk_SameRobot ra rb ⟨a1, a2⟩ ⟨b1, b2⟩) ?_
  (conv => whnf)
  by_cases h1 : ra = rb
  case neg =>
    rw [decide_eq_false h1]
    (conv => whnf)
    refine ret0 ?_
    exact ret_b (by simp [h1]) rfl
  rw [decide_eq_true h1]
  (conv => whnf)
  refine call_i (mk_Same_Skip ka kb a4 b4) ?_
  (conv => whnf)
  by_cases h2 : ka = kb
  case neg =>
    rw [decide_eq_false h2]
    (conv => whnf)
    refine ret0 ?_
    exact ret_b (by simp [h2]) rfl
  rw [decide_eq_true h2]
  (conv => whnf)
  refine ask_m (fun h => ?_) (fun h => ?_)
  · have h : ¬ sa.length = sb.length := by simp at h; omega
    (conv => whnf)
    refine ret0 ?_
    exact ret_b (by symm; refine decide_eq_false fun e => h ?_; simp only [Scene.mk.injEq] at e; rw [e.2.1]) rfl
  have hl : sa.length = sb.length := by simp at h; omega
  (conv => whnf)
  refine loop_intro (fun k : Nat => ⟨[(2, .one (.vptr 0 0)), (3, .one (.vptr 1 0)), (5, I k)], [(0, bSc ⟨ra, sa, ka⟩), (1, bSc ⟨rb, sb, kb⟩)], 2⟩) (fun k => k ≤ sa.length ∧ sa.take k = sb.take k) (fun k => sa.length - k) [] 0 [] ⟨Nat.zero_le _, rfl⟩ ⟨⟨rfl, rfl, rfl, trivial⟩, ⟨rfl, rfl, trivial⟩⟩ ?_
  rintro k ⟨hk, hall⟩
  have hkk : IntKind.i64.wrap ((k : Int) + 1) = ((k + 1 : Nat) : Int) := by rw [w64] <;> omega
  (conv => whnf)
  refine ask_m (fun h => ?_) (fun h => ?_)
  · have hlt : k < sa.length := by simpa using h
    obtain ⟨x, hx⟩ : ∃ j, sa[k]? = some j := ⟨_, List.getElem?_eq_getElem hlt⟩
    obtain ⟨y, hy⟩ : ∃ j, sb[k]? = some j := ⟨_, List.getElem?_eq_getElem (by omega)⟩
    have hbad : x ≠ y → decide ((⟨ra, sa, ka⟩ : Scene) = ⟨rb, sb, kb⟩) = false := fun hn => decide_eq_false fun e => by
      simp only [Scene.mk.injEq] at e
      exact ne_at hx hy hn e.2.1
    (conv => whnf)
    refine idx_and (by omega) (by simpa using hx) ?_
    (conv => whnf)
    refine idx_and (by omega) (by simpa using hy) ?_
    (conv => whnf)
    refine ask_m (fun q1 => ?_) (fun q1 => ?_)
    · have q1 : ¬ x.link = y.link := by simpa using q1
      (conv => whnf)
      refine ret0 ?_
      exact ret_b (by rw [hbad fun e => q1 (congrArg Shape.link e)]) rfl
    have q1 : x.link = y.link := by simpa using q1
    (conv => whnf)
    refine ask_m (fun q2 => ?_) (fun q2 => ?_)
    · have q2 : ¬ x.radius = y.radius := by simpa using q2
      (conv => whnf)
      refine ret0 ?_
      exact ret_b (by rw [hbad fun e => q2 (congrArg Shape.radius e)]) rfl
    have q2 : x.radius = y.radius := by simpa using q2
    (conv => whnf)
    refine call_i (mk_Same_Vec x.points y.points (a5 x (List.mem_of_getElem? hx)) (b5 y (List.mem_of_getElem? hy))) ?_
    (conv => whnf)
    by_cases q3 : x.points = y.points
    · rw [decide_eq_true q3]
      (conv => whnf)
      have e : x = y := by cases x; cases y; simp only at q1 q2 q3; simp [q1, q2, q3]
      exact ⟨k + 1, [], ⟨hlt, take_same hall hx (by rw [e]; exact hy)⟩, by omega, ⟨⟨rfl, rfl, eqI hkk, trivial⟩, ⟨rfl, rfl, trivial⟩⟩⟩
    · rw [decide_eq_false q3]
      (conv => whnf)
      (conv => whnf)
      refine ret0 ?_
      exact ret_b (by rw [hbad fun e => q3 (congrArg Shape.points e)]) rfl
  · have hk : k = sa.length := by simp at h; omega
    subst hk
    rw [List.take_length, hl, List.take_length] at hall
    (conv => whnf)
    refine ret0 ?_
    exact ret_b (by simp [h1, h2, hall]) rfl
def smallB (s : Scene) : Bool := decide (s.robot.joints.length ≤ 4) && decide (s.robot.masses.length ≤ 6) && decide (s.shapes.length ≤ 6) && decide (s.skips.length ≤ 8)
theorem mk_SmallScene (s : Scene) : FnOk Try.prog F.mk_SmallScene [Sc s] [] 0 (Bo (smallB s)) [] 0 := by
  refine fnOk tab mix G.mk_SmallScene rfl rfl (by kernel_rfl) rfl rfl ?_
  (conv => whnf)
  refine ask_m (fun h1 => ?_) (fun h1 => ?_)
  · have h1 : s.robot.joints.length ≤ 4 := by have := of_decide_eq_true h1; simp only [List.length_map] at this; omega
    (conv => whnf)
    refine ask_m (fun h2 => ?_) (fun h2 => ?_)
    · have h2 : s.robot.masses.length ≤ 6 := by have := of_decide_eq_true h2; simp only [List.length_map] at this; omega
      (conv => whnf)
      refine ask_m (fun h3 => ?_) (fun h3 => ?_)
      · have h3 : s.shapes.length ≤ 6 := by have := of_decide_eq_true h3; simp only [List.length_map] at this; omega
        (conv => whnf)
        refine ret0 ?_
        exact ret_b (by simp [smallB, h1, h2, h3]; omega) rfl
      · have h3 : ¬ s.shapes.length ≤ 6 := by have := of_decide_eq_false h3; simp only [List.length_map] at this; omega
        (conv => whnf)
        refine ret0 ?_
        exact ret_b (by simp [smallB, h3]) rfl
    · have h2 : ¬ s.robot.masses.length ≤ 6 := by have := of_decide_eq_false h2; simp only [List.length_map] at this; omega
      (conv => whnf)
      refine ret0 ?_
      exact ret_b (by simp [smallB, h2]) rfl
  · have h1 : ¬ s.robot.joints.length ≤ 4 := by have := of_decide_eq_false h1; simp only [List.length_map] at this; omega
    (conv => whnf)
    refine ret0 ?_
    exact ret_b (by simp [smallB, h1]) rfl
end Go.Proofs.Ythdbdokhncaijaa

/- law35: parts of lists. -/
namespace Go.Proofs.Ythdbdokhncaijaa
open Eng
set_option maxRecDepth 10000
attribute [local irreducible] FnOk loopW idxF retX arrF

structure Ival where
  lo : Int
  hi : Int
deriving DecidableEq
def encIv (v : Ival) : List DV := [.int .i64 v.lo, .int .i64 v.hi]
abbrev dIvs (l : List Ival) : DV := .lst 2 (l.map encIv)
theorem mk_Same_int64 (a b : List Int) (ha : a.length ≤ 4611686018427387904) (hb : b.length ≤ 4611686018427387904) : FnOk Try.prog F.mk_Same_int64 [.one (.dv (.lst 1 (a.map encI))), .one (.dv (.lst 1 (b.map encI)))] [] 0 (Bo (decide (a = b))) [] 0 := by
  refine fnOk tab mix G.mk_Same_int64 rfl rfl (by kernel_rfl) rfl rfl ?_
  (conv => whnf)
  refine ask_m (fun h => ?_) (fun h => ?_)
  · (conv => whnf)
    refine ret0 ?_
    refine ret_b (Eq.symm (decide_eq_false ?_)) rfl
    rintro rfl
    simp at h
  have hl : a.length = b.length := by simp at h; omega
  (conv => whnf)
  refine loop_intro (fun k : Nat => ⟨[(0, .one (.dv (.lst 1 (a.map encI)))), (1, .one (.dv (.lst 1 (b.map encI)))), (5, I k)], [], 0⟩) (fun k => k ≤ a.length ∧ a.take k = b.take k) (fun k => a.length - k) [] 0 [] ⟨Nat.zero_le _, rfl⟩ ⟨⟨rfl, rfl, rfl, trivial⟩, trivial⟩ ?_
  rintro k ⟨hk, hall⟩
  (conv => whnf)
  refine ask_m (fun h => ?_) (fun h => ?_)
  · have hlt : k < a.length := by simpa using h
    obtain ⟨x, hx⟩ : ∃ j, a[k]? = some j := ⟨_, List.getElem?_eq_getElem hlt⟩
    obtain ⟨y, hy⟩ : ∃ j, b[k]? = some j := ⟨_, List.getElem?_eq_getElem (by omega)⟩
    have hkk : IntKind.i64.wrap ((k : Int) + 1) = ((k + 1 : Nat) : Int) := by rw [w64] <;> omega
    (conv => whnf)
    refine idx_and (by omega) (by simpa using hx) ?_
    (conv => whnf)
    refine idx_and (by omega) (by simpa using hy) ?_
    (conv => whnf)
    refine ask_m (fun h => ?_) (fun h => ?_)
    · (conv => whnf)
      refine ret0 ?_
      refine ret_b (Eq.symm (decide_eq_false (ne_at hx hy ?_))) rfl
      rintro rfl
      simp at h
    · skip
      have e : x = y := by simpa using h
      subst e
      (conv => whnf)
      exact ⟨k + 1, [], ⟨hlt, take_same hall hx hy⟩, by omega, ⟨⟨rfl, rfl, eqI hkk, trivial⟩, trivial⟩⟩
  · have hk : k = a.length := by simp at h; omega
    subst hk
    rw [List.take_length, hl, List.take_length] at hall
    (conv => whnf)
    refine ret0 ?_
    exact ret_b (decide_eq_true hall).symm rfl
theorem cmp_mk_Same_Interval : cmpB Try.prog 8 Y.Interval = true ∧ Try.prog.eqGuardType Try.prog.depth Y.Interval = false := ⟨by kernel_rfl, by kernel_rfl⟩
theorem mk_Same_Interval (a b : List Ival) (ha : a.length ≤ 4611686018427387904) (hb : b.length ≤ 4611686018427387904) : FnOk Try.prog F.mk_Same_api_Interval [.one (.dv (.lst 2 (a.map encIv))), .one (.dv (.lst 2 (b.map encIv)))] [] 0 (Bo (decide (a = b))) [] 0 := by
  refine fnOk tab mix G.mk_Same_api_Interval rfl rfl (by kernel_rfl) rfl rfl ?_
  (conv => whnf)
  refine ask_m (fun h => ?_) (fun h => ?_)
  · (conv => whnf)
    refine ret0 ?_
    refine ret_b (Eq.symm (decide_eq_false ?_)) rfl
    rintro rfl
    simp at h
  have hl : a.length = b.length := by simp at h; omega
  (conv => whnf)
  refine loop_intro (fun k : Nat => ⟨[(0, .one (.dv (.lst 2 (a.map encIv)))), (1, .one (.dv (.lst 2 (b.map encIv)))), (5, I k)], [], 0⟩) (fun k => k ≤ a.length ∧ a.take k = b.take k) (fun k => a.length - k) [] 0 [] ⟨Nat.zero_le _, rfl⟩ ⟨⟨rfl, rfl, rfl, trivial⟩, trivial⟩ ?_
  rintro k ⟨hk, hall⟩
  (conv => whnf)
  refine ask_m (fun h => ?_) (fun h => ?_)
  · have hlt : k < a.length := by simpa using h
    obtain ⟨x, hx⟩ : ∃ j, a[k]? = some j := ⟨_, List.getElem?_eq_getElem hlt⟩
    obtain ⟨y, hy⟩ : ∃ j, b[k]? = some j := ⟨_, List.getElem?_eq_getElem (by omega)⟩
    have hkk : IntKind.i64.wrap ((k : Int) + 1) = ((k + 1 : Nat) : Int) := by rw [w64] <;> omega
    (conv => whnf)
    refine idx_and (by omega) (by simpa using hx) ?_
    (conv => whnf)
    refine idx_and (by omega) (by simpa using hy) ?_
    (conv => whnf)
    refine ⟨cmp_mk_Same_Interval, ?_⟩
    (conv => whnf)
    refine ask_m (fun h => ?_) (fun h => ?_)
    · (conv => whnf)
      refine ret0 ?_
      refine ret_b (Eq.symm (decide_eq_false (ne_at hx hy ?_))) rfl
      rintro rfl
      simp at h
    · skip
      have e : x = y := by
        cases x; cases y; simp at h; simp [h]
      subst e
      (conv => whnf)
      exact ⟨k + 1, [], ⟨hlt, take_same hall hx hy⟩, by omega, ⟨⟨rfl, rfl, eqI hkk, trivial⟩, trivial⟩⟩
  · have hk : k = a.length := by simp at h; omega
    subst hk
    rw [List.take_length, hl, List.take_length] at hall
    (conv => whnf)
    refine ret0 ?_
    exact ret_b (decide_eq_true hall).symm rfl
/-- joints of the first scenes -/
def cnt (l : List Scene) (k : Nat) : Nat := ((l.take k).map fun s => s.robot.joints.length).sum
theorem cnt_succ {l : List Scene} {k : Nat} {s : Scene} (h : l[k]? = some s) : cnt l (k + 1) = cnt l k + s.robot.joints.length := by
  rw [cnt, map_take1 _ h, List.sum_append]; simp [cnt]
theorem cnt_le (l : List Scene) : ∀ k d, cnt l k ≤ cnt l (k + d)
  | k, 0 => Nat.le_refl _
  | k, d + 1 => by
    refine Nat.le_trans (cnt_le l k d) ?_
    rcases Nat.lt_or_ge (k + d) l.length with h | h
    · rw [← Nat.add_assoc, cnt_succ (List.getElem?_eq_getElem h)]; omega
    · rw [cnt, cnt, List.take_of_length_le h, List.take_of_length_le (by omega)]; exact Nat.le_refl _
theorem cnt_bd {l : List Scene} (hj : ∀ s ∈ l, s.robot.joints.length ≤ 1000) : ∀ k, k ≤ l.length → cnt l k ≤ 1000 * k
  | 0, _ => Nat.le_refl _
  | k + 1, h => by
    have := cnt_bd hj k (by omega)
    obtain ⟨s, hs⟩ : ∃ s, l[k]? = some s := ⟨_, List.getElem?_eq_getElem (by omega)⟩
    have := hj s (List.mem_of_getElem? hs)
    rw [cnt_succ hs]; omega
def partOf {α : Type} (l : List Scene) (xs : List α) (k : Int) : List α × Bool :=
  if k < 0 ∨ (l.length : Int) ≤ k then ([], false) else if xs.length ≠ cnt l l.length then ([], false) else ((xs.take (cnt l (k.toNat + 1))).drop (cnt l k.toNat), true)
theorem part_map {α : Type} (enc : α → List DV) (xs : List α) (a b : Nat) : ((xs.map enc).take b).drop a = ((xs.take b).drop a).map enc := by
  rw [List.map_drop, List.map_take]
theorem ref_span (l : List Scene) (k : Int) (hl : l.length ≤ 1000) (hj : ∀ s ∈ l, s.robot.joints.length ≤ 1000) : FnOk Try.prog F.ref32_span [.one (.dv (dScs l)), I k] [] 0 (.tup [(false, [.dv (.int .i64 (if 0 ≤ k ∧ k < l.length then (cnt l k.toNat : Int) else 0))]), (false, [.dv (.int .i64 (if 0 ≤ k ∧ k < l.length then (cnt l (k.toNat + 1) : Int) else 0))]), (false, [.dv (.int .i64 (cnt l l.length))])]) [] 0 := by
  refine fnOk tab mix G.ref32_span rfl rfl (by kernel_rfl) rfl rfl ?_
  (conv => whnf)
  refine loop_intro (fun i : Nat => ⟨[(0, .one (.dv (dScs l))), (1, I k), (7, I (if 0 ≤ k ∧ k < i then (cnt l k.toNat : Int) else 0)), (8, I (if 0 ≤ k ∧ k < i then (cnt l (k.toNat + 1) : Int) else 0)), (9, I (cnt l i)), (10, I i)], [], 0⟩) (fun i => i ≤ l.length) (fun i => l.length - i) [] 0 [] (Nat.zero_le _) ⟨⟨rfl, rfl, eqI (by rw [if_neg (by omega)]), eqI (by rw [if_neg (by omega)]), rfl, rfl, trivial⟩, trivial⟩ ?_
  rintro i hi
  have hii : IntKind.i64.wrap ((i : Int) + 1) = ((i + 1 : Nat) : Int) := by rw [w64] <;> omega
  (conv => whnf)
  refine ask_m (fun hlt => ?_) (fun hlt => ?_)
  · have hlt : i < l.length := by simpa using hlt
    obtain ⟨s, hs⟩ : ∃ s, l[i]? = some s := ⟨_, List.getElem?_eq_getElem hlt⟩
    have hb := cnt_bd hj i hi
    have hsj := hj s (List.mem_of_getElem? hs)
    have hcs := cnt_succ hs
    have e1 : IntKind.i64.wrap ((cnt l i : Int) + ((s.robot.joints.map encJ).length : Nat)) = (cnt l (i + 1) : Nat) := by rw [List.length_map, w64] <;> omega
    (conv => whnf)
    refine ask_m (fun he => ?_) (fun he => ?_)
    · have he : (i : Int) = k := by simpa using he
      subst he
      (conv => whnf)
      refine idx_and (by omega) (by simpa using hs) ?_
      (conv => whnf)
      refine idx_and (by omega) (by simpa using hs) ?_
      (conv => whnf)
      exact ⟨i + 1, [], hlt, by omega, ⟨⟨rfl, rfl, eqI (by rw [if_pos (by omega), Int.toNat_natCast]), eqI (by rw [if_pos (by omega), Int.toNat_natCast]; exact e1), eqI e1, eqI hii, trivial⟩, trivial⟩⟩
    · have he : ¬ (i : Int) = k := by simpa using he
      (conv => whnf)
      refine idx_and (by omega) (by simpa using hs) ?_
      (conv => whnf)
      have hc : (0 ≤ k ∧ k < (i : Int)) ↔ (0 ≤ k ∧ k < ((i + 1 : Nat) : Int)) := by omega
      exact ⟨i + 1, [], hlt, by omega, ⟨⟨rfl, rfl, eqI (by simp only [hc]), eqI (by simp only [hc]), eqI e1, eqI hii, trivial⟩, trivial⟩⟩
  · have hi : i = l.length := by simp at hlt; omega
    subst hi
    (conv => whnf)
    refine ret0 ?_
    exact ⟨[], ⟨rfl, trivial⟩, trivial⟩
theorem clone_Int (xs : List Int) (hl : xs.length ≤ 1099511627776) : FnOk Try.prog F.slices_Clone_sint64_int64 [.one (.dv (.lst 1 (xs.map encI)))] [] 0 (.one (.row 0)) [(0, .rows Y.int64 1 (xs.map encI))] 1 := by
  refine fnOk tab mix G.slices_Clone_sint64_int64 rfl rfl (by kernel_rfl) rfl rfl ?_
  (conv => whnf)
  refine ⟨fun h => ?_, ?_⟩
  · (conv => whnf)
    refine retO [.own 2 Y.int64 1] ?_
    (conv => whnf)
    exact ⟨[], ⟨rfl, trivial⟩, ⟨by rw [h]; rfl, trivial⟩⟩
  · (conv => whnf)
    refine ⟨⟨by simp; omega, by simp; omega⟩, ?_⟩
    (conv => whnf)
    (conv => whnf)
    refine retO [] ?_
    (conv => whnf)
    exact ⟨[(0, 1)], ⟨rfl, trivial⟩, ⟨rfl, trivial⟩⟩
theorem team_partI (l : List Scene) (xs : List Int) (k : Int) (hl : l.length ≤ 1000) (hj : ∀ s ∈ l, s.robot.joints.length ≤ 1000) : FnOk Try.prog F.team_part_int64 [.one (.dv (dScs l)), .one (.dv (.lst 1 (xs.map encI))), I k] [] 0 (.tup [(false, [.dv (.lst 1 ((partOf l xs k).1.map encI))]), (false, [.dv (.bool (partOf l xs k).2)])]) [] 0 := by
  refine fnOk tab mix G.team_part_int64 rfl rfl (by kernel_rfl) rfl rfl ?_
  (conv => whnf)
  refine ask_m (fun h1 => ?_) (fun h1 => ?_)
  · have h1 : k < 0 := of_decide_eq_true h1
    rw [partOf, if_pos (.inl h1)]
    (conv => whnf)
    refine retO [.own 6 Y.int64 1, .frz 0] ?_
    (conv => whnf)
    exact ⟨[], ⟨rfl, trivial⟩, trivial⟩
  have h1 : ¬ k < 0 := of_decide_eq_false h1
  (conv => whnf)
  refine ask_m (fun h2 => ?_) (fun h2 => ?_)
  · have h2 : (l.length : Int) ≤ k := by have := of_decide_eq_true h2; simpa using this
    rw [partOf, if_pos (.inr h2)]
    (conv => whnf)
    refine retO [.own 6 Y.int64 1, .frz 0] ?_
    (conv => whnf)
    exact ⟨[], ⟨rfl, trivial⟩, trivial⟩
  have h2 : ¬ (l.length : Int) ≤ k := by have := of_decide_eq_false h2; simpa using this
  obtain ⟨c, rfl⟩ : ∃ c : Nat, k = c := ⟨k.toNat, by omega⟩
  rw [partOf, if_neg (by omega), Int.toNat_natCast]
  (conv => whnf)
  refine loop_intro (fun i : Nat => ⟨[(0, .one (.dv (dScs l))), (1, .one (.dv (.lst 1 (xs.map encI)))), (2, I c), (6, .one (.nil 1)), (8, I (cnt l i)), (9, I (if c < i then (cnt l c : Int) else 0)), (20, .one (.dv (dScs l))), (21, I l.length), (22, I i)], [], 0⟩) (fun i => i ≤ l.length) (fun i => l.length - i) [] 0 [] (Nat.zero_le _) ⟨⟨rfl, rfl, rfl, rfl, rfl, rfl, rfl, eqI (by simp), rfl, trivial⟩, trivial⟩ ?_
  rintro i hi
  have hii : IntKind.i64.wrap ((i : Int) + 1) = ((i + 1 : Nat) : Int) := by rw [w64] <;> omega
  have hb := cnt_bd hj i hi
  (conv => whnf)
  refine ask_m (fun hlt => ?_) (fun hlt => ?_)
  · have hlt : i < l.length := by have := of_decide_eq_true hlt; omega
    obtain ⟨s, hs⟩ : ∃ s, l[i]? = some s := ⟨_, List.getElem?_eq_getElem hlt⟩
    have hsj := hj s (List.mem_of_getElem? hs)
    have hcs := cnt_succ hs
    have e1 : IntKind.i64.wrap ((cnt l i : Int) + ((s.robot.joints.map encJ).length : Nat)) = (cnt l (i + 1) : Nat) := by rw [List.length_map, w64] <;> omega
    (conv => whnf)
    refine idx_and (by omega) (by simpa using hs) ?_
    (conv => whnf)
    refine ask_m (fun he => ?_) (fun he => ?_)
    · have he : i = c := by have : (i : Int) = c := by simpa using he
                            omega
      subst he
      (conv => whnf)
      exact ⟨i + 1, [], hlt, by omega, ⟨⟨rfl, rfl, rfl, rfl, eqI e1, eqI (by rw [if_pos (by omega)]), rfl, rfl, eqI hii, trivial⟩, trivial⟩⟩
    · have he : ¬ i = c := by have : ¬ (i : Int) = c := by simpa using he
                              omega
      (conv => whnf)
      have hc : c < i ↔ c < i + 1 := by omega
      exact ⟨i + 1, [], hlt, by omega, ⟨⟨rfl, rfl, rfl, rfl, eqI e1, eqI (by simp only [hc]), rfl, rfl, eqI hii, trivial⟩, trivial⟩⟩
  have hi : i = l.length := by have := of_decide_eq_false hlt; omega
  subst hi
  rw [if_pos (by omega : c < l.length)]
  (conv => whnf)
  refine ask_m (fun hn => ?_) (fun hn => ?_)
  · have hn : xs.length ≠ cnt l l.length := by have : ¬ ((xs.map encI).length : Int) = (cnt l l.length : Nat) := by simpa using hn
                                               rw [List.length_map] at this; omega
    rw [if_pos hn]
    (conv => whnf)
    refine retO [.own 6 Y.int64 1, .frz 0] ?_
    (conv => whnf)
    exact ⟨[], ⟨rfl, trivial⟩, trivial⟩
  have hn : xs.length = cnt l l.length := by have : ((xs.map encI).length : Int) = (cnt l l.length : Nat) := by simpa using hn
                                             rw [List.length_map] at this; omega
  rw [if_neg (by simp [hn])]
  obtain ⟨s, hs⟩ : ∃ s, l[c]? = some s := ⟨_, List.getElem?_eq_getElem (by omega)⟩
  have hsj := hj s (List.mem_of_getElem? hs)
  have hcs := cnt_succ hs
  have hbc := cnt_bd hj c (by omega)
  have hle : cnt l (c + 1) ≤ cnt l l.length := by have := cnt_le l (c + 1) (l.length - (c + 1)); rwa [show c + 1 + (l.length - (c + 1)) = l.length by omega] at this
  have e1 : IntKind.i64.wrap ((cnt l c : Int) + ((s.robot.joints.map encJ).length : Nat)) = (cnt l (c + 1) : Nat) := by rw [List.length_map, w64] <;> omega
  (conv => whnf)
  refine idx_and (by omega) (by simpa using hs) ?_
  (conv => whnf)
  rw [e1]
  refine ⟨⟨by omega, by omega, by simp only [List.length_map]; omega⟩, ?_⟩
  (conv => whnf)
  rw [Int.toNat_natCast, Int.toNat_natCast, part_map]
  refine call_i (clone_Int ((xs.take (cnt l (c + 1))).drop (cnt l c)) (by simp only [List.length_drop, List.length_take]; omega)) ?_
  (conv => whnf)
  (conv => whnf)
  refine retO [.frz 0] ?_
  (conv => whnf)
  exact ⟨[], ⟨rfl, trivial⟩, trivial⟩
theorem team_Part' (l : List Scene) (xs : List Int) (k : Int) (hl : l.length ≤ 1000) (hj : ∀ s ∈ l, s.robot.joints.length ≤ 1000) : FnOk Try.prog F.team_Part [.one (.dv (dScs l)), .one (.dv (.lst 1 (xs.map encI))), I k] [] 0 (.tup [(false, [.dv (.lst 1 ((partOf l xs k).1.map encI))]), (false, [.dv (.bool (partOf l xs k).2)])]) [] 0 := by
  refine fnOk tab mix G.team_Part rfl rfl (by kernel_rfl) rfl rfl ?_
  (conv => whnf)
  refine call_i (team_partI l xs k hl hj) ?_
  (conv => whnf)
  (conv => whnf)
  refine ret0 ?_
  exact ⟨[], ⟨rfl, trivial⟩, trivial⟩
theorem ref32_Part' (l : List Scene) (xs : List Int) (k : Int) (hl : l.length ≤ 1000) (hj : ∀ s ∈ l, s.robot.joints.length ≤ 1000) : FnOk Try.prog F.ref32_Part [.one (.dv (dScs l)), .one (.dv (.lst 1 (xs.map encI))), I k] [] 0 (.tup [(false, [.dv (.lst 1 ((partOf l xs k).1.map encI))]), (false, [.dv (.bool (partOf l xs k).2)])]) [] 0 := by
  refine fnOk tab mix G.ref32_Part rfl rfl (by kernel_rfl) rfl rfl ?_
  (conv => whnf)
  refine call_i (ref_span l k hl hj) ?_
  (conv => whnf)
  refine ask_m (fun h1 => ?_) (fun h1 => ?_)
  · have h1 : k < 0 := of_decide_eq_true h1
    rw [partOf, if_pos (.inl h1)]
    (conv => whnf)
    refine retO [.own 6 Y.int64 1, .frz 0] ?_
    (conv => whnf)
    exact ⟨[], ⟨rfl, trivial⟩, trivial⟩
  have h1 : ¬ k < 0 := of_decide_eq_false h1
  (conv => whnf)
  refine ask_m (fun h2 => ?_) (fun h2 => ?_)
  · have h2 : (l.length : Int) ≤ k := by have := of_decide_eq_true h2; simpa using this
    rw [partOf, if_pos (.inr h2)]
    (conv => whnf)
    refine retO [.own 6 Y.int64 1, .frz 0] ?_
    (conv => whnf)
    exact ⟨[], ⟨rfl, trivial⟩, trivial⟩
  have h2 : ¬ (l.length : Int) ≤ k := by have := of_decide_eq_false h2; simpa using this
  obtain ⟨c, rfl⟩ : ∃ c : Nat, k = c := ⟨k.toNat, by omega⟩
  (conv => whnf)
  refine ask_m (fun hn => ?_) (fun hn => ?_)
  · have hn : xs.length ≠ cnt l l.length := by have : ¬ ((xs.map encI).length : Int) = (cnt l l.length : Nat) := by simpa using hn
                                               rw [List.length_map] at this; omega
    have e : partOf l xs (c : Int) = ([], false) := by rw [partOf, if_neg (by omega), if_pos hn]
    rw [e]
    (conv => whnf)
    refine retO [.own 6 Y.int64 1, .frz 0] ?_
    (conv => whnf)
    exact ⟨[], ⟨rfl, trivial⟩, trivial⟩
  have hn : xs.length = cnt l l.length := by have : ((xs.map encI).length : Int) = (cnt l l.length : Nat) := by simpa using hn
                                             rw [List.length_map] at this; omega
  have e : partOf l xs (c : Int) = ((xs.take (cnt l (c + 1))).drop (cnt l c), true) := by rw [partOf, if_neg (by omega), if_neg (by simp [hn]), Int.toNat_natCast]
  rw [e]
  have hle : cnt l (c + 1) ≤ cnt l l.length := by have := cnt_le l (c + 1) (l.length - (c + 1)); rwa [show c + 1 + (l.length - (c + 1)) = l.length by omega] at this
  have hle2 := cnt_le l c 1
  (conv => whnf)
  rw [if_pos (by omega : 0 ≤ (c : Int) ∧ (c : Int) < l.length), if_pos (by omega : 0 ≤ (c : Int) ∧ (c : Int) < l.length), Int.toNat_natCast]
  refine ⟨⟨by omega, by omega, by simp only [List.length_map]; omega⟩, ?_⟩
  (conv => whnf)
  rw [Int.toNat_natCast, Int.toNat_natCast, part_map]
  (conv => whnf)
  refine ret0 ?_
  exact ⟨[], ⟨rfl, trivial⟩, trivial⟩
theorem clone_Ival (xs : List Ival) (hl : xs.length ≤ 1099511627776) : FnOk Try.prog F.slices_Clone_sapi_Interval_api_Interval [.one (.dv (.lst 2 (xs.map encIv)))] [] 0 (.one (.row 0)) [(0, .rows Y.Interval 2 (xs.map encIv))] 1 := by
  refine fnOk tab mix G.slices_Clone_sapi_Interval_api_Interval rfl rfl (by kernel_rfl) rfl rfl ?_
  (conv => whnf)
  refine ⟨fun h => ?_, ?_⟩
  · (conv => whnf)
    refine retO [.own 2 Y.Interval 2] ?_
    (conv => whnf)
    exact ⟨[], ⟨rfl, trivial⟩, ⟨by rw [h]; rfl, trivial⟩⟩
  · (conv => whnf)
    refine ⟨⟨by simp; omega, by simp; omega⟩, ?_⟩
    (conv => whnf)
    (conv => whnf)
    refine retO [] ?_
    (conv => whnf)
    exact ⟨[(0, 1)], ⟨rfl, trivial⟩, ⟨rfl, trivial⟩⟩
theorem team_partB (l : List Scene) (xs : List Ival) (k : Int) (hl : l.length ≤ 1000) (hj : ∀ s ∈ l, s.robot.joints.length ≤ 1000) : FnOk Try.prog F.team_part_api_Interval [.one (.dv (dScs l)), .one (.dv (.lst 2 (xs.map encIv))), I k] [] 0 (.tup [(false, [.dv (.lst 2 ((partOf l xs k).1.map encIv))]), (false, [.dv (.bool (partOf l xs k).2)])]) [] 0 := by
  refine fnOk tab mix G.team_part_api_Interval rfl rfl (by kernel_rfl) rfl rfl ?_
  (conv => whnf)
  refine ask_m (fun h1 => ?_) (fun h1 => ?_)
  · have h1 : k < 0 := of_decide_eq_true h1
    rw [partOf, if_pos (.inl h1)]
    (conv => whnf)
    refine retO [.own 6 Y.Interval 2, .frz 0] ?_
    (conv => whnf)
    exact ⟨[], ⟨rfl, trivial⟩, trivial⟩
  have h1 : ¬ k < 0 := of_decide_eq_false h1
  (conv => whnf)
  refine ask_m (fun h2 => ?_) (fun h2 => ?_)
  · have h2 : (l.length : Int) ≤ k := by have := of_decide_eq_true h2; simpa using this
    rw [partOf, if_pos (.inr h2)]
    (conv => whnf)
    refine retO [.own 6 Y.Interval 2, .frz 0] ?_
    (conv => whnf)
    exact ⟨[], ⟨rfl, trivial⟩, trivial⟩
  have h2 : ¬ (l.length : Int) ≤ k := by have := of_decide_eq_false h2; simpa using this
  obtain ⟨c, rfl⟩ : ∃ c : Nat, k = c := ⟨k.toNat, by omega⟩
  rw [partOf, if_neg (by omega), Int.toNat_natCast]
  (conv => whnf)
  refine loop_intro (fun i : Nat => ⟨[(0, .one (.dv (dScs l))), (1, .one (.dv (.lst 2 (xs.map encIv)))), (2, I c), (6, .one (.nil 2)), (8, I (cnt l i)), (9, I (if c < i then (cnt l c : Int) else 0)), (20, .one (.dv (dScs l))), (21, I l.length), (22, I i)], [], 0⟩) (fun i => i ≤ l.length) (fun i => l.length - i) [] 0 [] (Nat.zero_le _) ⟨⟨rfl, rfl, rfl, rfl, rfl, rfl, rfl, eqI (by simp), rfl, trivial⟩, trivial⟩ ?_
  rintro i hi
  have hii : IntKind.i64.wrap ((i : Int) + 1) = ((i + 1 : Nat) : Int) := by rw [w64] <;> omega
  have hb := cnt_bd hj i hi
  (conv => whnf)
  refine ask_m (fun hlt => ?_) (fun hlt => ?_)
  · have hlt : i < l.length := by have := of_decide_eq_true hlt; omega
    obtain ⟨s, hs⟩ : ∃ s, l[i]? = some s := ⟨_, List.getElem?_eq_getElem hlt⟩
    have hsj := hj s (List.mem_of_getElem? hs)
    have hcs := cnt_succ hs
    have e1 : IntKind.i64.wrap ((cnt l i : Int) + ((s.robot.joints.map encJ).length : Nat)) = (cnt l (i + 1) : Nat) := by rw [List.length_map, w64] <;> omega
    (conv => whnf)
    refine idx_and (by omega) (by simpa using hs) ?_
    (conv => whnf)
    refine ask_m (fun he => ?_) (fun he => ?_)
    · have he : i = c := by have : (i : Int) = c := by simpa using he
                            omega
      subst he
      (conv => whnf)
      exact ⟨i + 1, [], hlt, by omega, ⟨⟨rfl, rfl, rfl, rfl, eqI e1, eqI (by rw [if_pos (by omega)]), rfl, rfl, eqI hii, trivial⟩, trivial⟩⟩
    · have he : ¬ i = c := by have : ¬ (i : Int) = c := by simpa using he
                              omega
      (conv => whnf)
      have hc : c < i ↔ c < i + 1 := by omega
      exact ⟨i + 1, [], hlt, by omega, ⟨⟨rfl, rfl, rfl, rfl, eqI e1, eqI (by simp only [hc]), rfl, rfl, eqI hii, trivial⟩, trivial⟩⟩
  have hi : i = l.length := by have := of_decide_eq_false hlt; omega
  subst hi
  rw [if_pos (by omega : c < l.length)]
  (conv => whnf)
  refine ask_m (fun hn => ?_) (fun hn => ?_)
  · have hn : xs.length ≠ cnt l l.length := by have : ¬ ((xs.map encIv).length : Int) = (cnt l l.length : Nat) := by simpa using hn
                                               rw [List.length_map] at this; omega
    rw [if_pos hn]
    (conv => whnf)
    refine retO [.own 6 Y.Interval 2, .frz 0] ?_
    (conv => whnf)
    exact ⟨[], ⟨rfl, trivial⟩, trivial⟩
  have hn : xs.length = cnt l l.length := by have : ((xs.map encIv).length : Int) = (cnt l l.length : Nat) := by simpa using hn
                                             rw [List.length_map] at this; omega
  rw [if_neg (by simp [hn])]
  obtain ⟨s, hs⟩ : ∃ s, l[c]? = some s := ⟨_, List.getElem?_eq_getElem (by omega)⟩
  have hsj := hj s (List.mem_of_getElem? hs)
  have hcs := cnt_succ hs
  have hbc := cnt_bd hj c (by omega)
  have hle : cnt l (c + 1) ≤ cnt l l.length := by have := cnt_le l (c + 1) (l.length - (c + 1)); rwa [show c + 1 + (l.length - (c + 1)) = l.length by omega] at this
  have e1 : IntKind.i64.wrap ((cnt l c : Int) + ((s.robot.joints.map encJ).length : Nat)) = (cnt l (c + 1) : Nat) := by rw [List.length_map, w64] <;> omega
  (conv => whnf)
  refine idx_and (by omega) (by simpa using hs) ?_
  (conv => whnf)
  rw [e1]
  refine ⟨⟨by omega, by omega, by simp only [List.length_map]; omega⟩, ?_⟩
  (conv => whnf)
  rw [Int.toNat_natCast, Int.toNat_natCast, part_map]
  refine call_i (clone_Ival ((xs.take (cnt l (c + 1))).drop (cnt l c)) (by simp only [List.length_drop, List.length_take]; omega)) ?_
  (conv => whnf)
  (conv => whnf)
  refine retO [.frz 0] ?_
  (conv => whnf)
  exact ⟨[], ⟨rfl, trivial⟩, trivial⟩
theorem team_PartBox' (l : List Scene) (xs : List Ival) (k : Int) (hl : l.length ≤ 1000) (hj : ∀ s ∈ l, s.robot.joints.length ≤ 1000) : FnOk Try.prog F.team_PartBox [.one (.dv (dScs l)), .one (.dv (.lst 2 (xs.map encIv))), I k] [] 0 (.tup [(false, [.dv (.lst 2 ((partOf l xs k).1.map encIv))]), (false, [.dv (.bool (partOf l xs k).2)])]) [] 0 := by
  refine fnOk tab mix G.team_PartBox rfl rfl (by kernel_rfl) rfl rfl ?_
  (conv => whnf)
  refine call_i (team_partB l xs k hl hj) ?_
  (conv => whnf)
  (conv => whnf)
  refine ret0 ?_
  exact ⟨[], ⟨rfl, trivial⟩, trivial⟩
theorem ref32_PartBox' (l : List Scene) (xs : List Ival) (k : Int) (hl : l.length ≤ 1000) (hj : ∀ s ∈ l, s.robot.joints.length ≤ 1000) : FnOk Try.prog F.ref32_PartBox [.one (.dv (dScs l)), .one (.dv (.lst 2 (xs.map encIv))), I k] [] 0 (.tup [(false, [.dv (.lst 2 ((partOf l xs k).1.map encIv))]), (false, [.dv (.bool (partOf l xs k).2)])]) [] 0 := by
  refine fnOk tab mix G.ref32_PartBox rfl rfl (by kernel_rfl) rfl rfl ?_
  (conv => whnf)
  refine call_i (ref_span l k hl hj) ?_
  (conv => whnf)
  refine ask_m (fun h1 => ?_) (fun h1 => ?_)
  · have h1 : k < 0 := of_decide_eq_true h1
    rw [partOf, if_pos (.inl h1)]
    (conv => whnf)
    refine retO [.own 6 Y.Interval 2, .frz 0] ?_
    (conv => whnf)
    exact ⟨[], ⟨rfl, trivial⟩, trivial⟩
  have h1 : ¬ k < 0 := of_decide_eq_false h1
  (conv => whnf)
  refine ask_m (fun h2 => ?_) (fun h2 => ?_)
  · have h2 : (l.length : Int) ≤ k := by have := of_decide_eq_true h2; simpa using this
    rw [partOf, if_pos (.inr h2)]
    (conv => whnf)
    refine retO [.own 6 Y.Interval 2, .frz 0] ?_
    (conv => whnf)
    exact ⟨[], ⟨rfl, trivial⟩, trivial⟩
  have h2 : ¬ (l.length : Int) ≤ k := by have := of_decide_eq_false h2; simpa using this
  obtain ⟨c, rfl⟩ : ∃ c : Nat, k = c := ⟨k.toNat, by omega⟩
  (conv => whnf)
  refine ask_m (fun hn => ?_) (fun hn => ?_)
  · have hn : xs.length ≠ cnt l l.length := by have : ¬ ((xs.map encIv).length : Int) = (cnt l l.length : Nat) := by simpa using hn
                                               rw [List.length_map] at this; omega
    have e : partOf l xs (c : Int) = ([], false) := by rw [partOf, if_neg (by omega), if_pos hn]
    rw [e]
    (conv => whnf)
    refine retO [.own 6 Y.Interval 2, .frz 0] ?_
    (conv => whnf)
    exact ⟨[], ⟨rfl, trivial⟩, trivial⟩
  have hn : xs.length = cnt l l.length := by have : ((xs.map encIv).length : Int) = (cnt l l.length : Nat) := by simpa using hn
                                             rw [List.length_map] at this; omega
  have e : partOf l xs (c : Int) = ((xs.take (cnt l (c + 1))).drop (cnt l c), true) := by rw [partOf, if_neg (by omega), if_neg (by simp [hn]), Int.toNat_natCast]
  rw [e]
  have hle : cnt l (c + 1) ≤ cnt l l.length := by have := cnt_le l (c + 1) (l.length - (c + 1)); rwa [show c + 1 + (l.length - (c + 1)) = l.length by omega] at this
  have hle2 := cnt_le l c 1
  (conv => whnf)
  rw [if_pos (by omega : 0 ≤ (c : Int) ∧ (c : Int) < l.length), if_pos (by omega : 0 ≤ (c : Int) ∧ (c : Int) < l.length), Int.toNat_natCast]
  refine ⟨⟨by omega, by omega, by simp only [List.length_map]; omega⟩, ?_⟩
  (conv => whnf)
  rw [Int.toNat_natCast, Int.toNat_natCast, part_map]
  (conv => whnf)
  refine ret0 ?_
  exact ⟨[], ⟨rfl, trivial⟩, trivial⟩
end Go.Proofs.Ythdbdokhncaijaa

/- ref.JoinScenes. -/
namespace Go.Proofs.Ythdbdokhncaijaa
open Eng
set_option maxRecDepth 10000
attribute [local irreducible] FnOk loopW idxF retX arrF

theorem ref_raised (n p : Int) (h0 : 0 ≤ p ∧ p ≤ 1000) (h1 : -1 ≤ n ∧ n ≤ 1000) : FnOk Try.prog F.ref32_raised [I n, I p] [] 0 (I (raise p n)) [] 0 := by
  refine fnOk tab mix G.ref32_raised rfl rfl (by kernel_rfl) rfl rfl ?_
  (conv => whnf)
  refine ask_m (fun h => ?_) (fun h => ?_)
  · have h : n = -1 := by simpa using h
    (conv => whnf)
    refine ret0 ?_
    exact ret_i (by rw [raise, if_pos h, h]) rfl
  · have h : ¬ n = -1 := by simpa using h
    (conv => whnf)
    refine ret0 ?_
    exact ret_i (by rw [raise, if_neg h, w64] <;> omega) rfl
theorem ref_shifted (x : Shape) (n : Int) (b : Vec) (hx : x.points.length ≤ 1000) : FnOk Try.prog F.ref32_shifted [Sh x, I n, Ve b] [] 0 (Sh ⟨n, x.radius, x.points.map (addV b)⟩) [] 0 := by
  refine fnOk tab mix G.ref32_shifted rfl rfl (by kernel_rfl) rfl rfl ?_
  (conv => whnf)
  refine loop_intro (fun k : Nat => ⟨[(3, .one (.vptr 0 0)), (5, .one (.vptr 1 0)), (6, .one (.vptr 2 0)), (7, .one (.vptr 3 0)), (8, I k)], [(0, .vars Y.Shape [.dv (.int .i64 x.link), .dv (.int .i64 x.radius), .dv (dVs x.points)]), (1, .vars Y.Vec [.dv (.int .i64 b.x), .dv (.int .i64 b.y), .dv (.int .i64 b.z)]), (2, .vars Y.Shape [.dv (.int .i64 0), .dv (.int .i64 0), .nil 3]), (3, .vars Y.Shape [.dv (.int .i64 n), .dv (.int .i64 x.radius), .row 4]), (4, .rows Y.Vec 3 (((x.points.take k).map (addV b)).map encV))], 5⟩) (fun k => k ≤ x.points.length) (fun k => x.points.length - k) [.ownC 3 2 Y.Vec 3] 0 [] (Nat.zero_le _) ⟨⟨rfl, rfl, rfl, rfl, rfl, trivial⟩, ⟨rfl, rfl, rfl, rfl, rfl, trivial⟩⟩ ?_
  rintro k hk
  have hkk : IntKind.i64.wrap ((k : Int) + 1) = ((k + 1 : Nat) : Int) := by rw [w64] <;> omega
  (conv => whnf)
  refine ask_m (fun hlt => ?_) (fun hlt => ?_)
  · have hlt : k < x.points.length := by simpa using hlt
    obtain ⟨v, hv⟩ : ∃ v, x.points[k]? = some v := ⟨_, List.getElem?_eq_getElem hlt⟩
    (conv => whnf)
    refine idx_and (by omega) (by simpa using hv) ?_
    (conv => whnf)
    refine ⟨⟨by decide, by decide⟩, ?_⟩
    (conv => whnf)
    refine ⟨⟨by decide, by decide⟩, ?_⟩
    (conv => whnf)
    refine ⟨⟨by decide, by decide⟩, ?_⟩
    (conv => whnf)
    refine ⟨⟨by decide, by decide⟩, ?_⟩
    (conv => whnf)
    refine ⟨⟨by decide, by decide⟩, ?_⟩
    (conv => whnf)
    refine ⟨⟨by decide, by decide⟩, ?_⟩
    (conv => whnf)
    refine ⟨⟨by simp; omega, by simp; omega⟩, ?_⟩
    (conv => whnf)
    exact ⟨k + 1, [(4, 7)], hlt, by omega, ⟨⟨rfl, rfl, rfl, rfl, eqI hkk, trivial⟩, ⟨rfl, rfl, rfl, rfl, rows_eq (by rw [map_take1 _ hv, List.map_append]; rfl), trivial⟩⟩⟩
  · have hk : k = x.points.length := by simp at hlt; omega
    subst hk
    rw [List.take_length]
    (conv => whnf)
    (conv => whnf)
    refine retO [.frz 4] ?_
    (conv => whnf)
    exact ⟨[], ⟨rfl, trivial⟩, trivial⟩
theorem cut_letter : ∀ k, k < 4 → (⟨#[97, 98, 99, 100]⟩ : ByteArray).extract k (k + 1) = letter k := by decide
theorem inV_bd {v : Vec} {m : Int} (h : inV v m = true) : (-m ≤ v.x ∧ v.x ≤ m) ∧ (-m ≤ v.y ∧ v.y ≤ m) ∧ (-m ≤ v.z ∧ v.z ≤ m) := by
  simp only [inV, Bool.and_eq_true, decide_eq_true_eq] at h
  exact ⟨h.1.1, h.1.2, h.2⟩
theorem addV_zero {v : Vec} (h : inV v 4194304 = true) : addV ⟨0, 0, 0⟩ v = v := by
  obtain ⟨⟨a, b⟩, ⟨c, d⟩, ⟨e, f⟩⟩ := inV_bd h
  obtain ⟨x, y, z⟩ := v
  simp only at a b c d e f
  simp only [addV, Int.add_zero, ww]
  rw [w64 (by omega) (by omega), w64 (by omega) (by omega), w64 (by omega) (by omega)]
theorem joinSh_pts {p : Int} {b : Vec} {x : Shape} (h : ∀ v ∈ x.points, inV v 4194304 = true) : joinSh p b x = ⟨raise p x.link, x.radius, x.points.map (addV (if x.link = -1 then b else ⟨0, 0, 0⟩))⟩ := by
  rw [joinSh]
  congr 1
  refine List.map_congr_left fun v hv => ?_
  rw [joinV]
  split
  · rfl
  · exact (addV_zero (h v hv)).symm
abbrev bV (b : Vec) : Box := .vars Y.Vec [.dv (.int .i64 b.x), .dv (.int .i64 b.y), .dv (.int .i64 b.z)]
set_option maxHeartbeats 2000000 in
theorem ref_JoinScenes (l : List Scene) (bs : List Vec) (hl : l.length ≤ 4611686018427387904) (hb : bs.length ≤ 4611686018427387904) (hsm : ∀ s ∈ l, small s) : FnOk Try.prog F.ref32_JoinScenes [.one (.dv (dScs l)), .one (.dv (dVs bs))] [] 0 (JnR (joinOf l bs)) [] 0 := by
  refine fnOk tab mix G.ref32_JoinScenes rfl rfl (by kernel_rfl) rfl rfl ?_
  (conv => whnf)
  refine ask_m (fun h1 => ?_) (fun h1 => ?_)
  · have h1 : l.length < 1 := by have := of_decide_eq_true h1; simp only [List.length_map] at this; omega
    rw [joinOf, if_pos (.inl h1)]
    (conv => whnf)
    refine retO [.ownC 0 0 Y.Joint 12, .ownC 0 1 Y.Mass 5, .ownC 0 2 Y.Shape 3, .ownC 0 3 Y.Skip 2, .frz 1, .frz 2, .frz 3, .frz 4] ?_
    (conv => whnf)
    exact ⟨[], ⟨rfl, trivial⟩, trivial⟩
  have h1 : ¬ l.length < 1 := by have := of_decide_eq_false h1; simp only [List.length_map] at this; omega
  (conv => whnf)
  refine ask_m (fun h2 => ?_) (fun h2 => ?_)
  · have h2 : 4 < l.length := by have := of_decide_eq_true h2; simp only [List.length_map] at this; omega
    rw [joinOf, if_pos (.inr (.inl h2))]
    (conv => whnf)
    refine retO [.ownC 0 0 Y.Joint 12, .ownC 0 1 Y.Mass 5, .ownC 0 2 Y.Shape 3, .ownC 0 3 Y.Skip 2, .frz 1, .frz 2, .frz 3, .frz 4] ?_
    (conv => whnf)
    exact ⟨[], ⟨rfl, trivial⟩, trivial⟩
  have h2 : ¬ 4 < l.length := by have := of_decide_eq_false h2; simp only [List.length_map] at this; omega
  (conv => whnf)
  refine ask_m (fun h3 => ?_) (fun h3 => ?_)
  · have h3 : bs.length ≠ l.length := by simp at h3; omega
    rw [joinOf, if_pos (.inr (.inr h3))]
    (conv => whnf)
    refine retO [.ownC 0 0 Y.Joint 12, .ownC 0 1 Y.Mass 5, .ownC 0 2 Y.Shape 3, .ownC 0 3 Y.Skip 2, .frz 1, .frz 2, .frz 3, .frz 4] ?_
    (conv => whnf)
    exact ⟨[], ⟨rfl, trivial⟩, trivial⟩
  have h3 : bs.length = l.length := by simp at h3; omega
  rw [joinOf, if_neg (by omega)]
  (conv => whnf)
  refine loop_intro (fun k : Nat => ⟨[(0, .one (.dv (dScs l))), (1, .one (.dv (dVs bs))), (4, .one (.vptr 0 0)), (6, I k)], [(0, bScZ)], 1⟩) (fun k => k ≤ l.length ∧ firstBad (l.drop k) = firstBad l) (fun k => l.length - k) [] 0 [] ⟨Nat.zero_le _, rfl⟩ ⟨⟨rfl, rfl, rfl, rfl, trivial⟩, ⟨rfl, trivial⟩⟩ ?_
  rintro k ⟨hk, hf⟩
  have hkk : IntKind.i64.wrap ((k : Int) + 1) = ((k + 1 : Nat) : Int) := by rw [w64] <;> omega
  (conv => whnf)
  refine ask_m (fun hlt => ?_) (fun hlt => ?_)
  · have hlt : k < l.length := by simpa using hlt
    obtain ⟨s, hs⟩ : ∃ s, l[k]? = some s := ⟨_, List.getElem?_eq_getElem hlt⟩
    rw [firstBad_at hs] at hf
    (conv => whnf)
    refine idx_and (by omega) (by simpa using hs) ?_
    (conv => whnf)
    refine call_i (ref_CheckScene s (hsm s (List.mem_of_getElem? hs))) ?_
    (conv => whnf)
    refine ask_m (fun h => ?_) (fun h => ?_)
    · have h : ¬ checkScene s = 0 := by simpa using h
      rw [if_neg h] at hf
      rw [← hf, if_pos h]
      (conv => whnf)
      refine retO [.ownC 0 0 Y.Joint 12, .ownC 0 1 Y.Mass 5, .ownC 0 2 Y.Shape 3, .ownC 0 3 Y.Skip 2, .frz 1, .frz 2, .frz 3, .frz 4] ?_
      (conv => whnf)
      exact ⟨[], ⟨rfl, trivial⟩, trivial⟩
    · have h : checkScene s = 0 := by simpa using h
      rw [if_pos h] at hf
      (conv => whnf)
      exact ⟨k + 1, [], ⟨hlt, hf⟩, by omega, ⟨⟨rfl, rfl, rfl, eqI hkk, trivial⟩, ⟨rfl, trivial⟩⟩⟩
  · have hk : k = l.length := by simp at hlt; omega
    subst hk
    rw [List.drop_length, firstBad] at hf
    rw [if_neg (by rw [← hf]; simp)]
    have hok := firstBad_all hf.symm
    (conv => whnf)
    refine loop_intro (fun k : Nat => ⟨[(0, .one (.dv (dScs l))), (1, .one (.dv (dVs bs))), (4, .one (.vptr 0 0)), (8, .one (.vptr 1 0)), (9, I k)], [(0, bScZ), (1, .vars Y.Scene [.row 2, .row 3, .row 4, .row 5]), (2, bJs (joinTo l bs k).robot.joints), (3, bMs (joinTo l bs k).robot.masses), (4, bShs (joinTo l bs k).shapes), (5, bSks (joinTo l bs k).skips)], 6⟩) (fun k => k ≤ l.length) (fun k => l.length - k) [.ownC 1 0 Y.Joint 12, .ownC 1 1 Y.Mass 5, .ownC 1 2 Y.Shape 3, .ownC 1 3 Y.Skip 2] 0 [] (Nat.zero_le _) ⟨⟨rfl, rfl, rfl, rfl, rfl, trivial⟩, ⟨rfl, rfl, rfl, rfl, rfl, rfl, trivial⟩⟩ ?_
    rintro k hk
    have hkk : IntKind.i64.wrap ((k : Int) + 1) = ((k + 1 : Nat) : Int) := by rw [w64] <;> omega
    have hz := joinTo_sized bs hok k hk
    have z1 := hz.joints; have z2 := hz.masses; have z3 := hz.shapes; have z4 := hz.skips
    (conv => whnf)
    refine ask_m (fun hlt => ?_) (fun hlt => ?_)
    · have hlt : k < l.length := by simpa using hlt
      obtain ⟨s, hs⟩ : ∃ s, l[k]? = some s := ⟨_, List.getElem?_eq_getElem hlt⟩
      obtain ⟨b, hbk⟩ : ∃ b, bs[k]? = some b := ⟨_, List.getElem?_eq_getElem (by omega)⟩
      obtain ⟨g0, g1, g2, g3, g4⟩ := scene_facts (hok s (List.mem_of_getElem? hs))
      obtain ⟨f1, f2, f3, f4⟩ := robot_facts g0
      have hnx : joinTo l bs (k + 1) = addScene (joinTo l bs k) (letter k) b s := by rw [joinTo, getD_at hs, getD_at hbk]
      generalize joinTo l bs k = acc at *
      obtain ⟨p, hp⟩ : ∃ p : Int, p = acc.robot.joints.length := ⟨_, rfl⟩
      have hp0 : 0 ≤ p ∧ p ≤ 1000 := by omega
      (conv => whnf)
      refine idx_and (by omega) (by simpa using hbk) ?_
      (conv => whnf)
      have hpl : (((acc.robot.joints.map encJ).length : Nat) : Int) = p := by rw [List.length_map, hp]
      rw [hpl]
      refine loop_intro (fun i : Nat => ⟨[(0, .one (.dv (dScs l))), (1, .one (.dv (dVs bs))), (4, .one (.vptr 0 0)), (8, .one (.vptr 1 0)), (9, I k), (10, I p), (11, .one (.vptr 6 0)), (12, I i)], [(0, bScZ), (1, .vars Y.Scene [.row 7, .row 3, .row 4, .row 5]), (3, bMs acc.robot.masses), (4, bShs acc.shapes), (5, bSks acc.skips), (6, bV b), (7, bJs (acc.robot.joints ++ (s.robot.joints.take i).map (joinJ (letter k) p b)))], 8⟩) (fun i => i ≤ s.robot.joints.length) (fun i => s.robot.joints.length - i) [] 0 [(7, 2)] (Nat.zero_le _) ⟨⟨rfl, rfl, rfl, rfl, rfl, rfl, rfl, rfl, trivial⟩, ⟨rfl, rfl, rfl, rfl, rfl, rfl, rows_eq (by simp), trivial⟩⟩ ?_
      rintro i hi
      have hii : IntKind.i64.wrap ((i : Int) + 1) = ((i + 1 : Nat) : Int) := by rw [w64] <;> omega
      (conv => whnf)
      refine idx_and (by omega) (by simpa using hs) ?_
      (conv => whnf)
      refine ask_m (fun hilt => ?_) (fun hilt => ?_)
      · have hilt : i < s.robot.joints.length := by simpa using hilt
        obtain ⟨j, hj⟩ : ∃ j, s.robot.joints[i]? = some j := ⟨_, List.getElem?_eq_getElem hilt⟩
        obtain ⟨n1, ⟨n2, n3⟩, ⟨n4, n5⟩, n6⟩ := f2 i j hj
        have nm : j.name.size ≤ 16 := by
          simp only [nameOk, Bool.and_eq_true, decide_eq_true_eq] at n1
          exact n1.1.1.2
        (conv => whnf)
        refine idx_and (by omega) (by simpa using hs) ?_
        (conv => whnf)
        refine idx_and (by omega) (by simpa using hj) ?_
        (conv => whnf)
        rw [hkk]
        refine ⟨⟨by omega, by omega, by show ((k + 1 : Nat) : Int) ≤ 4; omega⟩, ?_⟩
        (conv => whnf)
        rw [Int.toNat_natCast, Int.toNat_natCast, cut_letter k (by omega)]
        refine ⟨by rw [letter_size k (by omega)]; omega, ?_⟩
        (conv => whnf)
        refine ask_m (fun hpar => ?_) (fun hpar => ?_)
        · have hpar : j.parent = -1 := by simpa using hpar
          (conv => whnf)
          refine ⟨⟨by decide, by decide⟩, ?_⟩
          (conv => whnf)
          refine ⟨⟨by decide, by decide⟩, ?_⟩
          (conv => whnf)
          refine ⟨⟨by decide, by decide⟩, ?_⟩
          (conv => whnf)
          refine ⟨⟨by decide, by decide⟩, ?_⟩
          (conv => whnf)
          refine ⟨⟨by decide, by decide⟩, ?_⟩
          (conv => whnf)
          refine ⟨⟨by decide, by decide⟩, ?_⟩
          (conv => whnf)
          refine call_i (ref_raised j.parent p hp0 (by omega)) ?_
          (conv => whnf)
          refine ⟨⟨by simp; omega, by simp; omega⟩, ?_⟩
          (conv => whnf)
          exact ⟨i + 1, [(7, 10)], hilt, by omega, ⟨⟨rfl, rfl, rfl, rfl, rfl, rfl, rfl, eqI hii, trivial⟩, ⟨rfl, rfl, rfl, rfl, rfl, rfl, rows_eq (by rw [map_enc1 _ _ _ hj, joinJ, joinV, if_pos hpar]; rfl), trivial⟩⟩⟩
        · have hpar : ¬ j.parent = -1 := by simpa using hpar
          (conv => whnf)
          refine call_i (ref_raised j.parent p hp0 (by omega)) ?_
          (conv => whnf)
          refine ⟨⟨by simp; omega, by simp; omega⟩, ?_⟩
          (conv => whnf)
          exact ⟨i + 1, [(7, 10)], hilt, by omega, ⟨⟨rfl, rfl, rfl, rfl, rfl, rfl, rfl, eqI hii, trivial⟩, ⟨rfl, rfl, rfl, rfl, rfl, rfl, rows_eq (by rw [map_enc1 _ _ _ hj, joinJ, joinV, if_neg hpar]; rfl), trivial⟩⟩⟩
      have hi : i = s.robot.joints.length := by simp at hilt; omega
      subst hi
      rw [List.take_length]
      obtain ⟨J, hJ⟩ : ∃ J, J = acc.robot.joints ++ s.robot.joints.map (joinJ (letter k) p b) := ⟨_, rfl⟩
      rw [← hJ]
      (conv => whnf)
      refine loop_intro (fun i : Nat => ⟨[(0, .one (.dv (dScs l))), (1, .one (.dv (dVs bs))), (4, .one (.vptr 0 0)), (8, .one (.vptr 1 0)), (9, I k), (10, I p), (11, .one (.vptr 6 0)), (14, I i)], [(0, bScZ), (1, .vars Y.Scene [.row 7, .row 8, .row 4, .row 5]), (4, bShs acc.shapes), (5, bSks acc.skips), (6, bV b), (7, bJs J), (8, bMs (acc.robot.masses ++ (s.robot.masses.take i).map (joinM p)))], 9⟩) (fun i => i ≤ s.robot.masses.length) (fun i => s.robot.masses.length - i) [] 0 [(8, 3)] (Nat.zero_le _) ⟨⟨rfl, rfl, rfl, rfl, rfl, rfl, rfl, rfl, trivial⟩, ⟨rfl, rfl, rfl, rfl, rfl, rfl, rows_eq (by simp), trivial⟩⟩ ?_
      rintro i hi
      have hii : IntKind.i64.wrap ((i : Int) + 1) = ((i + 1 : Nat) : Int) := by rw [w64] <;> omega
      (conv => whnf)
      refine idx_and (by omega) (by simpa using hs) ?_
      (conv => whnf)
      refine ask_m (fun hilt => ?_) (fun hilt => ?_)
      · have hilt : i < s.robot.masses.length := by simpa using hilt
        obtain ⟨m, hm⟩ : ∃ j, s.robot.masses[i]? = some j := ⟨_, List.getElem?_eq_getElem hilt⟩
        have hmo := f4 m (List.mem_of_getElem? hm)
        simp only [massOk, Bool.and_eq_true, decide_eq_true_eq] at hmo
        have em : IntKind.i64.wrap (m.link + p) = raise p m.link := by rw [raise, if_neg (by omega), w64] <;> omega
        (conv => whnf)
        refine idx_and (by omega) (by simpa using hs) ?_
        (conv => whnf)
        refine idx_and (by omega) (by simpa using hm) ?_
        (conv => whnf)
        refine ⟨⟨by simp; omega, by simp; omega⟩, ?_⟩
        (conv => whnf)
        exact ⟨i + 1, [(8, 11)], hilt, by omega, ⟨⟨rfl, rfl, rfl, rfl, rfl, rfl, rfl, eqI hii, trivial⟩, ⟨rfl, rfl, rfl, rfl, rfl, rfl, rows_eq (by rw [map_enc1 _ _ _ hm, joinM, ← em]; rfl), trivial⟩⟩⟩
      have hi : i = s.robot.masses.length := by simp at hilt; omega
      subst hi
      rw [List.take_length]
      obtain ⟨M, hM⟩ : ∃ M, M = acc.robot.masses ++ s.robot.masses.map (joinM p) := ⟨_, rfl⟩
      rw [← hM]
      (conv => whnf)
      refine loop_intro (fun i : Nat => ⟨[(0, .one (.dv (dScs l))), (1, .one (.dv (dVs bs))), (4, .one (.vptr 0 0)), (8, .one (.vptr 1 0)), (9, I k), (10, I p), (11, .one (.vptr 6 0)), (16, I i)], [(0, bScZ), (1, .vars Y.Scene [.row 7, .row 8, .row 9, .row 5]), (5, bSks acc.skips), (6, bV b), (7, bJs J), (8, bMs M), (9, bShs (acc.shapes ++ (s.shapes.take i).map (joinSh p b)))], 10⟩) (fun i => i ≤ s.shapes.length) (fun i => s.shapes.length - i) [] 0 [(9, 4)] (Nat.zero_le _) ⟨⟨rfl, rfl, rfl, rfl, rfl, rfl, rfl, rfl, trivial⟩, ⟨rfl, rfl, rfl, rfl, rfl, rfl, rows_eq (by simp), trivial⟩⟩ ?_
      rintro i hi
      have hii : IntKind.i64.wrap ((i : Int) + 1) = ((i + 1 : Nat) : Int) := by rw [w64] <;> omega
      (conv => whnf)
      refine idx_and (by omega) (by simpa using hs) ?_
      (conv => whnf)
      refine ask_m (fun hilt => ?_) (fun hilt => ?_)
      · have hilt : i < s.shapes.length := by simpa using hilt
        obtain ⟨x, hx⟩ : ∃ j, s.shapes[i]? = some j := ⟨_, List.getElem?_eq_getElem hilt⟩
        obtain ⟨q1, q2, q3, q4, q5⟩ := g2 x (List.mem_of_getElem? hx)
        have q1 := link_bd q1
        have hjs := joinSh_pts (p := p) (b := b) q5
        (conv => whnf)
        refine idx_and (by omega) (by simpa using hs) ?_
        (conv => whnf)
        refine idx_and (by omega) (by simpa using hx) ?_
        (conv => whnf)
        refine ask_m (fun hpar => ?_) (fun hpar => ?_)
        · have hpar : x.link = -1 := by simpa using hpar
          rw [if_pos hpar] at hjs
          (conv => whnf)
          refine call_i (ref_raised x.link p hp0 (by omega)) ?_
          (conv => whnf)
          refine call_i (ref_shifted x (raise p x.link) b (by omega)) ?_
          (conv => whnf)
          refine ⟨⟨by simp; omega, by simp; omega⟩, ?_⟩
          (conv => whnf)
          exact ⟨i + 1, [(9, 13)], hilt, by omega, ⟨⟨rfl, rfl, rfl, rfl, rfl, rfl, rfl, eqI hii, trivial⟩, ⟨rfl, rfl, rfl, rfl, rfl, rfl, rows_eq (by rw [map_enc1 _ _ _ hx, hjs]; rfl), trivial⟩⟩⟩
        · have hpar : ¬ x.link = -1 := by simpa using hpar
          rw [if_neg hpar] at hjs
          (conv => whnf)
          refine call_i (ref_raised x.link p hp0 (by omega)) ?_
          (conv => whnf)
          refine call_i (ref_shifted x (raise p x.link) ⟨0, 0, 0⟩ (by omega)) ?_
          (conv => whnf)
          refine ⟨⟨by simp; omega, by simp; omega⟩, ?_⟩
          (conv => whnf)
          exact ⟨i + 1, [(9, 13)], hilt, by omega, ⟨⟨rfl, rfl, rfl, rfl, rfl, rfl, rfl, eqI hii, trivial⟩, ⟨rfl, rfl, rfl, rfl, rfl, rfl, rows_eq (by rw [map_enc1 _ _ _ hx, hjs]; rfl), trivial⟩⟩⟩
      have hi : i = s.shapes.length := by simp at hilt; omega
      subst hi
      rw [List.take_length]
      obtain ⟨S, hS⟩ : ∃ S, S = acc.shapes ++ s.shapes.map (joinSh p b) := ⟨_, rfl⟩
      rw [← hS]
      (conv => whnf)
      refine loop_intro (fun i : Nat => ⟨[(0, .one (.dv (dScs l))), (1, .one (.dv (dVs bs))), (4, .one (.vptr 0 0)), (8, .one (.vptr 1 0)), (9, I k), (10, I p), (19, I i)], [(0, bScZ), (1, .vars Y.Scene [.row 7, .row 8, .row 9, .row 10]), (7, bJs J), (8, bMs M), (9, bShs S), (10, bSks (acc.skips ++ (s.skips.take i).map (joinSk p)))], 11⟩) (fun i => i ≤ s.skips.length) (fun i => s.skips.length - i) [] 0 [(10, 5)] (Nat.zero_le _) ⟨⟨rfl, rfl, rfl, rfl, rfl, rfl, rfl, trivial⟩, ⟨rfl, rfl, rfl, rfl, rfl, rows_eq (by simp), trivial⟩⟩ ?_
      rintro i hi
      have hii : IntKind.i64.wrap ((i : Int) + 1) = ((i + 1 : Nat) : Int) := by rw [w64] <;> omega
      (conv => whnf)
      refine idx_and (by omega) (by simpa using hs) ?_
      (conv => whnf)
      refine ask_m (fun hilt => ?_) (fun hilt => ?_)
      · have hilt : i < s.skips.length := by simpa using hilt
        obtain ⟨x, hx⟩ : ∃ j, s.skips[i]? = some j := ⟨_, List.getElem?_eq_getElem hilt⟩
        obtain ⟨q1, q2⟩ := g4 x (List.mem_of_getElem? hx)
        have q1 := link_bd q1
        have q2 := link_bd q2
        (conv => whnf)
        refine idx_and (by omega) (by simpa using hs) ?_
        (conv => whnf)
        refine idx_and (by omega) (by simpa using hx) ?_
        (conv => whnf)
        refine call_i (ref_raised x.a p hp0 (by omega)) ?_
        (conv => whnf)
        refine call_i (ref_raised x.b p hp0 (by omega)) ?_
        (conv => whnf)
        refine ⟨⟨by simp; omega, by simp; omega⟩, ?_⟩
        (conv => whnf)
        exact ⟨i + 1, [(10, 13)], hilt, by omega, ⟨⟨rfl, rfl, rfl, rfl, rfl, rfl, eqI hii, trivial⟩, ⟨rfl, rfl, rfl, rfl, rfl, rows_eq (by rw [map_enc1 _ _ _ hx]; rfl), trivial⟩⟩⟩
      have hi : i = s.skips.length := by simp at hilt; omega
      subst hi
      rw [List.take_length]
      (conv => whnf)
      exact ⟨k + 1, [(2, 7), (3, 8), (4, 9), (5, 10)], hlt, by omega, ⟨⟨rfl, rfl, rfl, rfl, eqI hkk, trivial⟩, ⟨rfl, rfl, rows_eq (by rw [hnx, hJ, hp]; rfl), rows_eq (by rw [hnx, hM, hp]; rfl), rows_eq (by rw [hnx, hS, hp]; rfl), rows_eq (by rw [hnx, hp]; rfl), trivial⟩⟩⟩
    · have hk : k = l.length := by simp at hlt; omega
      subst hk
      (conv => whnf)
      refine call_i (ref_CheckScene (joinTo l bs l.length) (hz.small (by omega))) ?_
      (conv => whnf)
      refine ⟨⟨trivial, trivial⟩, ?_⟩
      (conv => whnf)
      refine ask_m (fun h => ?_) (fun h => ?_)
      · have h : ¬ checkScene (joinTo l bs l.length) = 0 := by simpa using h
        rw [if_pos h]
        (conv => whnf)
        refine retO [.ownC 0 0 Y.Joint 12, .ownC 0 1 Y.Mass 5, .ownC 0 2 Y.Shape 3, .ownC 0 3 Y.Skip 2, .frz 6, .frz 7, .frz 8, .frz 9] ?_
        (conv => whnf)
        exact ⟨[], ⟨rfl, trivial⟩, trivial⟩
      · have h : checkScene (joinTo l bs l.length) = 0 := by simpa using h
        rw [if_neg (by simp [h])]
        (conv => whnf)
        refine retO [.frz 2, .frz 3, .frz 4, .frz 5] ?_
        (conv => whnf)
        exact ⟨[], ⟨rfl, trivial⟩, trivial⟩
end Go.Proofs.Ythdbdokhncaijaa

/- law35: scenes, few, awake. -/
namespace Go.Proofs.Ythdbdokhncaijaa
open Eng
set_option maxRecDepth 10000
attribute [local irreducible] FnOk loopW idxF retX arrF

def rot (l : List Int) (n : Nat) : List Int := (List.range l.length).map fun i => l.getD ((i + n) % l.length) 0
def nSc (m : List Int) : Nat := 1 + (nxt m 0 3).toNat
def scAt (l m : List Int) (n i : Nat) : Scene := if nxt m (1 + 4 * i) 2 = 1 then mkTrack (rot l (n - i)) else mkScene (rot l (n - i))
def bsAt (m : List Int) (i : Nat) : Vec := ⟨(nxt m (1 + 4 * i + 1) 19 - 9) * 32768, (nxt m (1 + 4 * i + 2) 19 - 9) * 32768, nxt m (1 + 4 * i + 3) 7 - 3⟩
def scsTo (l m : List Int) (k : Nat) : List Scene := (List.range k).map (scAt l m (nSc m))
def bssTo (m : List Int) (k : Nat) : List Vec := (List.range k).map (bsAt m)
def scsOf (l m : List Int) : List Scene := scsTo l m (nSc m)
def bssOf (m : List Int) : List Vec := bssTo m (nSc m)
theorem nSc_bd (m : List Int) : 1 ≤ nSc m ∧ nSc m ≤ 3 := by
  have := nxt_bd (l := m) (j := 0) (m := 3) (by omega)
  unfold nSc; omega
theorem scAt_ok (l m : List Int) (n i : Nat) : checkScene (scAt l m n i) = 0 := by
  unfold scAt; split
  · exact mkTrack_ok _
  · exact mkScene_ok _
theorem scsOf_ok (l m : List Int) : ∀ s ∈ scsOf l m, checkScene s = 0 := by
  intro s hs
  obtain ⟨i, _, rfl⟩ := List.mem_map.1 hs
  exact scAt_ok _ _ _ _
theorem scsOf_len (l m : List Int) : (scsOf l m).length = nSc m := by simp [scsOf, scsTo]
theorem bssOf_len (m : List Int) : (bssOf m).length = nSc m := by simp [bssOf, bssTo]
theorem half9 {a : Int} (h0 : 0 ≤ a) (h1 : a < 19) : IntKind.i64.wrap ((IntKind.i64.wrap ((a - 9) * 65536)).tdiv 2) = (a - 9) * 32768 := by
  rw [w64 (x := (a - 9) * 65536) (by omega) (by omega), show (a - 9) * 65536 = (a - 9) * 32768 * 2 by omega, Int.mul_tdiv_cancel _ (by decide), w64] <;> omega
set_option maxHeartbeats 1000000 in
theorem law35_scenes (l m : List Int) (hl : l.length ≤ 17592186044416) (hm : m.length ≤ 17592186044416) : FnOk Try.prog F.law35_scenes [Li l, Li m] [] 0 (.tup [(false, [.row 0]), (false, [.row 1])]) [(0, .rows Y.Scene 4 ((scsOf l m).map encSc)), (1, .rows Y.Vec 3 ((bssOf m).map encV))] 2 := by
  refine fnOkG [(12, [.frz 3])] tab mix G.law35_scenes rfl rfl (by kernel_rfl) rfl rfl ?_
  (conv => whnf)
  refine call_i (mk_From m) ?_
  (conv => whnf)
  refine call_i (mk_Next m 0 3 (by omega) (by omega) (by omega)) ?_
  (conv => whnf)
  obtain ⟨c1, c2⟩ := nSc_bd m
  have n0 := nxt_bd (l := m) (j := 0) (m := 3) (by omega)
  have hn : IntKind.i64.wrap (1 + nxt m 0 3) = (nSc m : Nat) := by rw [w64 (by omega) (by omega)]; unfold nSc; omega
  rw [hn, scsOf, bssOf]
  refine loop_intro (fun i : Nat => ⟨[(0, Li l), (6, .one (.vptr 0 0)), (7, .one (.row 1)), (8, .one (.row 2)), (9, I ((nSc m : Int) - i))], [(0, SrcJ m (1 + 4 * i)), (1, .rows Y.Scene 4 ((scsTo l m i).map encSc)), (2, .rows Y.Vec 3 ((bssTo m i).map encV))], 3⟩) (fun i => i ≤ nSc m) (fun i => nSc m - i) [.own 7 Y.Scene 4, .own 8 Y.Vec 3] 0 [] (Nat.zero_le _) ⟨⟨rfl, rfl, rfl, rfl, eqI (by simp), trivial⟩, ⟨rfl, rfl, rfl, trivial⟩⟩ ?_
  rintro i hi
  have hii : IntKind.i64.wrap ((nSc m : Int) - i - 1) = (nSc m : Int) - ((i + 1 : Nat) : Int) := by rw [w64] <;> omega
  (conv => whnf)
  refine ask_m (fun h => ?_) (fun h => ?_)
  · have hlt : i < nSc m := by have := of_decide_eq_true h; omega
    (conv => whnf)
    refine loop_intro (fun j : Nat => ⟨[(0, Li l), (6, .one (.vptr 0 0)), (7, .one (.row 1)), (8, .one (.row 2)), (9, I ((nSc m : Int) - i)), (10, .one (.row 3)), (11, I j)], [(0, SrcJ m (1 + 4 * i)), (1, .rows Y.Scene 4 ((scsTo l m i).map encSc)), (2, .rows Y.Vec 3 ((bssTo m i).map encV)), (3, .rows Y.int 1 (((List.range j).map fun q => l.getD ((q + (nSc m - i)) % l.length) 0).map encI))], 4⟩) (fun j => j ≤ l.length) (fun j => l.length - j) [.own 10 Y.int 1] 0 [] (Nat.zero_le _) ⟨⟨rfl, rfl, rfl, rfl, rfl, rfl, rfl, trivial⟩, ⟨rfl, rfl, rfl, rfl, trivial⟩⟩ ?_
    rintro j hj
    have hjj : IntKind.i64.wrap ((j : Int) + 1) = ((j + 1 : Nat) : Int) := by rw [w64] <;> omega
    (conv => whnf)
    refine ask_m (fun hjl => ?_) (fun hjl => ?_)
    · have hjl : j < l.length := by simpa using hjl
      have e1 : (IntKind.i64.wrap ((j : Int) + ((nSc m : Int) - i))).tmod (((l.map encI).length : Nat) : Int) = (((j + (nSc m - i)) % l.length : Nat) : Int) := by
        rw [List.length_map, w64 (by omega) (by omega), Int.tmod_eq_emod_of_nonneg (by omega), show (j : Int) + ((nSc m : Int) - i) = ((j + (nSc m - i) : Nat) : Int) by omega]; rfl
      have hmod : (j + (nSc m - i)) % l.length < l.length := Nat.mod_lt _ (by omega)
      obtain ⟨y, hy⟩ : ∃ y, l[(j + (nSc m - i)) % l.length]? = some y := ⟨_, List.getElem?_eq_getElem hmod⟩
      (conv => whnf)
      refine ⟨by rw [List.length_map]; omega, ?_⟩
      (conv => whnf)
      rw [e1]
      refine idx_and (xs := l) (x := y) (by omega) (by rw [Int.toNat_natCast]; exact hy) ?_
      (conv => whnf)
      refine ⟨⟨by simp; omega, by simp; omega⟩, ?_⟩
      (conv => whnf)
      refine ⟨j + 1, [(3, 5)], hjl, by omega, ⟨⟨rfl, rfl, rfl, rfl, rfl, rfl, eqI hjj, trivial⟩, ⟨rfl, rfl, rfl, ?_, trivial⟩⟩⟩
      rw [range_enc, getD_at hy]; rfl
    · have hj : j = l.length := by simp at hjl; omega
      subst hj
      have er : ((List.range l.length).map fun q => l.getD ((q + (nSc m - i)) % l.length) 0) = rot l (nSc m - i) := rfl
      rw [er]
      have hrl : (rot l (nSc m - i)).length = l.length := by simp [rot]
      have m0 := nxt_bd (l := m) (j := 1 + 4 * i) (m := 2) (by omega)
      have m1 := nxt_bd (l := m) (j := 1 + 4 * i + 1) (m := 19) (by omega)
      have m2 := nxt_bd (l := m) (j := 1 + 4 * i + 2) (m := 19) (by omega)
      have m3 := nxt_bd (l := m) (j := 1 + 4 * i + 3) (m := 7) (by omega)
      have l1 : (scsTo l m i).length = i := by simp [scsTo]
      have l2 : (bssTo m i).length = i := by simp [bssTo]
      have n1 : (scsTo l m (i + 1)).map encSc = (scsTo l m i).map encSc ++ [encSc (scAt l m (nSc m) i)] := range_enc
      have n2 : (bssTo m (i + 1)).map encV = (bssTo m i).map encV ++ [encV (bsAt m i)] := range_enc
      have e5 : SrcJ m (1 + 4 * i + 1 + 1 + 1 + 1) = SrcJ m (1 + 4 * (i + 1)) := by rw [show 1 + 4 * (i + 1) = 1 + 4 * i + 1 + 1 + 1 + 1 by omega]
      (conv => whnf)
      refine call_i (mk_Scene (rot l (nSc m - i)) (by omega)) ?_
      (conv => whnf)
      refine call_i (mk_Next m (1 + 4 * i) 2 (by omega) (by omega) (by omega)) ?_
      (conv => whnf)
      refine ask_m (fun h2 => ?_) (fun h2 => ?_)
      · have h2 : nxt m (1 + 4 * i) 2 = 1 := by simpa using h2
        (conv => whnf)
        refine call_i (mk_Track (rot l (nSc m - i)) (by omega)) ?_
        (conv => whnf)
        refine ⟨⟨by simp; omega, by simp; omega⟩, ?_⟩
        (conv => whnf)
        refine call_i (mk_Signed m (1 + 4 * i + 1) 9 19 (by decide) (by decide) (by decide) (by omega)) ?_
        (conv => whnf)
        refine ⟨(by decide : (2 : Int) ≠ 0), ?_⟩
        (conv => whnf)
        rw [half9 m1.1 m1.2]
        refine call_i (mk_Signed m (1 + 4 * i + 1 + 1) 9 19 (by decide) (by decide) (by decide) (by omega)) ?_
        (conv => whnf)
        refine ⟨(by decide : (2 : Int) ≠ 0), ?_⟩
        (conv => whnf)
        rw [half9 m2.1 m2.2]
        refine call_i (mk_Signed m (1 + 4 * i + 1 + 1 + 1) 3 7 (by decide) (by decide) (by decide) (by omega)) ?_
        (conv => whnf)
        refine ⟨⟨by simp; omega, by simp; omega⟩, ?_⟩
        (conv => whnf)
        exact ⟨i + 1, [(1, 6), (2, 8)], hlt, by omega, ⟨⟨rfl, rfl, rfl, rfl, eqI hii, trivial⟩, ⟨e5, rows_eq (by rw [n1, scAt, if_pos h2]; rfl), rows_eq (by rw [n2]; rfl), trivial⟩⟩⟩
      · have h2 : ¬ nxt m (1 + 4 * i) 2 = 1 := by simpa using h2
        (conv => whnf)
        refine ⟨⟨by simp; omega, by simp; omega⟩, ?_⟩
        (conv => whnf)
        refine call_i (mk_Signed m (1 + 4 * i + 1) 9 19 (by decide) (by decide) (by decide) (by omega)) ?_
        (conv => whnf)
        refine ⟨(by decide : (2 : Int) ≠ 0), ?_⟩
        (conv => whnf)
        rw [half9 m1.1 m1.2]
        refine call_i (mk_Signed m (1 + 4 * i + 1 + 1) 9 19 (by decide) (by decide) (by decide) (by omega)) ?_
        (conv => whnf)
        refine ⟨(by decide : (2 : Int) ≠ 0), ?_⟩
        (conv => whnf)
        rw [half9 m2.1 m2.2]
        refine call_i (mk_Signed m (1 + 4 * i + 1 + 1 + 1) 3 7 (by decide) (by decide) (by decide) (by omega)) ?_
        (conv => whnf)
        refine ⟨⟨by simp; omega, by simp; omega⟩, ?_⟩
        (conv => whnf)
        exact ⟨i + 1, [(1, 6), (2, 8)], hlt, by omega, ⟨⟨rfl, rfl, rfl, rfl, eqI hii, trivial⟩, ⟨e5, rows_eq (by rw [n1, scAt, if_neg h2]; rfl), rows_eq (by rw [n2]; rfl), trivial⟩⟩⟩
  · have hi : i = nSc m := by have := of_decide_eq_false h; omega
    rw [← hi]
    (conv => whnf)
    refine retO [] ?_
    (conv => whnf)
    exact ⟨[(0, 1), (1, 2)], ⟨rfl, trivial⟩, ⟨rfl, rfl, trivial⟩⟩
def fewB (l : List Scene) (bs : List Vec) : Bool := decide (l.length ≤ 6) && decide (bs.length ≤ 8) && l.all smallB
theorem law35_few (l : List Scene) (bs : List Vec) : FnOk Try.prog F.law35_few [.one (.dv (dScs l)), .one (.dv (dVs bs))] [] 0 (Bo (fewB l bs)) [] 0 := by
  refine fnOk tab mix G.law35_few rfl rfl (by kernel_rfl) rfl rfl ?_
  (conv => whnf)
  refine ask_m (fun h1 => ?_) (fun h1 => ?_)
  · have h1 : ¬ l.length ≤ 6 := by have := of_decide_eq_true h1; simp only [List.length_map] at this; omega
    (conv => whnf)
    refine ret0 ?_
    exact ret_b (by simp [fewB, h1]) rfl
  have h1 : l.length ≤ 6 := by have := of_decide_eq_false h1; simp only [List.length_map] at this; omega
  (conv => whnf)
  refine ask_m (fun h2 => ?_) (fun h2 => ?_)
  · have h2 : ¬ bs.length ≤ 8 := by have := of_decide_eq_true h2; simp only [List.length_map] at this; omega
    (conv => whnf)
    refine ret0 ?_
    exact ret_b (by simp [fewB, h2]) rfl
  have h2 : bs.length ≤ 8 := by have := of_decide_eq_false h2; simp only [List.length_map] at this; omega
  (conv => whnf)
  refine loop_intro (fun k : Nat => ⟨[(0, .one (.dv (dScs l))), (5, I k)], [], 0⟩) (fun k => k ≤ l.length ∧ (l.take k).all smallB = true) (fun k => l.length - k) [] 0 [] ⟨Nat.zero_le _, rfl⟩ ⟨⟨rfl, rfl, trivial⟩, trivial⟩ ?_
  rintro k ⟨hk, hall⟩
  have hkk : IntKind.i64.wrap ((k : Int) + 1) = ((k + 1 : Nat) : Int) := by rw [w64] <;> omega
  (conv => whnf)
  refine ask_m (fun hlt => ?_) (fun hlt => ?_)
  · have hlt : k < l.length := by simpa using hlt
    obtain ⟨s, hs⟩ : ∃ s, l[k]? = some s := ⟨_, List.getElem?_eq_getElem hlt⟩
    (conv => whnf)
    refine idx_and (by omega) (by simpa using hs) ?_
    (conv => whnf)
    refine call_i (mk_SmallScene s) ?_
    (conv => whnf)
    cases hb : smallB s with
    | true =>
      (conv => whnf)
      exact ⟨k + 1, [], ⟨hlt, all_take hall hs hb⟩, by omega, ⟨⟨rfl, eqI hkk, trivial⟩, trivial⟩⟩
    | false =>
      (conv => whnf)
      refine ret0 ?_
      exact ret_b (by rw [fewB, all_not hs hb]; simp) rfl
  · have hk : k = l.length := by simp at hlt; omega
    subst hk
    rw [List.take_length] at hall
    (conv => whnf)
    refine ret0 ?_
    exact ret_b (by rw [fewB, hall]; simp [h1, h2]) rfl
def a1 : Scene := ⟨slider 1 9, [⟨0, 1, [⟨0, 0, 0⟩]⟩], []⟩
def j1 : Scene := ⟨⟨[⟨⟨#[97, 97]⟩, 4, -1, ⟨0, 0, 0⟩, 0, 9, 1, 65536, 65536, 65536⟩, ⟨⟨#[98, 97]⟩, 4, -1, ⟨0, 7, 0⟩, 0, 9, 1, 65536, 65536, 65536⟩], []⟩, [⟨0, 1, [⟨0, 0, 0⟩]⟩, ⟨1, 1, [⟨0, 0, 0⟩]⟩], []⟩
set_option maxHeartbeats 1000000 in
theorem join_a1 : joinOf [a1, a1] [⟨0, 0, 0⟩, ⟨0, 7, 0⟩] = (j1, 0) := by decide +kernel
theorem part_a1 : partOf [a1, a1] [(3 : Int), 4] 1 = ([4], true) := by decide +kernel
theorem a1_small : ∀ s ∈ [a1, a1], small s := by
  have h : small a1 := ⟨by decide, by decide, by decide, by decide, by decide⟩
  intro s hs
  simp only [List.mem_cons, List.not_mem_nil, or_false, or_self] at hs
  subst hs; exact h
theorem cmpVec : cmpB Try.prog 8 Y.Vec = true ∧ Try.prog.eqGuardType Try.prog.depth Y.Vec = false := ⟨by kernel_rfl, by kernel_rfl⟩
theorem law35_awake : FnOk Try.prog F.law35_awake [] [] 0 (Bo true) [] 0 := by
  refine fnOkG [(2, [.frz 1])] tab mix G.law35_awake rfl rfl (by kernel_rfl) rfl rfl ?_
  (conv => whnf)
  refine call_i (mk_Slider 1 9 (by decide)) ?_
  (conv => whnf)
  refine call_i (team_Join [a1, a1] [⟨0, 0, 0⟩, ⟨0, 7, 0⟩] (by decide) (by decide) a1_small) ?_
  (conv => whnf)
  rw [join_a1]
  (conv => whnf)
  refine call_i (team_Part' [a1, a1] [3, 4] 1 (by decide) (by decide)) ?_
  (conv => whnf)
  rw [part_a1]
  (conv => whnf)
  refine call_i (mk_Same_int64 [4] [4] (by decide) (by decide)) ?_
  (conv => whnf)
  refine ⟨⟨trivial, trivial⟩, ?_⟩
  (conv => whnf)
  refine idx_and (xs := j1.robot.joints) (x := ⟨⟨#[98, 97]⟩, 4, -1, ⟨0, 7, 0⟩, 0, 9, 1, 65536, 65536, 65536⟩) (by decide) rfl ?_
  (conv => whnf)
  refine idx_and (xs := j1.robot.joints) (x := ⟨⟨#[98, 97]⟩, 4, -1, ⟨0, 7, 0⟩, 0, 9, 1, 65536, 65536, 65536⟩) (by decide) rfl ?_
  (conv => whnf)
  refine ⟨cmpVec, ?_⟩
  (conv => whnf)
  refine idx_and (xs := j1.shapes) (x := ⟨1, 1, [⟨0, 0, 0⟩]⟩) (by decide) rfl ?_
  (conv => whnf)
  refine ret0 ?_
  exact ret_b (by decide) rfl
/- joins, TeamJoins -/
theorem emptyS_small : small emptyS := ⟨by decide, by decide, by decide, by decide, fun x hx => by cases hx⟩
theorem joinOf_small (l : List Scene) (bs : List Vec) : small (joinOf l bs).1 := by
  unfold joinOf
  split
  · exact emptyS_small
  · rename_i h1
    split
    · exact emptyS_small
    · rename_i h2
      split
      · exact emptyS_small
      · refine (joinTo_sized bs (firstBad_all (by simpa using h2)) l.length (Nat.le_refl _)).small (by omega)
theorem law35_joins (l : List Scene) (bs : List Vec) (hl : l.length ≤ 4611686018427387904) (hb : bs.length ≤ 4611686018427387904) (hsm : ∀ s ∈ l, small s) : FnOk Try.prog F.law35_joins [.one (.dv (dScs l)), .one (.dv (dVs bs))] [] 0 (Bo true) [] 0 := by
  refine fnOk tab mix G.law35_joins rfl rfl (by kernel_rfl) rfl rfl ?_
  (conv => whnf)
  refine call_i (team_Join l bs hl hb hsm) ?_
  (conv => whnf)
  refine call_i (ref_JoinScenes l bs hl hb hsm) ?_
  (conv => whnf)
  refine ask_mt (by simp) ?_
  (conv => whnf)
  refine call_i (mk_SameScene (joinOf l bs).1 (joinOf l bs).1 (joinOf_small l bs) (joinOf_small l bs)) ?_
  (conv => whnf)
  (conv => whnf)
  refine ret0 ?_
  exact ret_b (by simp) rfl
theorem ok_small {s : Scene} (h : checkScene s = 0) : small s := by
  obtain ⟨g0, g1, g2, g3, g4⟩ := scene_facts h
  obtain ⟨f1, _, f3, _⟩ := robot_facts g0
  exact ⟨by omega, by omega, by omega, by omega, fun x hx => by have := (g2 x hx).2.2.1; omega⟩
def setC (v : Vec) (c : Nat) (y : Int) : Vec := if c = 0 then ⟨y, v.y, v.z⟩ else if c = 1 then ⟨v.x, y, v.z⟩ else ⟨v.x, v.y, y⟩
theorem joinsR (l : List Scene) (bs : List Vec) (S R : List (List DV)) (hS : S = l.map encSc) (hR : R = bs.map encV) (hl : l.length ≤ 4611686018427387904) (hb : bs.length ≤ 4611686018427387904) (hsm : ∀ s ∈ l, small s) : FnOk Try.prog F.law35_joins [.one (.dv (.lst 4 S)), .one (.dv (.lst 3 R))] [] 0 (Bo true) [] 0 := by
  subst hS hR; exact law35_joins l bs hl hb hsm
set_option maxHeartbeats 1000000 in
theorem law35_Joins (raw : List Scene) (bases : List Vec) (l m : List Int) (a : Int) (h1 : raw.length ≤ 4611686018427387904 ∧ ∀ s ∈ raw, small s) (h2 : bases.length ≤ 4611686018427387904) (hl : l.length ≤ 17592186044416) (hm : m.length ≤ 17592186044416) (ha : True) : FnOk Try.prog F.law35_TeamJoins [.one (.dv (dScs raw)), .one (.dv (dVs bases)), Li l, Li m, I a] [] 0 (Bo true) [] 0 := by
  refine fnOk tab mix G.law35_TeamJoins rfl rfl (by kernel_rfl) rfl rfl ?_
  (conv => whnf)
  refine call_i (law35_few raw bases) ?_
  (conv => whnf)
  cases hf : fewB raw bases with
  | false =>
    (conv => whnf)
    refine call_i (law35_awake) ?_
    (conv => whnf)
    (conv => whnf)
    refine ret0 ?_
    exact ret_b rfl rfl
  | true =>
  simp only [fewB, Bool.and_eq_true, decide_eq_true_eq] at hf
  obtain ⟨⟨f1, f2⟩, f3⟩ := hf
  (conv => whnf)
  refine call_i (law35_scenes l m hl hm) ?_
  (conv => whnf)
  have hxo := scsOf_ok l m
  have hxs : ∀ s ∈ scsOf l m, small s := fun s hs => ok_small (hxo s hs)
  have hxl := scsOf_len l m
  have hbl := bssOf_len m
  obtain ⟨c1, c2⟩ := nSc_bd m
  generalize scsOf l m = x at *
  generalize bssOf m = b at *
  refine ⟨⟨by simp; omega, by simp; omega⟩, ?_⟩
  (conv => whnf)
  refine call_i (mk_Round a ((b.map encV).length : Int) (by rw [List.length_map]; omega) (by rw [List.length_map]; omega)) ?_
  (conv => whnf)
  have e1 := Int.emod_nonneg a (b := ((b.map encV).length : Int)) (by rw [List.length_map]; omega)
  have e2 := Int.emod_lt_of_pos a (b := ((b.map encV).length : Int)) (by rw [List.length_map]; omega)
  obtain ⟨i, hi⟩ : ∃ i : Nat, a % ((b.map encV).length : Int) = i := ⟨_, (Int.toNat_of_nonneg e1).symm⟩
  rw [hi] at e2 ⊢
  have hib : i < b.length := by simp at e2; omega
  obtain ⟨v, hv⟩ : ∃ v, b[i]? = some v := ⟨_, List.getElem?_eq_getElem hib⟩
  refine call_i (mk_Round a 3 (by decide) (by decide)) ?_
  (conv => whnf)
  refine call_i (mk_Round a 5 (by decide) (by decide)) ?_
  (conv => whnf)
  generalize hy : IntKind.i64.wrap (IntKind.i64.wrap (a % 5 - 2) * 4194304) = y
  refine ⟨⟨by omega, by omega⟩, ?_⟩
  (conv => whnf)
  have g1 := Int.emod_nonneg a (b := 3) (by decide)
  have g2 := Int.emod_lt_of_pos a (b := 3) (by decide)
  obtain ⟨c, hc⟩ : ∃ c : Nat, a % 3 = c := ⟨_, (Int.toNat_of_nonneg g1).symm⟩
  rw [hc] at g1 g2 ⊢
  refine ⟨⟨by omega, by omega⟩, ?_⟩
  (conv => whnf)
  have hset : ∀ w : Vec, (b.map encV).set i (encV w) = (b.set i w).map encV := fun w => (List.map_set).symm
  rw [Int.toNat_natCast, Int.toNat_natCast]
  have hcl : ∀ w : Vec, (b.set i w).length ≤ 4611686018427387904 := fun w => by rw [List.length_set]; omega
  have hap : x.map encSc ++ raw.map encSc = (x ++ raw).map encSc := (List.map_append).symm
  have hbp : b.map encV ++ bases.map encV = (b ++ bases).map encV := (List.map_append).symm
  have hxr : ∀ s ∈ x ++ raw, small s := fun s hs => by
    rcases List.mem_append.1 hs with hs | hs
    · exact hxs s hs
    · exact h1.2 s hs
  obtain rfl | rfl | rfl : c = 0 ∨ c = 1 ∨ c = 2 := by omega
  · (conv => whnf)
    refine idx_map (x := v) hv ?_
    (conv => whnf)
    refine call_i (law35_awake) ?_
    (conv => whnf)
    refine call_i (law35_joins raw bases (by omega) (by omega) h1.2) ?_
    (conv => whnf)
    refine call_i (law35_joins x b (by omega) (by omega) hxs) ?_
    (conv => whnf)
    refine ⟨⟨trivial, trivial⟩, ?_⟩
    (conv => whnf)
    refine call_i (law35_joins x bases (by omega) (by omega) hxs) ?_
    (conv => whnf)
    refine ⟨⟨trivial, trivial⟩, ?_⟩
    (conv => whnf)
    refine call_i (joinsR x (b.set i ⟨y, v.y, v.z⟩) _ _ rfl (hset ⟨y, v.y, v.z⟩) (by omega) (hcl _) hxs) ?_
    (conv => whnf)
    refine ⟨⟨trivial, trivial⟩, ?_⟩
    (conv => whnf)
    refine ⟨⟨by simp; omega, by simp; omega⟩, ?_⟩
    (conv => whnf)
    refine ⟨⟨by simp; omega, by simp; omega⟩, ?_⟩
    (conv => whnf)
    refine call_i (joinsR (x ++ raw) (b ++ bases) _ _ hap hbp (by simp; omega) (by simp; omega) hxr) ?_
    (conv => whnf)
    refine ⟨⟨trivial, trivial⟩, ?_⟩
    (conv => whnf)
    (conv => whnf)
    refine ret0 ?_
    exact ret_b rfl rfl
  · (conv => whnf)
    refine idx_map (x := v) hv ?_
    (conv => whnf)
    refine call_i (law35_awake) ?_
    (conv => whnf)
    refine call_i (law35_joins raw bases (by omega) (by omega) h1.2) ?_
    (conv => whnf)
    refine call_i (law35_joins x b (by omega) (by omega) hxs) ?_
    (conv => whnf)
    refine ⟨⟨trivial, trivial⟩, ?_⟩
    (conv => whnf)
    refine call_i (law35_joins x bases (by omega) (by omega) hxs) ?_
    (conv => whnf)
    refine ⟨⟨trivial, trivial⟩, ?_⟩
    (conv => whnf)
    refine call_i (joinsR x (b.set i ⟨v.x, y, v.z⟩) _ _ rfl (hset ⟨v.x, y, v.z⟩) (by omega) (hcl _) hxs) ?_
    (conv => whnf)
    refine ⟨⟨trivial, trivial⟩, ?_⟩
    (conv => whnf)
    refine ⟨⟨by simp; omega, by simp; omega⟩, ?_⟩
    (conv => whnf)
    refine ⟨⟨by simp; omega, by simp; omega⟩, ?_⟩
    (conv => whnf)
    refine call_i (joinsR (x ++ raw) (b ++ bases) _ _ hap hbp (by simp; omega) (by simp; omega) hxr) ?_
    (conv => whnf)
    refine ⟨⟨trivial, trivial⟩, ?_⟩
    (conv => whnf)
    (conv => whnf)
    refine ret0 ?_
    exact ret_b rfl rfl
  · (conv => whnf)
    refine idx_map (x := v) hv ?_
    (conv => whnf)
    refine call_i (law35_awake) ?_
    (conv => whnf)
    refine call_i (law35_joins raw bases (by omega) (by omega) h1.2) ?_
    (conv => whnf)
    refine call_i (law35_joins x b (by omega) (by omega) hxs) ?_
    (conv => whnf)
    refine ⟨⟨trivial, trivial⟩, ?_⟩
    (conv => whnf)
    refine call_i (law35_joins x bases (by omega) (by omega) hxs) ?_
    (conv => whnf)
    refine ⟨⟨trivial, trivial⟩, ?_⟩
    (conv => whnf)
    refine call_i (joinsR x (b.set i ⟨v.x, v.y, y⟩) _ _ rfl (hset ⟨v.x, v.y, y⟩) (by omega) (hcl _) hxs) ?_
    (conv => whnf)
    refine ⟨⟨trivial, trivial⟩, ?_⟩
    (conv => whnf)
    refine ⟨⟨by simp; omega, by simp; omega⟩, ?_⟩
    (conv => whnf)
    refine ⟨⟨by simp; omega, by simp; omega⟩, ?_⟩
    (conv => whnf)
    refine call_i (joinsR (x ++ raw) (b ++ bases) _ _ hap hbp (by simp; omega) (by simp; omega) hxr) ?_
    (conv => whnf)
    refine ⟨⟨trivial, trivial⟩, ?_⟩
    (conv => whnf)
    (conv => whnf)
    refine ret0 ?_
    exact ret_b rfl rfl
end Go.Proofs.Ythdbdokhncaijaa

/- Data of the types of robots and scenes. -/
namespace Go.Proofs.Ythdbdokhncaijaa
open Eng
set_option maxRecDepth 10000

theorem tz_i64 {n : Nat} {ds : List DV} (h : Typed T (n + 1) Y.int64 ds) : ∃ a, ds = [.int .i64 a] := by
  obtain ⟨a, h, _⟩ := h
  exact ⟨a, h⟩
theorem tz_int {n : Nat} {ds : List DV} (h : Typed T (n + 1) Y.int ds) : ∃ a, ds = [.int .i64 a] := by
  obtain ⟨a, h, _⟩ := h
  exact ⟨a, h⟩
theorem tz_str {n : Nat} {ds : List DV} (h : Typed T (n + 1) Y.string ds) : ∃ a, ds = [.str a] := by
  obtain ⟨a, h, _⟩ := h
  exact ⟨a, h⟩
theorem tz_Vec {n : Nat} {ds : List DV} (h : Typed T (n + 2) Y.Vec ds) : ∃ v, ds = encV v := by
  obtain ⟨ps, h1, h2, rfl⟩ := h
  match ps, h1 with
  | [a, b, c], _ =>
    obtain ⟨x, rfl⟩ := tz_i64 (h2 a (by simp))
    obtain ⟨y, rfl⟩ := tz_i64 (h2 b (by simp))
    obtain ⟨z, rfl⟩ := tz_i64 (h2 c (by simp))
    exact ⟨⟨x, y, z⟩, rfl⟩
theorem tz_Joint {n : Nat} {ds : List DV} (h : Typed T (n + 3) Y.Joint ds) : ∃ j, ds = encJ j := by
  obtain ⟨ps, h, rfl⟩ := h
  replace h := all2_cons h
  obtain ⟨d, q, rfl, h1, h⟩ := h
  obtain ⟨a1, rfl⟩ := tz_str h1
  replace h := all2_cons h
  obtain ⟨d, q, rfl, h1, h⟩ := h
  obtain ⟨a2, rfl⟩ := tz_int h1
  replace h := all2_cons h
  obtain ⟨d, q, rfl, h1, h⟩ := h
  obtain ⟨a3, rfl⟩ := tz_int h1
  replace h := all2_cons h
  obtain ⟨d, q, rfl, h1, h⟩ := h
  obtain ⟨a4, rfl⟩ := tz_Vec h1
  replace h := all2_cons h
  obtain ⟨d, q, rfl, h1, h⟩ := h
  obtain ⟨a5, rfl⟩ := tz_i64 h1
  replace h := all2_cons h
  obtain ⟨d, q, rfl, h1, h⟩ := h
  obtain ⟨a6, rfl⟩ := tz_i64 h1
  replace h := all2_cons h
  obtain ⟨d, q, rfl, h1, h⟩ := h
  obtain ⟨a7, rfl⟩ := tz_i64 h1
  replace h := all2_cons h
  obtain ⟨d, q, rfl, h1, h⟩ := h
  obtain ⟨a8, rfl⟩ := tz_i64 h1
  replace h := all2_cons h
  obtain ⟨d, q, rfl, h1, h⟩ := h
  obtain ⟨a9, rfl⟩ := tz_i64 h1
  replace h := all2_cons h
  obtain ⟨d, q, rfl, h1, h⟩ := h
  obtain ⟨a10, rfl⟩ := tz_i64 h1
  obtain rfl := all2_nil h
  exact ⟨⟨a1, a2, a3, a4, a5, a6, a7, a8, a9, a10⟩, rfl⟩
theorem tz_Mass {n : Nat} {ds : List DV} (h : Typed T (n + 3) Y.Mass ds) : ∃ j, ds = encM j := by
  obtain ⟨ps, h, rfl⟩ := h
  replace h := all2_cons h
  obtain ⟨d, q, rfl, h1, h⟩ := h
  obtain ⟨a1, rfl⟩ := tz_int h1
  replace h := all2_cons h
  obtain ⟨d, q, rfl, h1, h⟩ := h
  obtain ⟨a2, rfl⟩ := tz_i64 h1
  replace h := all2_cons h
  obtain ⟨d, q, rfl, h1, h⟩ := h
  obtain ⟨a3, rfl⟩ := tz_Vec h1
  obtain rfl := all2_nil h
  exact ⟨⟨a1, a2, a3⟩, rfl⟩
theorem tz_Skip {n : Nat} {ds : List DV} (h : Typed T (n + 2) Y.Skip ds) : ∃ j, ds = encSk j := by
  obtain ⟨ps, h, rfl⟩ := h
  replace h := all2_cons h
  obtain ⟨d, q, rfl, h1, h⟩ := h
  obtain ⟨a1, rfl⟩ := tz_int h1
  replace h := all2_cons h
  obtain ⟨d, q, rfl, h1, h⟩ := h
  obtain ⟨a2, rfl⟩ := tz_int h1
  obtain rfl := all2_nil h
  exact ⟨⟨a1, a2⟩, rfl⟩
theorem tz_sVec {n : Nat} {ds : List DV} (h : Typed T (n + 3) Y.s_Vec ds) : ∃ l : List Vec, ds = [dVs l] ∧ l.length ≤ 140737488351232 := by
  obtain ⟨rs, h1, h2, _, h3⟩ := h
  obtain ⟨l, rfl⟩ := map_of (enc := encV) fun r hr => tz_Vec (h3 r hr)
  refine ⟨l, h1, ?_⟩
  have : l.length * 24 ≤ reachBytes := by simpa using h2
  unfold reachBytes at this; omega
theorem tz_Shape {n : Nat} {ds : List DV} (h : Typed T (n + 4) Y.Shape ds) : ∃ j, ds = encSh j ∧ j.points.length ≤ 140737488351232 := by
  obtain ⟨ps, h, rfl⟩ := h
  replace h := all2_cons h
  obtain ⟨d, q, rfl, h1, h⟩ := h
  obtain ⟨a1, rfl⟩ := tz_int h1
  replace h := all2_cons h
  obtain ⟨d, q, rfl, h1, h⟩ := h
  obtain ⟨a2, rfl⟩ := tz_i64 h1
  replace h := all2_cons h
  obtain ⟨d, q, rfl, h1, h⟩ := h
  obtain ⟨a3, rfl, h3⟩ := tz_sVec h1
  obtain rfl := all2_nil h
  exact ⟨⟨a1, a2, a3⟩, rfl, h3⟩
theorem map_of' {α : Type} {enc : α → List DV} {Q : α → Prop} : ∀ {rs : List (List DV)}, (∀ r ∈ rs, ∃ a, r = enc a ∧ Q a) → ∃ xs : List α, rs = xs.map enc ∧ ∀ x ∈ xs, Q x
  | [], _ => ⟨[], rfl, by simp⟩
  | r :: rs, h => by
    obtain ⟨a, ha, qa⟩ := h r (by simp)
    obtain ⟨xs, hx, qx⟩ := map_of' (rs := rs) fun r hr => h r (by simp [hr])
    exact ⟨a :: xs, by rw [ha, hx]; rfl, fun x hx' => by
      rcases List.mem_cons.1 hx' with rfl | hx'
      · exact qa
      · exact qx x hx'⟩
theorem tz_Robot {n : Nat} {ds : List DV} (h : Typed T (n + 5) Y.Robot ds) : ∃ r : Robot, ds = [dJs r.joints, dMs r.masses] ∧ r.joints.length ≤ 140737488351232 ∧ r.masses.length ≤ 140737488351232 := by
  obtain ⟨ps, h, rfl⟩ := h
  replace h := all2_cons h
  obtain ⟨d, q, rfl, h1, h⟩ := h
  obtain ⟨rs, e1, b1, _, g1⟩ := h1
  obtain ⟨js, rfl⟩ := map_of (enc := encJ) fun r hr => tz_Joint (g1 r hr)
  replace h := all2_cons h
  obtain ⟨d2, q, rfl, h2, h⟩ := h
  obtain ⟨rs, e2, b2, _, g2⟩ := h2
  obtain ⟨ms, rfl⟩ := map_of (enc := encM) fun r hr => tz_Mass (g2 r hr)
  obtain rfl := all2_nil h
  refine ⟨⟨js, ms⟩, by rw [e1, e2]; rfl, ?_, ?_⟩
  · have : js.length * 104 ≤ reachBytes := by simpa using b1
    unfold reachBytes at this; simp only; omega
  · have : ms.length * 40 ≤ reachBytes := by simpa using b2
    unfold reachBytes at this; simp only; omega
theorem tyB_Robot {n : Nat} {ds : List DV} (h : Typed T (n + 5) Y.Robot ds) : ∃ r : Robot, ds = [dJs r.joints, dMs r.masses] ∧ (r.joints.length ≤ 140737488351232 ∧ r.masses.length ≤ 140737488351232) := tz_Robot h
theorem tyB_Scene {n : Nat} {ds : List DV} (h : Typed T (n + 6) Y.Scene ds) : ∃ s : Scene, ds = [dJs s.robot.joints, dMs s.robot.masses, dShs s.shapes, dSks s.skips] ∧ small s := by
  obtain ⟨ps, h, rfl⟩ := h
  replace h := all2_cons h
  obtain ⟨d, q, rfl, h1, h⟩ := h
  obtain ⟨r, rfl, r1, r2⟩ := tz_Robot h1
  replace h := all2_cons h
  obtain ⟨d, q, rfl, h1, h⟩ := h
  obtain ⟨rs, e1, b1, _, g1⟩ := h1
  obtain ⟨shs, rfl, gs⟩ := map_of' (enc := encSh) (Q := fun x => x.points.length ≤ 140737488351232) fun r hr => tz_Shape (g1 r hr)
  replace h := all2_cons h
  obtain ⟨d2, q, rfl, h2, h⟩ := h
  obtain ⟨rs, e2, b2, _, g2⟩ := h2
  obtain ⟨sks, rfl⟩ := map_of (enc := encSk) fun r hr => tz_Skip (g2 r hr)
  obtain rfl := all2_nil h
  refine ⟨⟨r, shs, sks⟩, by rw [e1, e2]; rfl, ?_⟩
  have a1 : shs.length * 40 ≤ reachBytes := by simpa using b1
  have a2 : sks.length * 16 ≤ reachBytes := by simpa using b2
  unfold reachBytes at a1 a2
  exact ⟨by simp only; omega, by simp only; omega, by simp only; omega, by simp only; omega, fun x hx => by have := gs x hx; omega⟩
end Go.Proofs.Ythdbdokhncaijaa

/- law35: data of the law's types. -/
namespace Go.Proofs.Ythdbdokhncaijaa
open Eng
set_option maxRecDepth 10000

theorem tyB_s_Vec {n : Nat} {ds : List DV} (h : Typed T (n + 3) Y.s_Vec ds) : ∃ l : List Vec, ds = [dVs l] ∧ l.length ≤ 4611686018427387904 := by
  obtain ⟨l, h1, h2⟩ := tz_sVec h
  exact ⟨l, h1, by omega⟩
theorem tyB_s_Scene {n : Nat} {ds : List DV} (h : Typed T (n + 7) Y.s_Scene ds) : ∃ l : List Scene, ds = [dScs l] ∧ (l.length ≤ 4611686018427387904 ∧ ∀ s ∈ l, small s) := by
  obtain ⟨rs, h1, h2, _, h3⟩ := h
  obtain ⟨l, rfl, hs⟩ := map_of' (enc := encSc) (Q := small) fun r hr => tyB_Scene (h3 r hr)
  refine ⟨l, h1, ?_, hs⟩
  have : l.length * 96 ≤ reachBytes := by simpa using h2
  unfold reachBytes at this; omega
end Go.Proofs.Ythdbdokhncaijaa

/- mk.Config. -/
namespace Go.Proofs.Ythdbdokhncaijaa
open Eng
set_option maxRecDepth 10000
attribute [local irreducible] FnOk loopW idxF retX arrF

def cfgV (l : List Int) (q : Nat) (j : Joint) : Int := if nxt l q 6 = 0 then j.lo else if nxt l q 6 = 1 then j.hi else j.lo + nxt l (q + 1) (j.hi - j.lo + 1)
def cfgN (l : List Int) (q : Nat) : Nat := if nxt l q 6 = 0 then q + 1 else if nxt l q 6 = 1 then q + 1 else q + 1 + 1
def cfgP (l : List Int) : Nat → Nat
  | 0 => 0
  | k + 1 => cfgN l (cfgP l k)
def cfgTo (js : List Joint) (l : List Int) : Nat → List Int
  | 0 => []
  | k + 1 => cfgTo js l k ++ (js[k]?.toList.map (cfgV l (cfgP l k)))
def cfg (r : Robot) (l : List Int) : List Int := cfgTo r.joints l r.joints.length
theorem cfgTo_len (js : List Joint) (l : List Int) : ∀ k, k ≤ js.length → (cfgTo js l k).length = k
  | 0, _ => rfl
  | k + 1, h => by
    rw [cfgTo, List.length_append, cfgTo_len js l k (by omega), List.getElem?_eq_getElem (by omega)]; rfl
theorem cfg_len (r : Robot) (l : List Int) : (cfg r l).length = r.joints.length := cfgTo_len _ _ _ (Nat.le_refl _)
theorem limits {r : Robot} (h : checkRobot r = 0) {k : Nat} {j : Joint} (hj : r.joints[k]? = some j) : j.lo ≤ j.hi ∧ -4194304 ≤ j.lo ∧ j.hi ≤ 4194304 := by
  obtain ⟨_, ⟨_, _⟩, _, _, ⟨h1, h2, h3⟩, _⟩ := (robot_facts h).2.1 k j hj
  have := reach_cases j.kind
  omega
theorem mk_Config (r : Robot) (l : List Int) (hr : checkRobot r = 0) (hl : l.length ≤ 4611686018427387904) : FnOk Try.prog F.mk_Config [Ro r, Li l] [] 0 (Li (cfg r l)) [] 0 := by
  have h10 := (robot_facts hr).1
  refine fnOk tab mix G.mk_Config rfl rfl (by kernel_rfl) rfl rfl ?_
  (conv => whnf)
  refine call_i (mk_From l) ?_
  (conv => whnf)
  refine loop_intro (fun k : Nat => ⟨[(2, .one (.vptr 0 0)), (5, .one (.vptr 1 0)), (6, .one (.row 2)), (7, I k)], [(0, bRo r), (1, SrcJ l (cfgP l k)), (2, .rows Y.int64 1 ((cfgTo r.joints l k).map encI))], 3⟩) (fun k => k ≤ r.joints.length) (fun k => r.joints.length - k) [.own 6 Y.int64 1] 0 [] (Nat.zero_le _) ⟨⟨rfl, rfl, rfl, rfl, trivial⟩, ⟨rfl, rfl, rfl, trivial⟩⟩ ?_
  rintro k hk
  have hkk : IntKind.i64.wrap ((k : Int) + 1) = ((k + 1 : Nat) : Int) := by rw [w64] <;> omega
  have hlen := cfgTo_len r.joints l k hk
  (conv => whnf)
  refine ask_m (fun hlt => ?_) (fun hlt => ?_)
  · have hlt : k < r.joints.length := by simpa using hlt
    obtain ⟨j, hj⟩ : ∃ j, r.joints[k]? = some j := ⟨_, List.getElem?_eq_getElem hlt⟩
    obtain ⟨l1, l2, l3⟩ := limits hr hj
    have hn : cfgTo r.joints l (k + 1) = cfgTo r.joints l k ++ [cfgV l (cfgP l k) j] := by rw [cfgTo, hj]; rfl
    have hp : cfgP l (k + 1) = cfgN l (cfgP l k) := rfl
    generalize cfgTo r.joints l k = xs at *
    generalize cfgP l k = q at *
    have e1 : IntKind.i64.wrap (IntKind.i64.wrap (j.hi - j.lo) + 1) = j.hi - j.lo + 1 := by rw [w64 (x := j.hi - j.lo) (by omega) (by omega), w64] <;> omega
    have nb := nxt_bd (l := l) (j := q + 1) (m := j.hi - j.lo + 1) (by omega)
    have e2 : IntKind.i64.wrap (j.lo + nxt l (q + 1) (j.hi - j.lo + 1)) = j.lo + nxt l (q + 1) (j.hi - j.lo + 1) := by rw [w64] <;> omega
    (conv => whnf)
    refine idx_and (by omega) (by simpa using hj) ?_
    (conv => whnf)
    refine idx_and (by omega) (by simpa using hj) ?_
    (conv => whnf)
    refine call_i (mk_Next l q 6 (by decide) (by decide) hl) ?_
    (conv => whnf)
    refine ask_m (fun h0 => ?_) (fun h0 => ?_)
    · have h0 : nxt l q 6 = 0 := by simpa using h0
      (conv => whnf)
      refine ⟨⟨by simp; omega, by simp; omega⟩, ?_⟩
      (conv => whnf)
      exact ⟨k + 1, [(2, 4)], hlt, by omega, ⟨⟨rfl, rfl, rfl, eqI hkk, trivial⟩, ⟨rfl, by rw [hp, cfgN, if_pos h0]; rfl, rows_eq (by rw [hn, cfgV, if_pos h0, List.map_append]; rfl), trivial⟩⟩⟩
    · have h0 : ¬ nxt l q 6 = 0 := by simpa using h0
      (conv => whnf)
      refine ask_m (fun h1 => ?_) (fun h1 => ?_)
      · have h1 : nxt l q 6 = 1 := by simpa using h1
        (conv => whnf)
        refine ⟨⟨by simp; omega, by simp; omega⟩, ?_⟩
        (conv => whnf)
        exact ⟨k + 1, [(2, 4)], hlt, by omega, ⟨⟨rfl, rfl, rfl, eqI hkk, trivial⟩, ⟨rfl, by rw [hp, cfgN, if_neg h0, if_pos h1]; rfl, rows_eq (by rw [hn, cfgV, if_neg h0, if_pos h1, List.map_append]; rfl), trivial⟩⟩⟩
      · have h1 : ¬ nxt l q 6 = 1 := by simpa using h1
        (conv => whnf)
        rw [e1]
        refine call_i (mk_Next l (q + 1) (j.hi - j.lo + 1) (by omega) (by omega) hl) ?_
        (conv => whnf)
        refine ⟨⟨by simp; omega, by simp; omega⟩, ?_⟩
        (conv => whnf)
        exact ⟨k + 1, [(2, 4)], hlt, by omega, ⟨⟨rfl, rfl, rfl, eqI hkk, trivial⟩, ⟨rfl, by rw [hp, cfgN, if_neg h0, if_neg h1]; rfl, rows_eq (by rw [hn, cfgV, if_neg h0, if_neg h1, e2, List.map_append]; rfl), trivial⟩⟩⟩
  · have hk : k = r.joints.length := by simp at hlt; omega
    subst hk
    (conv => whnf)
    refine retO [.frz 2] ?_
    (conv => whnf)
    exact ⟨[], ⟨rfl, trivial⟩, trivial⟩
end Go.Proofs.Ythdbdokhncaijaa

/- law35: Concat, TeamApart. -/
namespace Go.Proofs.Ythdbdokhncaijaa
open Eng
set_option maxRecDepth 10000
attribute [local irreducible] FnOk loopW idxF retX arrF

def encL (l : List Int) : List DV := [.lst 1 (l.map encI)]
abbrev dLs (l : List (List Int)) : DV := .lst 1 (l.map encL)
theorem flat_map (l : List (List Int)) (x : List Int) : (l ++ [x]).flatten.map encI = l.flatten.map encI ++ x.map encI := by
  rw [List.flatten_append, List.map_append]; simp
theorem team_concat (l : List (List Int)) (hl : l.length ≤ 4611686018427387904) (hs : l.flatten.length ≤ 17592186044416) : FnOk Try.prog F.team_concat_int64 [.one (.dv (dLs l))] [] 0 (Li l.flatten) [] 0 := by
  refine fnOk tab mix G.team_concat_int64 rfl rfl (by kernel_rfl) rfl rfl ?_
  (conv => whnf)
  refine loop_intro (fun k : Nat => ⟨[(3, .one (.row 0)), (6, .one (.dv (dLs l))), (7, I l.length), (8, I k)], [(0, .rows Y.int64 1 ((l.take k).flatten.map encI))], 1⟩) (fun k => k ≤ l.length) (fun k => l.length - k) [.own 3 Y.int64 1] 0 [] (Nat.zero_le _) ⟨⟨rfl, rfl, eqI (by simp), rfl, trivial⟩, ⟨rfl, trivial⟩⟩ ?_
  rintro k hk
  have hkk : IntKind.i64.wrap ((k : Int) + 1) = ((k + 1 : Nat) : Int) := by rw [w64] <;> omega
  (conv => whnf)
  refine ask_m (fun hlt => ?_) (fun hlt => ?_)
  · have hlt : k < l.length := by have := of_decide_eq_true hlt; omega
    obtain ⟨x, hx⟩ : ∃ x, l[k]? = some x := ⟨_, List.getElem?_eq_getElem hlt⟩
    have ht : l.take (k + 1) = l.take k ++ [x] := by rw [List.take_add_one, hx]; rfl
    have hb : ((l.take k).flatten.map encI ++ x.map encI).length ≤ 17592186044416 := by
      rw [← flat_map, ← ht, List.length_map]
      refine Nat.le_trans ?_ hs
      have e : l = l.take (k + 1) ++ l.drop (k + 1) := (List.take_append_drop _ _).symm
      conv => rhs; rw [e]
      rw [List.flatten_append, List.length_append]; omega
    (conv => whnf)
    refine idx_and (by omega) (by simpa using hx) ?_
    (conv => whnf)
    refine ⟨⟨by omega, by show _ * 8 ≤ _; omega⟩, ?_⟩
    (conv => whnf)
    exact ⟨k + 1, [(0, 1)], hlt, by omega, ⟨⟨rfl, rfl, rfl, eqI hkk, trivial⟩, ⟨rows_eq (by rw [ht, flat_map]), trivial⟩⟩⟩
  · have hk : k = l.length := by have := of_decide_eq_false hlt; omega
    subst hk
    rw [List.take_length]
    (conv => whnf)
    refine retO [.frz 0] ?_
    (conv => whnf)
    exact ⟨[], ⟨rfl, trivial⟩, trivial⟩
theorem team_Concat (l : List (List Int)) (hl : l.length ≤ 4611686018427387904) (hs : l.flatten.length ≤ 17592186044416) : FnOk Try.prog F.team_Concat [.one (.dv (dLs l))] [] 0 (Li l.flatten) [] 0 := by
  refine fnOk tab mix G.team_Concat rfl rfl (by kernel_rfl) rfl rfl ?_
  (conv => whnf)
  refine call_i (team_concat l hl hs) ?_
  (conv => whnf)
  (conv => whnf)
  refine ret0 ?_
  exact ret_dv rfl rfl
/- the parts of a concatenation -/
theorem flat_part {α : Type} : ∀ (ls : List (List α)) (k : Nat) (x : List α), ls[k]? = some x → (ls.flatten.take ((ls.take (k + 1)).map List.length).sum).drop ((ls.take k).map List.length).sum = x
  | [], k, x, h => by simp at h
  | y :: ls, 0, x, h => by
    simp at h; subst h; simp
  | y :: ls, k + 1, x, h => by
    have := flat_part ls k x (by simpa using h)
    show ((y ++ ls.flatten).take ((y :: ls.take (k + 1)).map List.length).sum).drop ((y :: ls.take k).map List.length).sum = x
    rw [List.map_cons, List.map_cons, List.sum_cons, List.sum_cons, List.take_length_add_append, List.drop_length_add_append]
    exact this
theorem parts_of {x : List Scene} {ls : List (List Int)} (hl : ls.length = x.length) (he : ∀ (k : Nat) s c, x[k]? = some s → ls[k]? = some c → c.length = s.robot.joints.length) : ∀ k, k ≤ x.length → ((ls.take k).map List.length).sum = cnt x k
  | 0, _ => rfl
  | k + 1, h => by
    obtain ⟨s, hs⟩ : ∃ s, x[k]? = some s := ⟨_, List.getElem?_eq_getElem (by omega)⟩
    obtain ⟨c, hc⟩ : ∃ c, ls[k]? = some c := ⟨_, List.getElem?_eq_getElem (by omega)⟩
    rw [cnt_succ hs, map_take1 _ hc, List.sum_append, parts_of hl he k (by omega)]
    have := he k s c hs hc
    simp; omega
theorem flat_len (ls : List (List Int)) : ls.flatten.length = ((ls.take ls.length).map List.length).sum := by
  rw [List.take_length, List.length_flatten]
def cfgsTo (x : List Scene) (o : List Int) (k : Nat) : List (List Int) := (List.range k).map fun i => cfg (x.getD i emptyS).robot ((i : Int) :: o)
theorem law35_Apart (l m o : List Int) (a : Int) (hl : l.length ≤ 17592186044416) (hm : m.length ≤ 17592186044416) (ho : o.length ≤ 17592186043904) (ha : True) : FnOk Try.prog F.law35_TeamApart [Li l, Li m, Li o, I a] [] 0 (Bo true) [] 0 := by
  refine fnOkG [(8, [.frz 2])] tab mix G.law35_TeamApart rfl rfl (by kernel_rfl) rfl rfl ?_
  (conv => whnf)
  refine call_i (law35_scenes l m hl hm) ?_
  (conv => whnf)
  have hxo := scsOf_ok l m
  have hxl := scsOf_len l m
  obtain ⟨c1, c2⟩ := nSc_bd m
  generalize scsOf l m = x at *
  refine loop_intro (fun k : Nat => ⟨[(2, Li o), (3, I a), (9, .one (.row 0)), (11, .one (.row 2)), (12, I k)], [(0, .rows Y.Scene 4 (x.map encSc)), (2, .rows Y.s_int64 1 ((cfgsTo x o k).map encL))], 3⟩) (fun k => k ≤ x.length) (fun k => x.length - k) [.own 11 Y.s_int64 1] 0 [] (Nat.zero_le _) ⟨⟨rfl, rfl, rfl, rfl, rfl, trivial⟩, ⟨rfl, rfl, trivial⟩⟩ ?_
  rintro k hk
  have hkk : IntKind.i64.wrap ((k : Int) + 1) = ((k + 1 : Nat) : Int) := by rw [w64] <;> omega
  have hcl : (cfgsTo x o k).length = k := by simp [cfgsTo]
  (conv => whnf)
  refine ask_m (fun hlt => ?_) (fun hlt => ?_)
  · have hlt : k < x.length := by simpa using hlt
    obtain ⟨s, hs⟩ : ∃ s, x[k]? = some s := ⟨_, List.getElem?_eq_getElem hlt⟩
    have hso := hxo s (List.mem_of_getElem? hs)
    have hro := (scene_facts hso).1
    have hnx : (cfgsTo x o (k + 1)).map encL = (cfgsTo x o k).map encL ++ [encL (cfg (x.getD k emptyS).robot ((k : Int) :: o))] := range_enc
    rw [getD_at hs] at hnx
    (conv => whnf)
    refine ⟨⟨by omega, by simp; omega⟩, ?_⟩
    (conv => whnf)
    refine idx_map (x := s) (by simpa using hs) ?_
    (conv => whnf)
    refine ⟨⟨by simp; omega, by simp; omega⟩, ?_⟩
    (conv => whnf)
    refine call_i (mk_Config s.robot ((k : Int) :: o) hro (by simp; omega)) ?_
    (conv => whnf)
    refine ⟨⟨by simp; omega, by simp; omega⟩, ?_⟩
    (conv => whnf)
    exact ⟨k + 1, [(2, 6)], hlt, by omega, ⟨⟨rfl, rfl, rfl, rfl, eqI hkk, trivial⟩, ⟨rfl, rows_eq (by rw [hnx]; rfl), trivial⟩⟩⟩
  · have hk : k = x.length := by simp at hlt; omega
    subst hk
    have hj : ∀ s ∈ x, s.robot.joints.length ≤ 1000 := fun s hs => by
      have := (robot_facts (scene_facts (hxo s hs)).1).1
      omega
    have he : ∀ (k : Nat) s c, x[k]? = some s → (cfgsTo x o x.length)[k]? = some c → c.length = s.robot.joints.length := by
      intro k s c hs hc
      have hk : k < x.length := (List.getElem?_eq_some_iff.1 hs).1
      rw [cfgsTo, List.getElem?_map, List.getElem?_range hk] at hc
      simp only [Option.map_some, Option.some.injEq] at hc
      rw [← hc, getD_at hs, cfg_len]
    have hsum := parts_of hcl he
    have hfl : (cfgsTo x o x.length).flatten.length = cnt x x.length := by rw [flat_len, hcl, hsum _ (Nat.le_refl _)]
    have hbd := cnt_bd hj x.length (Nat.le_refl _)
    generalize hls : cfgsTo x o x.length = ls at *
    (conv => whnf)
    refine call_i (mk_Round a ((x.map encSc).length : Int) (by rw [List.length_map]; omega) (by rw [List.length_map]; omega)) ?_
    (conv => whnf)
    have e1 := Int.emod_nonneg a (b := ((x.map encSc).length : Int)) (by rw [List.length_map]; omega)
    have e2 := Int.emod_lt_of_pos a (b := ((x.map encSc).length : Int)) (by rw [List.length_map]; omega)
    obtain ⟨i, hi⟩ : ∃ i : Nat, a % ((x.map encSc).length : Int) = i := ⟨_, (Int.toNat_of_nonneg e1).symm⟩
    rw [hi] at e2 ⊢
    have hix : i < x.length := by rw [List.length_map] at e2; omega
    obtain ⟨c, hc⟩ : ∃ c, ls[i]? = some c := ⟨_, List.getElem?_eq_getElem (by omega)⟩
    obtain ⟨s, hs⟩ : ∃ s, x[i]? = some s := ⟨_, List.getElem?_eq_getElem hix⟩
    have hcl2 := he i s c hs hc
    have hsj := hj s (List.mem_of_getElem? hs)
    have hp : partOf x ls.flatten (i : Int) = (c, true) := by
      rw [partOf, if_neg (by omega), if_neg (by simp [hfl]), Int.toNat_natCast, ← hsum (i + 1) (by omega), ← hsum i (by omega), flat_part ls i c hc]
    refine call_i (team_Concat ls (by omega) (by omega)) ?_
    (conv => whnf)
    refine call_i (team_Part' x ls.flatten i (by omega) hj) ?_
    (conv => whnf)
    rw [hp]
    (conv => whnf)
    refine call_i (law35_awake) ?_
    (conv => whnf)
    refine idx_and (by omega) (by simpa using hc) ?_
    (conv => whnf)
    refine call_i (mk_Same_int64 c c (by omega) (by omega)) ?_
    (conv => whnf)
    (conv => whnf)
    refine ret0 ?_
    exact ret_b (by simp) rfl
end Go.Proofs.Ythdbdokhncaijaa

/- The bulk of arguments, as the second form of the statements bounds it. -/
namespace Go.Proofs.Ythdbdokhncaijaa
open Eng

theorem upto_all {H : Type} : ∀ ds : List (DataW H), Rows.uptoBulkAll ds = (ds.map Rows.uptoBulk).sum
  | [] => by simp only [Rows.uptoBulkAll]; rfl
  | d :: ds => by simp only [Rows.uptoBulkAll, List.map_cons, List.sum_cons]; rw [upto_all ds]
theorem bulkRows {H : Type} : BulkOk (Rows.uptoBulk (H := H)) where
  str := fun b => by simp only [Rows.uptoBulk]; exact Nat.le_refl _
  lit := fun l => by cases l <;> simp only [Rows.uptoBulk] <;> omega
  nil := by simp only [Rows.uptoBulk]; exact Nat.le_refl _
  slice := fun es sp => by simp only [Rows.uptoBulk, upto_all]; omega
  agg := fun ps => by simp only [Rows.uptoBulk, upto_all]; omega
theorem small_sum {H : Type} {ds gs : List (DataW H)} (h : Rows.uptoSmall H (ds ++ gs) = true) : (ds.map Rows.uptoBulk).sum ≤ 1048576 := by
  have := of_decide_eq_true h
  rw [upto_all, List.map_append, List.sum_append] at this
  omega
end Go.Proofs.Ythdbdokhncaijaa

/- law35: ref.Concat, ref.Box, TeamParts. -/
namespace Go.Proofs.Ythdbdokhncaijaa
open Eng
set_option maxRecDepth 10000
attribute [local irreducible] FnOk loopW idxF retX arrF

theorem tyB_s_int64 {n : Nat} {ds : List DV} (h : Typed T (n + 2) Y.s_int64 ds) : ∃ xs : List Int, ds = [.lst 1 (xs.map encI)] ∧ xs.length ≤ 17592186044416 := by
  obtain ⟨rs, h1, h2, _, h3⟩ := h
  obtain ⟨l, rfl⟩ := map_of (enc := encI) fun r hr => tz_i64 (h3 r hr)
  refine ⟨l, h1, ?_⟩
  have : l.length * 8 ≤ reachBytes := by simpa using h2
  unfold reachBytes at this; omega
theorem tyB_s_s_int64 {n : Nat} {ds : List DV} (h : Typed T (n + 3) Y.s_s_int64 ds) : ∃ l : List (List Int), ds = [dLs l] ∧ (l.length ≤ 17592186044416 ∧ ∀ x ∈ l, x.length ≤ 17592186044416) := by
  obtain ⟨rs, h1, h2, _, h3⟩ := h
  obtain ⟨l, rfl, hs⟩ := map_of' (enc := encL) (Q := fun x => x.length ≤ 17592186044416) fun r hr => tyB_s_int64 (h3 r hr)
  refine ⟨l, h1, ?_, hs⟩
  have : l.length * 24 ≤ reachBytes := by simpa using h2
  unfold reachBytes at this; omega
theorem tz_Ival {n : Nat} {ds : List DV} (h : Typed T (n + 2) Y.Interval ds) : ∃ v, ds = encIv v := by
  obtain ⟨ps, h1, h2⟩ := h
  obtain ⟨a, r, rfl, ha, h1⟩ := all2_cons h1
  obtain ⟨b, r, rfl, hb, h1⟩ := all2_cons h1
  obtain rfl := all2_nil h1
  obtain ⟨a, rfl⟩ := tz_i64 ha
  obtain ⟨b, rfl⟩ := tz_i64 hb
  exact ⟨⟨a, b⟩, h2⟩
theorem tyB_s_Interval {n : Nat} {ds : List DV} (h : Typed T (n + 3) Y.s_Interval ds) : ∃ xs : List Ival, ds = [dIvs xs] ∧ xs.length ≤ 17592186044416 := by
  obtain ⟨rs, h1, h2, _, h3⟩ := h
  obtain ⟨l, rfl⟩ := map_of (enc := encIv) fun r hr => tz_Ival (h3 r hr)
  refine ⟨l, h1, ?_⟩
  have : l.length * 16 ≤ reachBytes := by simpa using h2
  unfold reachBytes at this; omega
theorem bulk_encI : ∀ x : List Int, bulkRs (x.map encI) = x.length
  | [] => rfl
  | a :: x => by rw [List.map_cons, bulkRs, bulk_encI x]; simp [encI, bulkDs, bulkD]; omega
theorem bulk_flat : ∀ l : List (List Int), l.flatten.length ≤ bulkRs (l.map encL)
  | [] => Nat.le_refl _
  | x :: l => by
    have := bulk_flat l
    rw [List.map_cons, bulkRs, List.flatten_cons, List.length_append]
    have e : bulkDs (encL x) = x.length + 1 := by rw [encL, bulkDs, bulkDs, bulkD, bulk_encI]
    omega
theorem ref32_Concat (l : List (List Int)) (hl : l.length ≤ 4611686018427387904) (hs : l.flatten.length ≤ 17592186044416) : FnOk Try.prog F.ref32_Concat [.one (.dv (dLs l))] [] 0 (Li l.flatten) [] 0 := by
  refine fnOk tab mix G.ref32_Concat rfl rfl (by kernel_rfl) rfl rfl ?_
  (conv => whnf)
  refine loop_intro (fun k : Nat => ⟨[(0, .one (.dv (dLs l))), (3, .one (.row 0)), (4, I k)], [(0, .rows Y.int64 1 ((l.take k).flatten.map encI))], 1⟩) (fun k => k ≤ l.length) (fun k => l.length - k) [.own 3 Y.int64 1] 0 [] (Nat.zero_le _) ⟨⟨rfl, rfl, rfl, trivial⟩, ⟨rfl, trivial⟩⟩ ?_
  rintro k hk
  have hkk : IntKind.i64.wrap ((k : Int) + 1) = ((k + 1 : Nat) : Int) := by rw [w64] <;> omega
  (conv => whnf)
  refine ask_m (fun hlt => ?_) (fun hlt => ?_)
  · have hlt : k < l.length := by simpa using hlt
    obtain ⟨x, hx⟩ : ∃ x, l[k]? = some x := ⟨_, List.getElem?_eq_getElem hlt⟩
    have ht : l.take (k + 1) = l.take k ++ [x] := by rw [List.take_add_one, hx]; rfl
    have hb : ((l.take k).flatten.map encI ++ x.map encI).length ≤ 17592186044416 := by
      rw [← flat_map, ← ht, List.length_map]
      refine Nat.le_trans ?_ hs
      have e : l = l.take (k + 1) ++ l.drop (k + 1) := (List.take_append_drop _ _).symm
      conv => rhs; rw [e]
      rw [List.flatten_append, List.length_append]; omega
    (conv => whnf)
    refine idx_and (by omega) (by simpa using hx) ?_
    (conv => whnf)
    refine ⟨⟨by omega, by show _ * 8 ≤ _; omega⟩, ?_⟩
    (conv => whnf)
    exact ⟨k + 1, [(0, 1)], hlt, by omega, ⟨⟨rfl, rfl, eqI hkk, trivial⟩, ⟨rows_eq (by rw [ht, flat_map]), trivial⟩⟩⟩
  · have hk : k = l.length := by simp at hlt; omega
    subst hk
    rw [List.take_length]
    (conv => whnf)
    refine retO [.frz 0] ?_
    (conv => whnf)
    exact ⟨[], ⟨rfl, trivial⟩, trivial⟩
def smI (x : Int) : Bool := decide (-2147483648 ≤ x) && decide (x ≤ 2147483648)
theorem ref10_small (xs : List Int) (hl : xs.length ≤ 4611686018427387904) : FnOk Try.prog F.ref10_small [Li xs] [] 0 (Bo (xs.all smI)) [] 0 := by
  refine fnOk tab mix G.ref10_small rfl rfl (by kernel_rfl) rfl rfl ?_
  (conv => whnf)
  refine loop_intro (fun k : Nat => ⟨[(0, Li xs), (3, I k)], [], 0⟩) (fun k => k ≤ xs.length ∧ (xs.take k).all smI = true) (fun k => xs.length - k) [] 0 [] ⟨Nat.zero_le _, rfl⟩ ⟨⟨rfl, rfl, trivial⟩, trivial⟩ ?_
  rintro k ⟨hk, hall⟩
  have hkk : IntKind.i64.wrap ((k : Int) + 1) = ((k + 1 : Nat) : Int) := by rw [w64] <;> omega
  (conv => whnf)
  refine ask_m (fun hlt => ?_) (fun hlt => ?_)
  · have hlt : k < xs.length := by simpa using hlt
    obtain ⟨x, hx⟩ : ∃ x, xs[k]? = some x := ⟨_, List.getElem?_eq_getElem hlt⟩
    (conv => whnf)
    refine idx_and (by omega) (by simpa using hx) ?_
    (conv => whnf)
    cases h1 : decide (x < -2147483648) with
    | true =>
      have h1 := of_decide_eq_true h1
      (conv => whnf)
      (conv => whnf)
      refine ret0 ?_
      exact ret_b (by rw [all_not hx (by simp [smI]; omega)]) rfl
    | false =>
    have h1 := of_decide_eq_false h1
    (conv => whnf)
    refine idx_and (by omega) (by simpa using hx) ?_
    (conv => whnf)
    refine ask_m (fun h2 => ?_) (fun h2 => ?_)
    · have h2 := of_decide_eq_true h2
      (conv => whnf)
      refine ret0 ?_
      exact ret_b (by rw [all_not hx (by simp [smI]; omega)]) rfl
    · have h2 := of_decide_eq_false h2
      (conv => whnf)
      exact ⟨k + 1, [], ⟨hlt, all_take hall hx (by simp [smI]; omega)⟩, by omega, ⟨⟨rfl, eqI hkk, trivial⟩, trivial⟩⟩
  · have hk : k = xs.length := by simp at hlt; omega
    subst hk
    rw [List.take_length] at hall
    (conv => whnf)
    refine ret0 ?_
    exact ret_b hall.symm rfl
def boxOf (q : List Int) : List Ival := if q.all smI = true then q.map fun x => ⟨x, x⟩ else []
theorem boxOf_len (q : List Int) : (boxOf q).length ≤ q.length := by
  unfold boxOf; split <;> simp
theorem ref10_Box (q : List Int) (hl : q.length ≤ 1099511627776) : FnOk Try.prog F.ref10_Box [Li q] [] 0 (.one (.dv (dIvs (boxOf q)))) [] 0 := by
  refine fnOk tab mix G.ref10_Box rfl rfl (by kernel_rfl) rfl rfl ?_
  (conv => whnf)
  refine call_i (ref10_small q (by omega)) ?_
  (conv => whnf)
  cases hs : q.all smI with
  | false =>
    (conv => whnf)
    have e : boxOf q = [] := by rw [boxOf, hs]; rfl
    rw [e]
    (conv => whnf)
    refine retO [.own 2 Y.Interval 2, .frz 0] ?_
    (conv => whnf)
    exact ⟨[], ⟨rfl, trivial⟩, trivial⟩
  | true =>
  have e : boxOf q = q.map fun x => ⟨x, x⟩ := by rw [boxOf, hs]; rfl
  rw [e]
  (conv => whnf)
  refine loop_intro (fun k : Nat => ⟨[(0, Li q), (3, .one (.row 0)), (4, I k)], [(0, .rows Y.Interval 2 (((q.take k).map fun x => (⟨x, x⟩ : Ival)).map encIv))], 1⟩) (fun k => k ≤ q.length) (fun k => q.length - k) [.own 3 Y.Interval 2] 0 [] (Nat.zero_le _) ⟨⟨rfl, rfl, rfl, trivial⟩, ⟨rfl, trivial⟩⟩ ?_
  rintro k hk
  have hkk : IntKind.i64.wrap ((k : Int) + 1) = ((k + 1 : Nat) : Int) := by rw [w64] <;> omega
  (conv => whnf)
  refine ask_m (fun hlt => ?_) (fun hlt => ?_)
  · have hlt : k < q.length := by simpa using hlt
    obtain ⟨x, hx⟩ : ∃ x, q[k]? = some x := ⟨_, List.getElem?_eq_getElem hlt⟩
    (conv => whnf)
    refine idx_and (by omega) (by simpa using hx) ?_
    (conv => whnf)
    refine idx_and (by omega) (by simpa using hx) ?_
    (conv => whnf)
    refine ⟨⟨by simp; omega, by simp; omega⟩, ?_⟩
    (conv => whnf)
    exact ⟨k + 1, [(0, 2)], hlt, by omega, ⟨⟨rfl, rfl, eqI hkk, trivial⟩, ⟨rows_eq (by rw [map_take1 _ hx, List.map_append]; rfl), trivial⟩⟩⟩
  · have hk : k = q.length := by simp at hlt; omega
    subst hk
    rw [List.take_length]
    (conv => whnf)
    refine retO [.frz 0] ?_
    (conv => whnf)
    exact ⟨[], ⟨rfl, trivial⟩, trivial⟩
theorem partOf_len {α : Type} (l : List Scene) (xs : List α) (k : Int) : (partOf l xs k).1.length ≤ xs.length := by
  unfold partOf
  split
  · simp
  · split
    · simp
    · simp only [List.length_drop, List.length_take]; omega
theorem law35_parts (l : List Scene) (q : List Int) (bx : List Ival) (k : Int) (hl : l.length ≤ 1000) (hj : ∀ s ∈ l, s.robot.joints.length ≤ 1000) (hq : q.length ≤ 1000000000) (hb : bx.length ≤ 1000000000) : FnOk Try.prog F.law35_parts [.one (.dv (dScs l)), Li q, .one (.dv (dIvs bx)), I k] [] 0 (Bo true) [] 0 := by
  have p1 := partOf_len l q k
  have p2 := partOf_len l bx k
  have h1 := team_Part' l q k hl hj
  have h2 := ref32_Part' l q k hl hj
  have h3 := team_PartBox' l bx k hl hj
  have h4 := ref32_PartBox' l bx k hl hj
  generalize partOf l q k = P at *
  generalize partOf l bx k = Q at *
  obtain ⟨a, b⟩ := P
  obtain ⟨c, d⟩ := Q
  simp only at p1 p2
  cases b <;> cases d
  all_goals
    refine fnOk tab mix G.law35_parts rfl rfl (by kernel_rfl) rfl rfl ?_
    (conv => whnf)
    refine call_i (h1) ?_
    (conv => whnf)
    refine call_i (h2) ?_
    (conv => whnf)
    refine call_i (h3) ?_
    (conv => whnf)
    refine call_i (h4) ?_
    (conv => whnf)
    refine call_i (mk_Same_int64 a a (by omega) (by omega)) ?_
    (conv => whnf)
    rw [decide_eq_true rfl]
    (conv => whnf)
    refine call_i (mk_Same_Interval c c (by omega) (by omega)) ?_
    (conv => whnf)
    (conv => whnf)
    refine ret0 ?_
    exact ret_b (by simp) rfl
theorem partsR (l : List Scene) (S : List (List DV)) (q : List Int) (bx : List Ival) (k : Int) (hS : S = l.map encSc) (hl : l.length ≤ 1000) (hj : ∀ s ∈ l, s.robot.joints.length ≤ 1000) (hq : q.length ≤ 1000000000) (hb : bx.length ≤ 1000000000) : FnOk Try.prog F.law35_parts [.one (.dv (.lst 4 S)), Li q, .one (.dv (dIvs bx)), I k] [] 0 (Bo true) [] 0 := by
  subst hS; exact law35_parts l q bx k hl hj hq hb
def cfgsCat (x : List Scene) (o : List Int) (k : Nat) : List Int := ((List.range k).map fun i => cfg (x.getD i emptyS).robot o).flatten
theorem cfgsCat_succ {x : List Scene} {o : List Int} {k : Nat} {s : Scene} (h : x[k]? = some s) : cfgsCat x o (k + 1) = cfgsCat x o k ++ cfg s.robot o := by
  rw [cfgsCat, List.range_succ, List.map_append, List.flatten_append, List.map_singleton, getD_at h]; simp [cfgsCat]
theorem law35_Parts (raw : List Scene) (lists : List (List Int)) (q : List Int) (bx : List Ival) (k : Int) (l m o : List Int) (h1 : raw.length ≤ 4611686018427387904 ∧ ∀ s ∈ raw, small s) (h2 : lists.length ≤ 17592186044416 ∧ ∀ x ∈ lists, x.length ≤ 17592186044416) (h3 : q.length ≤ 17592186044416) (h4 : bx.length ≤ 17592186044416) (h5 : True) (hl : l.length ≤ 17592186044416) (hm : m.length ≤ 17592186044416) (ho : o.length ≤ 17592186044416)
    (hb : bulkRs [[dScs raw], [dLs lists], [.lst 1 (q.map encI)], [dIvs bx], [.int .i64 k], [.lst 1 (l.map encI)], [.lst 1 (m.map encI)], [.lst 1 (o.map encI)]] ≤ 1048576) : FnOk Try.prog F.law35_TeamParts [.one (.dv (dScs raw)), .one (.dv (dLs lists)), Li q, .one (.dv (dIvs bx)), I k, Li l, Li m, Li o] [] 0 (Bo true) [] 0 := by
  have hfl : lists.flatten.length ≤ 1048576 := by
    have := bulk_flat lists
    simp only [bulkRs, bulkDs, bulkD] at hb
    omega
  clear hb
  refine fnOkG [(10, [.frz 2])] tab mix G.law35_TeamParts rfl rfl (by kernel_rfl) rfl rfl ?_
  (conv => whnf)
  refine call_i (law35_few raw []) ?_
  (conv => whnf)
  cases hf : fewB raw [] with
  | false =>
    (conv => whnf)
    refine call_i (law35_awake) ?_
    (conv => whnf)
    (conv => whnf)
    refine ret0 ?_
    exact ret_b rfl rfl
  | true =>
  simp only [fewB, Bool.and_eq_true, decide_eq_true_eq] at hf
  obtain ⟨⟨f1, f2⟩, f3⟩ := hf
  (conv => whnf)
  cases c1 : decide ((20 : Int) < ((lists.map encL).length : Nat)) with
  | true =>
    (conv => whnf)
    refine call_i (law35_awake) ?_
    (conv => whnf)
    (conv => whnf)
    refine ret0 ?_
    exact ret_b rfl rfl
  | false =>
  (conv => whnf)
  cases c2 : decide ((40 : Int) < ((q.map encI).length : Nat)) with
  | true =>
    (conv => whnf)
    refine call_i (law35_awake) ?_
    (conv => whnf)
    (conv => whnf)
    refine ret0 ?_
    exact ret_b rfl rfl
  | false =>
  (conv => whnf)
  refine ask_m (fun c3 => ?_) (fun c3 => ?_)
  · (conv => whnf)
    refine call_i (law35_awake) ?_
    (conv => whnf)
    (conv => whnf)
    refine ret0 ?_
    exact ret_b rfl rfl
  have c1 := of_decide_eq_false c1
  have c2 := of_decide_eq_false c2
  have c3 := of_decide_eq_false c3
  rw [List.length_map] at c1 c2 c3
  (conv => whnf)
  refine call_i (law35_scenes l m hl hm) ?_
  (conv => whnf)
  have hxo := scsOf_ok l m
  have hxl := scsOf_len l m
  obtain ⟨n1, n2⟩ := nSc_bd m
  generalize scsOf l m = x at *
  have hj : ∀ s ∈ x, s.robot.joints.length ≤ 10 := fun s hs => (robot_facts (scene_facts (hxo s hs)).1).1
  refine loop_intro (fun i : Nat => ⟨[(0, .one (.dv (dScs raw))), (1, .one (.dv (dLs lists))), (2, Li q), (3, .one (.dv (dIvs bx))), (4, I k), (7, Li o), (17, .one (.row 0)), (19, .one (.row 2)), (20, I i)], [(0, .rows Y.Scene 4 (x.map encSc)), (2, .rows Y.int64 1 ((cfgsCat x o i).map encI))], 3⟩) (fun i => i ≤ x.length ∧ (cfgsCat x o i).length ≤ 10 * i) (fun i => x.length - i) [.own 19 Y.int64 1] 0 [] ⟨Nat.zero_le _, Nat.le_refl _⟩ ⟨⟨rfl, rfl, rfl, rfl, rfl, rfl, rfl, rfl, rfl, trivial⟩, ⟨rfl, rfl, trivial⟩⟩ ?_
  rintro i ⟨hi, hcl⟩
  have hii : IntKind.i64.wrap ((i : Int) + 1) = ((i + 1 : Nat) : Int) := by rw [w64] <;> omega
  (conv => whnf)
  refine ask_m (fun hlt => ?_) (fun hlt => ?_)
  · have hlt : i < x.length := by simpa using hlt
    obtain ⟨s, hs⟩ : ∃ s, x[i]? = some s := ⟨_, List.getElem?_eq_getElem hlt⟩
    have hso := hxo s (List.mem_of_getElem? hs)
    have hsj := hj s (List.mem_of_getElem? hs)
    have hro := (scene_facts hso).1
    have hnx := cfgsCat_succ (o := o) hs
    have hln : (cfgsCat x o (i + 1)).length ≤ 10 * (i + 1) := by rw [hnx, List.length_append, cfg_len]; omega
    (conv => whnf)
    refine ⟨⟨by omega, by simp; omega⟩, ?_⟩
    (conv => whnf)
    refine idx_map (x := s) (by simpa using hs) ?_
    (conv => whnf)
    refine call_i (mk_Config s.robot o hro (by omega)) ?_
    (conv => whnf)
    have hsl := cfg_len s.robot o
    refine ⟨⟨by simp; omega, by simp; omega⟩, ?_⟩
    (conv => whnf)
    exact ⟨i + 1, [(2, 3)], ⟨hlt, hln⟩, by omega, ⟨⟨rfl, rfl, rfl, rfl, rfl, rfl, rfl, rfl, eqI hii, trivial⟩, ⟨rfl, rows_eq (by rw [hnx, List.map_append]), trivial⟩⟩⟩
  · have hi : i = x.length := by simp at hlt; omega
    subst hi
    have hj2 : ∀ s ∈ x, s.robot.joints.length ≤ 1000 := fun s hs => by have := hj s hs; omega
    have hj3 : ∀ s ∈ raw, s.robot.joints.length ≤ 1000 := fun s hs => by
      have := List.all_eq_true.1 f3 s hs
      simp [smallB] at this; omega
    have en : IntKind.i64.wrap ((((x.map encSc).length : Nat) : Int) + 2) = (x.length : Int) + 2 := by rw [List.length_map, w64] <;> omega
    generalize cfgsCat x o x.length = c at *
    have hbl := boxOf_len c
    (conv => whnf)
    rw [en]
    refine call_i (mk_Round k ((x.length : Int) + 2) (by omega) (by omega)) ?_
    (conv => whnf)
    refine call_i (law35_awake) ?_
    (conv => whnf)
    refine call_i (team_Concat lists (by omega) (by omega)) ?_
    (conv => whnf)
    refine call_i (ref32_Concat lists (by omega) (by omega)) ?_
    (conv => whnf)
    refine call_i (mk_Same_int64 lists.flatten lists.flatten (by omega) (by omega)) ?_
    (conv => whnf)
    rw [decide_eq_true rfl]
    (conv => whnf)
    refine call_i (law35_parts raw q bx k (by omega) hj3 (by omega) (by omega)) ?_
    (conv => whnf)
    refine call_i (ref10_Box c (by omega)) ?_
    (conv => whnf)
    refine call_i (law35_parts x c (boxOf c) (IntKind.i64.wrap (k % ((x.length : Int) + 2) - 1)) (by omega) hj2 (by omega) (by omega)) ?_
    (conv => whnf)
    refine ⟨⟨trivial, trivial⟩, ?_⟩
    (conv => whnf)
    refine call_i (law35_parts x q bx (IntKind.i64.wrap (k % ((x.length : Int) + 2) - 1)) (by omega) hj2 (by omega) (by omega)) ?_
    (conv => whnf)
    refine ⟨⟨trivial, trivial⟩, ?_⟩
    (conv => whnf)
    (conv => whnf)
    refine ret0 ?_
    exact ret_b rfl rfl
end Go.Proofs.Ythdbdokhncaijaa

/- Pairs of joined scenes. -/
namespace Go.Proofs.Ythdbdokhncaijaa
open Eng
set_option maxRecDepth 10000

/-- shapes of the first scenes -/
def nSh (l : List Scene) (k : Nat) : Nat := ((l.take k).map fun s => s.shapes.length).sum
theorem nSh_succ {l : List Scene} {k : Nat} {s : Scene} (h : l[k]? = some s) : nSh l (k + 1) = nSh l k + s.shapes.length := by
  rw [nSh, map_take1 _ h, List.sum_append]; simp [nSh]
theorem joinTo_succ {l : List Scene} (bs : List Vec) {k : Nat} {s : Scene} (h : l[k]? = some s) : joinTo l bs (k + 1) = addScene (joinTo l bs k) (letter k) (bs.getD k ⟨0, 0, 0⟩) s := by
  rw [joinTo, getD_at h]
theorem join_len {l : List Scene} (bs : List Vec) : ∀ k, k ≤ l.length → (joinTo l bs k).robot.joints.length = cnt l k ∧ (joinTo l bs k).shapes.length = nSh l k
  | 0, _ => ⟨rfl, rfl⟩
  | k + 1, h => by
    obtain ⟨s, hs⟩ : ∃ s, l[k]? = some s := ⟨_, List.getElem?_eq_getElem (by omega)⟩
    obtain ⟨h1, h2⟩ := join_len (l := l) bs k (by omega)
    rw [joinTo_succ bs hs, cnt_succ hs, nSh_succ hs]
    simp only [addScene, List.length_append, List.length_map]
    omega
theorem join_pre {l : List Scene} (bs : List Vec) (k : Nat) : ∀ d, k + d ≤ l.length → (∃ r, (joinTo l bs (k + d)).robot.joints = (joinTo l bs k).robot.joints ++ r) ∧ (∃ r, (joinTo l bs (k + d)).shapes = (joinTo l bs k).shapes ++ r)
  | 0, _ => ⟨⟨[], by simp⟩, ⟨[], by simp⟩⟩
  | d + 1, h => by
    obtain ⟨⟨r1, h1⟩, ⟨r2, h2⟩⟩ := join_pre (l := l) bs k d (by omega)
    obtain ⟨s, hs⟩ : ∃ s, l[k + d]? = some s := ⟨_, List.getElem?_eq_getElem (by omega)⟩
    rw [← Nat.add_assoc, joinTo_succ bs hs]
    simp only [addScene]
    exact ⟨⟨_, by rw [h1, List.append_assoc]⟩, ⟨_, by rw [h2, List.append_assoc]⟩⟩
theorem join_at {l : List Scene} (bs : List Vec) {k : Nat} {s : Scene} (hs : l[k]? = some s) :
    (∀ (i : Nat) j, s.robot.joints[i]? = some j → (joinTo l bs l.length).robot.joints[cnt l k + i]? = some (joinJ (letter k) (cnt l k) (bs.getD k ⟨0, 0, 0⟩) j)) ∧
    (∀ (i : Nat) x, s.shapes[i]? = some x → (joinTo l bs l.length).shapes[nSh l k + i]? = some (joinSh (cnt l k) (bs.getD k ⟨0, 0, 0⟩) x)) := by
  have hk : k < l.length := (List.getElem?_eq_some_iff.1 hs).1
  obtain ⟨e1, e2⟩ := join_len (l := l) bs k (by omega)
  obtain ⟨⟨r1, h1⟩, ⟨r2, h2⟩⟩ := join_pre (l := l) bs (k + 1) (l.length - (k + 1)) (by omega)
  rw [show k + 1 + (l.length - (k + 1)) = l.length by omega] at h1 h2
  rw [joinTo_succ bs hs] at h1 h2
  simp only [addScene] at h1 h2
  refine ⟨fun i j hj => ?_, fun i x hx => ?_⟩
  · have hi : i < s.robot.joints.length := (List.getElem?_eq_some_iff.1 hj).1
    rw [h1, List.append_assoc, List.getElem?_append_right (by omega), e1, Nat.add_sub_cancel_left, List.getElem?_append_left (by rw [List.length_map]; exact hi), List.getElem?_map, hj]
    rfl
  · have hi : i < s.shapes.length := (List.getElem?_eq_some_iff.1 hx).1
    rw [h2, List.append_assoc, List.getElem?_append_right (by omega), e2, Nat.add_sub_cancel_left, List.getElem?_append_left (by rw [List.length_map]; exact hi), List.getElem?_map, hx, e1]
    rfl
theorem join_skips {l : List Scene} (bs : List Vec) : ∀ m, m ≤ l.length → ∀ x, x ∈ (joinTo l bs m).skips ↔ ∃ k s z, k < m ∧ l[k]? = some s ∧ z ∈ s.skips ∧ x = joinSk (cnt l k) z
  | 0, _, x => by
    constructor
    · intro h; cases h
    · rintro ⟨k, s, z, h, _⟩; omega
  | m + 1, h, x => by
    obtain ⟨s, hs⟩ : ∃ s, l[m]? = some s := ⟨_, List.getElem?_eq_getElem (by omega)⟩
    have ih := join_skips (l := l) bs m (by omega) x
    obtain ⟨e1, _⟩ := join_len (l := l) bs m (by omega)
    rw [joinTo_succ bs hs]
    simp only [addScene, List.mem_append, List.mem_map, ih, e1]
    constructor
    · rintro (⟨k, t, z, h1, h2, h3, h4⟩ | ⟨z, h1, h2⟩)
      · exact ⟨k, t, z, by omega, h2, h3, h4⟩
      · exact ⟨m, s, z, by omega, hs, h1, h2.symm⟩
    · rintro ⟨k, t, z, h1, h2, h3, h4⟩
      rcases Nat.lt_or_ge k m with hk | hk
      · exact .inl ⟨k, t, z, hk, h2, h3, h4⟩
      · have : k = m := by omega
        subst this
        rw [hs] at h2; injection h2 with h2; subst h2
        exact .inr ⟨z, h3, h4.symm⟩
theorem raise_inj {p a b : Int} (hp : 0 ≤ p) (ha : -1 ≤ a) (hb : -1 ≤ b) (h : raise p a = raise p b) : a = b := by
  unfold raise at h; split at h <;> split at h <;> omega
theorem car_bd {js : List Joint} (hd : downOk js) : ∀ a : Int, -1 ≤ a → a < js.length → -1 ≤ car js a ∧ car js a ≤ a := by
  refine link_ind hd ?_ ?_
  · rw [car_world]; decide
  · intro k j hj ih
    obtain ⟨d1, d2⟩ := hd k j hj
    rw [car_step hd hj]
    split
    · omega
    · omega
structure Ok (l : List Scene) (bs : List Vec) : Prop where
  each : ∀ s ∈ l, checkScene s = 0
  all : checkScene (joinTo l bs l.length) = 0
theorem join_car {l : List Scene} {bs : List Vec} (ho : Ok l bs) {k : Nat} {s : Scene} (hs : l[k]? = some s) : ∀ a : Int, -1 ≤ a → a < s.robot.joints.length → car (joinTo l bs l.length).robot.joints (raise (cnt l k) a) = raise (cnt l k) (car s.robot.joints a) := by
  have hc := ho.each s (List.mem_of_getElem? hs)
  obtain ⟨_, _, hd⟩ := robot_good (scene_good hc).1
  obtain ⟨_, _, hD⟩ := robot_good (scene_good ho.all).1
  obtain ⟨hat, _⟩ := join_at bs hs
  refine link_ind hd ?_ ?_
  · have e : raise (cnt l k : Int) (-1) = -1 := rfl
    rw [e, car_world, car_world, e]
  · intro i j hj ih
    have hJ := hat i j hj
    have e : raise (cnt l k : Int) (i : Int) = ((cnt l k + i : Nat) : Int) := by rw [raise, if_neg (by omega)]; omega
    rw [e, car_step hD hJ, car_step hd hj]
    have e1 : (joinJ (letter k) (cnt l k) (bs.getD k ⟨0, 0, 0⟩) j).lo = j.lo := rfl
    have e2 : (joinJ (letter k) (cnt l k) (bs.getD k ⟨0, 0, 0⟩) j).hi = j.hi := rfl
    have e3 : (joinJ (letter k) (cnt l k) (bs.getD k ⟨0, 0, 0⟩) j).parent = raise (cnt l k) j.parent := rfl
    rw [e1, e2, e3]
    split
    · exact ih
    · exact e.symm
theorem cnt_mono (l : List Scene) {a b : Nat} (h : a ≤ b) : cnt l a ≤ cnt l b := by
  have := cnt_le l a (b - a); rwa [show a + (b - a) = b by omega] at this
theorem raise_cases {p : Nat} {a : Int} {n : Nat} (h1 : -1 ≤ a) (h2 : a < n) : (a = -1 ∧ raise p a = -1) ∨ ((p : Int) ≤ raise p a ∧ raise p a < p + n ∧ 0 ≤ a) := by
  unfold raise; split <;> omega
theorem isSkip_iff (a b : Int) (k : Skip) : isSkip a b k = true ↔ (k.a = a ∧ k.b = b) ∨ (k.a = b ∧ k.b = a) := by simp [isSkip]
theorem joinSk_a (p : Nat) (z : Skip) : (joinSk p z).a = raise p z.a := rfl
theorem joinSk_b (p : Nat) (z : Skip) : (joinSk p z).b = raise p z.b := rfl
theorem join_skipped {l : List Scene} {bs : List Vec} (ho : Ok l bs) {k : Nat} {s : Scene} (hs : l[k]? = some s) {a b : Int} (a1 : -1 ≤ a) (a2 : a < s.robot.joints.length) (b1 : -1 ≤ b) (b2 : b < s.robot.joints.length) (hne : a ≠ b) :
    skipped (joinTo l bs l.length) (raise (cnt l k) a) (raise (cnt l k) b) = skipped s a b := by
  have hk : k < l.length := (List.getElem?_eq_some_iff.1 hs).1
  have hp : (0 : Int) ≤ cnt l k := by omega
  rw [Bool.eq_iff_iff]
  unfold skipped
  rw [List.any_eq_true, List.any_eq_true]
  have links : ∀ {t : Scene} {i : Nat}, l[i]? = some t → ∀ z ∈ t.skips, (-1 ≤ z.a ∧ z.a < t.robot.joints.length) ∧ (-1 ≤ z.b ∧ z.b < t.robot.joints.length) := fun {t i} ht z hz => by
    obtain ⟨_, _, _, _, g⟩ := scene_facts (ho.each t (List.mem_of_getElem? ht))
    exact ⟨link_bd (g z hz).1, link_bd (g z hz).2⟩
  constructor
  · rintro ⟨x, hx, hi⟩
    obtain ⟨k', t, z, h1, h2, h3, rfl⟩ := (join_skips bs l.length (Nat.le_refl _) x).1 hx
    obtain ⟨⟨za1, za2⟩, ⟨zb1, zb2⟩⟩ := links h2 z h3
    rw [isSkip_iff, joinSk_a, joinSk_b] at hi
    by_cases hkk : k' = k
    · subst hkk
      rw [hs] at h2; injection h2 with h2; subst h2
      refine ⟨z, h3, ?_⟩
      rw [isSkip_iff]
      rcases hi with ⟨i1, i2⟩ | ⟨i1, i2⟩
      · exact .inl ⟨raise_inj hp za1 a1 i1, raise_inj hp zb1 b1 i2⟩
      · exact .inr ⟨raise_inj hp za1 b1 i1, raise_inj hp zb1 a1 i2⟩
    · exfalso
      have c1 := cnt_succ hs
      have c2 := cnt_succ h2
      have apart : cnt l k + s.robot.joints.length ≤ cnt l k' ∨ cnt l k' + t.robot.joints.length ≤ cnt l k := by
        rcases Nat.lt_or_ge k k' with h | h
        · have := cnt_mono l (show k + 1 ≤ k' by omega); omega
        · have := cnt_mono l (show k' + 1 ≤ k by omega); omega
      have ra := raise_cases (p := cnt l k) a1 a2
      have rb := raise_cases (p := cnt l k) b1 b2
      have za := raise_cases (p := cnt l k') za1 za2
      have zb := raise_cases (p := cnt l k') zb1 zb2
      omega
  · rintro ⟨z, hz, hi⟩
    refine ⟨joinSk (cnt l k) z, (join_skips bs l.length (Nat.le_refl _) _).2 ⟨k, s, z, hk, hs, hz, rfl⟩, ?_⟩
    rw [isSkip_iff] at hi
    rw [isSkip_iff, joinSk_a, joinSk_b]
    rcases hi with ⟨i1, i2⟩ | ⟨i1, i2⟩
    · exact .inl ⟨by rw [i1], by rw [i2]⟩
    · exact .inr ⟨by rw [i1], by rw [i2]⟩
theorem join_want {l : List Scene} {bs : List Vec} (ho : Ok l bs) {k : Nat} {s : Scene} (hs : l[k]? = some s) {i j : Nat} (hi : i < s.shapes.length) (hj : j < s.shapes.length) : wantAt (joinTo l bs l.length) (nSh l k + i) (nSh l k + j) = wantAt s i j := by
  have hc := ho.each s (List.mem_of_getElem? hs)
  obtain ⟨g1, _, g3, _⟩ := scene_good hc
  obtain ⟨_, _, hd⟩ := robot_good g1
  obtain ⟨_, hat⟩ := join_at bs hs
  obtain ⟨x, hx⟩ : ∃ x, s.shapes[i]? = some x := ⟨_, List.getElem?_eq_getElem hi⟩
  obtain ⟨y, hy⟩ : ∃ y, s.shapes[j]? = some y := ⟨_, List.getElem?_eq_getElem hj⟩
  obtain ⟨x1, x2⟩ := g3 x (List.mem_of_getElem? hx)
  obtain ⟨y1, y2⟩ := g3 y (List.mem_of_getElem? hy)
  have e : decide (nSh l k + i < nSh l k + j) = decide (i < j) := by rw [decide_eq_decide]; omega
  rw [wantAt, wantAt, hat i x hx, hat j y hy, hx, hy, e]
  simp only
  congr 1
  unfold wanted
  rw [carr_car, carr_car, carr_car, carr_car]
  have ex : (joinSh (cnt l k) (bs.getD k ⟨0, 0, 0⟩) x).link = raise (cnt l k) x.link := rfl
  have ey : (joinSh (cnt l k) (bs.getD k ⟨0, 0, 0⟩) y).link = raise (cnt l k) y.link := rfl
  rw [ex, ey, join_car ho hs _ x1 x2, join_car ho hs _ y1 y2]
  by_cases hcar : car s.robot.joints x.link = car s.robot.joints y.link
  · rw [hcar]; simp
  · have b1 := car_bd hd _ x1 x2
    have b2 := car_bd hd _ y1 y2
    have hne : raise (cnt l k) (car s.robot.joints x.link) ≠ raise (cnt l k) (car s.robot.joints y.link) := fun h => hcar (raise_inj (by omega) b1.1 b2.1 h)
    have hl : x.link ≠ y.link := fun h => hcar (by rw [h])
    rw [join_skipped ho hs x1 x2 y1 y2 hl, decide_eq_false hcar, decide_eq_false hne]
/- pairs -/
theorem mem_row {s : Scene} {i m : Nat} {q : Pair} : q ∈ pairRow s i m ↔ ∃ j, j < m ∧ wantAt s i j = true ∧ q = ⟨i, j⟩ := by
  unfold pairRow
  simp only [List.mem_map, List.mem_filter, List.mem_range]
  constructor
  · rintro ⟨j, ⟨h1, h2⟩, rfl⟩; exact ⟨j, h1, h2, rfl⟩
  · rintro ⟨j, h1, h2, rfl⟩; exact ⟨j, ⟨h1, h2⟩, rfl⟩
theorem mem_to {s : Scene} : ∀ {m : Nat} {q : Pair}, q ∈ pairsTo s m ↔ ∃ i j, i < m ∧ j < s.shapes.length ∧ wantAt s i j = true ∧ q = ⟨i, j⟩ := by
  intro m q
  unfold pairsTo
  simp only [List.mem_flatMap, List.mem_range, mem_row]
  constructor
  · rintro ⟨i, h1, j, h2, h3, h4⟩; exact ⟨i, j, h1, h2, h3, h4⟩
  · rintro ⟨i, j, h1, h2, h3, h4⟩; exact ⟨i, h1, j, h2, h3, h4⟩
theorem row_nodup (s : Scene) (i : Nat) : ∀ m, (pairRow s i m).Nodup
  | 0 => by simp [pairRow]
  | m + 1 => by
    rw [pairRow_succ, List.nodup_append]
    refine ⟨row_nodup s i m, by split <;> simp, fun a ha b hb => ?_⟩
    split at hb
    · simp only [List.mem_singleton] at hb
      subst hb
      obtain ⟨j, h1, _, rfl⟩ := mem_row.1 ha
      intro e; injection e with e1 e2; omega
    · cases hb
theorem to_nodup (s : Scene) : ∀ m, (pairsTo s m).Nodup
  | 0 => by simp [pairsTo]
  | m + 1 => by
    rw [pairsTo_succ, List.nodup_append]
    refine ⟨to_nodup s m, row_nodup s m _, fun a ha b hb => ?_⟩
    obtain ⟨i, j, h1, _, _, rfl⟩ := mem_to.1 ha
    obtain ⟨j', _, _, rfl⟩ := mem_row.1 hb
    intro e; injection e with e1 e2; omega
theorem pairs_nodup (s : Scene) : (pairs s).Nodup := by
  unfold pairs; split
  · exact to_nodup s _
  · simp
theorem pairs_mem {s : Scene} {q : Pair} (h : q ∈ pairs s) : ∃ i j : Nat, i < s.shapes.length ∧ j < s.shapes.length ∧ wantAt s i j = true ∧ q = ⟨i, j⟩ := by
  unfold pairs at h; split at h
  · exact mem_to.1 h
  · cases h
theorem pairs_few (s : Scene) : (pairs s).length ≤ 1000 := by
  unfold pairs; split
  · rename_i h
    obtain ⟨_, g2, _⟩ := scene_good h
    have h1 := pairsTo_len s s.shapes.length
    have := Nat.mul_le_mul g2 g2
    omega
  · simp
def up (n : Nat) (q : Pair) : Pair := ⟨q.a + n, q.b + n⟩
theorem join_pairs {l : List Scene} {bs : List Vec} (ho : Ok l bs) {k : Nat} {s : Scene} (hs : l[k]? = some s) {q : Pair} (hq : q ∈ pairs s) : up (nSh l k) q ∈ pairs (joinTo l bs l.length) := by
  obtain ⟨i, j, h1, h2, h3, rfl⟩ := pairs_mem hq
  rw [pairs, if_pos ho.all]
  obtain ⟨_, hat⟩ := join_at bs hs
  have b1 := (List.getElem?_eq_some_iff.1 (hat i _ (List.getElem?_eq_getElem h1))).1
  have b2 := (List.getElem?_eq_some_iff.1 (hat j _ (List.getElem?_eq_getElem h2))).1
  refine mem_to.2 ⟨nSh l k + i, nSh l k + j, b1, b2, by rw [join_want ho hs h1 h2]; exact h3, ?_⟩
  simp only [up, Pair.mk.injEq]; omega
/- the place of a pair -/
def idxP (q : Pair) : List Pair → Nat → Int
  | [], _ => -1
  | x :: l, i => if x = q then i else idxP q l (i + 1)
theorem idxP_mem {q : Pair} : ∀ {l : List Pair} {i : Nat}, q ∈ l → ∃ j : Nat, l[j]? = some q ∧ idxP q l i = ((i + j : Nat) : Int)
  | x :: l, i, h => by
    rw [idxP]
    by_cases e : x = q
    · exact ⟨0, by simp [e], by rw [if_pos e]; simp⟩
    · rcases List.mem_cons.1 h with h | h
      · exact absurd h.symm e
      · obtain ⟨j, h1, h2⟩ := idxP_mem (i := i + 1) h
        exact ⟨j + 1, by simpa using h1, by rw [if_neg e, h2]; omega⟩
def matchTo (q : Pair) (l : List Pair) : Nat → List Int
  | 0 => []
  | k + 1 => match l[k]? with
    | some x => if x = q then matchTo q l k ++ [(k : Int)] else matchTo q l k
    | none => matchTo q l k
theorem matchTo_len (q : Pair) (l : List Pair) : ∀ k, (matchTo q l k).length ≤ k
  | 0 => Nat.le_refl _
  | k + 1 => by
    have := matchTo_len q l k
    rw [matchTo]
    split
    · split
      · rw [List.length_append, List.length_singleton]; omega
      · omega
    · omega
theorem matchTo_yes {q : Pair} {l : List Pair} {k : Nat} (h : l[k]? = some q) : matchTo q l (k + 1) = matchTo q l k ++ [(k : Int)] := by
  rw [matchTo, h]; simp
theorem matchTo_no {q x : Pair} {l : List Pair} {k : Nat} (h : l[k]? = some x) (e : ¬ x = q) : matchTo q l (k + 1) = matchTo q l k := by
  rw [matchTo, h]; simp [e]
theorem match_once {q : Pair} {l : List Pair} (hn : l.Nodup) {j : Nat} (hj : l[j]? = some q) : ∀ k, k ≤ l.length → matchTo q l k = if j < k then [(j : Int)] else []
  | 0, _ => rfl
  | k + 1, h => by
    obtain ⟨x, hx⟩ : ∃ x, l[k]? = some x := ⟨_, List.getElem?_eq_getElem (by omega)⟩
    have ih := match_once hn hj k (by omega)
    by_cases e : x = q
    · subst e
      have hjk : j = k := by
        have hjl := (List.getElem?_eq_some_iff.1 hj)
        have hkl := (List.getElem?_eq_some_iff.1 hx)
        exact (List.getElem_inj hn).1 (hjl.2.trans hkl.2.symm)
      subst hjk
      rw [matchTo_yes hx, ih, if_neg (by omega), if_pos (by omega)]; rfl
    · rw [matchTo_no hx e, ih]
      have hjk : j ≠ k := by rintro rfl; rw [hj] at hx; injection hx with hx; exact e hx.symm
      by_cases hlt : j < k
      · rw [if_pos hlt, if_pos (by omega)]
      · rw [if_neg hlt, if_neg (by omega)]
theorem match_all {q : Pair} {l : List Pair} (hn : l.Nodup) (hq : q ∈ l) : matchTo q l l.length = [idxP q l 0] := by
  obtain ⟨j, h1, h2⟩ := idxP_mem (i := 0) hq
  rw [match_once hn h1 l.length (Nat.le_refl _), if_pos (List.getElem?_eq_some_iff.1 h1).1, h2, Nat.zero_add]
/-- the numbers in the joined scene of the pairs of scene k -/
def innerN (l : List Scene) (bs : List Vec) (k : Nat) : List Int := (pairs (l.getD k emptyS)).map fun q => idxP (up (nSh l k) q) (pairs (joinTo l bs l.length)) 0
def innerOf (l : List Scene) (bs : List Vec) (k : Int) : List Int × Bool :=
  if (joinOf l bs).2 ≠ 0 ∨ k < 0 ∨ (l.length : Int) ≤ k then ([], false) else (innerN l bs k.toNat, true)
theorem joinOf_ok {l : List Scene} {bs : List Vec} (h : (joinOf l bs).2 = 0) : Ok l bs ∧ (joinOf l bs).1 = joinTo l bs l.length ∧ 1 ≤ l.length ∧ l.length ≤ 4 ∧ bs.length = l.length := by
  unfold joinOf at h ⊢
  split at h
  · exact absurd h (by show ¬ (3501 : Int) = 0; decide)
  rename_i c1; rw [if_neg c1]
  split at h
  · rename_i c2; exact absurd h c2
  rename_i c2; rw [if_neg c2]
  split at h
  · exact absurd h (by show ¬ (3502 : Int) = 0; decide)
  rename_i c3; rw [if_neg c3]
  exact ⟨⟨firstBad_all (by simpa using c2), by simpa using c3⟩, rfl, by omega, by omega, by omega⟩
theorem inner_at {l : List Scene} {bs : List Vec} (ho : Ok l bs) {k : Nat} {s : Scene} (hs : l[k]? = some s) {i : Nat} {q : Pair} (hq : (pairs s)[i]? = some q) : ∃ j : Nat, (innerN l bs k)[i]? = some (j : Int) ∧ (pairs (joinTo l bs l.length))[j]? = some (up (nSh l k) q) := by
  obtain ⟨j, h1, h2⟩ := idxP_mem (i := 0) (join_pairs ho hs (List.mem_of_getElem? hq))
  refine ⟨j, ?_, h1⟩
  rw [innerN, getD_at hs, List.getElem?_map, hq]
  simp only [Option.map_some]
  rw [h2, Nat.zero_add]
theorem nSh_bd {l : List Scene} (h : ∀ s ∈ l, checkScene s = 0) : ∀ k, k ≤ l.length → nSh l k ≤ 24 * k
  | 0, _ => Nat.le_refl _
  | k + 1, hk => by
    obtain ⟨s, hs⟩ : ∃ s, l[k]? = some s := ⟨_, List.getElem?_eq_getElem (by omega)⟩
    have := nSh_bd h k (by omega)
    obtain ⟨_, g2, _⟩ := scene_good (h s (List.mem_of_getElem? hs))
    rw [nSh_succ hs]; omega
theorem up_bd {s : Scene} (h : checkScene s = 0) {q : Pair} (hq : q ∈ pairs s) : 0 ≤ q.a ∧ q.a < 24 ∧ 0 ≤ q.b ∧ q.b < 24 := by
  obtain ⟨i, j, h1, h2, _, rfl⟩ := pairs_mem hq
  obtain ⟨_, g2, _⟩ := scene_good h
  simp only; omega
end Go.Proofs.Ythdbdokhncaijaa

/- Interval kinematics of the reference, in plain Lean: numbers, intervals, vectors and matrices of intervals, poses. -/
namespace Go.Proofs.Ythdbdokhncaijaa
open Eng
set_option maxRecDepth 10000

def clampM (a : Int) : Int := max (-2147483648) (min a 2147483648)
def flr (a b : Int) : Int := a / b
def cel (a b : Int) : Int := -(-a / b)
def i0 : Ival := ⟨0, 0⟩
def okI (v : Ival) : Bool := decide (-2147483648 ≤ v.lo) && decide (v.lo ≤ v.hi) && decide (v.hi ≤ 2147483648)
def limI (lo hi : Int) : Ival := ⟨clampM lo, clampM hi⟩
def ofI (x : Int) : Ival := limI x x
def addI (a b : Ival) : Ival := if okI a = true ∧ okI b = true then limI (a.lo + b.lo) (a.hi + b.hi) else i0
def mulI (a b : Ival) : Ival := if okI a = true ∧ okI b = true then
    limI (flr (min (min (min (a.lo * b.lo) (a.lo * b.hi)) (a.hi * b.lo)) (a.hi * b.hi)) 65536) (cel (max (max (max (a.lo * b.lo) (a.lo * b.hi)) (a.hi * b.lo)) (a.hi * b.hi)) 65536)
  else i0
def negI (a : Ival) : Ival := if okI a = true then ⟨-a.hi, -a.lo⟩ else i0
def hullI (a b : Ival) : Ival := if okI a = true ∧ okI b = true then ⟨min a.lo b.lo, max a.hi b.hi⟩ else i0
structure IV where
  x : Ival
  y : Ival
  z : Ival
deriving DecidableEq
structure IM where
  a : IV
  b : IV
  c : IV
structure Ps where
  r : IM
  t : IV
def v0 : IV := ⟨i0, i0, i0⟩
def one1 : Ival := ⟨65536, 65536⟩
def unitM : IM := ⟨⟨one1, i0, i0⟩, ⟨i0, one1, i0⟩, ⟨i0, i0, one1⟩⟩
def ptV (v : Vec) : IV := ⟨ofI v.x, ofI v.y, ofI v.z⟩
def sumV (a b : IV) : IV := ⟨addI a.x b.x, addI a.y b.y, addI a.z b.z⟩
def dotR (r v : IV) : Ival := addI (addI (mulI r.x v.x) (mulI r.y v.y)) (mulI r.z v.z)
def appM (m : IM) (v : IV) : IV := ⟨dotR m.a v, dotR m.b v, dotR m.c v⟩
def clO (v : Ival) : Ival := ⟨max (-65536) (min v.lo 65536), max (-65536) (min v.hi 65536)⟩
def rowM (r : IV) (m : IM) : IV := ⟨clO (dotR r ⟨m.a.x, m.b.x, m.c.x⟩), clO (dotR r ⟨m.a.y, m.b.y, m.c.y⟩), clO (dotR r ⟨m.a.z, m.b.z, m.c.z⟩)⟩
def comM (a b : IM) : IM := ⟨rowM a.a b, rowM a.b b, rowM a.c b⟩
def comP (a b : Ps) : Ps := ⟨comM a.r b.r, sumV a.t (appM a.r b.t)⟩
def appP (p : Ps) (v : IV) : IV := sumV p.t (appM p.r v)
def restP : Ps := ⟨unitM, v0⟩
def shiftP (v : IV) : Ps := ⟨unitM, v⟩

/- sine and cosine -/
def pwA (x : Int) : Nat → Int
  | 0 => 0
  | 1 => flr (ww (x * 6746518852)) 65536
  | k + 1 => flr (ww (pwA x k * flr (ww (x * 6746518852)) 65536)) 1073741824
def pwB (x : Int) : Nat → Int
  | 0 => 0
  | 1 => cel (ww (x * 6746518853)) 65536
  | k + 1 => cel (ww (pwB x k * cel (ww (x * 6746518853)) 65536)) 1073741824
def encl (lo hi : Int) : Ival := ⟨max 0 (flr lo 16384), min 65536 (cel hi 16384)⟩
def sineM (x : Int) : Ival := encl (ww (ww (ww (pwA x 1 - cel (pwB x 3) 6) + flr (pwA x 5) 120) - cel (pwB x 7) 5040)) (ww (ww (ww (ww (pwB x 1 - flr (pwA x 3) 6) + cel (pwB x 5) 120) - flr (pwA x 7) 5040) + cel (pwB x 9) 362880))
def cosineM (x : Int) : Ival := encl (ww (ww (ww (ww (ww (1073741824 - cel (pwB x 2) 2) + flr (pwA x 4) 24) - cel (pwB x 6) 720) + flr (pwA x 8) 40320) - cel (pwB x 10) 3628800)) (ww (ww (ww (ww (1073741824 - flr (pwA x 2) 2) + cel (pwB x 4) 24) - flr (pwA x 6) 720) + cel (pwB x 8) 40320))
def quarterM (r : Int) : Ival := if r ≤ 8192 then sineM r else cosineM (16384 - r)
def sinM (a : Int) : Ival :=
  if a % 65536 / 16384 = 0 then quarterM (a % 65536 % 16384)
  else if a % 65536 / 16384 = 1 then quarterM (16384 - a % 65536 % 16384)
  else if a % 65536 / 16384 = 2 then negI (quarterM (a % 65536 % 16384))
  else negI (quarterM (16384 - a % 65536 % 16384))
def cosM (a : Int) : Ival := sinM (a % 65536 + 16384)
def meetsB (a : Ival) (c : Int) : Bool := decide (a.lo + (c - a.lo) % 65536 ≤ a.hi)
def overM (a low high : Ival) (top bottom : Int) : Ival :=
  if okI a = false then i0
  else if 65536 ≤ a.hi - a.lo then ⟨-65536, 65536⟩
  else if meetsB a bottom = true then hullI (if meetsB a top = true then hullI (hullI low high) (ofI 65536) else hullI low high) (ofI (-65536))
  else if meetsB a top = true then hullI (hullI low high) (ofI 65536) else hullI low high
def sinO (a : Ival) : Ival := overM a (sinM a.lo) (sinM a.hi) 16384 49152
def cosO (a : Ival) : Ival := overM a (cosM a.lo) (cosM a.hi) 0 32768
def zeroM : IM := ⟨v0, v0, v0⟩
def turnM (axis : Int) (a : Ival) : IM :=
  if okI a = false then zeroM
  else if axis = 0 then ⟨⟨one1, i0, i0⟩, ⟨i0, cosO a, negI (sinO a)⟩, ⟨i0, sinO a, cosO a⟩⟩
  else if axis = 1 then ⟨⟨cosO a, i0, sinO a⟩, ⟨i0, one1, i0⟩, ⟨negI (sinO a), i0, cosO a⟩⟩
  else if axis = 2 then ⟨⟨cosO a, negI (sinO a), i0⟩, ⟨sinO a, cosO a, i0⟩, ⟨i0, i0, one1⟩⟩
  else zeroM
/- links and points -/
def slideV (k : Int) (v : Ival) : IV := ⟨if k = 4 then v else i0, if k = 5 then v else i0, if k = 6 then v else i0⟩
def moveP (k : Int) (v : Ival) : Ps :=
  if k = 1 ∨ k = 2 ∨ k = 3 then ⟨turnM (k - 1) v, v0⟩ else if k = 4 ∨ k = 5 ∨ k = 6 then shiftP (slideV k v) else restP
def jointP (j : Joint) (v : Ival) : Ps := comP (shiftP (ptV j.off)) (moveP j.kind v)
def linkP (l : List Ps) (j : Joint) (v : Ival) : Ps := if j.parent = -1 then jointP j v else comP (l.getD j.parent.toNat restP) (jointP j v)
def linksTo (js : List Joint) (box : List Ival) : Nat → List Ps
  | 0 => []
  | k + 1 => linksTo js box k ++ [linkP (linksTo js box k) (js.getD k ⟨⟨#[]⟩, 0, 0, ⟨0, 0, 0⟩, 0, 0, 0, 0, 0, 0⟩) (box.getD k i0)]
def isBox (r : Robot) (box : List Ival) : Bool := decide (box.length = r.joints.length) && box.all okI
def placeOf (p : Ps) (x : Shape) : List IV := x.points.map fun v => appP p (ptV v)
def shapeP (l : List Ps) (x : Shape) : Ps := if x.link = -1 then restP else l.getD x.link.toNat restP
def pointsOf (s : Scene) (box : List Ival) : List (List IV) :=
  if checkScene s = 0 ∧ isBox s.robot box = true then s.shapes.map fun x => placeOf (shapeP (linksTo s.robot.joints box box.length) x) x else []

/- bounds -/
def inI (v : Ival) (M : Int) : Prop := -M ≤ v.lo ∧ v.lo ≤ v.hi ∧ v.hi ≤ M
def mvI (v : Ival) (d : Int) : Ival := ⟨v.lo + d, v.hi + d⟩
def inV3 (v : IV) (M : Int) : Prop := inI v.x M ∧ inI v.y M ∧ inI v.z M
def mvV (v : IV) (d : Vec) : IV := ⟨mvI v.x d.x, mvI v.y d.y, mvI v.z d.z⟩
def tiI (v : Ival) : Prop := -65536 ≤ v.lo ∧ v.hi ≤ 65536
def tiV (v : IV) : Prop := tiI v.x ∧ tiI v.y ∧ tiI v.z
def tiM (m : IM) : Prop := tiV m.a ∧ tiV m.b ∧ tiV m.c
theorem clampM_id {a : Int} (h1 : -2147483648 ≤ a) (h2 : a ≤ 2147483648) : clampM a = a := by unfold clampM; omega
theorem okI_iff {v : Ival} : okI v = true ↔ inI v 2147483648 := by
  unfold okI inI; simp only [Bool.and_eq_true, decide_eq_true_eq, and_assoc]
theorem inI_pos {v : Ival} {M : Int} (h : inI v M) : 0 ≤ M := by unfold inI at h; omega
theorem inI_mono {v : Ival} {M N : Int} (h : inI v M) (hl : M ≤ N) : inI v N := by unfold inI at *; omega
theorem addI_eq {a b : Ival} {M N : Int} (ha : inI a M) (hb : inI b N) (h : M + N ≤ 2147483648) : addI a b = ⟨a.lo + b.lo, a.hi + b.hi⟩ := by
  have h1 := inI_pos ha; have h2 := inI_pos hb
  rw [addI, if_pos ⟨okI_iff.2 (inI_mono ha (by omega)), okI_iff.2 (inI_mono hb (by omega))⟩, limI]
  unfold inI at ha hb
  rw [clampM_id (by omega) (by omega), clampM_id (by omega) (by omega)]
theorem addI_in {a b : Ival} {M N : Int} (ha : inI a M) (hb : inI b N) (h : M + N ≤ 2147483648) : inI (addI a b) (M + N) := by
  rw [addI_eq ha hb h]; unfold inI at *; simp only; omega
theorem addI_mv {a b : Ival} {M M' N : Int} {d : Int} (ha : inI a M) (ha' : inI (mvI a d) M') (hb : inI b N) (h : M + N ≤ 2147483648) (h' : M' + N ≤ 2147483648) : addI (mvI a d) b = mvI (addI a b) d := by
  rw [addI_eq ha hb h, addI_eq ha' hb h']; simp only [mvI, Ival.mk.injEq]; omega
theorem mul_abs {x y A B : Int} (hx : -A ≤ x ∧ x ≤ A) (hy : -B ≤ y ∧ y ≤ B) : -(A * B) ≤ x * y ∧ x * y ≤ A * B := by
  have h1 : (x * y).natAbs ≤ A.natAbs * B.natAbs := by
    rw [Int.natAbs_mul]; exact Nat.mul_le_mul (by omega) (by omega)
  have h2 : ((A.natAbs * B.natAbs : Nat) : Int) = A * B := by
    rw [Int.natCast_mul, Int.natAbs_of_nonneg (by omega), Int.natAbs_of_nonneg (by omega)]
  omega
theorem mulI_in {a b : Ival} {M : Int} (ha : tiI a) (hb : inI b M) (h : M ≤ 2147483648) : inI (mulI a b) M := by
  unfold mulI
  split
  · rename_i c
    have c1 := okI_iff.1 c.1
    unfold tiI at ha; unfold inI at c1 hb
    have e1 := mul_abs (x := a.lo) (y := b.lo) (A := 65536) (B := M) (by omega) (by omega)
    have e2 := mul_abs (x := a.lo) (y := b.hi) (A := 65536) (B := M) (by omega) (by omega)
    have e3 := mul_abs (x := a.hi) (y := b.lo) (A := 65536) (B := M) (by omega) (by omega)
    have e4 := mul_abs (x := a.hi) (y := b.hi) (A := 65536) (B := M) (by omega) (by omega)
    generalize a.lo * b.lo = p at *
    generalize a.lo * b.hi = q at *
    generalize a.hi * b.lo = r at *
    generalize a.hi * b.hi = s at *
    unfold inI limI flr cel
    simp only
    have g1 : -M ≤ min (min (min p q) r) s / 65536 := by omega
    have g2 : -(-max (max (max p q) r) s / 65536) ≤ M := by omega
    have g3 : min (min (min p q) r) s / 65536 ≤ -(-max (max (max p q) r) s / 65536) := by omega
    rw [clampM_id (by omega) (by omega), clampM_id (by omega) (by omega)]
    exact ⟨g1, g3, g2⟩
  · unfold inI at hb ⊢; simp only [i0]; omega
theorem mulI_one {b : Ival} (hb : inI b 2147483648) : mulI one1 b = b := by
  rw [mulI, if_pos ⟨by decide, okI_iff.2 hb⟩]
  unfold inI at hb
  simp only [one1, flr, cel, limI]
  rw [clampM_id (by omega) (by omega), clampM_id (by omega) (by omega)]
  cases b; simp only [Ival.mk.injEq] at *; omega
theorem mulI_zero (b : Ival) : mulI i0 b = i0 := by
  unfold mulI
  split
  · simp [i0, flr, cel, limI, clampM]; decide
  · rfl
theorem addI_zero {a : Ival} (h : inI a 2147483648) : addI a i0 = a ∧ addI i0 a = a := by
  have z : inI i0 0 := by simp [inI, i0]
  rw [addI_eq h z (by omega), addI_eq z h (by omega)]
  simp [i0]
theorem i0_in : inI i0 2147483648 := by simp [inI, i0]
theorem dotR_in {r v : IV} {M : Int} (hr : tiV r) (hv : inV3 v M) (h : 3 * M ≤ 2147483648) : inI (dotR r v) (3 * M) := by
  have h0 := inI_pos hv.1
  have e1 := mulI_in hr.1 hv.1 (by omega)
  have e2 := mulI_in hr.2.1 hv.2.1 (by omega)
  have e3 := mulI_in hr.2.2 hv.2.2 (by omega)
  have e4 := addI_in e1 e2 (by omega)
  exact inI_mono (addI_in e4 e3 (by omega)) (by omega)
theorem appM_in {m : IM} {v : IV} {M : Int} (hm : tiM m) (hv : inV3 v M) (h : 3 * M ≤ 2147483648) : inV3 (appM m v) (3 * M) := ⟨dotR_in hm.1 hv h, dotR_in hm.2.1 hv h, dotR_in hm.2.2 hv h⟩
theorem inV3_mono {v : IV} {M N : Int} (h : inV3 v M) (hl : M ≤ N) : inV3 v N := ⟨inI_mono h.1 hl, inI_mono h.2.1 hl, inI_mono h.2.2 hl⟩
theorem appM_unit {v : IV} (hv : inV3 v 2147483648) : appM unitM v = v := by
  obtain ⟨h1, h2, h3⟩ := hv
  cases v
  simp only [appM, unitM, dotR, mulI_one, mulI_zero, h1, h2, h3, addI_zero, i0_in]
theorem clO_ti (v : Ival) : tiI (clO v) := by unfold tiI clO; simp only; omega
theorem comM_ti (a b : IM) : tiM (comM a b) := ⟨⟨clO_ti _, clO_ti _, clO_ti _⟩, ⟨clO_ti _, clO_ti _, clO_ti _⟩, ⟨clO_ti _, clO_ti _, clO_ti _⟩⟩
theorem comP_ti (a b : Ps) : tiM (comP a b).r := comM_ti _ _
theorem sumV_in {a b : IV} {M N : Int} (ha : inV3 a M) (hb : inV3 b N) (h : M + N ≤ 2147483648) : inV3 (sumV a b) (M + N) := ⟨addI_in ha.1 hb.1 h, addI_in ha.2.1 hb.2.1 h, addI_in ha.2.2 hb.2.2 h⟩
theorem sumV_mv {a b : IV} {M M' N : Int} {d : Vec} (ha : inV3 a M) (ha' : inV3 (mvV a d) M') (hb : inV3 b N) (h : M + N ≤ 2147483648) (h' : M' + N ≤ 2147483648) : sumV (mvV a d) b = mvV (sumV a b) d := by
  simp only [sumV, mvV, IV.mk.injEq]
  exact ⟨addI_mv ha.1 ha'.1 hb.1 h h', addI_mv ha.2.1 ha'.2.1 hb.2.1 h h', addI_mv ha.2.2 ha'.2.2 hb.2.2 h h'⟩
/-- coordinates of a vector are within a bound -/
def nrV (v : Vec) (M : Int) : Prop := (-M ≤ v.x ∧ v.x ≤ M) ∧ (-M ≤ v.y ∧ v.y ≤ M) ∧ (-M ≤ v.z ∧ v.z ≤ M)
def adV (a b : Vec) : Vec := ⟨a.x + b.x, a.y + b.y, a.z + b.z⟩
theorem inV_iff {v : Vec} {M : Int} : inV v M = true ↔ nrV v M := by
  unfold inV nrV; simp only [Bool.and_eq_true, decide_eq_true_eq, and_assoc]
theorem ofI_id {x : Int} (h1 : -2147483648 ≤ x) (h2 : x ≤ 2147483648) : ofI x = ⟨x, x⟩ := by rw [ofI, limI, clampM_id h1 h2]
theorem ptV_eq {v : Vec} {M : Int} (h : nrV v M) (hM : M ≤ 2147483648) : ptV v = ⟨⟨v.x, v.x⟩, ⟨v.y, v.y⟩, ⟨v.z, v.z⟩⟩ := by
  unfold nrV at h
  rw [ptV, ofI_id (by omega) (by omega), ofI_id (by omega) (by omega), ofI_id (by omega) (by omega)]
theorem ptV_in {v : Vec} {M : Int} (h : nrV v M) (hM : M ≤ 2147483648) : inV3 (ptV v) M := by
  rw [ptV_eq h hM]; unfold nrV at h; unfold inV3 inI; simp only; omega
theorem ptV_mv {v d : Vec} {M N : Int} (h : nrV v M) (hM : M ≤ 2147483648) (h' : nrV (adV v d) N) (hN : N ≤ 2147483648) : ptV (adV v d) = mvV (ptV v) d := by
  rw [ptV_eq h hM, ptV_eq h' hN]; rfl
end Go.Proofs.Ythdbdokhncaijaa

/- Interval kinematics: the walks of the reference's numbers and intervals. -/
namespace Go.Proofs.Ythdbdokhncaijaa
open Eng
set_option maxRecDepth 10000
attribute [local irreducible] FnOk loopW idxF retX arrF

abbrev Iv (v : Ival) : SV := .agg [.dv (.int .i64 v.lo), .dv (.int .i64 v.hi)]
def rg (x : Int) : Prop := -9223372036854775808 ≤ x ∧ x ≤ 9223372036854775807
theorem ww_rg (x : Int) : rg (ww x) := by
  unfold rg ww; rw [IntKind.wrap_i64]; omega
theorem tdiv_rg {a b : Int} (h : rg a) (hb : 1 < b) : rg (a.tdiv b) := by
  have h1 : (a.tdiv b).natAbs = a.natAbs / b.natAbs := Int.natAbs_tdiv a b
  have h2 : a.natAbs / b.natAbs ≤ a.natAbs / 2 := Nat.div_le_div_left (by omega) (by omega)
  unfold rg at *; omega
theorem flr_of {a b : Int} (hb : 1 < b) : flr a b = if a.tmod b < 0 then a.tdiv b - 1 else a.tdiv b := by
  obtain ⟨h1, h2, h3, h4⟩ := tmod_pos (x := a) (m := b) (by omega)
  have h5 := Int.mul_tdiv_add_tmod a b
  unfold flr
  split
  · rename_i c
    refine ((Int.ediv_emod_unique (a := a) (b := b) (r := a.tmod b + b) (q := a.tdiv b - 1) (by omega)).2 ⟨?_, by omega, by omega⟩).1
    rw [Int.mul_sub]; omega
  · rename_i c
    exact ((Int.ediv_emod_unique (a := a) (b := b) (r := a.tmod b) (q := a.tdiv b) (by omega)).2 ⟨by omega, by omega, by omega⟩).1
theorem cel_of {a b : Int} (hb : 1 < b) : cel a b = if 0 < a.tmod b then a.tdiv b + 1 else a.tdiv b := by
  obtain ⟨h1, h2, h3, h4⟩ := tmod_pos (x := a) (m := b) (by omega)
  have h5 := Int.mul_tdiv_add_tmod a b
  unfold cel
  split
  · rename_i c
    have := ((Int.ediv_emod_unique (a := -a) (b := b) (r := b - a.tmod b) (q := -a.tdiv b - 1) (by omega)).2 ⟨by rw [Int.mul_sub, Int.mul_neg]; omega, by omega, by omega⟩).1
    omega
  · rename_i c
    have := ((Int.ediv_emod_unique (a := -a) (b := b) (r := -a.tmod b) (q := -a.tdiv b) (by omega)).2 ⟨by rw [Int.mul_neg]; omega, by omega, by omega⟩).1
    omega
theorem flr_rg {a b : Int} (h : rg a) (hb : 1 < b) : rg (flr a b) := by
  have h1 : (a.tdiv b).natAbs = a.natAbs / b.natAbs := Int.natAbs_tdiv a b
  have h2 : a.natAbs / b.natAbs ≤ a.natAbs / 2 := Nat.div_le_div_left (by omega) (by omega)
  rw [flr_of hb]; unfold rg at *; split <;> omega
theorem cel_rg {a b : Int} (h : rg a) (hb : 1 < b) : rg (cel a b) := by
  have h1 : (a.tdiv b).natAbs = a.natAbs / b.natAbs := Int.natAbs_tdiv a b
  have h2 : a.natAbs / b.natAbs ≤ a.natAbs / 2 := Nat.div_le_div_left (by omega) (by omega)
  rw [cel_of hb]; unfold rg at *; split <;> omega
theorem ww_id {x : Int} (h : rg x) : ww x = x := w64 h.1 h.2
theorem ref1_Clamp (a : Int) : FnOk Try.prog F.ref1_Clamp [I a] [] 0 (I (clampM a)) [] 0 := by
  refine fnOk tab mix G.ref1_Clamp rfl rfl (by kernel_rfl) rfl rfl ?_
  (conv => whnf)
  (conv => whnf)
  refine ret0 ?_
  exact ret_i rfl rfl
theorem ref1_limited (a b : Int) : FnOk Try.prog F.ref1_limited [I a, I b] [] 0 (Iv (limI a b)) [] 0 := by
  refine fnOk tab mix G.ref1_limited rfl rfl (by kernel_rfl) rfl rfl ?_
  (conv => whnf)
  refine call_i (ref1_Clamp a) ?_
  (conv => whnf)
  refine call_i (ref1_Clamp b) ?_
  (conv => whnf)
  (conv => whnf)
  refine ret0 ?_
  exact ⟨[], ⟨rfl, trivial⟩, trivial⟩
theorem ref1_Of (a : Int) : FnOk Try.prog F.ref1_Of [I a] [] 0 (Iv (ofI a)) [] 0 := by
  refine fnOk tab mix G.ref1_Of rfl rfl (by kernel_rfl) rfl rfl ?_
  (conv => whnf)
  refine call_i (ref1_Clamp a) ?_
  (conv => whnf)
  refine call_i (ref1_Clamp a) ?_
  (conv => whnf)
  (conv => whnf)
  refine ret0 ?_
  exact ⟨[], ⟨rfl, trivial⟩, trivial⟩
theorem ref1_Valid (v : Ival) : FnOk Try.prog F.ref1_Valid [Iv v] [] 0 (Bo (okI v)) [] 0 := by
  refine fnOk tab mix G.ref1_Valid rfl rfl (by kernel_rfl) rfl rfl ?_
  (conv => whnf)
  cases h1 : decide (-2147483648 ≤ v.lo) with
  | false =>
    (conv => whnf)
    (conv => whnf)
    refine ret0 ?_
    exact ret_b (by simp [okI, h1]) rfl
  | true =>
  (conv => whnf)
  cases h2 : decide (v.lo ≤ v.hi) with
  | false =>
    (conv => whnf)
    (conv => whnf)
    refine ret0 ?_
    exact ret_b (by simp [okI, h2]) rfl
  | true =>
  (conv => whnf)
  (conv => whnf)
  refine ret0 ?_
  exact ret_b (by simp [okI, h1, h2]) rfl
theorem ref1_Floor (a b : Int) (ha : rg a) (hb : 1 < b) : FnOk Try.prog F.ref1_Floor [I a, I b] [] 0 (I (flr a b)) [] 0 := by
  have e1 := ww_id (tdiv_rg ha hb)
  have e2 := flr_rg ha hb
  rw [flr_of hb] at e2 ⊢
  refine fnOk tab mix G.ref1_Floor rfl rfl (by kernel_rfl) rfl rfl ?_
  (conv => whnf)
  refine ⟨by omega, ?_⟩
  (conv => whnf)
  refine ⟨by omega, ?_⟩
  (conv => whnf)
  refine ask_m (fun h => ?_) (fun h => ?_)
  · have h : a.tmod b < 0 := by simpa using h
    rw [if_pos h] at e2 ⊢
    (conv => whnf)
    refine ret0 ?_
    exact ret_i (by rw [show IntKind.i64.wrap (a.tdiv b) = a.tdiv b from e1]; exact ww_id e2) rfl
  · have h : ¬ a.tmod b < 0 := by simpa using h
    rw [if_neg h]
    (conv => whnf)
    refine ret0 ?_
    exact ret_i e1 rfl
theorem ref1_Ceil (a b : Int) (ha : rg a) (hb : 1 < b) : FnOk Try.prog F.ref1_Ceil [I a, I b] [] 0 (I (cel a b)) [] 0 := by
  have e1 := ww_id (tdiv_rg ha hb)
  have e2 := cel_rg ha hb
  rw [cel_of hb] at e2 ⊢
  refine fnOk tab mix G.ref1_Ceil rfl rfl (by kernel_rfl) rfl rfl ?_
  (conv => whnf)
  refine ⟨by omega, ?_⟩
  (conv => whnf)
  refine ⟨by omega, ?_⟩
  (conv => whnf)
  refine ask_m (fun h => ?_) (fun h => ?_)
  · have h : 0 < a.tmod b := by simpa using h
    rw [if_pos h] at e2 ⊢
    (conv => whnf)
    refine ret0 ?_
    exact ret_i (by rw [show IntKind.i64.wrap (a.tdiv b) = a.tdiv b from e1]; exact ww_id e2) rfl
  · have h : ¬ 0 < a.tmod b := by simpa using h
    rw [if_neg h]
    (conv => whnf)
    refine ret0 ?_
    exact ret_i e1 rfl
theorem ref1_Add (a b : Ival) : FnOk Try.prog F.ref1_Add [Iv a, Iv b] [] 0 (Iv (addI a b)) [] 0 := by
  cases ha : okI a with
  | false =>
    rw [show addI a b = i0 by simp [addI, ha]]
    refine fnOk tab mix G.ref1_Add rfl rfl (by kernel_rfl) rfl rfl ?_
    (conv => whnf)
    refine call_i (ref1_Valid a) ?_
    (conv => whnf)
    rw [ha]
    (conv => whnf)
    (conv => whnf)
    refine ret0 ?_
    exact ⟨[], ⟨rfl, trivial⟩, trivial⟩
  | true =>
  cases hb : okI b with
  | false =>
    rw [show addI a b = i0 by simp [addI, hb]]
    refine fnOk tab mix G.ref1_Add rfl rfl (by kernel_rfl) rfl rfl ?_
    (conv => whnf)
    refine call_i (ref1_Valid a) ?_
    (conv => whnf)
    rw [ha]
    (conv => whnf)
    refine call_i (ref1_Valid b) ?_
    (conv => whnf)
    rw [hb]
    (conv => whnf)
    (conv => whnf)
    refine ret0 ?_
    exact ⟨[], ⟨rfl, trivial⟩, trivial⟩
  | true =>
  have h1 := okI_iff.1 ha
  have h2 := okI_iff.1 hb
  unfold inI at h1 h2
  rw [show addI a b = limI (ww (a.lo + b.lo)) (ww (a.hi + b.hi)) by rw [addI, if_pos ⟨ha, hb⟩, ww_id (by unfold rg; omega), ww_id (by unfold rg; omega)]]
  refine fnOk tab mix G.ref1_Add rfl rfl (by kernel_rfl) rfl rfl ?_
  (conv => whnf)
  refine call_i (ref1_Valid a) ?_
  (conv => whnf)
  rw [ha]
  (conv => whnf)
  refine call_i (ref1_Valid b) ?_
  (conv => whnf)
  rw [hb]
  (conv => whnf)
  refine call_i (ref1_limited (ww (a.lo + b.lo)) (ww (a.hi + b.hi))) ?_
  (conv => whnf)
  (conv => whnf)
  refine ret0 ?_
  exact ⟨[], ⟨rfl, trivial⟩, trivial⟩
theorem mul_rg {x y : Int} (hx : -2147483648 ≤ x ∧ x ≤ 2147483648) (hy : -2147483648 ≤ y ∧ y ≤ 2147483648) : rg (x * y) := by
  have := mul_abs hx hy; unfold rg; omega
theorem ref1_Mul (a b : Ival) : FnOk Try.prog F.ref1_Mul [Iv a, Iv b] [] 0 (Iv (mulI a b)) [] 0 := by
  cases ha : okI a with
  | false =>
    rw [show mulI a b = i0 by simp [mulI, ha]]
    refine fnOk tab mix G.ref1_Mul rfl rfl (by kernel_rfl) rfl rfl ?_
    (conv => whnf)
    refine call_i (ref1_Valid a) ?_
    (conv => whnf)
    rw [ha]
    (conv => whnf)
    (conv => whnf)
    refine ret0 ?_
    exact ⟨[], ⟨rfl, trivial⟩, trivial⟩
  | true =>
  cases hb : okI b with
  | false =>
    rw [show mulI a b = i0 by simp [mulI, hb]]
    refine fnOk tab mix G.ref1_Mul rfl rfl (by kernel_rfl) rfl rfl ?_
    (conv => whnf)
    refine call_i (ref1_Valid a) ?_
    (conv => whnf)
    rw [ha]
    (conv => whnf)
    refine call_i (ref1_Valid b) ?_
    (conv => whnf)
    rw [hb]
    (conv => whnf)
    (conv => whnf)
    refine ret0 ?_
    exact ⟨[], ⟨rfl, trivial⟩, trivial⟩
  | true =>
  have h1 := okI_iff.1 ha
  have h2 := okI_iff.1 hb
  unfold inI at h1 h2
  have r1 := mul_rg (x := a.lo) (y := b.lo) (by omega) (by omega)
  have r2 := mul_rg (x := a.lo) (y := b.hi) (by omega) (by omega)
  have r3 := mul_rg (x := a.hi) (y := b.lo) (by omega) (by omega)
  have r4 := mul_rg (x := a.hi) (y := b.hi) (by omega) (by omega)
  rw [show mulI a b = limI (flr (min (min (min (ww (a.lo * b.lo)) (ww (a.lo * b.hi))) (ww (a.hi * b.lo))) (ww (a.hi * b.hi))) 65536) (cel (max (max (max (ww (a.lo * b.lo)) (ww (a.lo * b.hi))) (ww (a.hi * b.lo))) (ww (a.hi * b.hi))) 65536) by
    rw [mulI, if_pos ⟨ha, hb⟩, ww_id r1, ww_id r2, ww_id r3, ww_id r4]]
  have w1 := ww_rg (a.lo * b.lo)
  have w2 := ww_rg (a.lo * b.hi)
  have w3 := ww_rg (a.hi * b.lo)
  have w4 := ww_rg (a.hi * b.hi)
  refine fnOk tab mix G.ref1_Mul rfl rfl (by kernel_rfl) rfl rfl ?_
  (conv => whnf)
  refine call_i (ref1_Valid a) ?_
  (conv => whnf)
  rw [ha]
  (conv => whnf)
  refine call_i (ref1_Valid b) ?_
  (conv => whnf)
  rw [hb]
  (conv => whnf)
  refine call_i (ref1_Floor (min (min (min (ww (a.lo * b.lo)) (ww (a.lo * b.hi))) (ww (a.hi * b.lo))) (ww (a.hi * b.hi))) 65536 (by unfold rg at *; omega) (by decide)) ?_
  (conv => whnf)
  refine call_i (ref1_Ceil (max (max (max (ww (a.lo * b.lo)) (ww (a.lo * b.hi))) (ww (a.hi * b.lo))) (ww (a.hi * b.hi))) 65536 (by unfold rg at *; omega) (by decide)) ?_
  (conv => whnf)
  refine call_i (ref1_limited _ _) ?_
  (conv => whnf)
  (conv => whnf)
  refine ret0 ?_
  exact ⟨[], ⟨rfl, trivial⟩, trivial⟩
theorem ref1_Neg (a : Ival) : FnOk Try.prog F.ref1_Neg [Iv a] [] 0 (Iv (negI a)) [] 0 := by
  cases ha : okI a with
  | false =>
    rw [show negI a = i0 by simp [negI, ha]]
    refine fnOk tab mix G.ref1_Neg rfl rfl (by kernel_rfl) rfl rfl ?_
    (conv => whnf)
    refine call_i (ref1_Valid a) ?_
    (conv => whnf)
    rw [ha]
    (conv => whnf)
    (conv => whnf)
    refine ret0 ?_
    exact ⟨[], ⟨rfl, trivial⟩, trivial⟩
  | true =>
  have h1 := okI_iff.1 ha
  unfold inI at h1
  rw [show negI a = ⟨ww (0 - a.hi), ww (0 - a.lo)⟩ by rw [negI, if_pos ha, ww_id (by unfold rg; omega), ww_id (by unfold rg; omega), Int.zero_sub, Int.zero_sub]]
  refine fnOk tab mix G.ref1_Neg rfl rfl (by kernel_rfl) rfl rfl ?_
  (conv => whnf)
  refine call_i (ref1_Valid a) ?_
  (conv => whnf)
  rw [ha]
  (conv => whnf)
  (conv => whnf)
  refine ret0 ?_
  exact ⟨[], ⟨rfl, trivial⟩, trivial⟩
theorem ref1_Hull (a b : Ival) : FnOk Try.prog F.ref1_Hull [Iv a, Iv b] [] 0 (Iv (hullI a b)) [] 0 := by
  cases ha : okI a with
  | false =>
    rw [show hullI a b = i0 by simp [hullI, ha]]
    refine fnOk tab mix G.ref1_Hull rfl rfl (by kernel_rfl) rfl rfl ?_
    (conv => whnf)
    refine call_i (ref1_Valid a) ?_
    (conv => whnf)
    rw [ha]
    (conv => whnf)
    (conv => whnf)
    refine ret0 ?_
    exact ⟨[], ⟨rfl, trivial⟩, trivial⟩
  | true =>
  cases hb : okI b with
  | false =>
    rw [show hullI a b = i0 by simp [hullI, hb]]
    refine fnOk tab mix G.ref1_Hull rfl rfl (by kernel_rfl) rfl rfl ?_
    (conv => whnf)
    refine call_i (ref1_Valid a) ?_
    (conv => whnf)
    rw [ha]
    (conv => whnf)
    refine call_i (ref1_Valid b) ?_
    (conv => whnf)
    rw [hb]
    (conv => whnf)
    (conv => whnf)
    refine ret0 ?_
    exact ⟨[], ⟨rfl, trivial⟩, trivial⟩
  | true =>
  rw [show hullI a b = ⟨min a.lo b.lo, max a.hi b.hi⟩ by rw [hullI, if_pos ⟨ha, hb⟩]]
  refine fnOk tab mix G.ref1_Hull rfl rfl (by kernel_rfl) rfl rfl ?_
  (conv => whnf)
  refine call_i (ref1_Valid a) ?_
  (conv => whnf)
  rw [ha]
  (conv => whnf)
  refine call_i (ref1_Valid b) ?_
  (conv => whnf)
  rw [hb]
  (conv => whnf)
  (conv => whnf)
  refine ret0 ?_
  exact ⟨[], ⟨rfl, trivial⟩, trivial⟩
theorem ref1_Mod (a : Int) : FnOk Try.prog F.ref1_Mod [I a] [] 0 (I (a % 65536)) [] 0 := by
  obtain ⟨h1, h2, h3, h4⟩ := tmod_pos (x := a) (m := 65536) (by omega)
  have e1 : ww (a.tmod 65536 + 65536) = a.tmod 65536 + 65536 := ww_id (by unfold rg; omega)
  have e2 : (a.tmod 65536 + 65536).tmod 65536 = a % 65536 := by
    rw [Int.tmod_eq_emod_of_nonneg (by omega)]; omega
  refine fnOk tab mix G.ref1_Mod rfl rfl (by kernel_rfl) rfl rfl ?_
  (conv => whnf)
  refine ⟨by decide, ?_⟩
  (conv => whnf)
  refine ⟨by decide, ?_⟩
  (conv => whnf)
  (conv => whnf)
  refine ret0 ?_
  exact ret_i (by rw [show IntKind.i64.wrap (a.tmod 65536 + 65536) = a.tmod 65536 + 65536 from e1, e2]) rfl
theorem ref1_meets (a : Ival) (c : Int) (ha : okI a = true) (hc : 0 ≤ c ∧ c ≤ 65536) : FnOk Try.prog F.ref1_meets [Iv a, I c] [] 0 (Bo (meetsB a c)) [] 0 := by
  have h1 := okI_iff.1 ha
  unfold inI at h1
  have e1 : ww (c - a.lo) = c - a.lo := ww_id (by unfold rg; omega)
  rw [show meetsB a c = decide (ww (a.lo + ww (c - a.lo) % 65536) ≤ a.hi) by rw [e1, ww_id (by unfold rg; omega), meetsB]]
  refine fnOk tab mix G.ref1_meets rfl rfl (by kernel_rfl) rfl rfl ?_
  (conv => whnf)
  refine call_i (ref1_Mod (ww (c - a.lo))) ?_
  (conv => whnf)
  (conv => whnf)
  refine ret0 ?_
  exact ret_b rfl rfl
end Go.Proofs.Ythdbdokhncaijaa

/- Interval kinematics: the walks of the reference's sine and cosine. -/
namespace Go.Proofs.Ythdbdokhncaijaa
open Eng
set_option maxRecDepth 10000
attribute [local irreducible] FnOk loopW idxF retX arrF

abbrev pc (f : Nat → Int) (k i : Nat) : CV := .dv (.int .i64 (bif Nat.blt i k then f i else 0))
abbrev pwL (f : Nat → Int) (k : Nat) : List CV := [pc f k 0, pc f k 1, pc f k 2, pc f k 3, pc f k 4, pc f k 5, pc f k 6, pc f k 7, pc f k 8, pc f k 9, pc f k 10]
theorem pwA_rg (x : Int) : ∀ k, rg (pwA x k)
  | 0 => by rw [pwA]; unfold rg; omega
  | 1 => by rw [pwA]; exact flr_rg (ww_rg _) (by decide)
  | k + 2 => flr_rg (ww_rg _) (by decide)
theorem pwB_rg (x : Int) : ∀ k, rg (pwB x k)
  | 0 => by rw [pwB]; unfold rg; omega
  | 1 => by rw [pwB]; exact cel_rg (ww_rg _) (by decide)
  | k + 2 => cel_rg (ww_rg _) (by decide)
abbrev z11 : List CV := [.dv (.int .i64 0), .dv (.int .i64 0), .dv (.int .i64 0), .dv (.int .i64 0), .dv (.int .i64 0), .dv (.int .i64 0), .dv (.int .i64 0), .dv (.int .i64 0), .dv (.int .i64 0), .dv (.int .i64 0), .dv (.int .i64 0)]
set_option maxHeartbeats 2000000 in
theorem ref1_powers (x : Int) : FnOk Try.prog F.ref1_powers [I x] [] 0 (.tup [(true, pwL (pwA x) 11), (true, pwL (pwB x) 11)]) [] 0 := by
  refine fnOk tab mix G.ref1_powers rfl rfl (by kernel_rfl) rfl rfl ?_
  (conv => whnf)
  refine call_i (ref1_Floor (ww (x * 6746518852)) 65536 (ww_rg _) (by decide)) ?_
  (conv => whnf)
  refine ⟨⟨by decide, by decide⟩, ?_⟩
  (conv => whnf)
  refine call_i (ref1_Ceil (ww (x * 6746518853)) 65536 (ww_rg _) (by decide)) ?_
  (conv => whnf)
  refine ⟨⟨by decide, by decide⟩, ?_⟩
  (conv => whnf)
  refine loop_intro (fun k : Nat => ⟨[(2, .one (.vptr 0 0)), (3, .one (.vptr 1 0)), (4, .one (.vptr 2 0)), (5, .one (.vptr 3 0)), (6, I k)], [(0, .vars Y.a11_int64 z11), (1, .vars Y.a11_int64 z11), (2, .vars Y.a11_int64 (pwL (pwA x) k)), (3, .vars Y.a11_int64 (pwL (pwB x) k))], 4⟩) (fun k => 2 ≤ k ∧ k ≤ 11) (fun k => 11 - k) [] 2 [] (by decide) ⟨⟨rfl, rfl, rfl, rfl, rfl, trivial⟩, ⟨rfl, rfl, rfl, rfl, trivial⟩⟩ ?_
  rintro k hk
  obtain rfl | rfl | rfl | rfl | rfl | rfl | rfl | rfl | rfl | rfl : k = 2 ∨ k = 3 ∨ k = 4 ∨ k = 5 ∨ k = 6 ∨ k = 7 ∨ k = 8 ∨ k = 9 ∨ k = 10 ∨ k = 11 := by omega
  · (conv => whnf)
    refine ⟨⟨by decide, by decide⟩, ?_⟩
    (conv => whnf)
    refine ⟨⟨by decide, by decide⟩, ?_⟩
    (conv => whnf)
    refine call_i (ref1_Floor (ww (pwA x 1 * pwA x 1)) 1073741824 (ww_rg _) (by decide)) ?_
    (conv => whnf)
    refine ⟨⟨by decide, by decide⟩, ?_⟩
    (conv => whnf)
    refine ⟨⟨by decide, by decide⟩, ?_⟩
    (conv => whnf)
    refine ⟨⟨by decide, by decide⟩, ?_⟩
    (conv => whnf)
    refine call_i (ref1_Ceil (ww (pwB x 1 * pwB x 1)) 1073741824 (ww_rg _) (by decide)) ?_
    (conv => whnf)
    refine ⟨⟨by decide, by decide⟩, ?_⟩
    (conv => whnf)
    exact ⟨3, [], by decide, by decide, ⟨⟨rfl, rfl, rfl, rfl, eqI (by decide), trivial⟩, ⟨rfl, rfl, rfl, rfl, trivial⟩⟩⟩
  · (conv => whnf)
    refine ⟨⟨by decide, by decide⟩, ?_⟩
    (conv => whnf)
    refine ⟨⟨by decide, by decide⟩, ?_⟩
    (conv => whnf)
    refine call_i (ref1_Floor (ww (pwA x 2 * pwA x 1)) 1073741824 (ww_rg _) (by decide)) ?_
    (conv => whnf)
    refine ⟨⟨by decide, by decide⟩, ?_⟩
    (conv => whnf)
    refine ⟨⟨by decide, by decide⟩, ?_⟩
    (conv => whnf)
    refine ⟨⟨by decide, by decide⟩, ?_⟩
    (conv => whnf)
    refine call_i (ref1_Ceil (ww (pwB x 2 * pwB x 1)) 1073741824 (ww_rg _) (by decide)) ?_
    (conv => whnf)
    refine ⟨⟨by decide, by decide⟩, ?_⟩
    (conv => whnf)
    exact ⟨4, [], by decide, by decide, ⟨⟨rfl, rfl, rfl, rfl, eqI (by decide), trivial⟩, ⟨rfl, rfl, rfl, rfl, trivial⟩⟩⟩
  · (conv => whnf)
    refine ⟨⟨by decide, by decide⟩, ?_⟩
    (conv => whnf)
    refine ⟨⟨by decide, by decide⟩, ?_⟩
    (conv => whnf)
    refine call_i (ref1_Floor (ww (pwA x 3 * pwA x 1)) 1073741824 (ww_rg _) (by decide)) ?_
    (conv => whnf)
    refine ⟨⟨by decide, by decide⟩, ?_⟩
    (conv => whnf)
    refine ⟨⟨by decide, by decide⟩, ?_⟩
    (conv => whnf)
    refine ⟨⟨by decide, by decide⟩, ?_⟩
    (conv => whnf)
    refine call_i (ref1_Ceil (ww (pwB x 3 * pwB x 1)) 1073741824 (ww_rg _) (by decide)) ?_
    (conv => whnf)
    refine ⟨⟨by decide, by decide⟩, ?_⟩
    (conv => whnf)
    exact ⟨5, [], by decide, by decide, ⟨⟨rfl, rfl, rfl, rfl, eqI (by decide), trivial⟩, ⟨rfl, rfl, rfl, rfl, trivial⟩⟩⟩
  · (conv => whnf)
    refine ⟨⟨by decide, by decide⟩, ?_⟩
    (conv => whnf)
    refine ⟨⟨by decide, by decide⟩, ?_⟩
    (conv => whnf)
    refine call_i (ref1_Floor (ww (pwA x 4 * pwA x 1)) 1073741824 (ww_rg _) (by decide)) ?_
    (conv => whnf)
    refine ⟨⟨by decide, by decide⟩, ?_⟩
    (conv => whnf)
    refine ⟨⟨by decide, by decide⟩, ?_⟩
    (conv => whnf)
    refine ⟨⟨by decide, by decide⟩, ?_⟩
    (conv => whnf)
    refine call_i (ref1_Ceil (ww (pwB x 4 * pwB x 1)) 1073741824 (ww_rg _) (by decide)) ?_
    (conv => whnf)
    refine ⟨⟨by decide, by decide⟩, ?_⟩
    (conv => whnf)
    exact ⟨6, [], by decide, by decide, ⟨⟨rfl, rfl, rfl, rfl, eqI (by decide), trivial⟩, ⟨rfl, rfl, rfl, rfl, trivial⟩⟩⟩
  · (conv => whnf)
    refine ⟨⟨by decide, by decide⟩, ?_⟩
    (conv => whnf)
    refine ⟨⟨by decide, by decide⟩, ?_⟩
    (conv => whnf)
    refine call_i (ref1_Floor (ww (pwA x 5 * pwA x 1)) 1073741824 (ww_rg _) (by decide)) ?_
    (conv => whnf)
    refine ⟨⟨by decide, by decide⟩, ?_⟩
    (conv => whnf)
    refine ⟨⟨by decide, by decide⟩, ?_⟩
    (conv => whnf)
    refine ⟨⟨by decide, by decide⟩, ?_⟩
    (conv => whnf)
    refine call_i (ref1_Ceil (ww (pwB x 5 * pwB x 1)) 1073741824 (ww_rg _) (by decide)) ?_
    (conv => whnf)
    refine ⟨⟨by decide, by decide⟩, ?_⟩
    (conv => whnf)
    exact ⟨7, [], by decide, by decide, ⟨⟨rfl, rfl, rfl, rfl, eqI (by decide), trivial⟩, ⟨rfl, rfl, rfl, rfl, trivial⟩⟩⟩
  · (conv => whnf)
    refine ⟨⟨by decide, by decide⟩, ?_⟩
    (conv => whnf)
    refine ⟨⟨by decide, by decide⟩, ?_⟩
    (conv => whnf)
    refine call_i (ref1_Floor (ww (pwA x 6 * pwA x 1)) 1073741824 (ww_rg _) (by decide)) ?_
    (conv => whnf)
    refine ⟨⟨by decide, by decide⟩, ?_⟩
    (conv => whnf)
    refine ⟨⟨by decide, by decide⟩, ?_⟩
    (conv => whnf)
    refine ⟨⟨by decide, by decide⟩, ?_⟩
    (conv => whnf)
    refine call_i (ref1_Ceil (ww (pwB x 6 * pwB x 1)) 1073741824 (ww_rg _) (by decide)) ?_
    (conv => whnf)
    refine ⟨⟨by decide, by decide⟩, ?_⟩
    (conv => whnf)
    exact ⟨8, [], by decide, by decide, ⟨⟨rfl, rfl, rfl, rfl, eqI (by decide), trivial⟩, ⟨rfl, rfl, rfl, rfl, trivial⟩⟩⟩
  · (conv => whnf)
    refine ⟨⟨by decide, by decide⟩, ?_⟩
    (conv => whnf)
    refine ⟨⟨by decide, by decide⟩, ?_⟩
    (conv => whnf)
    refine call_i (ref1_Floor (ww (pwA x 7 * pwA x 1)) 1073741824 (ww_rg _) (by decide)) ?_
    (conv => whnf)
    refine ⟨⟨by decide, by decide⟩, ?_⟩
    (conv => whnf)
    refine ⟨⟨by decide, by decide⟩, ?_⟩
    (conv => whnf)
    refine ⟨⟨by decide, by decide⟩, ?_⟩
    (conv => whnf)
    refine call_i (ref1_Ceil (ww (pwB x 7 * pwB x 1)) 1073741824 (ww_rg _) (by decide)) ?_
    (conv => whnf)
    refine ⟨⟨by decide, by decide⟩, ?_⟩
    (conv => whnf)
    exact ⟨9, [], by decide, by decide, ⟨⟨rfl, rfl, rfl, rfl, eqI (by decide), trivial⟩, ⟨rfl, rfl, rfl, rfl, trivial⟩⟩⟩
  · (conv => whnf)
    refine ⟨⟨by decide, by decide⟩, ?_⟩
    (conv => whnf)
    refine ⟨⟨by decide, by decide⟩, ?_⟩
    (conv => whnf)
    refine call_i (ref1_Floor (ww (pwA x 8 * pwA x 1)) 1073741824 (ww_rg _) (by decide)) ?_
    (conv => whnf)
    refine ⟨⟨by decide, by decide⟩, ?_⟩
    (conv => whnf)
    refine ⟨⟨by decide, by decide⟩, ?_⟩
    (conv => whnf)
    refine ⟨⟨by decide, by decide⟩, ?_⟩
    (conv => whnf)
    refine call_i (ref1_Ceil (ww (pwB x 8 * pwB x 1)) 1073741824 (ww_rg _) (by decide)) ?_
    (conv => whnf)
    refine ⟨⟨by decide, by decide⟩, ?_⟩
    (conv => whnf)
    exact ⟨10, [], by decide, by decide, ⟨⟨rfl, rfl, rfl, rfl, eqI (by decide), trivial⟩, ⟨rfl, rfl, rfl, rfl, trivial⟩⟩⟩
  · (conv => whnf)
    refine ⟨⟨by decide, by decide⟩, ?_⟩
    (conv => whnf)
    refine ⟨⟨by decide, by decide⟩, ?_⟩
    (conv => whnf)
    refine call_i (ref1_Floor (ww (pwA x 9 * pwA x 1)) 1073741824 (ww_rg _) (by decide)) ?_
    (conv => whnf)
    refine ⟨⟨by decide, by decide⟩, ?_⟩
    (conv => whnf)
    refine ⟨⟨by decide, by decide⟩, ?_⟩
    (conv => whnf)
    refine ⟨⟨by decide, by decide⟩, ?_⟩
    (conv => whnf)
    refine call_i (ref1_Ceil (ww (pwB x 9 * pwB x 1)) 1073741824 (ww_rg _) (by decide)) ?_
    (conv => whnf)
    refine ⟨⟨by decide, by decide⟩, ?_⟩
    (conv => whnf)
    exact ⟨11, [], by decide, by decide, ⟨⟨rfl, rfl, rfl, rfl, eqI (by decide), trivial⟩, ⟨rfl, rfl, rfl, rfl, trivial⟩⟩⟩
  · (conv => whnf)
    (conv => whnf)
    refine ret0 ?_
    exact ⟨[], ⟨rfl, trivial⟩, trivial⟩
theorem ref1_enclosure (a b : Int) (ha : rg a) (hb : rg b) : FnOk Try.prog F.ref1_enclosure [I a, I b] [] 0 (Iv (encl a b)) [] 0 := by
  refine fnOk tab mix G.ref1_enclosure rfl rfl (by kernel_rfl) rfl rfl ?_
  (conv => whnf)
  refine call_i (ref1_Floor a 16384 ha (by decide)) ?_
  (conv => whnf)
  refine call_i (ref1_Ceil b 16384 hb (by decide)) ?_
  (conv => whnf)
  (conv => whnf)
  refine ret0 ?_
  exact ⟨[], ⟨rfl, trivial⟩, trivial⟩
theorem ref1_sine (x : Int) : FnOk Try.prog F.ref1_sine [I x] [] 0 (Iv (sineM x)) [] 0 := by
  refine fnOk tab mix G.ref1_sine rfl rfl (by kernel_rfl) rfl rfl ?_
  (conv => whnf)
  refine call_i (ref1_powers x) ?_
  (conv => whnf)
  refine ⟨⟨by decide, by decide⟩, ?_⟩
  (conv => whnf)
  refine ⟨⟨by decide, by decide⟩, ?_⟩
  (conv => whnf)
  refine call_i (ref1_Ceil (pwB x 3) 6 (pwB_rg x 3) (by decide)) ?_
  (conv => whnf)
  refine ⟨⟨by decide, by decide⟩, ?_⟩
  (conv => whnf)
  refine call_i (ref1_Floor (pwA x 5) 120 (pwA_rg x 5) (by decide)) ?_
  (conv => whnf)
  refine ⟨⟨by decide, by decide⟩, ?_⟩
  (conv => whnf)
  refine call_i (ref1_Ceil (pwB x 7) 5040 (pwB_rg x 7) (by decide)) ?_
  (conv => whnf)
  refine ⟨⟨by decide, by decide⟩, ?_⟩
  (conv => whnf)
  refine ⟨⟨by decide, by decide⟩, ?_⟩
  (conv => whnf)
  refine call_i (ref1_Floor (pwA x 3) 6 (pwA_rg x 3) (by decide)) ?_
  (conv => whnf)
  refine ⟨⟨by decide, by decide⟩, ?_⟩
  (conv => whnf)
  refine call_i (ref1_Ceil (pwB x 5) 120 (pwB_rg x 5) (by decide)) ?_
  (conv => whnf)
  refine ⟨⟨by decide, by decide⟩, ?_⟩
  (conv => whnf)
  refine call_i (ref1_Floor (pwA x 7) 5040 (pwA_rg x 7) (by decide)) ?_
  (conv => whnf)
  refine ⟨⟨by decide, by decide⟩, ?_⟩
  (conv => whnf)
  refine call_i (ref1_Ceil (pwB x 9) 362880 (pwB_rg x 9) (by decide)) ?_
  (conv => whnf)
  refine call_i (ref1_enclosure _ _ (ww_rg _) (ww_rg _)) ?_
  (conv => whnf)
  (conv => whnf)
  refine ret0 ?_
  exact ⟨[], ⟨rfl, trivial⟩, trivial⟩
theorem ref1_cosine (x : Int) : FnOk Try.prog F.ref1_cosine [I x] [] 0 (Iv (cosineM x)) [] 0 := by
  refine fnOk tab mix G.ref1_cosine rfl rfl (by kernel_rfl) rfl rfl ?_
  (conv => whnf)
  refine call_i (ref1_powers x) ?_
  (conv => whnf)
  refine ⟨⟨by decide, by decide⟩, ?_⟩
  (conv => whnf)
  refine call_i (ref1_Ceil (pwB x 2) 2 (pwB_rg x 2) (by decide)) ?_
  (conv => whnf)
  refine ⟨⟨by decide, by decide⟩, ?_⟩
  (conv => whnf)
  refine call_i (ref1_Floor (pwA x 4) 24 (pwA_rg x 4) (by decide)) ?_
  (conv => whnf)
  refine ⟨⟨by decide, by decide⟩, ?_⟩
  (conv => whnf)
  refine call_i (ref1_Ceil (pwB x 6) 720 (pwB_rg x 6) (by decide)) ?_
  (conv => whnf)
  refine ⟨⟨by decide, by decide⟩, ?_⟩
  (conv => whnf)
  refine call_i (ref1_Floor (pwA x 8) 40320 (pwA_rg x 8) (by decide)) ?_
  (conv => whnf)
  refine ⟨⟨by decide, by decide⟩, ?_⟩
  (conv => whnf)
  refine call_i (ref1_Ceil (pwB x 10) 3628800 (pwB_rg x 10) (by decide)) ?_
  (conv => whnf)
  refine ⟨⟨by decide, by decide⟩, ?_⟩
  (conv => whnf)
  refine call_i (ref1_Floor (pwA x 2) 2 (pwA_rg x 2) (by decide)) ?_
  (conv => whnf)
  refine ⟨⟨by decide, by decide⟩, ?_⟩
  (conv => whnf)
  refine call_i (ref1_Ceil (pwB x 4) 24 (pwB_rg x 4) (by decide)) ?_
  (conv => whnf)
  refine ⟨⟨by decide, by decide⟩, ?_⟩
  (conv => whnf)
  refine call_i (ref1_Floor (pwA x 6) 720 (pwA_rg x 6) (by decide)) ?_
  (conv => whnf)
  refine ⟨⟨by decide, by decide⟩, ?_⟩
  (conv => whnf)
  refine call_i (ref1_Ceil (pwB x 8) 40320 (pwB_rg x 8) (by decide)) ?_
  (conv => whnf)
  refine call_i (ref1_enclosure _ _ (ww_rg _) (ww_rg _)) ?_
  (conv => whnf)
  (conv => whnf)
  refine ret0 ?_
  exact ⟨[], ⟨rfl, trivial⟩, trivial⟩
theorem ref1_Quarter (r : Int) (hr : 0 ≤ r ∧ r ≤ 16384) : FnOk Try.prog F.ref1_Quarter [I r] [] 0 (Iv (quarterM r)) [] 0 := by
  by_cases h : r ≤ 8192
  · rw [quarterM, if_pos h]
    refine fnOk tab mix G.ref1_Quarter rfl rfl (by kernel_rfl) rfl rfl ?_
    (conv => whnf)
    refine ask_mt (decide_eq_true h) ?_
    (conv => whnf)
    refine call_i (ref1_sine r) ?_
    (conv => whnf)
    (conv => whnf)
    refine ret0 ?_
    exact ⟨[], ⟨rfl, trivial⟩, trivial⟩
  · rw [quarterM, if_neg h, show 16384 - r = ww (16384 - r) from (ww_id (by unfold rg; omega)).symm]
    refine fnOk tab mix G.ref1_Quarter rfl rfl (by kernel_rfl) rfl rfl ?_
    (conv => whnf)
    refine ask_mf (decide_eq_false h) ?_
    (conv => whnf)
    refine call_i (ref1_cosine (ww (16384 - r))) ?_
    (conv => whnf)
    (conv => whnf)
    refine ret0 ?_
    exact ⟨[], ⟨rfl, trivial⟩, trivial⟩
theorem ref1_Sin (a : Int) : FnOk Try.prog F.ref1_Sin [I a] [] 0 (Iv (sinM a)) [] 0 := by
  have q1 := Int.emod_nonneg a (show (65536 : Int) ≠ 0 by decide)
  have q2 := Int.emod_lt_of_pos a (show (0 : Int) < 65536 by decide)
  have e1 : ww ((a % 65536).tdiv 16384) = a % 65536 / 16384 := by rw [Int.tdiv_eq_ediv_of_nonneg q1]; exact ww_id (by unfold rg; omega)
  have e2 : (a % 65536).tmod 16384 = a % 65536 % 16384 := Int.tmod_eq_emod_of_nonneg q1
  have e3 : ww (16384 - (a % 65536).tmod 16384) = 16384 - a % 65536 % 16384 := by rw [e2]; exact ww_id (by unfold rg; omega)
  unfold sinM
  rw [← e3, ← e2, ← e1]
  refine fnOk tab mix G.ref1_Sin rfl rfl (by kernel_rfl) rfl rfl ?_
  (conv => whnf)
  refine call_i (ref1_Mod a) ?_
  (conv => whnf)
  refine ⟨by decide, ?_⟩
  (conv => whnf)
  refine ⟨by decide, ?_⟩
  (conv => whnf)
  refine ask_m (fun h1 => ?_) (fun h1 => ?_)
  · have h1 : ww ((a % 65536).tdiv 16384) = 0 := by simpa using h1
    rw [if_pos h1]
    (conv => whnf)
    refine call_i (ref1_Quarter ((a % 65536).tmod 16384) (by omega)) ?_
    (conv => whnf)
    (conv => whnf)
    refine ret0 ?_
    exact ⟨[], ⟨rfl, trivial⟩, trivial⟩
  have h1 : ¬ ww ((a % 65536).tdiv 16384) = 0 := by simpa using h1
  rw [if_neg h1]
  (conv => whnf)
  refine ask_m (fun h2 => ?_) (fun h2 => ?_)
  · have h2 : ww ((a % 65536).tdiv 16384) = 1 := by simpa using h2
    rw [if_pos h2]
    (conv => whnf)
    refine call_i (ref1_Quarter (ww (16384 - (a % 65536).tmod 16384)) (by omega)) ?_
    (conv => whnf)
    (conv => whnf)
    refine ret0 ?_
    exact ⟨[], ⟨rfl, trivial⟩, trivial⟩
  have h2 : ¬ ww ((a % 65536).tdiv 16384) = 1 := by simpa using h2
  rw [if_neg h2]
  (conv => whnf)
  refine ask_m (fun h3 => ?_) (fun h3 => ?_)
  · have h3 : ww ((a % 65536).tdiv 16384) = 2 := by simpa using h3
    rw [if_pos h3]
    (conv => whnf)
    refine call_i (ref1_Quarter ((a % 65536).tmod 16384) (by omega)) ?_
    (conv => whnf)
    refine call_i (ref1_Neg _) ?_
    (conv => whnf)
    (conv => whnf)
    refine ret0 ?_
    exact ⟨[], ⟨rfl, trivial⟩, trivial⟩
  have h3 : ¬ ww ((a % 65536).tdiv 16384) = 2 := by simpa using h3
  rw [if_neg h3]
  (conv => whnf)
  refine call_i (ref1_Quarter (ww (16384 - (a % 65536).tmod 16384)) (by omega)) ?_
  (conv => whnf)
  refine call_i (ref1_Neg _) ?_
  (conv => whnf)
  (conv => whnf)
  refine ret0 ?_
  exact ⟨[], ⟨rfl, trivial⟩, trivial⟩
theorem ref1_Cos (a : Int) : FnOk Try.prog F.ref1_Cos [I a] [] 0 (Iv (cosM a)) [] 0 := by
  rw [cosM, show a % 65536 + 16384 = ww (a % 65536 + 16384) from (ww_id (by unfold rg; omega)).symm]
  refine fnOk tab mix G.ref1_Cos rfl rfl (by kernel_rfl) rfl rfl ?_
  (conv => whnf)
  refine call_i (ref1_Mod a) ?_
  (conv => whnf)
  refine call_i (ref1_Sin (ww (a % 65536 + 16384))) ?_
  (conv => whnf)
  (conv => whnf)
  refine ret0 ?_
  exact ⟨[], ⟨rfl, trivial⟩, trivial⟩
theorem ref1_over (a low high : Ival) (t b : Int) (ht : 0 ≤ t ∧ t ≤ 65536) (hb : 0 ≤ b ∧ b ≤ 65536) : FnOk Try.prog F.ref1_over [Iv a, Iv low, Iv high, I t, I b] [] 0 (Iv (overM a low high t b)) [] 0 := by
  unfold overM
  cases ha : okI a with
  | false =>
    rw [if_pos rfl]
    refine fnOk tab mix G.ref1_over rfl rfl (by kernel_rfl) rfl rfl ?_
    (conv => whnf)
    refine call_i (ref1_Valid a) ?_
    (conv => whnf)
    rw [ha]
    (conv => whnf)
    (conv => whnf)
    refine ret0 ?_
    exact ⟨[], ⟨rfl, trivial⟩, trivial⟩
  | true =>
  have h1 := okI_iff.1 ha
  unfold inI at h1
  have e1 : ww (a.hi - a.lo) = a.hi - a.lo := ww_id (by unfold rg; omega)
  rw [if_neg (by decide), ← e1]
  refine fnOk tab mix G.ref1_over rfl rfl (by kernel_rfl) rfl rfl ?_
  (conv => whnf)
  refine call_i (ref1_Valid a) ?_
  (conv => whnf)
  rw [ha]
  (conv => whnf)
  refine ask_m (fun h => ?_) (fun h => ?_)
  · have h : 65536 ≤ ww (a.hi - a.lo) := of_decide_eq_true h
    rw [if_pos h]
    (conv => whnf)
    refine ret0 ?_
    exact ⟨[], ⟨rfl, trivial⟩, trivial⟩
  have h : ¬ 65536 ≤ ww (a.hi - a.lo) := of_decide_eq_false h
  rw [if_neg h]
  (conv => whnf)
  refine call_i (ref1_Hull low high) ?_
  (conv => whnf)
  refine call_i (ref1_meets a t ha ht) ?_
  (conv => whnf)
  cases m1 : meetsB a t with
  | true =>
    rw [if_pos rfl]
    (conv => whnf)
    refine call_i (ref1_Of 65536) ?_
    (conv => whnf)
    refine call_i (ref1_Hull (hullI low high) (ofI 65536)) ?_
    (conv => whnf)
    refine call_i (ref1_meets a b ha hb) ?_
    (conv => whnf)
    cases m2 : meetsB a b with
    | true =>
      rw [if_pos rfl]
      (conv => whnf)
      refine call_i (ref1_Of (-65536)) ?_
      (conv => whnf)
      refine call_i (ref1_Hull (hullI (hullI low high) (ofI 65536)) (ofI (-65536))) ?_
      (conv => whnf)
      (conv => whnf)
      refine ret0 ?_
      exact ⟨[], ⟨rfl, trivial⟩, trivial⟩
    | false =>
      rw [if_neg (by decide)]
      (conv => whnf)
      (conv => whnf)
      refine ret0 ?_
      exact ⟨[], ⟨rfl, trivial⟩, trivial⟩
  | false =>
    rw [if_neg (show ¬ (false = true) by decide)]
    (conv => whnf)
    refine call_i (ref1_meets a b ha hb) ?_
    (conv => whnf)
    cases m2 : meetsB a b with
    | true =>
      rw [if_pos rfl]
      (conv => whnf)
      refine call_i (ref1_Of (-65536)) ?_
      (conv => whnf)
      refine call_i (ref1_Hull (hullI low high) (ofI (-65536))) ?_
      (conv => whnf)
      (conv => whnf)
      refine ret0 ?_
      exact ⟨[], ⟨rfl, trivial⟩, trivial⟩
    | false =>
      rw [if_neg (by decide)]
      (conv => whnf)
      (conv => whnf)
      refine ret0 ?_
      exact ⟨[], ⟨rfl, trivial⟩, trivial⟩
theorem ref1_SinOver (a : Ival) : FnOk Try.prog F.ref1_SinOver [Iv a] [] 0 (Iv (sinO a)) [] 0 := by
  refine fnOk tab mix G.ref1_SinOver rfl rfl (by kernel_rfl) rfl rfl ?_
  (conv => whnf)
  refine call_i (ref1_Sin a.lo) ?_
  (conv => whnf)
  refine call_i (ref1_Sin a.hi) ?_
  (conv => whnf)
  refine call_i (ref1_over a (sinM a.lo) (sinM a.hi) 16384 49152 (by decide) (by decide)) ?_
  (conv => whnf)
  (conv => whnf)
  refine ret0 ?_
  exact ⟨[], ⟨rfl, trivial⟩, trivial⟩
theorem ref1_CosOver (a : Ival) : FnOk Try.prog F.ref1_CosOver [Iv a] [] 0 (Iv (cosO a)) [] 0 := by
  refine fnOk tab mix G.ref1_CosOver rfl rfl (by kernel_rfl) rfl rfl ?_
  (conv => whnf)
  refine call_i (ref1_Cos a.lo) ?_
  (conv => whnf)
  refine call_i (ref1_Cos a.hi) ?_
  (conv => whnf)
  refine call_i (ref1_over a (cosM a.lo) (cosM a.hi) 0 32768 (by decide) (by decide)) ?_
  (conv => whnf)
  (conv => whnf)
  refine ret0 ?_
  exact ⟨[], ⟨rfl, trivial⟩, trivial⟩
end Go.Proofs.Ythdbdokhncaijaa

/- Interval kinematics: the walks of the reference's vectors, matrices and poses of intervals. -/
namespace Go.Proofs.Ythdbdokhncaijaa
open Eng
set_option maxRecDepth 10000
attribute [local irreducible] FnOk loopW idxF retX arrF

abbrev c6 (v : IV) : List CV := [.dv (.int .i64 v.x.lo), .dv (.int .i64 v.x.hi), .dv (.int .i64 v.y.lo), .dv (.int .i64 v.y.hi), .dv (.int .i64 v.z.lo), .dv (.int .i64 v.z.hi)]
abbrev c18 (m : IM) : List CV := [.dv (.int .i64 m.a.x.lo), .dv (.int .i64 m.a.x.hi), .dv (.int .i64 m.a.y.lo), .dv (.int .i64 m.a.y.hi), .dv (.int .i64 m.a.z.lo), .dv (.int .i64 m.a.z.hi), .dv (.int .i64 m.b.x.lo), .dv (.int .i64 m.b.x.hi), .dv (.int .i64 m.b.y.lo), .dv (.int .i64 m.b.y.hi), .dv (.int .i64 m.b.z.lo), .dv (.int .i64 m.b.z.hi), .dv (.int .i64 m.c.x.lo), .dv (.int .i64 m.c.x.hi), .dv (.int .i64 m.c.y.lo), .dv (.int .i64 m.c.y.hi), .dv (.int .i64 m.c.z.lo), .dv (.int .i64 m.c.z.hi)]
abbrev c24 (p : Ps) : List CV := [.dv (.int .i64 p.r.a.x.lo), .dv (.int .i64 p.r.a.x.hi), .dv (.int .i64 p.r.a.y.lo), .dv (.int .i64 p.r.a.y.hi), .dv (.int .i64 p.r.a.z.lo), .dv (.int .i64 p.r.a.z.hi), .dv (.int .i64 p.r.b.x.lo), .dv (.int .i64 p.r.b.x.hi), .dv (.int .i64 p.r.b.y.lo), .dv (.int .i64 p.r.b.y.hi), .dv (.int .i64 p.r.b.z.lo), .dv (.int .i64 p.r.b.z.hi), .dv (.int .i64 p.r.c.x.lo), .dv (.int .i64 p.r.c.x.hi), .dv (.int .i64 p.r.c.y.lo), .dv (.int .i64 p.r.c.y.hi), .dv (.int .i64 p.r.c.z.lo), .dv (.int .i64 p.r.c.z.hi), .dv (.int .i64 p.t.x.lo), .dv (.int .i64 p.t.x.hi), .dv (.int .i64 p.t.y.lo), .dv (.int .i64 p.t.y.hi), .dv (.int .i64 p.t.z.lo), .dv (.int .i64 p.t.z.hi)]
def encIV (v : IV) : List DV := [.int .i64 v.x.lo, .int .i64 v.x.hi, .int .i64 v.y.lo, .int .i64 v.y.hi, .int .i64 v.z.lo, .int .i64 v.z.hi]
def encPs (p : Ps) : List DV := [.int .i64 p.r.a.x.lo, .int .i64 p.r.a.x.hi, .int .i64 p.r.a.y.lo, .int .i64 p.r.a.y.hi, .int .i64 p.r.a.z.lo, .int .i64 p.r.a.z.hi, .int .i64 p.r.b.x.lo, .int .i64 p.r.b.x.hi, .int .i64 p.r.b.y.lo, .int .i64 p.r.b.y.hi, .int .i64 p.r.b.z.lo, .int .i64 p.r.b.z.hi, .int .i64 p.r.c.x.lo, .int .i64 p.r.c.x.hi, .int .i64 p.r.c.y.lo, .int .i64 p.r.c.y.hi, .int .i64 p.r.c.z.lo, .int .i64 p.r.c.z.hi, .int .i64 p.t.x.lo, .int .i64 p.t.x.hi, .int .i64 p.t.y.lo, .int .i64 p.t.y.hi, .int .i64 p.t.z.lo, .int .i64 p.t.z.hi]
abbrev IvV (v : IV) : SV := .agg (c6 v)
abbrev IvM (m : IM) : SV := .agg (c18 m)
abbrev IvP (p : Ps) : SV := .agg (c24 p)
theorem ref1_Point (v : Vec) : FnOk Try.prog F.ref1_Point [Ve v] [] 0 (IvV (ptV v)) [] 0 := by
  refine fnOk tab mix G.ref1_Point rfl rfl (by kernel_rfl) rfl rfl ?_
  (conv => whnf)
  refine ⟨⟨by decide, by decide⟩, ?_⟩
  (conv => whnf)
  refine call_i (ref1_Of v.x) ?_
  (conv => whnf)
  refine ⟨⟨by decide, by decide⟩, ?_⟩
  (conv => whnf)
  refine call_i (ref1_Of v.y) ?_
  (conv => whnf)
  refine ⟨⟨by decide, by decide⟩, ?_⟩
  (conv => whnf)
  refine call_i (ref1_Of v.z) ?_
  (conv => whnf)
  (conv => whnf)
  refine ret0 ?_
  exact ⟨[], ⟨rfl, trivial⟩, trivial⟩
theorem ref1_AddVec (a b : IV) : FnOk Try.prog F.ref1_AddVec [IvV a, IvV b] [] 0 (IvV (sumV a b)) [] 0 := by
  refine fnOk tab mix G.ref1_AddVec rfl rfl (by kernel_rfl) rfl rfl ?_
  (conv => whnf)
  refine ⟨⟨by decide, by decide⟩, ?_⟩
  (conv => whnf)
  refine ⟨⟨by decide, by decide⟩, ?_⟩
  (conv => whnf)
  refine call_i (ref1_Add a.x b.x) ?_
  (conv => whnf)
  refine ⟨⟨by decide, by decide⟩, ?_⟩
  (conv => whnf)
  refine ⟨⟨by decide, by decide⟩, ?_⟩
  (conv => whnf)
  refine call_i (ref1_Add a.y b.y) ?_
  (conv => whnf)
  refine ⟨⟨by decide, by decide⟩, ?_⟩
  (conv => whnf)
  refine ⟨⟨by decide, by decide⟩, ?_⟩
  (conv => whnf)
  refine call_i (ref1_Add a.z b.z) ?_
  (conv => whnf)
  (conv => whnf)
  refine ret0 ?_
  exact ⟨[], ⟨rfl, trivial⟩, trivial⟩
theorem ref1_Unit : FnOk Try.prog F.ref1_Unit [] [] 0 (IvM unitM) [] 0 := by
  refine fnOk tab mix G.ref1_Unit rfl rfl (by kernel_rfl) rfl rfl ?_
  (conv => whnf)
  refine call_i (ref1_Of 65536) ?_
  (conv => whnf)
  (conv => whnf)
  refine ret0 ?_
  exact ⟨[], ⟨rfl, trivial⟩, trivial⟩
theorem ref1_Rest : FnOk Try.prog F.ref1_Rest [] [] 0 (IvP restP) [] 0 := by
  refine fnOk tab mix G.ref1_Rest rfl rfl (by kernel_rfl) rfl rfl ?_
  (conv => whnf)
  refine call_i (ref1_Unit) ?_
  (conv => whnf)
  (conv => whnf)
  refine ret0 ?_
  exact ⟨[], ⟨rfl, trivial⟩, trivial⟩
theorem ref1_Shift (v : IV) : FnOk Try.prog F.ref1_Shift [IvV v] [] 0 (IvP (shiftP v)) [] 0 := by
  refine fnOk tab mix G.ref1_Shift rfl rfl (by kernel_rfl) rfl rfl ?_
  (conv => whnf)
  refine call_i (ref1_Unit) ?_
  (conv => whnf)
  (conv => whnf)
  refine ret0 ?_
  exact ⟨[], ⟨rfl, trivial⟩, trivial⟩
theorem ref1_Turn (k : Int) (a : Ival) : FnOk Try.prog F.ref1_Turn [I k, Iv a] [] 0 (IvM (turnM k a)) [] 0 := by
  unfold turnM
  cases ha : okI a with
  | false =>
    rw [if_pos rfl]
    refine fnOk tab mix G.ref1_Turn rfl rfl (by kernel_rfl) rfl rfl ?_
    (conv => whnf)
    refine call_i (ref1_Valid a) ?_
    (conv => whnf)
    rw [ha]
    (conv => whnf)
    (conv => whnf)
    refine ret0 ?_
    exact ⟨[], ⟨rfl, trivial⟩, trivial⟩
  | true =>
  rw [if_neg (by decide)]
  refine fnOk tab mix G.ref1_Turn rfl rfl (by kernel_rfl) rfl rfl ?_
  (conv => whnf)
  refine call_i (ref1_Valid a) ?_
  (conv => whnf)
  rw [ha]
  (conv => whnf)
  refine call_i (ref1_Of 65536) ?_
  (conv => whnf)
  refine call_i (ref1_CosOver a) ?_
  (conv => whnf)
  refine call_i (ref1_SinOver a) ?_
  (conv => whnf)
  refine call_i (ref1_Neg (sinO a)) ?_
  (conv => whnf)
  refine ask_m (fun h1 => ?_) (fun h1 => ?_)
  · have h1 : k = 0 := by simpa using h1
    rw [if_pos h1]
    (conv => whnf)
    refine ret0 ?_
    exact ⟨[], ⟨rfl, trivial⟩, trivial⟩
  have h1 : ¬ k = 0 := by simpa using h1
  rw [if_neg h1]
  (conv => whnf)
  refine ask_m (fun h2 => ?_) (fun h2 => ?_)
  · have h2 : k = 1 := by simpa using h2
    rw [if_pos h2]
    (conv => whnf)
    refine ret0 ?_
    exact ⟨[], ⟨rfl, trivial⟩, trivial⟩
  have h2 : ¬ k = 1 := by simpa using h2
  rw [if_neg h2]
  (conv => whnf)
  refine ask_m (fun h3 => ?_) (fun h3 => ?_)
  · have h3 : k = 2 := by simpa using h3
    rw [if_pos h3]
    (conv => whnf)
    refine ret0 ?_
    exact ⟨[], ⟨rfl, trivial⟩, trivial⟩
  have h3 : ¬ k = 2 := by simpa using h3
  rw [if_neg h3]
  (conv => whnf)
  refine ret0 ?_
  exact ⟨[], ⟨rfl, trivial⟩, trivial⟩
theorem ref1_TurnPose (k : Int) (a : Ival) : FnOk Try.prog F.ref1_TurnPose [I k, Iv a] [] 0 (IvP ⟨turnM k a, v0⟩) [] 0 := by
  refine fnOk tab mix G.ref1_TurnPose rfl rfl (by kernel_rfl) rfl rfl ?_
  (conv => whnf)
  refine call_i (ref1_Turn k a) ?_
  (conv => whnf)
  (conv => whnf)
  refine ret0 ?_
  exact ⟨[], ⟨rfl, trivial⟩, trivial⟩
abbrev apS (m : IM) (v : IV) (k : Nat) : List CV := [.dv (.int .i64 (bif Nat.blt 0 k then (appM m v).x.lo else 0)), .dv (.int .i64 (bif Nat.blt 0 k then (appM m v).x.hi else 0)), .dv (.int .i64 (bif Nat.blt 1 k then (appM m v).y.lo else 0)), .dv (.int .i64 (bif Nat.blt 1 k then (appM m v).y.hi else 0)), .dv (.int .i64 (bif Nat.blt 2 k then (appM m v).z.lo else 0)), .dv (.int .i64 (bif Nat.blt 2 k then (appM m v).z.hi else 0))]
abbrev coS (a b : IM) (k : Nat) : List CV := [.dv (.int .i64 (bif Nat.blt 0 k then (comM a b).a.x.lo else 0)), .dv (.int .i64 (bif Nat.blt 0 k then (comM a b).a.x.hi else 0)), .dv (.int .i64 (bif Nat.blt 1 k then (comM a b).a.y.lo else 0)), .dv (.int .i64 (bif Nat.blt 1 k then (comM a b).a.y.hi else 0)), .dv (.int .i64 (bif Nat.blt 2 k then (comM a b).a.z.lo else 0)), .dv (.int .i64 (bif Nat.blt 2 k then (comM a b).a.z.hi else 0)), .dv (.int .i64 (bif Nat.blt 3 k then (comM a b).b.x.lo else 0)), .dv (.int .i64 (bif Nat.blt 3 k then (comM a b).b.x.hi else 0)), .dv (.int .i64 (bif Nat.blt 4 k then (comM a b).b.y.lo else 0)), .dv (.int .i64 (bif Nat.blt 4 k then (comM a b).b.y.hi else 0)), .dv (.int .i64 (bif Nat.blt 5 k then (comM a b).b.z.lo else 0)), .dv (.int .i64 (bif Nat.blt 5 k then (comM a b).b.z.hi else 0)), .dv (.int .i64 (bif Nat.blt 6 k then (comM a b).c.x.lo else 0)), .dv (.int .i64 (bif Nat.blt 6 k then (comM a b).c.x.hi else 0)), .dv (.int .i64 (bif Nat.blt 7 k then (comM a b).c.y.lo else 0)), .dv (.int .i64 (bif Nat.blt 7 k then (comM a b).c.y.hi else 0)), .dv (.int .i64 (bif Nat.blt 8 k then (comM a b).c.z.lo else 0)), .dv (.int .i64 (bif Nat.blt 8 k then (comM a b).c.z.hi else 0))]
abbrev z6 : List CV := [.dv (.int .i64 0), .dv (.int .i64 0), .dv (.int .i64 0), .dv (.int .i64 0), .dv (.int .i64 0), .dv (.int .i64 0)]
abbrev z18 : List CV := [.dv (.int .i64 0), .dv (.int .i64 0), .dv (.int .i64 0), .dv (.int .i64 0), .dv (.int .i64 0), .dv (.int .i64 0), .dv (.int .i64 0), .dv (.int .i64 0), .dv (.int .i64 0), .dv (.int .i64 0), .dv (.int .i64 0), .dv (.int .i64 0), .dv (.int .i64 0), .dv (.int .i64 0), .dv (.int .i64 0), .dv (.int .i64 0), .dv (.int .i64 0), .dv (.int .i64 0)]
set_option maxHeartbeats 2000000 in
theorem ref1_ApplyMat (m : IM) (v : IV) : FnOk Try.prog F.ref1_ApplyMat [IvM m, IvV v] [] 0 (IvV (appM m v)) [] 0 := by
  refine fnOk tab mix G.ref1_ApplyMat rfl rfl (by kernel_rfl) rfl rfl ?_
  (conv => whnf)
  refine loop_intro (fun k : Nat => ⟨[(2, .one (.vptr 0 0)), (3, .one (.vptr 1 0)), (4, .one (.vptr 2 0)), (5, .one (.vptr 3 0)), (6, I k)], [(0, .vars Y.IMat (c18 m)), (1, .vars Y.IVec (c6 v)), (2, .vars Y.IVec z6), (3, .vars Y.IVec (apS m v k))], 4⟩) (fun k => k ≤ 3) (fun k => 3 - k) [] 0 [] (by decide) ⟨⟨rfl, rfl, rfl, rfl, rfl, trivial⟩, ⟨rfl, rfl, rfl, rfl, trivial⟩⟩ ?_
  rintro k hk
  obtain rfl | rfl | rfl | rfl : k = 0 ∨ k = 1 ∨ k = 2 ∨ k = 3 := by omega
  · (conv => whnf)
    refine ⟨⟨by decide, by decide⟩, ?_⟩
    (conv => whnf)
    refine ⟨⟨by decide, by decide⟩, ?_⟩
    (conv => whnf)
    refine ⟨⟨by decide, by decide⟩, ?_⟩
    (conv => whnf)
    refine call_i (ref1_Mul m.a.x v.x) ?_
    (conv => whnf)
    refine ⟨⟨by decide, by decide⟩, ?_⟩
    (conv => whnf)
    refine ⟨⟨by decide, by decide⟩, ?_⟩
    (conv => whnf)
    refine ⟨⟨by decide, by decide⟩, ?_⟩
    (conv => whnf)
    refine call_i (ref1_Mul m.a.y v.y) ?_
    (conv => whnf)
    refine call_i (ref1_Add _ _) ?_
    (conv => whnf)
    refine ⟨⟨by decide, by decide⟩, ?_⟩
    (conv => whnf)
    refine ⟨⟨by decide, by decide⟩, ?_⟩
    (conv => whnf)
    refine ⟨⟨by decide, by decide⟩, ?_⟩
    (conv => whnf)
    refine call_i (ref1_Mul m.a.z v.z) ?_
    (conv => whnf)
    refine call_i (ref1_Add _ _) ?_
    (conv => whnf)
    refine ⟨⟨by decide, by decide⟩, ?_⟩
    (conv => whnf)
    exact ⟨1, [], by decide, by decide, ⟨⟨rfl, rfl, rfl, rfl, eqI (by decide), trivial⟩, ⟨rfl, rfl, rfl, rfl, trivial⟩⟩⟩
  · (conv => whnf)
    refine ⟨⟨by decide, by decide⟩, ?_⟩
    (conv => whnf)
    refine ⟨⟨by decide, by decide⟩, ?_⟩
    (conv => whnf)
    refine ⟨⟨by decide, by decide⟩, ?_⟩
    (conv => whnf)
    refine call_i (ref1_Mul m.b.x v.x) ?_
    (conv => whnf)
    refine ⟨⟨by decide, by decide⟩, ?_⟩
    (conv => whnf)
    refine ⟨⟨by decide, by decide⟩, ?_⟩
    (conv => whnf)
    refine ⟨⟨by decide, by decide⟩, ?_⟩
    (conv => whnf)
    refine call_i (ref1_Mul m.b.y v.y) ?_
    (conv => whnf)
    refine call_i (ref1_Add _ _) ?_
    (conv => whnf)
    refine ⟨⟨by decide, by decide⟩, ?_⟩
    (conv => whnf)
    refine ⟨⟨by decide, by decide⟩, ?_⟩
    (conv => whnf)
    refine ⟨⟨by decide, by decide⟩, ?_⟩
    (conv => whnf)
    refine call_i (ref1_Mul m.b.z v.z) ?_
    (conv => whnf)
    refine call_i (ref1_Add _ _) ?_
    (conv => whnf)
    refine ⟨⟨by decide, by decide⟩, ?_⟩
    (conv => whnf)
    exact ⟨2, [], by decide, by decide, ⟨⟨rfl, rfl, rfl, rfl, eqI (by decide), trivial⟩, ⟨rfl, rfl, rfl, rfl, trivial⟩⟩⟩
  · (conv => whnf)
    refine ⟨⟨by decide, by decide⟩, ?_⟩
    (conv => whnf)
    refine ⟨⟨by decide, by decide⟩, ?_⟩
    (conv => whnf)
    refine ⟨⟨by decide, by decide⟩, ?_⟩
    (conv => whnf)
    refine call_i (ref1_Mul m.c.x v.x) ?_
    (conv => whnf)
    refine ⟨⟨by decide, by decide⟩, ?_⟩
    (conv => whnf)
    refine ⟨⟨by decide, by decide⟩, ?_⟩
    (conv => whnf)
    refine ⟨⟨by decide, by decide⟩, ?_⟩
    (conv => whnf)
    refine call_i (ref1_Mul m.c.y v.y) ?_
    (conv => whnf)
    refine call_i (ref1_Add _ _) ?_
    (conv => whnf)
    refine ⟨⟨by decide, by decide⟩, ?_⟩
    (conv => whnf)
    refine ⟨⟨by decide, by decide⟩, ?_⟩
    (conv => whnf)
    refine ⟨⟨by decide, by decide⟩, ?_⟩
    (conv => whnf)
    refine call_i (ref1_Mul m.c.z v.z) ?_
    (conv => whnf)
    refine call_i (ref1_Add _ _) ?_
    (conv => whnf)
    refine ⟨⟨by decide, by decide⟩, ?_⟩
    (conv => whnf)
    exact ⟨3, [], by decide, by decide, ⟨⟨rfl, rfl, rfl, rfl, eqI (by decide), trivial⟩, ⟨rfl, rfl, rfl, rfl, trivial⟩⟩⟩
  · (conv => whnf)
    (conv => whnf)
    refine ret0 ?_
    exact ⟨[], ⟨rfl, trivial⟩, trivial⟩
set_option maxHeartbeats 8000000 in
theorem ref1_ComposeMat (a b : IM) : FnOk Try.prog F.ref1_ComposeMat [IvM a, IvM b] [] 0 (IvM (comM a b)) [] 0 := by
  refine fnOk tab mix G.ref1_ComposeMat rfl rfl (by kernel_rfl) rfl rfl ?_
  (conv => whnf)
  refine loop_intro (fun k : Nat => ⟨[(2, .one (.vptr 0 0)), (3, .one (.vptr 1 0)), (4, .one (.vptr 2 0)), (5, .one (.vptr 3 0)), (6, I k)], [(0, .vars Y.IMat (c18 a)), (1, .vars Y.IMat (c18 b)), (2, .vars Y.IMat z18), (3, .vars Y.IMat (coS a b (3 * k)))], 4⟩) (fun k => k ≤ 3) (fun k => 3 - k) [] 0 [] (by decide) ⟨⟨rfl, rfl, rfl, rfl, rfl, trivial⟩, ⟨rfl, rfl, rfl, rfl, trivial⟩⟩ ?_
  rintro k hk
  obtain rfl | rfl | rfl | rfl : k = 0 ∨ k = 1 ∨ k = 2 ∨ k = 3 := by omega
  · (conv => whnf)
    refine loop_intro (fun k : Nat => ⟨[(2, .one (.vptr 0 0)), (3, .one (.vptr 1 0)), (4, .one (.vptr 2 0)), (5, .one (.vptr 3 0)), (6, I 0), (7, I k)], [(0, .vars Y.IMat (c18 a)), (1, .vars Y.IMat (c18 b)), (2, .vars Y.IMat z18), (3, .vars Y.IMat (coS a b (3 * 0 + k)))], 4⟩) (fun k => k ≤ 3) (fun k => 3 - k) [] 0 [] (by decide) ⟨⟨rfl, rfl, rfl, rfl, rfl, rfl, trivial⟩, ⟨rfl, rfl, rfl, rfl, trivial⟩⟩ ?_
    rintro k hk
    obtain rfl | rfl | rfl | rfl : k = 0 ∨ k = 1 ∨ k = 2 ∨ k = 3 := by omega
    · (conv => whnf)
      refine ⟨⟨by decide, by decide⟩, ?_⟩
      (conv => whnf)
      refine ⟨⟨by decide, by decide⟩, ?_⟩
      (conv => whnf)
      refine ⟨⟨by decide, by decide⟩, ?_⟩
      (conv => whnf)
      refine ⟨⟨by decide, by decide⟩, ?_⟩
      (conv => whnf)
      refine call_i (ref1_Mul a.a.x b.a.x) ?_
      (conv => whnf)
      refine ⟨⟨by decide, by decide⟩, ?_⟩
      (conv => whnf)
      refine ⟨⟨by decide, by decide⟩, ?_⟩
      (conv => whnf)
      refine ⟨⟨by decide, by decide⟩, ?_⟩
      (conv => whnf)
      refine ⟨⟨by decide, by decide⟩, ?_⟩
      (conv => whnf)
      refine call_i (ref1_Mul a.a.y b.b.x) ?_
      (conv => whnf)
      refine call_i (ref1_Add _ _) ?_
      (conv => whnf)
      refine ⟨⟨by decide, by decide⟩, ?_⟩
      (conv => whnf)
      refine ⟨⟨by decide, by decide⟩, ?_⟩
      (conv => whnf)
      refine ⟨⟨by decide, by decide⟩, ?_⟩
      (conv => whnf)
      refine ⟨⟨by decide, by decide⟩, ?_⟩
      (conv => whnf)
      refine call_i (ref1_Mul a.a.z b.c.x) ?_
      (conv => whnf)
      refine call_i (ref1_Add _ _) ?_
      (conv => whnf)
      refine ⟨⟨by decide, by decide⟩, ?_⟩
      (conv => whnf)
      refine ⟨⟨by decide, by decide⟩, ?_⟩
      (conv => whnf)
      exact ⟨1, [], by decide, by decide, ⟨⟨rfl, rfl, rfl, rfl, rfl, eqI (by decide), trivial⟩, ⟨rfl, rfl, rfl, rfl, trivial⟩⟩⟩
    · (conv => whnf)
      refine ⟨⟨by decide, by decide⟩, ?_⟩
      (conv => whnf)
      refine ⟨⟨by decide, by decide⟩, ?_⟩
      (conv => whnf)
      refine ⟨⟨by decide, by decide⟩, ?_⟩
      (conv => whnf)
      refine ⟨⟨by decide, by decide⟩, ?_⟩
      (conv => whnf)
      refine call_i (ref1_Mul a.a.x b.a.y) ?_
      (conv => whnf)
      refine ⟨⟨by decide, by decide⟩, ?_⟩
      (conv => whnf)
      refine ⟨⟨by decide, by decide⟩, ?_⟩
      (conv => whnf)
      refine ⟨⟨by decide, by decide⟩, ?_⟩
      (conv => whnf)
      refine ⟨⟨by decide, by decide⟩, ?_⟩
      (conv => whnf)
      refine call_i (ref1_Mul a.a.y b.b.y) ?_
      (conv => whnf)
      refine call_i (ref1_Add _ _) ?_
      (conv => whnf)
      refine ⟨⟨by decide, by decide⟩, ?_⟩
      (conv => whnf)
      refine ⟨⟨by decide, by decide⟩, ?_⟩
      (conv => whnf)
      refine ⟨⟨by decide, by decide⟩, ?_⟩
      (conv => whnf)
      refine ⟨⟨by decide, by decide⟩, ?_⟩
      (conv => whnf)
      refine call_i (ref1_Mul a.a.z b.c.y) ?_
      (conv => whnf)
      refine call_i (ref1_Add _ _) ?_
      (conv => whnf)
      refine ⟨⟨by decide, by decide⟩, ?_⟩
      (conv => whnf)
      refine ⟨⟨by decide, by decide⟩, ?_⟩
      (conv => whnf)
      exact ⟨2, [], by decide, by decide, ⟨⟨rfl, rfl, rfl, rfl, rfl, eqI (by decide), trivial⟩, ⟨rfl, rfl, rfl, rfl, trivial⟩⟩⟩
    · (conv => whnf)
      refine ⟨⟨by decide, by decide⟩, ?_⟩
      (conv => whnf)
      refine ⟨⟨by decide, by decide⟩, ?_⟩
      (conv => whnf)
      refine ⟨⟨by decide, by decide⟩, ?_⟩
      (conv => whnf)
      refine ⟨⟨by decide, by decide⟩, ?_⟩
      (conv => whnf)
      refine call_i (ref1_Mul a.a.x b.a.z) ?_
      (conv => whnf)
      refine ⟨⟨by decide, by decide⟩, ?_⟩
      (conv => whnf)
      refine ⟨⟨by decide, by decide⟩, ?_⟩
      (conv => whnf)
      refine ⟨⟨by decide, by decide⟩, ?_⟩
      (conv => whnf)
      refine ⟨⟨by decide, by decide⟩, ?_⟩
      (conv => whnf)
      refine call_i (ref1_Mul a.a.y b.b.z) ?_
      (conv => whnf)
      refine call_i (ref1_Add _ _) ?_
      (conv => whnf)
      refine ⟨⟨by decide, by decide⟩, ?_⟩
      (conv => whnf)
      refine ⟨⟨by decide, by decide⟩, ?_⟩
      (conv => whnf)
      refine ⟨⟨by decide, by decide⟩, ?_⟩
      (conv => whnf)
      refine ⟨⟨by decide, by decide⟩, ?_⟩
      (conv => whnf)
      refine call_i (ref1_Mul a.a.z b.c.z) ?_
      (conv => whnf)
      refine call_i (ref1_Add _ _) ?_
      (conv => whnf)
      refine ⟨⟨by decide, by decide⟩, ?_⟩
      (conv => whnf)
      refine ⟨⟨by decide, by decide⟩, ?_⟩
      (conv => whnf)
      exact ⟨3, [], by decide, by decide, ⟨⟨rfl, rfl, rfl, rfl, rfl, eqI (by decide), trivial⟩, ⟨rfl, rfl, rfl, rfl, trivial⟩⟩⟩
    · (conv => whnf)
      exact ⟨1, [], by decide, by decide, ⟨⟨rfl, rfl, rfl, rfl, eqI (by decide), trivial⟩, ⟨rfl, rfl, rfl, rfl, trivial⟩⟩⟩
  · (conv => whnf)
    refine loop_intro (fun k : Nat => ⟨[(2, .one (.vptr 0 0)), (3, .one (.vptr 1 0)), (4, .one (.vptr 2 0)), (5, .one (.vptr 3 0)), (6, I 1), (7, I k)], [(0, .vars Y.IMat (c18 a)), (1, .vars Y.IMat (c18 b)), (2, .vars Y.IMat z18), (3, .vars Y.IMat (coS a b (3 * 1 + k)))], 4⟩) (fun k => k ≤ 3) (fun k => 3 - k) [] 0 [] (by decide) ⟨⟨rfl, rfl, rfl, rfl, rfl, rfl, trivial⟩, ⟨rfl, rfl, rfl, rfl, trivial⟩⟩ ?_
    rintro k hk
    obtain rfl | rfl | rfl | rfl : k = 0 ∨ k = 1 ∨ k = 2 ∨ k = 3 := by omega
    · (conv => whnf)
      refine ⟨⟨by decide, by decide⟩, ?_⟩
      (conv => whnf)
      refine ⟨⟨by decide, by decide⟩, ?_⟩
      (conv => whnf)
      refine ⟨⟨by decide, by decide⟩, ?_⟩
      (conv => whnf)
      refine ⟨⟨by decide, by decide⟩, ?_⟩
      (conv => whnf)
      refine call_i (ref1_Mul a.b.x b.a.x) ?_
      (conv => whnf)
      refine ⟨⟨by decide, by decide⟩, ?_⟩
      (conv => whnf)
      refine ⟨⟨by decide, by decide⟩, ?_⟩
      (conv => whnf)
      refine ⟨⟨by decide, by decide⟩, ?_⟩
      (conv => whnf)
      refine ⟨⟨by decide, by decide⟩, ?_⟩
      (conv => whnf)
      refine call_i (ref1_Mul a.b.y b.b.x) ?_
      (conv => whnf)
      refine call_i (ref1_Add _ _) ?_
      (conv => whnf)
      refine ⟨⟨by decide, by decide⟩, ?_⟩
      (conv => whnf)
      refine ⟨⟨by decide, by decide⟩, ?_⟩
      (conv => whnf)
      refine ⟨⟨by decide, by decide⟩, ?_⟩
      (conv => whnf)
      refine ⟨⟨by decide, by decide⟩, ?_⟩
      (conv => whnf)
      refine call_i (ref1_Mul a.b.z b.c.x) ?_
      (conv => whnf)
      refine call_i (ref1_Add _ _) ?_
      (conv => whnf)
      refine ⟨⟨by decide, by decide⟩, ?_⟩
      (conv => whnf)
      refine ⟨⟨by decide, by decide⟩, ?_⟩
      (conv => whnf)
      exact ⟨1, [], by decide, by decide, ⟨⟨rfl, rfl, rfl, rfl, rfl, eqI (by decide), trivial⟩, ⟨rfl, rfl, rfl, rfl, trivial⟩⟩⟩
    · (conv => whnf)
      refine ⟨⟨by decide, by decide⟩, ?_⟩
      (conv => whnf)
      refine ⟨⟨by decide, by decide⟩, ?_⟩
      (conv => whnf)
      refine ⟨⟨by decide, by decide⟩, ?_⟩
      (conv => whnf)
      refine ⟨⟨by decide, by decide⟩, ?_⟩
      (conv => whnf)
      refine call_i (ref1_Mul a.b.x b.a.y) ?_
      (conv => whnf)
      refine ⟨⟨by decide, by decide⟩, ?_⟩
      (conv => whnf)
      refine ⟨⟨by decide, by decide⟩, ?_⟩
      (conv => whnf)
      refine ⟨⟨by decide, by decide⟩, ?_⟩
      (conv => whnf)
      refine ⟨⟨by decide, by decide⟩, ?_⟩
      (conv => whnf)
      refine call_i (ref1_Mul a.b.y b.b.y) ?_
      (conv => whnf)
      refine call_i (ref1_Add _ _) ?_
      (conv => whnf)
      refine ⟨⟨by decide, by decide⟩, ?_⟩
      (conv => whnf)
      refine ⟨⟨by decide, by decide⟩, ?_⟩
      (conv => whnf)
      refine ⟨⟨by decide, by decide⟩, ?_⟩
      (conv => whnf)
      refine ⟨⟨by decide, by decide⟩, ?_⟩
      (conv => whnf)
      refine call_i (ref1_Mul a.b.z b.c.y) ?_
      (conv => whnf)
      refine call_i (ref1_Add _ _) ?_
      (conv => whnf)
      refine ⟨⟨by decide, by decide⟩, ?_⟩
      (conv => whnf)
      refine ⟨⟨by decide, by decide⟩, ?_⟩
      (conv => whnf)
      exact ⟨2, [], by decide, by decide, ⟨⟨rfl, rfl, rfl, rfl, rfl, eqI (by decide), trivial⟩, ⟨rfl, rfl, rfl, rfl, trivial⟩⟩⟩
    · (conv => whnf)
      refine ⟨⟨by decide, by decide⟩, ?_⟩
      (conv => whnf)
      refine ⟨⟨by decide, by decide⟩, ?_⟩
      (conv => whnf)
      refine ⟨⟨by decide, by decide⟩, ?_⟩
      (conv => whnf)
      refine ⟨⟨by decide, by decide⟩, ?_⟩
      (conv => whnf)
      refine call_i (ref1_Mul a.b.x b.a.z) ?_
      (conv => whnf)
      refine ⟨⟨by decide, by decide⟩, ?_⟩
      (conv => whnf)
      refine ⟨⟨by decide, by decide⟩, ?_⟩
      (conv => whnf)
      refine ⟨⟨by decide, by decide⟩, ?_⟩
      (conv => whnf)
      refine ⟨⟨by decide, by decide⟩, ?_⟩
      (conv => whnf)
      refine call_i (ref1_Mul a.b.y b.b.z) ?_
      (conv => whnf)
      refine call_i (ref1_Add _ _) ?_
      (conv => whnf)
      refine ⟨⟨by decide, by decide⟩, ?_⟩
      (conv => whnf)
      refine ⟨⟨by decide, by decide⟩, ?_⟩
      (conv => whnf)
      refine ⟨⟨by decide, by decide⟩, ?_⟩
      (conv => whnf)
      refine ⟨⟨by decide, by decide⟩, ?_⟩
      (conv => whnf)
      refine call_i (ref1_Mul a.b.z b.c.z) ?_
      (conv => whnf)
      refine call_i (ref1_Add _ _) ?_
      (conv => whnf)
      refine ⟨⟨by decide, by decide⟩, ?_⟩
      (conv => whnf)
      refine ⟨⟨by decide, by decide⟩, ?_⟩
      (conv => whnf)
      exact ⟨3, [], by decide, by decide, ⟨⟨rfl, rfl, rfl, rfl, rfl, eqI (by decide), trivial⟩, ⟨rfl, rfl, rfl, rfl, trivial⟩⟩⟩
    · (conv => whnf)
      exact ⟨2, [], by decide, by decide, ⟨⟨rfl, rfl, rfl, rfl, eqI (by decide), trivial⟩, ⟨rfl, rfl, rfl, rfl, trivial⟩⟩⟩
  · (conv => whnf)
    refine loop_intro (fun k : Nat => ⟨[(2, .one (.vptr 0 0)), (3, .one (.vptr 1 0)), (4, .one (.vptr 2 0)), (5, .one (.vptr 3 0)), (6, I 2), (7, I k)], [(0, .vars Y.IMat (c18 a)), (1, .vars Y.IMat (c18 b)), (2, .vars Y.IMat z18), (3, .vars Y.IMat (coS a b (3 * 2 + k)))], 4⟩) (fun k => k ≤ 3) (fun k => 3 - k) [] 0 [] (by decide) ⟨⟨rfl, rfl, rfl, rfl, rfl, rfl, trivial⟩, ⟨rfl, rfl, rfl, rfl, trivial⟩⟩ ?_
    rintro k hk
    obtain rfl | rfl | rfl | rfl : k = 0 ∨ k = 1 ∨ k = 2 ∨ k = 3 := by omega
    · (conv => whnf)
      refine ⟨⟨by decide, by decide⟩, ?_⟩
      (conv => whnf)
      refine ⟨⟨by decide, by decide⟩, ?_⟩
      (conv => whnf)
      refine ⟨⟨by decide, by decide⟩, ?_⟩
      (conv => whnf)
      refine ⟨⟨by decide, by decide⟩, ?_⟩
      (conv => whnf)
      refine call_i (ref1_Mul a.c.x b.a.x) ?_
      (conv => whnf)
      refine ⟨⟨by decide, by decide⟩, ?_⟩
      (conv => whnf)
      refine ⟨⟨by decide, by decide⟩, ?_⟩
      (conv => whnf)
      refine ⟨⟨by decide, by decide⟩, ?_⟩
      (conv => whnf)
      refine ⟨⟨by decide, by decide⟩, ?_⟩
      (conv => whnf)
      refine call_i (ref1_Mul a.c.y b.b.x) ?_
      (conv => whnf)
      refine call_i (ref1_Add _ _) ?_
      (conv => whnf)
      refine ⟨⟨by decide, by decide⟩, ?_⟩
      (conv => whnf)
      refine ⟨⟨by decide, by decide⟩, ?_⟩
      (conv => whnf)
      refine ⟨⟨by decide, by decide⟩, ?_⟩
      (conv => whnf)
      refine ⟨⟨by decide, by decide⟩, ?_⟩
      (conv => whnf)
      refine call_i (ref1_Mul a.c.z b.c.x) ?_
      (conv => whnf)
      refine call_i (ref1_Add _ _) ?_
      (conv => whnf)
      refine ⟨⟨by decide, by decide⟩, ?_⟩
      (conv => whnf)
      refine ⟨⟨by decide, by decide⟩, ?_⟩
      (conv => whnf)
      exact ⟨1, [], by decide, by decide, ⟨⟨rfl, rfl, rfl, rfl, rfl, eqI (by decide), trivial⟩, ⟨rfl, rfl, rfl, rfl, trivial⟩⟩⟩
    · (conv => whnf)
      refine ⟨⟨by decide, by decide⟩, ?_⟩
      (conv => whnf)
      refine ⟨⟨by decide, by decide⟩, ?_⟩
      (conv => whnf)
      refine ⟨⟨by decide, by decide⟩, ?_⟩
      (conv => whnf)
      refine ⟨⟨by decide, by decide⟩, ?_⟩
      (conv => whnf)
      refine call_i (ref1_Mul a.c.x b.a.y) ?_
      (conv => whnf)
      refine ⟨⟨by decide, by decide⟩, ?_⟩
      (conv => whnf)
      refine ⟨⟨by decide, by decide⟩, ?_⟩
      (conv => whnf)
      refine ⟨⟨by decide, by decide⟩, ?_⟩
      (conv => whnf)
      refine ⟨⟨by decide, by decide⟩, ?_⟩
      (conv => whnf)
      refine call_i (ref1_Mul a.c.y b.b.y) ?_
      (conv => whnf)
      refine call_i (ref1_Add _ _) ?_
      (conv => whnf)
      refine ⟨⟨by decide, by decide⟩, ?_⟩
      (conv => whnf)
      refine ⟨⟨by decide, by decide⟩, ?_⟩
      (conv => whnf)
      refine ⟨⟨by decide, by decide⟩, ?_⟩
      (conv => whnf)
      refine ⟨⟨by decide, by decide⟩, ?_⟩
      (conv => whnf)
      refine call_i (ref1_Mul a.c.z b.c.y) ?_
      (conv => whnf)
      refine call_i (ref1_Add _ _) ?_
      (conv => whnf)
      refine ⟨⟨by decide, by decide⟩, ?_⟩
      (conv => whnf)
      refine ⟨⟨by decide, by decide⟩, ?_⟩
      (conv => whnf)
      exact ⟨2, [], by decide, by decide, ⟨⟨rfl, rfl, rfl, rfl, rfl, eqI (by decide), trivial⟩, ⟨rfl, rfl, rfl, rfl, trivial⟩⟩⟩
    · (conv => whnf)
      refine ⟨⟨by decide, by decide⟩, ?_⟩
      (conv => whnf)
      refine ⟨⟨by decide, by decide⟩, ?_⟩
      (conv => whnf)
      refine ⟨⟨by decide, by decide⟩, ?_⟩
      (conv => whnf)
      refine ⟨⟨by decide, by decide⟩, ?_⟩
      (conv => whnf)
      refine call_i (ref1_Mul a.c.x b.a.z) ?_
      (conv => whnf)
      refine ⟨⟨by decide, by decide⟩, ?_⟩
      (conv => whnf)
      refine ⟨⟨by decide, by decide⟩, ?_⟩
      (conv => whnf)
      refine ⟨⟨by decide, by decide⟩, ?_⟩
      (conv => whnf)
      refine ⟨⟨by decide, by decide⟩, ?_⟩
      (conv => whnf)
      refine call_i (ref1_Mul a.c.y b.b.z) ?_
      (conv => whnf)
      refine call_i (ref1_Add _ _) ?_
      (conv => whnf)
      refine ⟨⟨by decide, by decide⟩, ?_⟩
      (conv => whnf)
      refine ⟨⟨by decide, by decide⟩, ?_⟩
      (conv => whnf)
      refine ⟨⟨by decide, by decide⟩, ?_⟩
      (conv => whnf)
      refine ⟨⟨by decide, by decide⟩, ?_⟩
      (conv => whnf)
      refine call_i (ref1_Mul a.c.z b.c.z) ?_
      (conv => whnf)
      refine call_i (ref1_Add _ _) ?_
      (conv => whnf)
      refine ⟨⟨by decide, by decide⟩, ?_⟩
      (conv => whnf)
      refine ⟨⟨by decide, by decide⟩, ?_⟩
      (conv => whnf)
      exact ⟨3, [], by decide, by decide, ⟨⟨rfl, rfl, rfl, rfl, rfl, eqI (by decide), trivial⟩, ⟨rfl, rfl, rfl, rfl, trivial⟩⟩⟩
    · (conv => whnf)
      exact ⟨3, [], by decide, by decide, ⟨⟨rfl, rfl, rfl, rfl, eqI (by decide), trivial⟩, ⟨rfl, rfl, rfl, rfl, trivial⟩⟩⟩
  · (conv => whnf)
    (conv => whnf)
    refine ret0 ?_
    exact ⟨[], ⟨rfl, trivial⟩, trivial⟩
theorem ref1_Compose (a b : Ps) : FnOk Try.prog F.ref1_Compose [IvP a, IvP b] [] 0 (IvP (comP a b)) [] 0 := by
  refine fnOk tab mix G.ref1_Compose rfl rfl (by kernel_rfl) rfl rfl ?_
  (conv => whnf)
  refine call_i (ref1_ComposeMat a.r b.r) ?_
  (conv => whnf)
  refine call_i (ref1_ApplyMat a.r b.t) ?_
  (conv => whnf)
  refine call_i (ref1_AddVec a.t (appM a.r b.t)) ?_
  (conv => whnf)
  (conv => whnf)
  refine ret0 ?_
  exact ⟨[], ⟨rfl, trivial⟩, trivial⟩
theorem ref1_Apply (p : Ps) (v : IV) : FnOk Try.prog F.ref1_Apply [IvP p, IvV v] [] 0 (IvV (appP p v)) [] 0 := by
  refine fnOk tab mix G.ref1_Apply rfl rfl (by kernel_rfl) rfl rfl ?_
  (conv => whnf)
  refine call_i (ref1_ApplyMat p.r v) ?_
  (conv => whnf)
  refine call_i (ref1_AddVec p.t (appM p.r v)) ?_
  (conv => whnf)
  (conv => whnf)
  refine ret0 ?_
  exact ⟨[], ⟨rfl, trivial⟩, trivial⟩
end Go.Proofs.Ythdbdokhncaijaa
