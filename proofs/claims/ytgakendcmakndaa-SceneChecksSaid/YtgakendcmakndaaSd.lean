/- law9: changed, SceneChecks. -/
import Derived.Test.YtgakendcmakndaaSc
import Derived.Test.YtgakendcmakndaaRk2
import Derived.Test.YtgakendcmakndaaTy2
namespace Go.Proofs.Ytgakendcmakndaa
open Eng
set_option maxRecDepth 10000
attribute [local irreducible] FnOk loopW idxF retX arrF

structure Few (s : Scene) : Prop where
  sh1 : 1 ≤ s.shapes.length
  sh : s.shapes.length ≤ 24
  sk : s.skips.length ≤ 64
  pt : ∀ x ∈ s.shapes, x.points.length ≤ 8
  js : s.robot.joints.length ≤ 1000
  ms : s.robot.masses.length ≤ 1000
def radTab : List Int := [0, 1, 1048576, 1048577, -1]
def lenTab : List Int := [4194304, 4194305, -4194304, -4194305]
theorem arr_int {te : TI} {tb : List Int} {i : Nat} {x : Int} {k : SV → Prop} (ha : te.kind.agg = false) (hs : te.size = 1) (hc : tb[i]? = some x) (h : k (I x)) : arrF te (tb.map fun x => CV.dv (.int .i64 x)) i k :=
  arr_at ha hs (by rw [List.getElem?_map, hc]; rfl) h
theorem tab_at {tb : List Int} {v : Int} {n : Nat} (hn : tb.length = n) (h0 : 0 ≤ v) (h1 : v < n) : tb[v.toNat]? = some (tb.getD v.toNat 0) := by
  have h : v.toNat < tb.length := by omega
  rw [List.getD_eq_getElem?_getD, List.getElem?_eq_getElem h]; rfl
theorem small_few {s : Scene} (h1 : s.shapes.length ≤ 1000) (h2 : s.skips.length ≤ 1000) (h3 : ∀ x ∈ s.shapes, x.points.length ≤ 1000) (h4 : s.robot.joints.length ≤ 1000) (h5 : s.robot.masses.length ≤ 1000) : small s :=
  ⟨by omega, by omega, by omega, by omega, fun x hx => by have := h3 x hx; omega⟩
abbrev bSk (l : List Skip) : Box := .rows Y.Skip 2 (l.map encSk)
abbrev bShs (l : List Shape) : Box := .rows Y.Shape 3 (l.map encSh)
theorem set_enc {xs : List Shape} {k : Nat} {y : Shape} {r : List DV} (h : r = encSh y) : (xs.map encSh).set k r = (xs.set k y).map encSh := by rw [h, List.map_set]
theorem set_pts {xs : List Shape} {k : Nat} {y : Shape} {m : Nat} (h : ∀ x ∈ xs, x.points.length ≤ m) (hy : y.points.length ≤ m) : ∀ x ∈ xs.set k y, x.points.length ≤ m := fun x hx => by
  rcases List.mem_or_eq_of_mem_set hx with hx | rfl
  · exact h x hx
  · exact hy
theorem few_small {s c : Scene} (hf : Few s) (h0 : c.robot = s.robot) (h1 : c.shapes.length ≤ 25) (h2 : c.skips.length ≤ 65) (h3 : ∀ x ∈ c.shapes, x.points.length ≤ 10) : c.robot = s.robot ∧ small c ∧ c.shapes.length ≤ 25 ∧ c.skips.length ≤ 65 :=
  ⟨h0, small_few (by omega) (by omega) (fun x hx => by have := h3 x hx; omega) (by rw [h0]; exact hf.js) (by rw [h0]; exact hf.ms), h1, h2⟩
abbrev vSh (x : Shape) : Box := .vars Y.Shape [.dv (.int .i64 x.link), .dv (.int .i64 x.radius), .dv (dVs x.points)]
set_option maxHeartbeats 4000000 in
theorem law9_changed (s : Scene) (how at_ v : Int) (hf : Few s) : ∃ c : Scene, c.robot = s.robot ∧ small c ∧ c.shapes.length ≤ 25 ∧ c.skips.length ≤ 65 ∧ FnOk Try.prog F.law9_changed [Sc s, I how, I at_, I v] [] 0 (Sc c) [] 0 := by
  have hf' := hf
  obtain ⟨f1, f2, f3, f4, f5, f6⟩ := hf
  have hk0 := Int.emod_nonneg at_ (b := (s.shapes.length : Int)) (by omega)
  have hk1 := Int.emod_lt_of_pos at_ (b := (s.shapes.length : Int)) (by omega)
  obtain ⟨k, hk⟩ : ∃ k : Nat, at_ % (s.shapes.length : Int) = k := ⟨(at_ % (s.shapes.length : Int)).toNat, by omega⟩
  have hks : k < s.shapes.length := by omega
  obtain ⟨x, hx⟩ : ∃ x, s.shapes[k]? = some x := ⟨_, List.getElem?_eq_getElem hks⟩
  have hxp := f4 x (List.mem_of_getElem? hx)
  have h0 := Int.emod_nonneg how (b := (8 : Int)) (by decide)
  have h8 := Int.emod_lt_of_pos how (b := (8 : Int)) (by decide)
  have hsame : s.shapes.set k x = s.shapes := by
    obtain ⟨h1, h2⟩ := List.getElem?_eq_some_iff.1 hx
    rw [← h2, List.set_getElem_self]
  rcases (show how % 8 = 0 ∨ how % 8 = 1 ∨ how % 8 = 2 ∨ how % 8 = 3 ∨ how % 8 = 4 ∨ how % 8 = 5 ∨ how % 8 = 6 ∨ how % 8 = 7 by omega) with e | e | e | e | e | e | e | e
  · refine ⟨⟨s.robot, s.shapes.set k { x with link := v % 6 - 2 }, s.skips⟩, ?_⟩
    have hF := few_small (c := ⟨s.robot, s.shapes.set k { x with link := v % 6 - 2 }, s.skips⟩) hf' rfl (by simp; omega) (by simp only; omega) (set_pts (m := 10) (fun y hy => by have := f4 y hy; omega) (by simp only; omega))
    refine ⟨hF.1, hF.2.1, hF.2.2.1, hF.2.2.2, ?_⟩
    refine fnOkG [(1000051, [.frz 6]), (1000064, [.frz 8])] tab mix G.law9_changed rfl rfl (by kernel_rfl) rfl rfl ?_
    (conv => whnf)
    refine ⟨⟨by simp; omega, by simp; omega⟩, ?_⟩
    (conv => whnf)
    refine ⟨⟨by simp; omega, by simp; omega⟩, ?_⟩
    (conv => whnf)
    rw [List.length_map]
    refine call_i (mk_Round at_ s.shapes.length (by omega) (by omega)) ?_
    (conv => whnf)
    rw [hk]
    refine ⟨⟨by omega, by simp; omega⟩, ?_⟩
    (conv => whnf)
    refine idx_map (by simpa using hx) ?_
    (conv => whnf)
    refine call_i (mk_Round how 8 (by decide) (by decide)) ?_
    (conv => whnf)
    rw [e]
    (conv => whnf)
    refine call_i (mk_Round v 6 (by decide) (by decide)) ?_
    (conv => whnf)
    rw [w64 (x := v % 6 - 2) (by omega) (by omega)]
    refine ⟨⟨by omega, by simp; omega⟩, ?_⟩
    (conv => whnf)
    refine idx_map (by simpa using hx) ?_
    (conv => whnf)
    (conv => whnf)
    refine retO [.frz 2, .frz 3] ?_
    (conv => whnf)
    exact ⟨[], ⟨congrArg (fun l => SV.agg [.dv (dJs s.robot.joints), .dv (dMs s.robot.masses), .dv (.lst 3 l), .dv (dSks s.skips)]) (set_enc (xs := s.shapes) (k := k) (y := { x with link := v % 6 - 2 }) rfl), trivial⟩, trivial⟩
  · refine ⟨⟨s.robot, s.shapes.set k { x with radius := radTab.getD (v % 5).toNat 0 }, s.skips⟩, ?_⟩
    have hF := few_small (c := ⟨s.robot, s.shapes.set k { x with radius := radTab.getD (v % 5).toNat 0 }, s.skips⟩) hf' rfl (by simp; omega) (by simp only; omega) (set_pts (m := 10) (fun y hy => by have := f4 y hy; omega) (by simp only; omega))
    refine ⟨hF.1, hF.2.1, hF.2.2.1, hF.2.2.2, ?_⟩
    refine fnOkG [(1000051, [.frz 6]), (1000064, [.frz 8])] tab mix G.law9_changed rfl rfl (by kernel_rfl) rfl rfl ?_
    (conv => whnf)
    refine ⟨⟨by simp; omega, by simp; omega⟩, ?_⟩
    (conv => whnf)
    refine ⟨⟨by simp; omega, by simp; omega⟩, ?_⟩
    (conv => whnf)
    rw [List.length_map]
    refine call_i (mk_Round at_ s.shapes.length (by omega) (by omega)) ?_
    (conv => whnf)
    rw [hk]
    refine ⟨⟨by omega, by simp; omega⟩, ?_⟩
    (conv => whnf)
    refine idx_map (by simpa using hx) ?_
    (conv => whnf)
    refine call_i (mk_Round how 8 (by decide) (by decide)) ?_
    (conv => whnf)
    rw [e]
    (conv => whnf)
    refine call_i (mk_Round v 5 (by decide) (by decide)) ?_
    (conv => whnf)
    refine ⟨⟨by omega, by show _ < (5 : Int); omega⟩, ?_⟩
    refine arr_int (tb := radTab) rfl rfl (tab_at (n := 5) rfl (by omega) (by omega)) ?_
    (conv => whnf)
    refine ⟨⟨by omega, by simp; omega⟩, ?_⟩
    (conv => whnf)
    refine idx_map (by simpa using hx) ?_
    (conv => whnf)
    (conv => whnf)
    refine retO [.frz 2, .frz 3] ?_
    (conv => whnf)
    exact ⟨[], ⟨congrArg (fun l => SV.agg [.dv (dJs s.robot.joints), .dv (dMs s.robot.masses), .dv (.lst 3 l), .dv (dSks s.skips)]) (set_enc (xs := s.shapes) (k := k) (y := { x with radius := radTab.getD (v % 5).toNat 0 }) rfl), trivial⟩, trivial⟩
  · refine ⟨⟨s.robot, s.shapes.set k { x with points := List.replicate (v % 10).toNat ⟨0, 0, 0⟩ }, s.skips⟩, ?_⟩
    have hF := few_small (c := ⟨s.robot, s.shapes.set k { x with points := List.replicate (v % 10).toNat ⟨0, 0, 0⟩ }, s.skips⟩) hf' rfl (by simp; omega) (by simp only; omega) (set_pts (m := 10) (fun y hy => by have := f4 y hy; omega) (by simp only [List.length_replicate]; omega))
    refine ⟨hF.1, hF.2.1, hF.2.2.1, hF.2.2.2, ?_⟩
    refine fnOkG [(1000051, [.frz 6]), (1000064, [.frz 8])] tab mix G.law9_changed rfl rfl (by kernel_rfl) rfl rfl ?_
    (conv => whnf)
    refine ⟨⟨by simp; omega, by simp; omega⟩, ?_⟩
    (conv => whnf)
    refine ⟨⟨by simp; omega, by simp; omega⟩, ?_⟩
    (conv => whnf)
    rw [List.length_map]
    refine call_i (mk_Round at_ s.shapes.length (by omega) (by omega)) ?_
    (conv => whnf)
    rw [hk]
    refine ⟨⟨by omega, by simp; omega⟩, ?_⟩
    (conv => whnf)
    refine idx_map (by simpa using hx) ?_
    (conv => whnf)
    refine call_i (mk_Round how 8 (by decide) (by decide)) ?_
    (conv => whnf)
    rw [e]
    (conv => whnf)
    refine call_i (mk_Round v 10 (by decide) (by decide)) ?_
    (conv => whnf)
    refine ⟨⟨by omega, by omega, by show (24 : Int) * _ ≤ _; omega, by omega⟩, ?_⟩
    (conv => whnf)
    refine ⟨⟨by omega, by simp; omega⟩, ?_⟩
    (conv => whnf)
    refine idx_map (by simpa using hx) ?_
    (conv => whnf)
    (conv => whnf)
    refine retO [.frz 2, .frz 3] ?_
    (conv => whnf)
    exact ⟨[], ⟨congrArg (fun l => SV.agg [.dv (dJs s.robot.joints), .dv (dMs s.robot.masses), .dv (.lst 3 l), .dv (dSks s.skips)]) (set_enc (xs := s.shapes) (k := k) (y := { x with points := List.replicate (v % 10).toNat ⟨0, 0, 0⟩ }) (by simp only [encSh, List.map_replicate]; rfl)), trivial⟩, trivial⟩
  · refine ⟨⟨s.robot, s.shapes.set k { x with points := x.points ++ [⟨0, lenTab.getD (v % 4).toNat 0, 0⟩] }, s.skips⟩, ?_⟩
    have hF := few_small (c := ⟨s.robot, s.shapes.set k { x with points := x.points ++ [⟨0, lenTab.getD (v % 4).toNat 0, 0⟩] }, s.skips⟩) hf' rfl (by simp; omega) (by simp only; omega) (set_pts (m := 10) (fun y hy => by have := f4 y hy; omega) (by simp only [List.length_append, List.length_singleton]; omega))
    refine ⟨hF.1, hF.2.1, hF.2.2.1, hF.2.2.2, ?_⟩
    refine fnOkG [(1000051, [.frz 6]), (1000064, [.frz 8])] tab mix G.law9_changed rfl rfl (by kernel_rfl) rfl rfl ?_
    (conv => whnf)
    refine ⟨⟨by simp; omega, by simp; omega⟩, ?_⟩
    (conv => whnf)
    refine ⟨⟨by simp; omega, by simp; omega⟩, ?_⟩
    (conv => whnf)
    rw [List.length_map]
    refine call_i (mk_Round at_ s.shapes.length (by omega) (by omega)) ?_
    (conv => whnf)
    rw [hk]
    refine ⟨⟨by omega, by simp; omega⟩, ?_⟩
    (conv => whnf)
    refine idx_map (by simpa using hx) ?_
    (conv => whnf)
    refine call_i (mk_Round how 8 (by decide) (by decide)) ?_
    (conv => whnf)
    rw [e]
    (conv => whnf)
    refine ⟨⟨by simp; omega, by simp; omega⟩, ?_⟩
    (conv => whnf)
    refine call_i (mk_Round v 4 (by decide) (by decide)) ?_
    (conv => whnf)
    refine ⟨⟨by omega, by show _ < (4 : Int); omega⟩, ?_⟩
    refine arr_int (tb := lenTab) rfl rfl (tab_at (n := 4) rfl (by omega) (by omega)) ?_
    (conv => whnf)
    refine ⟨⟨by simp; omega, by simp; omega⟩, ?_⟩
    (conv => whnf)
    refine ⟨⟨by omega, by simp; omega⟩, ?_⟩
    (conv => whnf)
    refine idx_map (by simpa using hx) ?_
    (conv => whnf)
    (conv => whnf)
    refine retO [.frz 2, .frz 3] ?_
    (conv => whnf)
    exact ⟨[], ⟨congrArg (fun l => SV.agg [.dv (dJs s.robot.joints), .dv (dMs s.robot.masses), .dv (.lst 3 l), .dv (dSks s.skips)]) (set_enc (xs := s.shapes) (k := k) (y := { x with points := x.points ++ [⟨0, lenTab.getD (v % 4).toNat 0, 0⟩] }) (by simp only [encSh, List.map_append]; rfl)), trivial⟩, trivial⟩
  · refine ⟨⟨s.robot, s.shapes, s.skips ++ [⟨v % 5 - 2, IntKind.i64.wrap (v.tdiv 5) % 5 - 2⟩]⟩, ?_⟩
    have hF := few_small (c := ⟨s.robot, s.shapes, s.skips ++ [⟨v % 5 - 2, IntKind.i64.wrap (v.tdiv 5) % 5 - 2⟩]⟩) hf' rfl (by simp; omega) (by simp; omega) (fun y hy => by have := f4 y hy; omega)
    refine ⟨hF.1, hF.2.1, hF.2.2.1, hF.2.2.2, ?_⟩
    refine fnOkG [(1000051, [.frz 6]), (1000064, [.frz 8])] tab mix G.law9_changed rfl rfl (by kernel_rfl) rfl rfl ?_
    (conv => whnf)
    refine ⟨⟨by simp; omega, by simp; omega⟩, ?_⟩
    (conv => whnf)
    refine ⟨⟨by simp; omega, by simp; omega⟩, ?_⟩
    (conv => whnf)
    rw [List.length_map]
    refine call_i (mk_Round at_ s.shapes.length (by omega) (by omega)) ?_
    (conv => whnf)
    rw [hk]
    refine ⟨⟨by omega, by simp; omega⟩, ?_⟩
    (conv => whnf)
    refine idx_map (by simpa using hx) ?_
    (conv => whnf)
    refine call_i (mk_Round how 8 (by decide) (by decide)) ?_
    (conv => whnf)
    rw [e]
    (conv => whnf)
    refine call_i (mk_Round v 5 (by decide) (by decide)) ?_
    (conv => whnf)
    refine ⟨by decide, ?_⟩
    (conv => whnf)
    refine call_i (mk_Round (IntKind.i64.wrap (v.tdiv 5)) 5 (by decide) (by decide)) ?_
    (conv => whnf)
    generalize IntKind.i64.wrap (v.tdiv 5) = u
    rw [w64 (x := v % 5 - 2) (by omega) (by omega), w64 (x := u % 5 - 2) (by omega) (by omega)]
    refine ⟨⟨by simp; omega, by simp; omega⟩, ?_⟩
    (conv => whnf)
    refine ⟨⟨by omega, by simp; omega⟩, ?_⟩
    (conv => whnf)
    refine idx_map (by simpa using hx) ?_
    (conv => whnf)
    (conv => whnf)
    refine retO [.frz 2, .frz 7] ?_
    (conv => whnf)
    refine ⟨[], ⟨?_, trivial⟩, trivial⟩
    have e1 : (s.shapes.map encSh).set k (encSh x) = s.shapes.map encSh := by rw [← List.map_set, hsame]
    have e2 : s.skips.map encSk ++ [encSk ⟨v % 5 - 2, u % 5 - 2⟩] = (s.skips ++ [(⟨v % 5 - 2, u % 5 - 2⟩ : Skip)]).map encSk := by rw [List.map_append]; rfl
    show SV.agg [.dv (dJs s.robot.joints), .dv (dMs s.robot.masses), .dv (.lst 3 ((s.shapes.map encSh).set k (encSh x))), .dv (.lst 2 (s.skips.map encSk ++ [encSk ⟨v % 5 - 2, u % 5 - 2⟩]))] = SV.agg [.dv (dJs s.robot.joints), .dv (dMs s.robot.masses), .dv (dShs s.shapes), .dv (.lst 2 ((s.skips ++ [(⟨v % 5 - 2, u % 5 - 2⟩ : Skip)]).map encSk))]
    rw [e1, e2]
  · refine ⟨⟨s.robot, s.shapes, s.skips ++ List.replicate ((64 + v % 2).toNat - s.skips.length) ⟨0, 0⟩⟩, ?_⟩
    have hF := few_small (c := ⟨s.robot, s.shapes, s.skips ++ List.replicate ((64 + v % 2).toNat - s.skips.length) ⟨0, 0⟩⟩) hf' rfl (by simp; omega) (by simp; omega) (fun y hy => by have := f4 y hy; omega)
    refine ⟨hF.1, hF.2.1, hF.2.2.1, hF.2.2.2, ?_⟩
    refine fnOkG [(1000051, [.frz 6]), (1000064, [.frz 8])] tab mix G.law9_changed rfl rfl (by kernel_rfl) rfl rfl ?_
    (conv => whnf)
    refine ⟨⟨by simp; omega, by simp; omega⟩, ?_⟩
    (conv => whnf)
    refine ⟨⟨by simp; omega, by simp; omega⟩, ?_⟩
    (conv => whnf)
    rw [List.length_map]
    refine call_i (mk_Round at_ s.shapes.length (by omega) (by omega)) ?_
    (conv => whnf)
    rw [hk]
    refine ⟨⟨by omega, by simp; omega⟩, ?_⟩
    (conv => whnf)
    refine idx_map (by simpa using hx) ?_
    (conv => whnf)
    refine call_i (mk_Round how 8 (by decide) (by decide)) ?_
    (conv => whnf)
    rw [e]
    (conv => whnf)
    refine loop_intro (fun m : Nat => ⟨[(3, I v), (8, .one (.vptr 1 0)), (9, .one (.vptr 4 0)), (10, I k), (11, .one (.vptr 5 0))], [(1, .vars Y.Scene [.nil 12, .nil 5, .nil 3, .nil 2]), (2, bShs s.shapes), (3, bSk (s.skips ++ List.replicate m ⟨0, 0⟩)), (4, .vars Y.Scene [.dv (dJs s.robot.joints), .dv (dMs s.robot.masses), .row 2, .row 3]), (5, vSh x)], 6⟩) (fun m => m ≤ (64 + v % 2).toNat - s.skips.length) (fun m => (64 + v % 2).toNat - s.skips.length - m) [] 0 [] (Nat.zero_le _) ⟨⟨rfl, rfl, rfl, rfl, rfl, trivial⟩, ⟨rfl, rfl, ?_, rfl, rfl, trivial⟩⟩ ?_
    · show bSk _ = bSk _
      rw [List.replicate_zero, List.append_nil]
    rintro m hm
    (conv => whnf)
    refine call_i (mk_Round v 2 (by decide) (by decide)) ?_
    (conv => whnf)
    rw [w64 (x := 64 + v % 2) (by omega) (by omega)]
    refine ask_m (fun h => ?_) (fun h => ?_)
    · have hlt : m < (64 + v % 2).toNat - s.skips.length := by have := of_decide_eq_true h; simp at this; omega
      (conv => whnf)
      refine ⟨⟨by simp; omega, by simp; omega⟩, ?_⟩
      (conv => whnf)
      refine ⟨m + 1, [(3, 7)], hlt, by omega, ⟨⟨rfl, rfl, rfl, rfl, rfl, trivial⟩, ⟨rfl, rfl, ?_, rfl, rfl, trivial⟩⟩⟩
      show Box.rows Y.Skip 2 _ = Box.rows Y.Skip 2 _
      refine congrArg _ ?_
      rw [List.replicate_succ', ← List.append_assoc, List.map_append (l₁ := s.skips ++ List.replicate m (⟨0, 0⟩ : Skip))]; rfl
    · have hm : m = (64 + v % 2).toNat - s.skips.length := by have := of_decide_eq_false h; simp at this; omega
      subst hm
      (conv => whnf)
      refine ⟨⟨by omega, by simp; omega⟩, ?_⟩
      (conv => whnf)
      refine idx_map (by simpa using hx) ?_
      (conv => whnf)
      (conv => whnf)
      refine retO [.frz 2, .frz 3] ?_
      (conv => whnf)
      refine ⟨[], ⟨?_, trivial⟩, trivial⟩
      have e1 : (s.shapes.map encSh).set k (encSh x) = s.shapes.map encSh := by rw [← List.map_set, hsame]
      exact congrArg (fun l => SV.agg [.dv (dJs s.robot.joints), .dv (dMs s.robot.masses), .dv (.lst 3 l), .dv (dSks (s.skips ++ List.replicate ((64 + v % 2).toNat - s.skips.length) ⟨0, 0⟩))]) e1
  · refine ⟨⟨s.robot, s.shapes ++ List.replicate ((24 + v % 2).toNat - s.shapes.length) x, s.skips⟩, ?_⟩
    have hF := few_small (c := ⟨s.robot, s.shapes ++ List.replicate ((24 + v % 2).toNat - s.shapes.length) x, s.skips⟩) hf' rfl (by simp; omega) (by simp only; omega) (fun y hy => by
      rcases List.mem_append.1 hy with hy | hy
      · have := f4 y hy; omega
      · obtain ⟨_, rfl⟩ := List.mem_replicate.1 hy; omega)
    refine ⟨hF.1, hF.2.1, hF.2.2.1, hF.2.2.2, ?_⟩
    refine fnOkG [(1000051, [.frz 6]), (1000064, [.frz 8])] tab mix G.law9_changed rfl rfl (by kernel_rfl) rfl rfl ?_
    (conv => whnf)
    refine ⟨⟨by simp; omega, by simp; omega⟩, ?_⟩
    (conv => whnf)
    refine ⟨⟨by simp; omega, by simp; omega⟩, ?_⟩
    (conv => whnf)
    rw [List.length_map]
    refine call_i (mk_Round at_ s.shapes.length (by omega) (by omega)) ?_
    (conv => whnf)
    rw [hk]
    refine ⟨⟨by omega, by simp; omega⟩, ?_⟩
    (conv => whnf)
    refine idx_map (by simpa using hx) ?_
    (conv => whnf)
    refine call_i (mk_Round how 8 (by decide) (by decide)) ?_
    (conv => whnf)
    rw [e]
    (conv => whnf)
    refine loop_intro (fun m : Nat => ⟨[(3, I v), (8, .one (.vptr 1 0)), (9, .one (.vptr 4 0)), (10, I k), (11, .one (.vptr 5 0))], [(1, .vars Y.Scene [.nil 12, .nil 5, .nil 3, .nil 2]), (2, bShs (s.shapes ++ List.replicate m x)), (3, bSk s.skips), (4, .vars Y.Scene [.dv (dJs s.robot.joints), .dv (dMs s.robot.masses), .row 2, .row 3]), (5, vSh x)], 6⟩) (fun m => m ≤ (24 + v % 2).toNat - s.shapes.length) (fun m => (24 + v % 2).toNat - s.shapes.length - m) [] 0 [] (Nat.zero_le _) ⟨⟨rfl, rfl, rfl, rfl, rfl, trivial⟩, ⟨rfl, ?_, rfl, rfl, rfl, trivial⟩⟩ ?_
    · show bShs _ = bShs _
      rw [List.replicate_zero, List.append_nil]
    rintro m hm
    (conv => whnf)
    refine call_i (mk_Round v 2 (by decide) (by decide)) ?_
    (conv => whnf)
    rw [w64 (x := 24 + v % 2) (by omega) (by omega)]
    refine ask_m (fun h => ?_) (fun h => ?_)
    · have hlt : m < (24 + v % 2).toNat - s.shapes.length := by have := of_decide_eq_true h; simp at this; omega
      (conv => whnf)
      refine ⟨⟨by simp; omega, by simp; omega⟩, ?_⟩
      (conv => whnf)
      refine ⟨m + 1, [(2, 7)], hlt, by omega, ⟨⟨rfl, rfl, rfl, rfl, rfl, trivial⟩, ⟨rfl, ?_, rfl, rfl, rfl, trivial⟩⟩⟩
      show Box.rows Y.Shape 3 _ = Box.rows Y.Shape 3 _
      refine congrArg _ ?_
      rw [List.replicate_succ', ← List.append_assoc, List.map_append (l₁ := s.shapes ++ List.replicate m x)]; rfl
    · have hm : m = (24 + v % 2).toNat - s.shapes.length := by have := of_decide_eq_false h; simp at this; omega
      subst hm
      generalize List.replicate ((24 + v % 2).toNat - s.shapes.length) x = q at *
      have hxq : (s.shapes ++ q)[k]? = some x := by rw [List.getElem?_append_left hks]; exact hx
      (conv => whnf)
      refine ⟨⟨by omega, by simp; omega⟩, ?_⟩
      (conv => whnf)
      refine idx_map (by simpa using hxq) ?_
      (conv => whnf)
      (conv => whnf)
      refine retO [.frz 2, .frz 3] ?_
      (conv => whnf)
      refine ⟨[], ⟨?_, trivial⟩, trivial⟩
      have e1 : ((s.shapes ++ q).map encSh).set k (encSh x) = (s.shapes ++ q).map encSh := by rw [← List.map_set, List.set_append_left _ _ hks, hsame]
      exact congrArg (fun l => SV.agg [.dv (dJs s.robot.joints), .dv (dMs s.robot.masses), .dv (.lst 3 l), .dv (dSks s.skips)]) e1
  · refine ⟨⟨s.robot, s.shapes.set k x, s.skips⟩, ?_⟩
    have hF := few_small (c := ⟨s.robot, s.shapes.set k x, s.skips⟩) hf' rfl (by simp; omega) (by simp only; omega) (set_pts (m := 10) (fun y hy => by have := f4 y hy; omega) (by omega))
    refine ⟨hF.1, hF.2.1, hF.2.2.1, hF.2.2.2, ?_⟩
    refine fnOkG [(1000051, [.frz 6]), (1000064, [.frz 8])] tab mix G.law9_changed rfl rfl (by kernel_rfl) rfl rfl ?_
    (conv => whnf)
    refine ⟨⟨by simp; omega, by simp; omega⟩, ?_⟩
    (conv => whnf)
    refine ⟨⟨by simp; omega, by simp; omega⟩, ?_⟩
    (conv => whnf)
    rw [List.length_map]
    refine call_i (mk_Round at_ s.shapes.length (by omega) (by omega)) ?_
    (conv => whnf)
    rw [hk]
    refine ⟨⟨by omega, by simp; omega⟩, ?_⟩
    (conv => whnf)
    refine idx_map (by simpa using hx) ?_
    (conv => whnf)
    refine call_i (mk_Round how 8 (by decide) (by decide)) ?_
    (conv => whnf)
    rw [e]
    (conv => whnf)
    refine ⟨⟨by omega, by simp; omega⟩, ?_⟩
    (conv => whnf)
    refine idx_map (by simpa using hx) ?_
    (conv => whnf)
    (conv => whnf)
    refine retO [.frz 2, .frz 3] ?_
    (conv => whnf)
    exact ⟨[], ⟨congrArg (fun l => SV.agg [.dv (dJs s.robot.joints), .dv (dMs s.robot.masses), .dv (.lst 3 l), .dv (dSks s.skips)]) (set_enc (xs := s.shapes) (k := k) (y := x) rfl), trivial⟩, trivial⟩
theorem mkScene_few (l : List Int) : Few (mkScene l) := by
  have hn := joints_len l 0
  obtain ⟨k1, k2, k3⟩ := mkScene_len l
  have h := mkScene_ok l
  refine ⟨?_, by omega, by omega, fun x hx => ?_, by show (mkRobot l 0).joints.length ≤ _; omega, by omega⟩
  · have := nxt_bd (l := l) (j := scQ1 l) (m := 3) (by omega)
    simp only [mkScene, List.length_append, shWs, List.length_map, List.length_range, scN]; omega
  · unfold checkScene at h
    split at h
    · contradiction
    split at h
    · contradiction
    split at h
    · contradiction
    rename_i h3
    simp only [ne_eq, Decidable.not_not] at h3
    have := serr_at h3 hx
    unfold shapeErr at this
    split at this
    · contradiction
    · omega
theorem law9_Checks (raw : Scene) (l : List Int) (how at_ v : Int) (hr : small raw) (hl : l.length ≤ 17592186044416) : FnOk Try.prog F.law9_SceneChecks [Sc raw, Li l, I how, I at_, I v] [] 0 (Bo true) [] 0 := by
  refine fnOk tab mix G.law9_SceneChecks rfl rfl (by kernel_rfl) rfl rfl ?_
  (conv => whnf)
  have ho := mkScene_ok l
  have hsm := mkScene_small l
  have hfew := mkScene_few l
  refine call_i (mk_Scene l (by omega)) ?_
  (conv => whnf)
  generalize mkScene l = s at *
  obtain ⟨c, _, c1, _, _, hc⟩ := law9_changed s how at_ v hfew
  refine call_i (hc) ?_
  (conv => whnf)
  refine call_i (law9_awake) ?_
  (conv => whnf)
  refine call_i (scene_Check s hsm) ?_
  (conv => whnf)
  rw [ho]
  (conv => whnf)
  refine call_i (scene_Check raw hr) ?_
  (conv => whnf)
  refine call_i (ref_CheckScene raw hr) ?_
  (conv => whnf)
  rw [beq_self_eq_true]
  (conv => whnf)
  refine call_i (scene_Check c c1) ?_
  (conv => whnf)
  refine call_i (ref_CheckScene c c1) ?_
  (conv => whnf)
  rw [beq_self_eq_true]
  (conv => whnf)
  refine ret0 ?_
  exact ret_b rfl rfl
theorem law9_ChecksZ (raw : Scene) (l : List Int) (how at_ v : Int) (hr : small raw) (hl : l.length ≤ 17592186044416) (_ _ _ : True) : FnOk Try.prog F.law9_SceneChecks [Sc raw, Li l, I how, I at_, I v] [] 0 (Bo true) [] 0 := law9_Checks raw l how at_ v hr hl
end Go.Proofs.Ytgakendcmakndaa
