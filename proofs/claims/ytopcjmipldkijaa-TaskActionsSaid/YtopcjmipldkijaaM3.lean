import Derived.Test.YtopcjmipldkijaaM2
/- law34.Altered: what it gives is mild. -/
namespace Go.Proofs.Ytopcjmipldkijaa
open Eng
set_option maxRecDepth 10000
attribute [local irreducible] FnOk loopW idxF retX arrF findF

abbrev y5 (v : Int) : Int := IntKind.i64.wrap (IntKind.i64.wrap (v % 5 - 2) * 1048577)
abbrev dull : List Vec := [⟨0, 0, 0⟩]
theorem alt_0 (s : Scene) (o : TObj) (os : List TObj) (p : Vec) (ps : List Vec) (h : THand) (hs : List THand) (gs : List TGrip) (sl a v : Int) (b1 : os.length ≤ 100) (b2 : ps.length ≤ 100) (b3 : hs.length ≤ 100) (b4 : gs.length ≤ 100) (b5 : s.shapes.length ≤ 100) (hr : a % 9 = 0) : FnOk Try.prog F.law34_Altered [Wk ⟨s, o :: os, p :: ps, h :: hs, gs, sl⟩, I a, I v] [] 0 (Wk ⟨s, o :: os, p :: ps, h :: hs, gs, IntKind.i64.wrap (IntKind.i64.wrap (v % 3 - 1) * 65537)⟩) [] 0 := by
  refine fnOk tab mix G.law34_Altered rfl rfl (by kernel_rfl) rfl rfl ?_
  (conv => whnf)
  refine ⟨⟨by simp only [List.length_map, List.length_cons]; omega, by show _ * 40 ≤ _; simp only [List.length_map, List.length_cons]; omega⟩, ?_⟩
  (conv => whnf)
  refine ⟨⟨by simp only [List.length_map, List.length_cons]; omega, by show _ * 24 ≤ _; simp only [List.length_map, List.length_cons]; omega⟩, ?_⟩
  (conv => whnf)
  refine ⟨⟨by simp only [List.length_map, List.length_cons]; omega, by show _ * 32 ≤ _; simp only [List.length_map, List.length_cons]; omega⟩, ?_⟩
  (conv => whnf)
  refine ⟨⟨by simp only [List.length_map, List.length_cons]; omega, by show _ * 40 ≤ _; simp only [List.length_map, List.length_cons]; omega⟩, ?_⟩
  (conv => whnf)
  refine call_i (mk_Round a 9 (by omega) (by omega)) ?_
  (conv => whnf)
  rw [hr]
  (conv => whnf)
  refine call_i (mk_Round v 3 (by omega) (by omega)) ?_
  (conv => whnf)
  (conv => whnf)
  refine retO [.frz 2, .frz 3, .frz 4, .frz 5] ?_
  (conv => whnf)
  exact ⟨[], ⟨rfl, trivial⟩, trivial⟩
theorem alt_10 (s : Scene) (o : TObj) (os : List TObj) (p : Vec) (ps : List Vec) (h : THand) (hs : List THand) (gs : List TGrip) (sl a v : Int) (b1 : os.length ≤ 100) (b2 : ps.length ≤ 100) (b3 : hs.length ≤ 100) (b4 : gs.length ≤ 100) (b5 : s.shapes.length ≤ 100) (hr : a % 9 = 1) (hc : v % 3 = 0) : FnOk Try.prog F.law34_Altered [Wk ⟨s, o :: os, p :: ps, h :: hs, gs, sl⟩, I a, I v] [] 0 (Wk ⟨s, o :: os, ⟨y5 v, p.y, p.z⟩ :: ps, h :: hs, gs, sl⟩) [] 0 := by
  refine fnOk tab mix G.law34_Altered rfl rfl (by kernel_rfl) rfl rfl ?_
  (conv => whnf)
  refine ⟨⟨by simp only [List.length_map, List.length_cons]; omega, by show _ * 40 ≤ _; simp only [List.length_map, List.length_cons]; omega⟩, ?_⟩
  (conv => whnf)
  refine ⟨⟨by simp only [List.length_map, List.length_cons]; omega, by show _ * 24 ≤ _; simp only [List.length_map, List.length_cons]; omega⟩, ?_⟩
  (conv => whnf)
  refine ⟨⟨by simp only [List.length_map, List.length_cons]; omega, by show _ * 32 ≤ _; simp only [List.length_map, List.length_cons]; omega⟩, ?_⟩
  (conv => whnf)
  refine ⟨⟨by simp only [List.length_map, List.length_cons]; omega, by show _ * 40 ≤ _; simp only [List.length_map, List.length_cons]; omega⟩, ?_⟩
  (conv => whnf)
  refine call_i (mk_Round a 9 (by omega) (by omega)) ?_
  (conv => whnf)
  rw [hr]
  (conv => whnf)
  refine call_i (mk_Round v 3 (by omega) (by omega)) ?_
  (conv => whnf)
  rw [hc]
  refine call_i (mk_Round v 5 (by omega) (by omega)) ?_
  (conv => whnf)
  refine ⟨⟨by decide, by simp only [List.length_map, List.length_cons]; omega⟩, ?_⟩
  (conv => whnf)
  refine ⟨⟨by decide, by decide⟩, ?_⟩
  (conv => whnf)
  refine idx_map (x := p) rfl ?_
  (conv => whnf)
  (conv => whnf)
  refine retO [.frz 2, .frz 3, .frz 4, .frz 5] ?_
  (conv => whnf)
  exact ⟨[], ⟨rfl, trivial⟩, trivial⟩
theorem alt_11 (s : Scene) (o : TObj) (os : List TObj) (p : Vec) (ps : List Vec) (h : THand) (hs : List THand) (gs : List TGrip) (sl a v : Int) (b1 : os.length ≤ 100) (b2 : ps.length ≤ 100) (b3 : hs.length ≤ 100) (b4 : gs.length ≤ 100) (b5 : s.shapes.length ≤ 100) (hr : a % 9 = 1) (hc : v % 3 = 1) : FnOk Try.prog F.law34_Altered [Wk ⟨s, o :: os, p :: ps, h :: hs, gs, sl⟩, I a, I v] [] 0 (Wk ⟨s, o :: os, ⟨p.x, y5 v, p.z⟩ :: ps, h :: hs, gs, sl⟩) [] 0 := by
  refine fnOk tab mix G.law34_Altered rfl rfl (by kernel_rfl) rfl rfl ?_
  (conv => whnf)
  refine ⟨⟨by simp only [List.length_map, List.length_cons]; omega, by show _ * 40 ≤ _; simp only [List.length_map, List.length_cons]; omega⟩, ?_⟩
  (conv => whnf)
  refine ⟨⟨by simp only [List.length_map, List.length_cons]; omega, by show _ * 24 ≤ _; simp only [List.length_map, List.length_cons]; omega⟩, ?_⟩
  (conv => whnf)
  refine ⟨⟨by simp only [List.length_map, List.length_cons]; omega, by show _ * 32 ≤ _; simp only [List.length_map, List.length_cons]; omega⟩, ?_⟩
  (conv => whnf)
  refine ⟨⟨by simp only [List.length_map, List.length_cons]; omega, by show _ * 40 ≤ _; simp only [List.length_map, List.length_cons]; omega⟩, ?_⟩
  (conv => whnf)
  refine call_i (mk_Round a 9 (by omega) (by omega)) ?_
  (conv => whnf)
  rw [hr]
  (conv => whnf)
  refine call_i (mk_Round v 3 (by omega) (by omega)) ?_
  (conv => whnf)
  rw [hc]
  refine call_i (mk_Round v 5 (by omega) (by omega)) ?_
  (conv => whnf)
  refine ⟨⟨by decide, by simp only [List.length_map, List.length_cons]; omega⟩, ?_⟩
  (conv => whnf)
  refine ⟨⟨by decide, by decide⟩, ?_⟩
  (conv => whnf)
  refine idx_map (x := p) rfl ?_
  (conv => whnf)
  (conv => whnf)
  refine retO [.frz 2, .frz 3, .frz 4, .frz 5] ?_
  (conv => whnf)
  exact ⟨[], ⟨rfl, trivial⟩, trivial⟩
theorem alt_12 (s : Scene) (o : TObj) (os : List TObj) (p : Vec) (ps : List Vec) (h : THand) (hs : List THand) (gs : List TGrip) (sl a v : Int) (b1 : os.length ≤ 100) (b2 : ps.length ≤ 100) (b3 : hs.length ≤ 100) (b4 : gs.length ≤ 100) (b5 : s.shapes.length ≤ 100) (hr : a % 9 = 1) (hc : v % 3 = 2) : FnOk Try.prog F.law34_Altered [Wk ⟨s, o :: os, p :: ps, h :: hs, gs, sl⟩, I a, I v] [] 0 (Wk ⟨s, o :: os, ⟨p.x, p.y, y5 v⟩ :: ps, h :: hs, gs, sl⟩) [] 0 := by
  refine fnOk tab mix G.law34_Altered rfl rfl (by kernel_rfl) rfl rfl ?_
  (conv => whnf)
  refine ⟨⟨by simp only [List.length_map, List.length_cons]; omega, by show _ * 40 ≤ _; simp only [List.length_map, List.length_cons]; omega⟩, ?_⟩
  (conv => whnf)
  refine ⟨⟨by simp only [List.length_map, List.length_cons]; omega, by show _ * 24 ≤ _; simp only [List.length_map, List.length_cons]; omega⟩, ?_⟩
  (conv => whnf)
  refine ⟨⟨by simp only [List.length_map, List.length_cons]; omega, by show _ * 32 ≤ _; simp only [List.length_map, List.length_cons]; omega⟩, ?_⟩
  (conv => whnf)
  refine ⟨⟨by simp only [List.length_map, List.length_cons]; omega, by show _ * 40 ≤ _; simp only [List.length_map, List.length_cons]; omega⟩, ?_⟩
  (conv => whnf)
  refine call_i (mk_Round a 9 (by omega) (by omega)) ?_
  (conv => whnf)
  rw [hr]
  (conv => whnf)
  refine call_i (mk_Round v 3 (by omega) (by omega)) ?_
  (conv => whnf)
  rw [hc]
  refine call_i (mk_Round v 5 (by omega) (by omega)) ?_
  (conv => whnf)
  refine ⟨⟨by decide, by simp only [List.length_map, List.length_cons]; omega⟩, ?_⟩
  (conv => whnf)
  refine ⟨⟨by decide, by decide⟩, ?_⟩
  (conv => whnf)
  refine idx_map (x := p) rfl ?_
  (conv => whnf)
  (conv => whnf)
  refine retO [.frz 2, .frz 3, .frz 4, .frz 5] ?_
  (conv => whnf)
  exact ⟨[], ⟨rfl, trivial⟩, trivial⟩
theorem alt_2 (s : Scene) (o : TObj) (os : List TObj) (p : Vec) (ps : List Vec) (h : THand) (hs : List THand) (gs : List TGrip) (sl a v : Int) (b1 : os.length ≤ 100) (b2 : ps.length ≤ 100) (b3 : hs.length ≤ 100) (b4 : gs.length ≤ 100) (b5 : s.shapes.length ≤ 100) (hr : a % 9 = 2) : FnOk Try.prog F.law34_Altered [Wk ⟨s, o :: os, p :: ps, h :: hs, gs, sl⟩, I a, I v] [] 0 (Wk ⟨s, o :: os, p :: ps, ⟨IntKind.i64.wrap (v % 5 - 2), h.off⟩ :: hs, gs, sl⟩) [] 0 := by
  refine fnOk tab mix G.law34_Altered rfl rfl (by kernel_rfl) rfl rfl ?_
  (conv => whnf)
  refine ⟨⟨by simp only [List.length_map, List.length_cons]; omega, by show _ * 40 ≤ _; simp only [List.length_map, List.length_cons]; omega⟩, ?_⟩
  (conv => whnf)
  refine ⟨⟨by simp only [List.length_map, List.length_cons]; omega, by show _ * 24 ≤ _; simp only [List.length_map, List.length_cons]; omega⟩, ?_⟩
  (conv => whnf)
  refine ⟨⟨by simp only [List.length_map, List.length_cons]; omega, by show _ * 32 ≤ _; simp only [List.length_map, List.length_cons]; omega⟩, ?_⟩
  (conv => whnf)
  refine ⟨⟨by simp only [List.length_map, List.length_cons]; omega, by show _ * 40 ≤ _; simp only [List.length_map, List.length_cons]; omega⟩, ?_⟩
  (conv => whnf)
  refine call_i (mk_Round a 9 (by omega) (by omega)) ?_
  (conv => whnf)
  rw [hr]
  (conv => whnf)
  refine call_i (mk_Round v 5 (by omega) (by omega)) ?_
  (conv => whnf)
  refine ⟨⟨by decide, by simp only [List.length_map, List.length_cons]; omega⟩, ?_⟩
  (conv => whnf)
  refine idx_map (x := h) rfl ?_
  (conv => whnf)
  (conv => whnf)
  refine retO [.frz 2, .frz 3, .frz 4, .frz 5] ?_
  (conv => whnf)
  exact ⟨[], ⟨rfl, trivial⟩, trivial⟩
theorem alt_30 (s : Scene) (o : TObj) (os : List TObj) (p : Vec) (ps : List Vec) (h : THand) (hs : List THand) (gs : List TGrip) (sl a v : Int) (b1 : os.length ≤ 100) (b2 : ps.length ≤ 100) (b3 : hs.length ≤ 100) (b4 : gs.length ≤ 100) (b5 : s.shapes.length ≤ 100) (hr : a % 9 = 3) (hc : v % 3 = 0) : FnOk Try.prog F.law34_Altered [Wk ⟨s, o :: os, p :: ps, h :: hs, gs, sl⟩, I a, I v] [] 0 (Wk ⟨s, o :: os, p :: ps, ⟨h.link, ⟨y5 v, h.off.y, h.off.z⟩⟩ :: hs, gs, sl⟩) [] 0 := by
  refine fnOk tab mix G.law34_Altered rfl rfl (by kernel_rfl) rfl rfl ?_
  (conv => whnf)
  refine ⟨⟨by simp only [List.length_map, List.length_cons]; omega, by show _ * 40 ≤ _; simp only [List.length_map, List.length_cons]; omega⟩, ?_⟩
  (conv => whnf)
  refine ⟨⟨by simp only [List.length_map, List.length_cons]; omega, by show _ * 24 ≤ _; simp only [List.length_map, List.length_cons]; omega⟩, ?_⟩
  (conv => whnf)
  refine ⟨⟨by simp only [List.length_map, List.length_cons]; omega, by show _ * 32 ≤ _; simp only [List.length_map, List.length_cons]; omega⟩, ?_⟩
  (conv => whnf)
  refine ⟨⟨by simp only [List.length_map, List.length_cons]; omega, by show _ * 40 ≤ _; simp only [List.length_map, List.length_cons]; omega⟩, ?_⟩
  (conv => whnf)
  refine call_i (mk_Round a 9 (by omega) (by omega)) ?_
  (conv => whnf)
  rw [hr]
  (conv => whnf)
  refine call_i (mk_Round v 3 (by omega) (by omega)) ?_
  (conv => whnf)
  rw [hc]
  refine call_i (mk_Round v 5 (by omega) (by omega)) ?_
  (conv => whnf)
  refine ⟨⟨by decide, by simp only [List.length_map, List.length_cons]; omega⟩, ?_⟩
  (conv => whnf)
  refine ⟨⟨by decide, by decide⟩, ?_⟩
  (conv => whnf)
  refine idx_map (x := h) rfl ?_
  (conv => whnf)
  (conv => whnf)
  refine retO [.frz 2, .frz 3, .frz 4, .frz 5] ?_
  (conv => whnf)
  exact ⟨[], ⟨rfl, trivial⟩, trivial⟩
theorem alt_31 (s : Scene) (o : TObj) (os : List TObj) (p : Vec) (ps : List Vec) (h : THand) (hs : List THand) (gs : List TGrip) (sl a v : Int) (b1 : os.length ≤ 100) (b2 : ps.length ≤ 100) (b3 : hs.length ≤ 100) (b4 : gs.length ≤ 100) (b5 : s.shapes.length ≤ 100) (hr : a % 9 = 3) (hc : v % 3 = 1) : FnOk Try.prog F.law34_Altered [Wk ⟨s, o :: os, p :: ps, h :: hs, gs, sl⟩, I a, I v] [] 0 (Wk ⟨s, o :: os, p :: ps, ⟨h.link, ⟨h.off.x, y5 v, h.off.z⟩⟩ :: hs, gs, sl⟩) [] 0 := by
  refine fnOk tab mix G.law34_Altered rfl rfl (by kernel_rfl) rfl rfl ?_
  (conv => whnf)
  refine ⟨⟨by simp only [List.length_map, List.length_cons]; omega, by show _ * 40 ≤ _; simp only [List.length_map, List.length_cons]; omega⟩, ?_⟩
  (conv => whnf)
  refine ⟨⟨by simp only [List.length_map, List.length_cons]; omega, by show _ * 24 ≤ _; simp only [List.length_map, List.length_cons]; omega⟩, ?_⟩
  (conv => whnf)
  refine ⟨⟨by simp only [List.length_map, List.length_cons]; omega, by show _ * 32 ≤ _; simp only [List.length_map, List.length_cons]; omega⟩, ?_⟩
  (conv => whnf)
  refine ⟨⟨by simp only [List.length_map, List.length_cons]; omega, by show _ * 40 ≤ _; simp only [List.length_map, List.length_cons]; omega⟩, ?_⟩
  (conv => whnf)
  refine call_i (mk_Round a 9 (by omega) (by omega)) ?_
  (conv => whnf)
  rw [hr]
  (conv => whnf)
  refine call_i (mk_Round v 3 (by omega) (by omega)) ?_
  (conv => whnf)
  rw [hc]
  refine call_i (mk_Round v 5 (by omega) (by omega)) ?_
  (conv => whnf)
  refine ⟨⟨by decide, by simp only [List.length_map, List.length_cons]; omega⟩, ?_⟩
  (conv => whnf)
  refine ⟨⟨by decide, by decide⟩, ?_⟩
  (conv => whnf)
  refine idx_map (x := h) rfl ?_
  (conv => whnf)
  (conv => whnf)
  refine retO [.frz 2, .frz 3, .frz 4, .frz 5] ?_
  (conv => whnf)
  exact ⟨[], ⟨rfl, trivial⟩, trivial⟩
theorem alt_32 (s : Scene) (o : TObj) (os : List TObj) (p : Vec) (ps : List Vec) (h : THand) (hs : List THand) (gs : List TGrip) (sl a v : Int) (b1 : os.length ≤ 100) (b2 : ps.length ≤ 100) (b3 : hs.length ≤ 100) (b4 : gs.length ≤ 100) (b5 : s.shapes.length ≤ 100) (hr : a % 9 = 3) (hc : v % 3 = 2) : FnOk Try.prog F.law34_Altered [Wk ⟨s, o :: os, p :: ps, h :: hs, gs, sl⟩, I a, I v] [] 0 (Wk ⟨s, o :: os, p :: ps, ⟨h.link, ⟨h.off.x, h.off.y, y5 v⟩⟩ :: hs, gs, sl⟩) [] 0 := by
  refine fnOk tab mix G.law34_Altered rfl rfl (by kernel_rfl) rfl rfl ?_
  (conv => whnf)
  refine ⟨⟨by simp only [List.length_map, List.length_cons]; omega, by show _ * 40 ≤ _; simp only [List.length_map, List.length_cons]; omega⟩, ?_⟩
  (conv => whnf)
  refine ⟨⟨by simp only [List.length_map, List.length_cons]; omega, by show _ * 24 ≤ _; simp only [List.length_map, List.length_cons]; omega⟩, ?_⟩
  (conv => whnf)
  refine ⟨⟨by simp only [List.length_map, List.length_cons]; omega, by show _ * 32 ≤ _; simp only [List.length_map, List.length_cons]; omega⟩, ?_⟩
  (conv => whnf)
  refine ⟨⟨by simp only [List.length_map, List.length_cons]; omega, by show _ * 40 ≤ _; simp only [List.length_map, List.length_cons]; omega⟩, ?_⟩
  (conv => whnf)
  refine call_i (mk_Round a 9 (by omega) (by omega)) ?_
  (conv => whnf)
  rw [hr]
  (conv => whnf)
  refine call_i (mk_Round v 3 (by omega) (by omega)) ?_
  (conv => whnf)
  rw [hc]
  refine call_i (mk_Round v 5 (by omega) (by omega)) ?_
  (conv => whnf)
  refine ⟨⟨by decide, by simp only [List.length_map, List.length_cons]; omega⟩, ?_⟩
  (conv => whnf)
  refine ⟨⟨by decide, by decide⟩, ?_⟩
  (conv => whnf)
  refine idx_map (x := h) rfl ?_
  (conv => whnf)
  (conv => whnf)
  refine retO [.frz 2, .frz 3, .frz 4, .frz 5] ?_
  (conv => whnf)
  exact ⟨[], ⟨rfl, trivial⟩, trivial⟩
theorem alt_40 (s : Scene) (o : TObj) (os : List TObj) (p : Vec) (ps : List Vec) (h : THand) (hs : List THand) (gs : List TGrip) (sl a v : Int) (b1 : os.length ≤ 100) (b2 : ps.length ≤ 100) (b3 : hs.length ≤ 100) (b4 : gs.length ≤ 100) (b5 : s.shapes.length ≤ 100) (hr : a % 9 = 4) (hc : v % 4 = 0) : FnOk Try.prog F.law34_Altered [Wk ⟨s, o :: os, p :: ps, h :: hs, gs, sl⟩, I a, I v] [] 0 (Wk ⟨s, ⟨⟨#[]⟩, o.shapes⟩ :: os, p :: ps, h :: hs, gs, sl⟩) [] 0 := by
  refine fnOk tab mix G.law34_Altered rfl rfl (by kernel_rfl) rfl rfl ?_
  (conv => whnf)
  refine ⟨⟨by simp only [List.length_map, List.length_cons]; omega, by show _ * 40 ≤ _; simp only [List.length_map, List.length_cons]; omega⟩, ?_⟩
  (conv => whnf)
  refine ⟨⟨by simp only [List.length_map, List.length_cons]; omega, by show _ * 24 ≤ _; simp only [List.length_map, List.length_cons]; omega⟩, ?_⟩
  (conv => whnf)
  refine ⟨⟨by simp only [List.length_map, List.length_cons]; omega, by show _ * 32 ≤ _; simp only [List.length_map, List.length_cons]; omega⟩, ?_⟩
  (conv => whnf)
  refine ⟨⟨by simp only [List.length_map, List.length_cons]; omega, by show _ * 40 ≤ _; simp only [List.length_map, List.length_cons]; omega⟩, ?_⟩
  (conv => whnf)
  refine call_i (mk_Round a 9 (by omega) (by omega)) ?_
  (conv => whnf)
  rw [hr]
  (conv => whnf)
  refine call_i (mk_Round v 4 (by omega) (by omega)) ?_
  (conv => whnf)
  rw [hc]
  (conv => whnf)
  refine ⟨⟨by decide, by decide⟩, ?_⟩
  (conv => whnf)
  refine arr_at rfl rfl rfl ?_
  (conv => whnf)
  refine ⟨⟨by decide, by simp only [List.length_map, List.length_cons]; omega⟩, ?_⟩
  (conv => whnf)
  refine idx_map (x := o) rfl ?_
  (conv => whnf)
  (conv => whnf)
  refine retO [.frz 2, .frz 3, .frz 4, .frz 5] ?_
  (conv => whnf)
  exact ⟨[], ⟨rfl, trivial⟩, trivial⟩
theorem alt_41 (s : Scene) (o : TObj) (os : List TObj) (p : Vec) (ps : List Vec) (h : THand) (hs : List THand) (gs : List TGrip) (sl a v : Int) (b1 : os.length ≤ 100) (b2 : ps.length ≤ 100) (b3 : hs.length ≤ 100) (b4 : gs.length ≤ 100) (b5 : s.shapes.length ≤ 100) (hr : a % 9 = 4) (hc : v % 4 = 1) : FnOk Try.prog F.law34_Altered [Wk ⟨s, o :: os, p :: ps, h :: hs, gs, sl⟩, I a, I v] [] 0 (Wk ⟨s, ⟨⟨#[98]⟩, o.shapes⟩ :: os, p :: ps, h :: hs, gs, sl⟩) [] 0 := by
  refine fnOk tab mix G.law34_Altered rfl rfl (by kernel_rfl) rfl rfl ?_
  (conv => whnf)
  refine ⟨⟨by simp only [List.length_map, List.length_cons]; omega, by show _ * 40 ≤ _; simp only [List.length_map, List.length_cons]; omega⟩, ?_⟩
  (conv => whnf)
  refine ⟨⟨by simp only [List.length_map, List.length_cons]; omega, by show _ * 24 ≤ _; simp only [List.length_map, List.length_cons]; omega⟩, ?_⟩
  (conv => whnf)
  refine ⟨⟨by simp only [List.length_map, List.length_cons]; omega, by show _ * 32 ≤ _; simp only [List.length_map, List.length_cons]; omega⟩, ?_⟩
  (conv => whnf)
  refine ⟨⟨by simp only [List.length_map, List.length_cons]; omega, by show _ * 40 ≤ _; simp only [List.length_map, List.length_cons]; omega⟩, ?_⟩
  (conv => whnf)
  refine call_i (mk_Round a 9 (by omega) (by omega)) ?_
  (conv => whnf)
  rw [hr]
  (conv => whnf)
  refine call_i (mk_Round v 4 (by omega) (by omega)) ?_
  (conv => whnf)
  rw [hc]
  (conv => whnf)
  refine ⟨⟨by decide, by decide⟩, ?_⟩
  (conv => whnf)
  refine arr_at rfl rfl rfl ?_
  (conv => whnf)
  refine ⟨⟨by decide, by simp only [List.length_map, List.length_cons]; omega⟩, ?_⟩
  (conv => whnf)
  refine idx_map (x := o) rfl ?_
  (conv => whnf)
  (conv => whnf)
  refine retO [.frz 2, .frz 3, .frz 4, .frz 5] ?_
  (conv => whnf)
  exact ⟨[], ⟨rfl, trivial⟩, trivial⟩
theorem alt_42 (s : Scene) (o : TObj) (os : List TObj) (p : Vec) (ps : List Vec) (h : THand) (hs : List THand) (gs : List TGrip) (sl a v : Int) (b1 : os.length ≤ 100) (b2 : ps.length ≤ 100) (b3 : hs.length ≤ 100) (b4 : gs.length ≤ 100) (b5 : s.shapes.length ≤ 100) (hr : a % 9 = 4) (hc : v % 4 = 2) : FnOk Try.prog F.law34_Altered [Wk ⟨s, o :: os, p :: ps, h :: hs, gs, sl⟩, I a, I v] [] 0 (Wk ⟨s, ⟨⟨#[48]⟩, o.shapes⟩ :: os, p :: ps, h :: hs, gs, sl⟩) [] 0 := by
  refine fnOk tab mix G.law34_Altered rfl rfl (by kernel_rfl) rfl rfl ?_
  (conv => whnf)
  refine ⟨⟨by simp only [List.length_map, List.length_cons]; omega, by show _ * 40 ≤ _; simp only [List.length_map, List.length_cons]; omega⟩, ?_⟩
  (conv => whnf)
  refine ⟨⟨by simp only [List.length_map, List.length_cons]; omega, by show _ * 24 ≤ _; simp only [List.length_map, List.length_cons]; omega⟩, ?_⟩
  (conv => whnf)
  refine ⟨⟨by simp only [List.length_map, List.length_cons]; omega, by show _ * 32 ≤ _; simp only [List.length_map, List.length_cons]; omega⟩, ?_⟩
  (conv => whnf)
  refine ⟨⟨by simp only [List.length_map, List.length_cons]; omega, by show _ * 40 ≤ _; simp only [List.length_map, List.length_cons]; omega⟩, ?_⟩
  (conv => whnf)
  refine call_i (mk_Round a 9 (by omega) (by omega)) ?_
  (conv => whnf)
  rw [hr]
  (conv => whnf)
  refine call_i (mk_Round v 4 (by omega) (by omega)) ?_
  (conv => whnf)
  rw [hc]
  (conv => whnf)
  refine ⟨⟨by decide, by decide⟩, ?_⟩
  (conv => whnf)
  refine arr_at rfl rfl rfl ?_
  (conv => whnf)
  refine ⟨⟨by decide, by simp only [List.length_map, List.length_cons]; omega⟩, ?_⟩
  (conv => whnf)
  refine idx_map (x := o) rfl ?_
  (conv => whnf)
  (conv => whnf)
  refine retO [.frz 2, .frz 3, .frz 4, .frz 5] ?_
  (conv => whnf)
  exact ⟨[], ⟨rfl, trivial⟩, trivial⟩
theorem alt_43 (s : Scene) (o : TObj) (os : List TObj) (p : Vec) (ps : List Vec) (h : THand) (hs : List THand) (gs : List TGrip) (sl a v : Int) (b1 : os.length ≤ 100) (b2 : ps.length ≤ 100) (b3 : hs.length ≤ 100) (b4 : gs.length ≤ 100) (b5 : s.shapes.length ≤ 100) (hr : a % 9 = 4) (hc : v % 4 = 3) : FnOk Try.prog F.law34_Altered [Wk ⟨s, o :: os, p :: ps, h :: hs, gs, sl⟩, I a, I v] [] 0 (Wk ⟨s, ⟨⟨#[110, 97, 109, 101, 95, 116, 104, 97, 116, 95, 105, 115, 95, 116, 111, 111, 95, 108, 111, 110, 103]⟩, o.shapes⟩ :: os, p :: ps, h :: hs, gs, sl⟩) [] 0 := by
  refine fnOk tab mix G.law34_Altered rfl rfl (by kernel_rfl) rfl rfl ?_
  (conv => whnf)
  refine ⟨⟨by simp only [List.length_map, List.length_cons]; omega, by show _ * 40 ≤ _; simp only [List.length_map, List.length_cons]; omega⟩, ?_⟩
  (conv => whnf)
  refine ⟨⟨by simp only [List.length_map, List.length_cons]; omega, by show _ * 24 ≤ _; simp only [List.length_map, List.length_cons]; omega⟩, ?_⟩
  (conv => whnf)
  refine ⟨⟨by simp only [List.length_map, List.length_cons]; omega, by show _ * 32 ≤ _; simp only [List.length_map, List.length_cons]; omega⟩, ?_⟩
  (conv => whnf)
  refine ⟨⟨by simp only [List.length_map, List.length_cons]; omega, by show _ * 40 ≤ _; simp only [List.length_map, List.length_cons]; omega⟩, ?_⟩
  (conv => whnf)
  refine call_i (mk_Round a 9 (by omega) (by omega)) ?_
  (conv => whnf)
  rw [hr]
  (conv => whnf)
  refine call_i (mk_Round v 4 (by omega) (by omega)) ?_
  (conv => whnf)
  rw [hc]
  (conv => whnf)
  refine ⟨⟨by decide, by decide⟩, ?_⟩
  (conv => whnf)
  refine arr_at rfl rfl rfl ?_
  (conv => whnf)
  refine ⟨⟨by decide, by simp only [List.length_map, List.length_cons]; omega⟩, ?_⟩
  (conv => whnf)
  refine idx_map (x := o) rfl ?_
  (conv => whnf)
  (conv => whnf)
  refine retO [.frz 2, .frz 3, .frz 4, .frz 5] ?_
  (conv => whnf)
  exact ⟨[], ⟨rfl, trivial⟩, trivial⟩
theorem alt_5 (s : Scene) (o : TObj) (os : List TObj) (p : Vec) (ps : List Vec) (h : THand) (hs : List THand) (gs : List TGrip) (sl a v : Int) (b1 : os.length ≤ 100) (b2 : ps.length ≤ 100) (b3 : hs.length ≤ 100) (b4 : gs.length ≤ 100) (b5 : s.shapes.length ≤ 100) (hr : a % 9 = 5) : FnOk Try.prog F.law34_Altered [Wk ⟨s, o :: os, p :: ps, h :: hs, gs, sl⟩, I a, I v] [] 0 (Wk ⟨s, ⟨o.name, [⟨IntKind.i64.wrap (v % 3 - 1), v % 2, dull⟩]⟩ :: os, p :: ps, h :: hs, gs, sl⟩) [] 0 := by
  refine fnOk tab mix G.law34_Altered rfl rfl (by kernel_rfl) rfl rfl ?_
  (conv => whnf)
  refine ⟨⟨by simp only [List.length_map, List.length_cons]; omega, by show _ * 40 ≤ _; simp only [List.length_map, List.length_cons]; omega⟩, ?_⟩
  (conv => whnf)
  refine ⟨⟨by simp only [List.length_map, List.length_cons]; omega, by show _ * 24 ≤ _; simp only [List.length_map, List.length_cons]; omega⟩, ?_⟩
  (conv => whnf)
  refine ⟨⟨by simp only [List.length_map, List.length_cons]; omega, by show _ * 32 ≤ _; simp only [List.length_map, List.length_cons]; omega⟩, ?_⟩
  (conv => whnf)
  refine ⟨⟨by simp only [List.length_map, List.length_cons]; omega, by show _ * 40 ≤ _; simp only [List.length_map, List.length_cons]; omega⟩, ?_⟩
  (conv => whnf)
  refine call_i (mk_Round a 9 (by omega) (by omega)) ?_
  (conv => whnf)
  rw [hr]
  (conv => whnf)
  refine call_i (mk_Round v 3 (by omega) (by omega)) ?_
  (conv => whnf)
  refine call_i (mk_Round v 2 (by omega) (by omega)) ?_
  (conv => whnf)
  refine ⟨⟨by decide, by simp only [List.length_map, List.length_cons]; omega⟩, ?_⟩
  (conv => whnf)
  refine idx_map (x := o) rfl ?_
  (conv => whnf)
  (conv => whnf)
  refine retO [.frz 2, .frz 3, .frz 4, .frz 5] ?_
  (conv => whnf)
  exact ⟨[], ⟨rfl, trivial⟩, trivial⟩
theorem alt_6 (s : Scene) (o : TObj) (os : List TObj) (p : Vec) (ps : List Vec) (h : THand) (hs : List THand) (gs : List TGrip) (sl a v : Int) (b1 : os.length ≤ 100) (b2 : ps.length ≤ 100) (b3 : hs.length ≤ 100) (b4 : gs.length ≤ 100) (b5 : s.shapes.length ≤ 100) (hr : a % 9 = 6) : FnOk Try.prog F.law34_Altered [Wk ⟨s, o :: os, p :: ps, h :: hs, gs, sl⟩, I a, I v] [] 0 (Wk ⟨s, o :: os, p :: ps, h :: hs, gs ++ [⟨IntKind.i64.wrap (v % 5 - 1), IntKind.i64.wrap (v % 7 - 1), [v % 80, 0]⟩], sl⟩) [] 0 := by
  simp only [Wk, cWk, dGs, dOs, dShs, List.map_append]
  refine fnOk tab mix G.law34_Altered rfl rfl (by kernel_rfl) rfl rfl ?_
  (conv => whnf)
  refine ⟨⟨by simp only [List.length_map, List.length_cons]; omega, by show _ * 40 ≤ _; simp only [List.length_map, List.length_cons]; omega⟩, ?_⟩
  (conv => whnf)
  refine ⟨⟨by simp only [List.length_map, List.length_cons]; omega, by show _ * 24 ≤ _; simp only [List.length_map, List.length_cons]; omega⟩, ?_⟩
  (conv => whnf)
  refine ⟨⟨by simp only [List.length_map, List.length_cons]; omega, by show _ * 32 ≤ _; simp only [List.length_map, List.length_cons]; omega⟩, ?_⟩
  (conv => whnf)
  refine ⟨⟨by simp only [List.length_map, List.length_cons]; omega, by show _ * 40 ≤ _; simp only [List.length_map, List.length_cons]; omega⟩, ?_⟩
  (conv => whnf)
  refine call_i (mk_Round a 9 (by omega) (by omega)) ?_
  (conv => whnf)
  rw [hr]
  (conv => whnf)
  refine call_i (mk_Round v 5 (by omega) (by omega)) ?_
  (conv => whnf)
  refine call_i (mk_Round v 7 (by omega) (by omega)) ?_
  (conv => whnf)
  refine call_i (mk_Round v 80 (by omega) (by omega)) ?_
  (conv => whnf)
  refine ⟨⟨by simp only [List.length_map, List.length_cons, List.length_append, List.length_nil]; omega, by show _ * 40 ≤ _; simp only [List.length_map, List.length_cons, List.length_append, List.length_nil]; omega⟩, ?_⟩
  (conv => whnf)
  (conv => whnf)
  refine retO [.frz 2, .frz 3, .frz 4, .frz 8] ?_
  (conv => whnf)
  exact ⟨[], ⟨rfl, trivial⟩, trivial⟩
theorem alt_7 (s : Scene) (o : TObj) (os : List TObj) (p : Vec) (ps : List Vec) (h : THand) (hs : List THand) (gs : List TGrip) (sl a v : Int) (b1 : os.length ≤ 100) (b2 : ps.length ≤ 100) (b3 : hs.length ≤ 100) (b4 : gs.length ≤ 100) (b5 : s.shapes.length ≤ 100) (hr : a % 9 = 7) : FnOk Try.prog F.law34_Altered [Wk ⟨s, o :: os, p :: ps, h :: hs, gs, sl⟩, I a, I v] [] 0 (Wk ⟨s, (o :: os) ++ [o], p :: ps, h :: hs, gs, sl⟩) [] 0 := by
  simp only [Wk, cWk, dGs, dOs, dShs, List.map_append]
  refine fnOk tab mix G.law34_Altered rfl rfl (by kernel_rfl) rfl rfl ?_
  (conv => whnf)
  refine ⟨⟨by simp only [List.length_map, List.length_cons]; omega, by show _ * 40 ≤ _; simp only [List.length_map, List.length_cons]; omega⟩, ?_⟩
  (conv => whnf)
  refine ⟨⟨by simp only [List.length_map, List.length_cons]; omega, by show _ * 24 ≤ _; simp only [List.length_map, List.length_cons]; omega⟩, ?_⟩
  (conv => whnf)
  refine ⟨⟨by simp only [List.length_map, List.length_cons]; omega, by show _ * 32 ≤ _; simp only [List.length_map, List.length_cons]; omega⟩, ?_⟩
  (conv => whnf)
  refine ⟨⟨by simp only [List.length_map, List.length_cons]; omega, by show _ * 40 ≤ _; simp only [List.length_map, List.length_cons]; omega⟩, ?_⟩
  (conv => whnf)
  refine call_i (mk_Round a 9 (by omega) (by omega)) ?_
  (conv => whnf)
  rw [hr]
  (conv => whnf)
  refine ⟨⟨by decide, by simp only [List.length_map, List.length_cons, List.length_append, List.length_nil]; omega⟩, ?_⟩
  (conv => whnf)
  refine idx_map (x := o) rfl ?_
  (conv => whnf)
  refine ⟨⟨by simp only [List.length_map, List.length_cons, List.length_append, List.length_nil]; omega, by show _ * 40 ≤ _; simp only [List.length_map, List.length_cons, List.length_append, List.length_nil]; omega⟩, ?_⟩
  (conv => whnf)
  (conv => whnf)
  refine retO [.frz 3, .frz 4, .frz 5, .frz 7] ?_
  (conv => whnf)
  exact ⟨[], ⟨rfl, trivial⟩, trivial⟩
theorem alt_8 (s : Scene) (o : TObj) (os : List TObj) (p : Vec) (ps : List Vec) (h : THand) (hs : List THand) (gs : List TGrip) (sl a v : Int) (b1 : os.length ≤ 100) (b2 : ps.length ≤ 100) (b3 : hs.length ≤ 100) (b4 : gs.length ≤ 100) (b5 : s.shapes.length ≤ 100) (hr : a % 9 = 8) : FnOk Try.prog F.law34_Altered [Wk ⟨s, o :: os, p :: ps, h :: hs, gs, sl⟩, I a, I v] [] 0 (Wk ⟨⟨s.robot, s.shapes ++ [⟨IntKind.i64.wrap (v % 5 - 2), v % 3, dull⟩], s.skips⟩, o :: os, p :: ps, h :: hs, gs, sl⟩) [] 0 := by
  simp only [Wk, cWk, dGs, dOs, dShs, List.map_append]
  refine fnOk tab mix G.law34_Altered rfl rfl (by kernel_rfl) rfl rfl ?_
  (conv => whnf)
  refine ⟨⟨by simp only [List.length_map, List.length_cons]; omega, by show _ * 40 ≤ _; simp only [List.length_map, List.length_cons]; omega⟩, ?_⟩
  (conv => whnf)
  refine ⟨⟨by simp only [List.length_map, List.length_cons]; omega, by show _ * 24 ≤ _; simp only [List.length_map, List.length_cons]; omega⟩, ?_⟩
  (conv => whnf)
  refine ⟨⟨by simp only [List.length_map, List.length_cons]; omega, by show _ * 32 ≤ _; simp only [List.length_map, List.length_cons]; omega⟩, ?_⟩
  (conv => whnf)
  refine ⟨⟨by simp only [List.length_map, List.length_cons]; omega, by show _ * 40 ≤ _; simp only [List.length_map, List.length_cons]; omega⟩, ?_⟩
  (conv => whnf)
  refine call_i (mk_Round a 9 (by omega) (by omega)) ?_
  (conv => whnf)
  rw [hr]
  (conv => whnf)
  refine ⟨⟨by simp only [List.length_map, List.length_cons, List.length_append, List.length_nil]; omega, by show _ * 40 ≤ _; simp only [List.length_map, List.length_cons, List.length_append, List.length_nil]; omega⟩, ?_⟩
  (conv => whnf)
  refine call_i (mk_Round v 5 (by omega) (by omega)) ?_
  (conv => whnf)
  refine call_i (mk_Round v 3 (by omega) (by omega)) ?_
  (conv => whnf)
  refine ⟨⟨by simp only [List.length_map, List.length_cons, List.length_append, List.length_nil]; omega, by show _ * 40 ≤ _; simp only [List.length_map, List.length_cons, List.length_append, List.length_nil]; omega⟩, ?_⟩
  (conv => whnf)
  (conv => whnf)
  refine retO [.frz 2, .frz 3, .frz 4, .frz 5, .frz 9] ?_
  (conv => whnf)
  exact ⟨[], ⟨rfl, trivial⟩, trivial⟩
end Go.Proofs.Ytopcjmipldkijaa

/- law38.TaskActions. -/
namespace Go.Proofs.Ytopcjmipldkijaa
open Eng
set_option maxRecDepth 10000
attribute [local irreducible] FnOk loopW idxF retX arrF findF

theorem altered_ok (w : TWork) (a v : Int) (hm : mild w) (k1 : 0 < w.objects.length ∧ w.objects.length ≤ 100) (k2 : 0 < w.places.length ∧ w.places.length ≤ 100) (k3 : 0 < w.hands.length ∧ w.hands.length ≤ 100) (b4 : w.grips.length ≤ 100) (b5 : w.scene.shapes.length ≤ 100) : ∃ w', mild w' ∧ FnOk Try.prog F.law34_Altered [Wk w, I a, I v] [] 0 (Wk w') [] 0 := by
  obtain ⟨s, O, P, H, gs, sl⟩ := w
  obtain ⟨m1, m2, m3, m4, m5, m6, m7⟩ := hm
  cases O with
  | nil => exact absurd k1.1 (by simp)
  | cons o os =>
  cases P with
  | nil => exact absurd k2.1 (by simp)
  | cons p ps =>
  cases H with
  | nil => exact absurd k3.1 (by simp)
  | cons h hs =>
  simp only [List.length_cons] at k1 k2 k3 m2 m4 m5
  simp only at b4 b5 m1 m3 m6 m7
  have b1 : os.length ≤ 100 := by omega
  have b2 : ps.length ≤ 100 := by omega
  have b3 : hs.length ≤ 100 := by omega
  have r1 := Int.emod_nonneg a (show (9 : Int) ≠ 0 by omega)
  have r2 := Int.emod_lt_of_pos a (show (0 : Int) < 9 by omega)
  have c1 := Int.emod_nonneg v (show (3 : Int) ≠ 0 by omega)
  have c2 := Int.emod_lt_of_pos v (show (0 : Int) < 3 by omega)
  have d1 := Int.emod_nonneg v (show (4 : Int) ≠ 0 by omega)
  have d2 := Int.emod_lt_of_pos v (show (0 : Int) < 4 by omega)
  have ho := m3 o (by simp)
  have hos : ∀ x ∈ os, x.shapes.length ≤ 17592186044416 ∧ ∀ s ∈ x.shapes, s.points.length ≤ 17592186044416 := fun x hx => m3 x (by simp [hx])
  have L : ∀ {α : Type} (x : α) (l : List α), l.length ≤ 100 → (x :: l).length ≤ 1000 := fun x l h => by rw [List.length_cons]; omega
  have hr : a % 9 = 0 ∨ a % 9 = 1 ∨ a % 9 = 2 ∨ a % 9 = 3 ∨ a % 9 = 4 ∨ a % 9 = 5 ∨ a % 9 = 6 ∨ a % 9 = 7 ∨ a % 9 = 8 := by omega
  have hc : v % 3 = 0 ∨ v % 3 = 1 ∨ v % 3 = 2 := by omega
  have hd : v % 4 = 0 ∨ v % 4 = 1 ∨ v % 4 = 2 ∨ v % 4 = 3 := by omega
  have hobj : ∀ n : ByteArray, ∀ x ∈ (⟨n, o.shapes⟩ : TObj) :: os, x.shapes.length ≤ 17592186044416 ∧ ∀ s ∈ x.shapes, s.points.length ≤ 17592186044416 := fun n x hx => by
    rcases List.mem_cons.1 hx with rfl | hx
    · exact ho
    · exact hos x hx
  rcases hr with hr | hr | hr | hr | hr | hr | hr | hr | hr
  · exact ⟨_, ⟨m1, L _ _ b1, m3, L _ _ b2, L _ _ b3, m6, m7⟩, alt_0 s o os p ps h hs gs sl a v b1 b2 b3 b4 b5 hr⟩
  · rcases hc with hc | hc | hc
    · exact ⟨_, ⟨m1, L _ _ b1, m3, L _ _ b2, L _ _ b3, m6, m7⟩, alt_10 s o os p ps h hs gs sl a v b1 b2 b3 b4 b5 hr hc⟩
    · exact ⟨_, ⟨m1, L _ _ b1, m3, L _ _ b2, L _ _ b3, m6, m7⟩, alt_11 s o os p ps h hs gs sl a v b1 b2 b3 b4 b5 hr hc⟩
    · exact ⟨_, ⟨m1, L _ _ b1, m3, L _ _ b2, L _ _ b3, m6, m7⟩, alt_12 s o os p ps h hs gs sl a v b1 b2 b3 b4 b5 hr hc⟩
  · exact ⟨_, ⟨m1, L _ _ b1, m3, L _ _ b2, L _ _ b3, m6, m7⟩, alt_2 s o os p ps h hs gs sl a v b1 b2 b3 b4 b5 hr⟩
  · rcases hc with hc | hc | hc
    · exact ⟨_, ⟨m1, L _ _ b1, m3, L _ _ b2, L _ _ b3, m6, m7⟩, alt_30 s o os p ps h hs gs sl a v b1 b2 b3 b4 b5 hr hc⟩
    · exact ⟨_, ⟨m1, L _ _ b1, m3, L _ _ b2, L _ _ b3, m6, m7⟩, alt_31 s o os p ps h hs gs sl a v b1 b2 b3 b4 b5 hr hc⟩
    · exact ⟨_, ⟨m1, L _ _ b1, m3, L _ _ b2, L _ _ b3, m6, m7⟩, alt_32 s o os p ps h hs gs sl a v b1 b2 b3 b4 b5 hr hc⟩
  · rcases hd with hd | hd | hd | hd
    · exact ⟨_, ⟨m1, L _ _ b1, hobj _, L _ _ b2, L _ _ b3, m6, m7⟩, alt_40 s o os p ps h hs gs sl a v b1 b2 b3 b4 b5 hr hd⟩
    · exact ⟨_, ⟨m1, L _ _ b1, hobj _, L _ _ b2, L _ _ b3, m6, m7⟩, alt_41 s o os p ps h hs gs sl a v b1 b2 b3 b4 b5 hr hd⟩
    · exact ⟨_, ⟨m1, L _ _ b1, hobj _, L _ _ b2, L _ _ b3, m6, m7⟩, alt_42 s o os p ps h hs gs sl a v b1 b2 b3 b4 b5 hr hd⟩
    · exact ⟨_, ⟨m1, L _ _ b1, hobj _, L _ _ b2, L _ _ b3, m6, m7⟩, alt_43 s o os p ps h hs gs sl a v b1 b2 b3 b4 b5 hr hd⟩
  · refine ⟨_, ⟨m1, L _ _ b1, fun x hx => ?_, L _ _ b2, L _ _ b3, m6, m7⟩, alt_5 s o os p ps h hs gs sl a v b1 b2 b3 b4 b5 hr⟩
    rcases List.mem_cons.1 hx with rfl | hx
    · exact ⟨by simp, fun s hs => by simp only [List.mem_singleton] at hs; subst hs; simp⟩
    · exact hos x hx
  · refine ⟨_, ⟨m1, L _ _ b1, m3, L _ _ b2, L _ _ b3, by simp only [List.length_append, List.length_cons, List.length_nil]; omega, fun x hx => ?_⟩, alt_6 s o os p ps h hs gs sl a v b1 b2 b3 b4 b5 hr⟩
    rcases List.mem_append.1 hx with hx | hx
    · exact m7 x hx
    · simp only [List.mem_singleton] at hx; subst hx; simp
  · refine ⟨_, ⟨m1, by simp only [List.length_append, List.length_cons, List.length_nil]; omega, fun x hx => ?_, L _ _ b2, L _ _ b3, m6, m7⟩, alt_7 s o os p ps h hs gs sl a v b1 b2 b3 b4 b5 hr⟩
    rcases List.mem_append.1 hx with hx | hx
    · exact m3 x hx
    · simp only [List.mem_singleton] at hx; subst hx; exact ho
  · refine ⟨_, ⟨⟨m1.1, m1.2.1, by simp only [List.length_append, List.length_cons, List.length_nil]; omega, m1.2.2.2.1, fun x hx => ?_⟩, L _ _ b1, m3, L _ _ b2, L _ _ b3, m6, m7⟩, alt_8 s o os p ps h hs gs sl a v b1 b2 b3 b4 b5 hr⟩
    rcases List.mem_append.1 hx with hx | hx
    · exact m1.2.2.2.2 x hx
    · simp only [List.mem_singleton] at hx; subst hx; simp
theorem small_mild' {w : TWork} (h : looseW w) (hs : smallWB w = true) : mild w := by
  simp only [smallWB, Bool.and_eq_true, decide_eq_true_eq] at hs
  obtain ⟨h1, h2, h3⟩ := h
  exact ⟨h1, by omega, h2, by omega, by omega, by omega, h3⟩
set_option maxHeartbeats 1000000 in
theorem law38_Actions (rw : TWork) (rm : List Int) (ra : TAct) (g a b c : List Int) (i j k how : Int) (hw : looseW rw) (hrm : rm.length ≤ 17592186043904) (_ : True) (hg : g.length ≤ 17592186043904) (ha : a.length ≤ 17592186043904) (hb : b.length ≤ 17592186043904) (hc : c.length ≤ 17592186043904) (_ _ _ _ : True) : FnOk Try.prog F.law38_TaskActions [Wk rw, Md rm, Ac ra, Li g, Li a, Li b, Li c, I i, I j, I k, I how] [] 0 (Bo true) [] 0 := by
  have hm := mkWork_mild a
  have hsz := mkWork_sizes a
  have b1 := wsN1_bd a
  have b2 := wsN2_bd a
  have b3 := wsN3_bd a
  have bs := wsShapes_bd a
  have bg := grAll_len a (wsN2 a)
  have eg : (mkWork a).grips.length = (grAll a (wsN2 a)).2.length := rfl
  have es : (mkWork a).scene.shapes.length = (wsShapes a).length := rfl
  obtain ⟨w2, hm2, halt⟩ := altered_ok (mkWork a) how i hm (by omega) (by omega) (by omega) (by omega) (by omega)
  have hgoal := law38_goal (mkWork a) c (by omega) (by omega) (by omega) (by omega)
  have hgl := mkGoal_len (mkWork a) c
  have hact := law38_action (mkWork a) i j k (by omega) (by omega)
  have hmodeW := mk_Mode_made a b (by omega)
  have hv := mkMode_valid a b
  have hwork := mk_Workspace a (by omega)
  have hml := hv.le6
  generalize mkAct (mkWork a) i j k = act at *
  generalize mkWork a = w at *
  generalize mkMode w b = m at *
  generalize mkGoal w c = gl at *
  refine fnOk tab mix G.law38_TaskActions rfl rfl (by kernel_rfl) rfl rfl ?_
  (conv => whnf)
  refine call_i (law38_small rw) ?_
  (conv => whnf)
  cases hs : smallWB rw with
  | false =>
    (conv => whnf)
    refine call_i (law38_awake) ?_
    (conv => whnf)
    (conv => whnf)
    refine ret0 ?_
    exact ret_b rfl rfl
  | true =>
  have hmr := small_mild' hw hs
  (conv => whnf)
  refine ask_m (fun h1 => ?_) (fun h1 => ?_)
  · (conv => whnf)
    refine call_i (law38_awake) ?_
    (conv => whnf)
    (conv => whnf)
    refine ret0 ?_
    exact ret_b rfl rfl
  (conv => whnf)
  refine ask_m (fun h2 => ?_) (fun h2 => ?_)
  · (conv => whnf)
    refine call_i (law38_awake) ?_
    (conv => whnf)
    (conv => whnf)
    refine ret0 ?_
    exact ret_b rfl rfl
  (conv => whnf)
  refine call_i (hwork) ?_
  (conv => whnf)
  refine call_i (hmodeW) ?_
  (conv => whnf)
  refine call_i (law38_awake) ?_
  (conv => whnf)
  refine call_i (law38_actions rw rm ra g hmr (by omega) (by omega)) ?_
  (conv => whnf)
  refine call_i (hact) ?_
  (conv => whnf)
  refine call_i (hgoal) ?_
  (conv => whnf)
  refine call_i (law38_actions w m act gl hm (by omega) (by omega)) ?_
  (conv => whnf)
  refine call_i (law38_actions w m ra m hm (by omega) (by omega)) ?_
  (conv => whnf)
  refine call_i (hact) ?_
  (conv => whnf)
  refine call_i (law38_actions w rm act g hm (by omega) (by omega)) ?_
  (conv => whnf)
  refine call_i (halt) ?_
  (conv => whnf)
  refine call_i (hact) ?_
  (conv => whnf)
  refine call_i (hgoal) ?_
  (conv => whnf)
  refine call_i (law38_actions w2 m act gl hm2 (by omega) (by omega)) ?_
  (conv => whnf)
  (conv => whnf)
  refine ret0 ?_
  exact ret_b rfl rfl
end Go.Proofs.Ytopcjmipldkijaa
