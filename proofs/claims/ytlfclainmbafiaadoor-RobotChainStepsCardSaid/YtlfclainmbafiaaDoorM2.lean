import Derived.Test.YtlfclainmbafiaaDoorM1
import Derived.Lib.LaidTab
import Derived.Deep.DeepHandedRow
/- The makers: points. -/
namespace Go.Proofs.YtlfclainmbafiaaDoor
open Eng
set_option maxRecDepth 10000
attribute [local irreducible] FnOk loopW idxF retX arrF

def mkPt (l : List Int) (b : Vec) (q : Nat) : Vec := ⟨b.x + (nxt l q 7 - 3) * 32768, b.y + (nxt l (q + 1) 5 - 2) * 32768, b.z + (nxt l (q + 2) 5 - 2) * 32768⟩
def ptsTo (l : List Int) (b : Vec) (p k : Nat) : List Vec := b :: (List.range k).map fun i => mkPt l b (p + 1 + 3 * i)
def nPts (l : List Int) (p : Nat) : Nat := (nxt l p 4).toNat
def mkPts (l : List Int) (b : Vec) (p : Nat) : List Vec := ptsTo l b p (nPts l p)
def mkPtsAt (l : List Int) (p : Nat) : Nat := p + 1 + 3 * nPts l p
theorem ptsTo_succ (l : List Int) (b : Vec) (p k : Nat) : ptsTo l b p (k + 1) = ptsTo l b p k ++ [mkPt l b (p + 1 + 3 * k)] := by
  simp [ptsTo, List.range_succ]
def near (b : Vec) : Prop := (-1099511627776 ≤ b.x ∧ b.x ≤ 1099511627776) ∧ (-1099511627776 ≤ b.y ∧ b.y ≤ 1099511627776) ∧ (-1099511627776 ≤ b.z ∧ b.z ≤ 1099511627776)
theorem w_co {a c : Int} (h1 : -1099511627776 ≤ a) (h2 : a ≤ 1099511627776) (h3 : -10000 ≤ c) (h4 : c ≤ 10000) : IntKind.i64.wrap (a + IntKind.i64.wrap (c * 32768)) = a + c * 32768 := by
  rw [w64 (x := c * 32768) (by omega) (by omega), w64] <;> omega
theorem mk_points (l : List Int) (p : Nat) (b : Vec) (hl : l.length ≤ 4611686018427387904) (hb : near b) : FnOk Tryd.prog F.mk_points [.one (.vptr 0 0), Ve b] [(0, SrcJ l p)] 1 (.one (.dv (dVs (mkPts l b p)))) [(0, SrcJ l (mkPtsAt l p))] 1 := by
  refine fnOk tab mix G.mk_points rfl rfl (by kernel_rfl) rfl rfl ?_
  obtain ⟨⟨b1, b2⟩, ⟨b3, b4⟩, b5, b6⟩ := hb
  have n0 := nxt_bd (l := l) (j := p) (m := 4) (by omega)
  obtain ⟨n, hn⟩ : ∃ n : Nat, nxt l p 4 = n := ⟨(nxt l p 4).toNat, by omega⟩
  have hn2 : nPts l p = n := by simp [nPts, hn]
  rw [mkPts, mkPtsAt, hn2]
  (conv => whnf)
  refine call_i (mk_Next l p 4 (by omega) (by omega) hl) ?_
  (conv => whnf)
  rw [hn]
  refine loop_intro (fun k : Nat => ⟨[(0, .one (.vptr 0 0)), (3, .one (.vptr 1 0)), (5, .one (.row 2)), (6, I ((n : Int) - k))], [(0, SrcJ l (p + 1 + 3 * k)), (1, .vars Y.Vec [.dv (.int .i64 b.x), .dv (.int .i64 b.y), .dv (.int .i64 b.z)]), (2, .rows Y.Vec 3 ((ptsTo l b p k).map encV))], 3⟩) (fun k => k ≤ n) (fun k => n - k) [] 0 [] (Nat.zero_le _) ⟨⟨rfl, rfl, rfl, eqI (by simp), trivial⟩, ⟨rfl, rfl, rfl, trivial⟩⟩ ?_
  rintro k hk
  (conv => whnf)
  refine ask_m (fun h => ?_) (fun h => ?_)
  · have hlt : k < n := by have := of_decide_eq_true h; omega
    (conv => whnf)
    refine ⟨⟨by omega, by omega⟩, ?_⟩
    (conv => whnf)
    refine call_i (mk_Signed l (p + 1 + 3 * k) 3 7 (by omega) (by omega) (by omega) hl) ?_
    (conv => whnf)
    refine ⟨⟨by omega, by omega⟩, ?_⟩
    (conv => whnf)
    refine call_i (mk_Signed l (p + 1 + 3 * k + 1) 2 5 (by omega) (by omega) (by omega) hl) ?_
    (conv => whnf)
    refine ⟨⟨by omega, by omega⟩, ?_⟩
    (conv => whnf)
    refine call_i (mk_Signed l (p + 1 + 3 * k + 2) 2 5 (by omega) (by omega) (by omega) hl) ?_
    (conv => whnf)
    have hlen : (ptsTo l b p k).length = k + 1 := by simp [ptsTo]
    refine ⟨⟨by simp; omega, by simp; omega⟩, ?_⟩
    (conv => whnf)
    have s0 := nxt_bd (l := l) (j := p + 1 + 3 * k) (m := 7) (by omega)
    have s1 := nxt_bd (l := l) (j := p + 1 + 3 * k + 1) (m := 5) (by omega)
    have s2 := nxt_bd (l := l) (j := p + 1 + 3 * k + 2) (m := 5) (by omega)
    refine ⟨k + 1, [(2, 4)], hlt, by omega, ⟨⟨rfl, rfl, rfl, eqI ?_, trivial⟩, ⟨?_, rfl, ?_, trivial⟩⟩⟩
    · rw [w64] <;> omega
    · rw [show p + 1 + 3 * (k + 1) = p + 1 + 3 * k + 3 by omega]; rfl
    · rw [ptsTo_succ]
      rw [w_co b1 b2 (by omega) (by omega), w_co b3 b4 (by omega) (by omega), w_co b5 b6 (by omega) (by omega)]
      rw [List.map_append]
      rfl
  · have hk : k = n := by have := of_decide_eq_false h; omega
    subst hk
    (conv => whnf)
    refine retO [.frz 2] ?_
    (conv => whnf)
    exact ⟨[], ⟨rfl, trivial⟩, ⟨rfl, trivial⟩⟩
end Go.Proofs.YtlfclainmbafiaaDoor

/- The makers: robots. -/
namespace Go.Proofs.YtlfclainmbafiaaDoor
open Eng
set_option maxRecDepth 10000
attribute [local irreducible] FnOk loopW idxF retX arrF

def jPos (l : List Int) (p : Nat) : Nat → Nat
  | 0 => p
  | k + 1 => mkJointAt l (jPos l p k) k
def mkJoints (l : List Int) (p k : Nat) : List Joint := (List.range k).map fun i => mkJoint l (jPos l p i) i
theorem mkJoints_succ (l : List Int) (p k : Nat) : mkJoints l p (k + 1) = mkJoints l p k ++ [mkJoint l (jPos l p k) k] := by
  simp [mkJoints, List.range_succ]
def mkMass (l : List Int) (n : Nat) (q : Nat) : Mass := ⟨nxt l q n, 1 + nxt l (q + 1) 9000, ⟨(nxt l (q + 2) 7 - 3) * 32768, 0, (nxt l (q + 3) 5 - 2) * 32768⟩⟩
def mkMasses (l : List Int) (n q k : Nat) : List Mass := (List.range k).map fun i => mkMass l n (q + 1 + 4 * i)
theorem mkMasses_succ (l : List Int) (n q k : Nat) : mkMasses l n q (k + 1) = mkMasses l n q k ++ [mkMass l n (q + 1 + 4 * k)] := by
  simp [mkMasses, List.range_succ]
def nJ (l : List Int) (p : Nat) : Nat := 1 + (nxt l p 3).toNat
def qM (l : List Int) (p : Nat) : Nat := jPos l (p + 1) (nJ l p)
def nM (l : List Int) (p : Nat) : Nat := (nxt l (qM l p) 3).toNat
def mkRobot (l : List Int) (p : Nat) : Robot := ⟨mkJoints l (p + 1) (nJ l p), mkMasses l (nJ l p) (qM l p) (nM l p)⟩
def mkRobotAt (l : List Int) (p : Nat) : Nat := qM l p + 1 + 4 * nM l p
theorem mk_robot (l : List Int) (p : Nat) (hl : l.length ≤ 4611686018427387904) : FnOk Tryd.prog F.mk_robot [.one (.vptr 0 0)] [(0, SrcJ l p)] 1 (Ro (mkRobot l p)) [(0, SrcJ l (mkRobotAt l p))] 1 := by
  refine fnOk tab mix G.mk_robot rfl rfl (by kernel_rfl) rfl rfl ?_
  have n0 := nxt_bd (l := l) (j := p) (m := 3) (by omega)
  have hn : IntKind.i64.wrap (1 + nxt l p 3) = (nJ l p : Nat) := by
    rw [w64 (by omega) (by omega)]; unfold nJ; omega
  have hn2 : nJ l p ≤ 3 := by unfold nJ; omega
  have hn1 : 1 ≤ nJ l p := by unfold nJ; omega
  rw [mkRobotAt, mkRobot, nM, qM]
  (conv => whnf)
  refine call_i (mk_Next l p 3 (by omega) (by omega) hl) ?_
  (conv => whnf)
  rw [hn]
  generalize nJ l p = n at *
  refine loop_intro (fun k : Nat => ⟨[(0, .one (.vptr 0 0)), (2, .one (.vptr 1 0)), (3, .one (.vptr 2 0)), (4, I n), (5, I k)], [(0, SrcJ l (jPos l (p + 1) k)), (1, .vars Y.Robot [.nil 12, .nil 5]), (2, .vars Y.Robot [.row 3, .nil 5]), (3, .rows Y.Joint 12 ((mkJoints l (p + 1) k).map encJ))], 4⟩) (fun k => k ≤ n) (fun k => n - k) [.ownC 2 0 Y.Joint 12] 0 [] (Nat.zero_le _) ⟨⟨rfl, rfl, rfl, rfl, rfl, trivial⟩, ⟨rfl, rfl, rfl, rfl, trivial⟩⟩ ?_
  rintro k hk
  (conv => whnf)
  refine ask_m (fun h => ?_) (fun h => ?_)
  · have hlt : k < n := by have := of_decide_eq_true h; omega
    (conv => whnf)
    refine call_i (mk_joint l (jPos l (p + 1) k) k hl (by omega)) ?_
    (conv => whnf)
    have hlen : (mkJoints l (p + 1) k).length = k := by simp [mkJoints]
    have hkk : IntKind.i64.wrap ((k : Int) + 1) = ((k + 1 : Nat) : Int) := by rw [w64] <;> omega
    refine ⟨⟨by simp; omega, by simp; omega⟩, ?_⟩
    (conv => whnf)
    refine ⟨k + 1, [(3, 5)], hlt, by omega, ⟨⟨rfl, rfl, rfl, rfl, eqI hkk, trivial⟩, ⟨rfl, rfl, rfl, ?_, trivial⟩⟩⟩
    rw [mkJoints_succ, List.map_append]; rfl
  · have hk : k = n := by have := of_decide_eq_false h; omega
    subst hk
    (conv => whnf)
    refine call_i (mk_Next l (jPos l (p + 1) k) 3 (by omega) (by omega) hl) ?_
    (conv => whnf)
    generalize hq : jPos l (p + 1) k = q
    have c0 := nxt_bd (l := l) (j := q) (m := 3) (by omega)
    obtain ⟨c, hc⟩ : ∃ c : Nat, nxt l q 3 = c := ⟨(nxt l q 3).toNat, by omega⟩
    rw [hc, Int.toNat_natCast]
    refine loop_intro (fun i : Nat => ⟨[(0, .one (.vptr 0 0)), (2, .one (.vptr 1 0)), (3, .one (.vptr 2 0)), (4, I k), (6, I ((c : Int) - i))], [(0, SrcJ l (q + 1 + 4 * i)), (1, .vars Y.Robot [.nil 12, .nil 5]), (2, .vars Y.Robot [.row 3, .row 4]), (3, .rows Y.Joint 12 ((mkJoints l (p + 1) k).map encJ)), (4, .rows Y.Mass 5 ((mkMasses l k q i).map encM))], 5⟩) (fun i => i ≤ c) (fun i => c - i) [.ownC 2 1 Y.Mass 5] 0 [] (Nat.zero_le _) ⟨⟨rfl, rfl, rfl, rfl, eqI (by simp), trivial⟩, ⟨rfl, rfl, rfl, rfl, rfl, trivial⟩⟩ ?_
    rintro i hi
    (conv => whnf)
    refine ask_m (fun h => ?_) (fun h => ?_)
    · have hlt : i < c := by have := of_decide_eq_true h; omega
      (conv => whnf)
      refine call_i (mk_Next l (q + 1 + 4 * i) k (by omega) (by omega) hl) ?_
      (conv => whnf)
      refine call_i (mk_Next l (q + 1 + 4 * i + 1) 9000 (by omega) (by omega) hl) ?_
      (conv => whnf)
      refine call_i (mk_Signed l (q + 1 + 4 * i + 2) 3 7 (by omega) (by omega) (by omega) hl) ?_
      (conv => whnf)
      refine call_i (mk_Signed l (q + 1 + 4 * i + 3) 2 5 (by omega) (by omega) (by omega) hl) ?_
      (conv => whnf)
      have hlen : (mkMasses l k q i).length = i := by simp [mkMasses]
      refine ⟨⟨by simp; omega, by simp; omega⟩, ?_⟩
      (conv => whnf)
      have s1 := nxt_bd (l := l) (j := q + 1 + 4 * i + 1) (m := 9000) (by omega)
      have s2 := nxt_bd (l := l) (j := q + 1 + 4 * i + 2) (m := 7) (by omega)
      have s3 := nxt_bd (l := l) (j := q + 1 + 4 * i + 3) (m := 5) (by omega)
      refine ⟨i + 1, [(4, 6)], hlt, by omega, ⟨⟨rfl, rfl, rfl, rfl, eqI ?_, trivial⟩, ⟨?_, rfl, rfl, rfl, ?_, trivial⟩⟩⟩
      · rw [w64] <;> omega
      · rw [show q + 1 + 4 * (i + 1) = q + 1 + 4 * i + 4 by omega]; rfl
      · rw [mkMasses_succ, List.map_append, show IntKind.i64.wrap (1 + nxt l (q + 1 + 4 * i + 1) 9000) = 1 + nxt l (q + 1 + 4 * i + 1) 9000 by rw [w64] <;> omega, show IntKind.i64.wrap ((nxt l (q + 1 + 4 * i + 2) 7 - 3) * 32768) = (nxt l (q + 1 + 4 * i + 2) 7 - 3) * 32768 by rw [w64] <;> omega, show IntKind.i64.wrap ((nxt l (q + 1 + 4 * i + 3) 5 - 2) * 32768) = (nxt l (q + 1 + 4 * i + 3) 5 - 2) * 32768 by rw [w64] <;> omega]
        rfl
    · have hi : i = c := by have := of_decide_eq_false h; omega
      subst hi
      (conv => whnf)
      refine retO [.frz 3, .frz 4] ?_
      (conv => whnf)
      exact ⟨[], ⟨rfl, trivial⟩, ⟨rfl, trivial⟩⟩
end Go.Proofs.YtlfclainmbafiaaDoor

/- The makers: scenes. -/
namespace Go.Proofs.YtlfclainmbafiaaDoor
open Eng
set_option maxRecDepth 10000
attribute [local irreducible] FnOk loopW idxF retX arrF

def shPos (l : List Int) (q : Nat) : Nat → Nat
  | 0 => q
  | k + 1 => if nxt l (shPos l q k) 5 < 4 then mkPtsAt l (shPos l q k + 3) else shPos l q k + 1
def shOf (l : List Int) (q i : Nat) : List Shape := if nxt l q 5 < 4 then [⟨i, (1 + nxt l (q + 1) 3) * 8192, mkPts l ⟨nxt l (q + 2) 4 * 32768, 0, 0⟩ (q + 3)⟩] else []
def shLinks (l : List Int) (q k : Nat) : List Shape := (List.range k).flatMap fun i => shOf l (shPos l q i) i
theorem shLinks_succ (l : List Int) (q k : Nat) : shLinks l q (k + 1) = shLinks l q k ++ shOf l (shPos l q k) k := by
  simp [shLinks, List.range_succ]
theorem shLinks_len (l : List Int) (q k : Nat) : (shLinks l q k).length ≤ k := by
  induction k with
  | zero => simp [shLinks]
  | succ k ih =>
    rw [shLinks_succ, List.length_append]
    have : (shOf l (shPos l q k) k).length ≤ 1 := by unfold shOf; split <;> simp
    omega
def wPos (l : List Int) (q : Nat) : Nat → Nat
  | 0 => q
  | k + 1 => mkPtsAt l (wPos l q k + 4)
def shW (l : List Int) (q : Nat) : Shape := ⟨-1, (1 + nxt l (q + 3) 4) * 8192, mkPts l ⟨(nxt l q 19 - 9) * 32768, (nxt l (q + 1) 19 - 9) * 32768, (nxt l (q + 2) 5 - 2) * 32768⟩ (q + 4)⟩
def shWs (l : List Int) (q k : Nat) : List Shape := (List.range k).map fun i => shW l (wPos l q i)
theorem shWs_succ (l : List Int) (q k : Nat) : shWs l q (k + 1) = shWs l q k ++ [shW l (wPos l q k)] := by
  simp [shWs, List.range_succ]
def scQ1 (l : List Int) : Nat := shPos l (mkRobotAt l 0) (mkRobot l 0).joints.length
def scN (l : List Int) : Nat := 1 + (nxt l (scQ1 l) 3).toNat
def scQ2 (l : List Int) : Nat := wPos l (scQ1 l + 1) (scN l)
def mkSkips (l : List Int) (q n : Nat) : List Skip := if nxt l q 5 = 1 then [⟨-1, nxt l (q + 1) n⟩] else []
def mkScene (l : List Int) : Scene := ⟨mkRobot l 0, shLinks l (mkRobotAt l 0) (mkRobot l 0).joints.length ++ shWs l (scQ1 l + 1) (scN l), mkSkips l (scQ2 l) (mkRobot l 0).joints.length⟩
theorem w_rad {a : Int} (h0 : 0 ≤ a) (h1 : a < 4) : IntKind.i64.wrap ((IntKind.i64.wrap (IntKind.i64.wrap (1 + a) * 65536)).tdiv 8) = (1 + a) * 8192 := by
  rw [w64 (x := 1 + a) (by omega) (by omega), w64 (x := (1 + a) * 65536) (by omega) (by omega), show (1 + a) * 65536 = ((1 + a) * 8192) * 8 by omega, Int.mul_tdiv_cancel _ (by decide), w64] <;> omega
theorem near_mk {x y z : Int} (hx : -1099511627776 ≤ x ∧ x ≤ 1099511627776) (hy : -1099511627776 ≤ y ∧ y ≤ 1099511627776) (hz : -1099511627776 ≤ z ∧ z ≤ 1099511627776) : near ⟨x, y, z⟩ := ⟨hx, hy, hz⟩
theorem joints_len (l : List Int) (p : Nat) : 1 ≤ (mkRobot l p).joints.length ∧ (mkRobot l p).joints.length ≤ 3 := by
  have := nxt_bd (l := l) (j := p) (m := 3) (by omega)
  simp [mkRobot, mkJoints, nJ]; omega
theorem mk_Scene (l : List Int) (hl : l.length ≤ 4611686018427387904) : FnOk Tryd.prog F.mk_Scene [Li l] [] 0 (Sc (mkScene l)) [] 0 := by
  refine fnOk tab mix G.mk_Scene rfl rfl (by kernel_rfl) rfl rfl ?_
  have hn := joints_len l 0
  have hS : mkScene l = ⟨mkRobot l 0, shLinks l (mkRobotAt l 0) (mkRobot l 0).joints.length ++ shWs l (scQ1 l + 1) (scN l), mkSkips l (scQ2 l) (mkRobot l 0).joints.length⟩ := rfl
  rw [hS, scQ2, scN, scQ1]
  (conv => whnf)
  refine call_i (mk_From l) ?_
  (conv => whnf)
  refine call_i (mk_robot l 0 hl) ?_
  (conv => whnf)
  generalize mkRobot l 0 = r at *
  generalize mkRobotAt l 0 = q0
  refine loop_intro (fun k : Nat => ⟨[(2, .one (.vptr 0 0)), (3, .one (.vptr 1 0)), (4, .one (.vptr 2 0)), (5, I k)], [(0, .vars Y.Scene [.nil 12, .nil 5, .nil 3, .nil 2]), (1, SrcJ l (shPos l q0 k)), (2, .vars Y.Scene [.dv (dJs r.joints), .dv (dMs r.masses), .row 3, .nil 2]), (3, .rows Y.Shape 3 ((shLinks l q0 k).map encSh))], 4⟩) (fun k => k ≤ r.joints.length) (fun k => r.joints.length - k) [.ownC 2 2 Y.Shape 3] 0 [] (Nat.zero_le _) ⟨⟨rfl, rfl, rfl, rfl, trivial⟩, ⟨rfl, rfl, rfl, rfl, trivial⟩⟩ ?_
  rintro k hk
  (conv => whnf)
  refine ask_m (fun h => ?_) (fun h => ?_)
  · have hlt : k < r.joints.length := by simpa using h
    have hkk : IntKind.i64.wrap ((k : Int) + 1) = ((k + 1 : Nat) : Int) := by rw [w64] <;> omega
    have hll := shLinks_len l q0 k
    have hsucc := shLinks_succ l q0 k
    have hpos : shPos l q0 (k + 1) = if nxt l (shPos l q0 k) 5 < 4 then mkPtsAt l (shPos l q0 k + 3) else shPos l q0 k + 1 := rfl
    generalize shPos l q0 k = q at *
    (conv => whnf)
    refine call_i (mk_Next l q 5 (by omega) (by omega) hl) ?_
    (conv => whnf)
    refine ask_m (fun h => ?_) (fun h => ?_)
    · have h := of_decide_eq_true h
      rw [if_pos h] at hpos
      rw [shOf, if_pos h] at hsucc
      have s1 := nxt_bd (l := l) (j := q + 1) (m := 3) (by omega)
      have s2 := nxt_bd (l := l) (j := q + 2) (m := 4) (by omega)
      (conv => whnf)
      refine call_i (mk_Next l (q + 1) 3 (by omega) (by omega) hl) ?_
      (conv => whnf)
      refine ⟨by omega, ?_⟩
      (conv => whnf)
      refine call_i (mk_Next l (q + 2) 4 (by omega) (by omega) hl) ?_
      (conv => whnf)
      rw [w64 (x := nxt l (q + 2) 4 * 32768) (by omega) (by omega), w_rad s1.1 (by omega)]
      refine call_i (mk_points l (q + 3) ⟨nxt l (q + 2) 4 * 32768, 0, 0⟩ hl (near_mk (by omega) (by omega) (by omega))) ?_
      (conv => whnf)
      refine ⟨⟨by simp; omega, by simp; omega⟩, ?_⟩
      (conv => whnf)
      refine ⟨k + 1, [(3, 5)], hlt, by omega, ⟨⟨rfl, rfl, rfl, eqI hkk, trivial⟩, ⟨rfl, ?_, rfl, ?_, trivial⟩⟩⟩
      · rw [hpos]; rfl
      · rw [hsucc, List.map_append]; rfl
    · have h := of_decide_eq_false h
      rw [if_neg h] at hpos
      rw [shOf, if_neg h, List.append_nil] at hsucc
      (conv => whnf)
      refine ⟨k + 1, [], hlt, by omega, ⟨⟨rfl, rfl, rfl, eqI hkk, trivial⟩, ⟨rfl, ?_, rfl, ?_, trivial⟩⟩⟩
      · rw [hpos]; rfl
      · rw [hsucc]; rfl
  · have hk : k = r.joints.length := by simp at h; omega
    subst hk
    generalize hq1 : shPos l q0 r.joints.length = q1
    have hll := shLinks_len l q0 r.joints.length
    generalize shLinks l q0 r.joints.length = ls at *
    have c0 := nxt_bd (l := l) (j := q1) (m := 3) (by omega)
    obtain ⟨c, hc⟩ : ∃ c : Nat, 1 + (nxt l q1 3).toNat = c := ⟨_, rfl⟩
    have hc1 : IntKind.i64.wrap (1 + nxt l q1 3) = (c : Int) := by rw [w64] <;> omega
    rw [hc]
    (conv => whnf)
    refine call_i (mk_Next l q1 3 (by omega) (by omega) hl) ?_
    (conv => whnf)
    rw [hc1]
    refine loop_intro (fun k : Nat => ⟨[(2, .one (.vptr 0 0)), (3, .one (.vptr 1 0)), (4, .one (.vptr 2 0)), (6, I ((c : Int) - k))], [(0, .vars Y.Scene [.nil 12, .nil 5, .nil 3, .nil 2]), (1, SrcJ l (wPos l (q1 + 1) k)), (2, .vars Y.Scene [.dv (dJs r.joints), .dv (dMs r.masses), .row 3, .nil 2]), (3, .rows Y.Shape 3 ((ls ++ shWs l (q1 + 1) k).map encSh))], 4⟩) (fun k => k ≤ c) (fun k => c - k) [] 0 [] (Nat.zero_le _) ⟨⟨rfl, rfl, rfl, eqI (by simp), trivial⟩, ⟨rfl, rfl, rfl, ?_, trivial⟩⟩ ?_
    · simp [shWs]; rfl
    rintro k hk
    (conv => whnf)
    refine ask_m (fun h => ?_) (fun h => ?_)
    · have hlt : k < c := by have := of_decide_eq_true h; omega
      have hlen : (shWs l (q1 + 1) k).length = k := by simp [shWs]
      have hsucc := shWs_succ l (q1 + 1) k
      have hpos : wPos l (q1 + 1) (k + 1) = mkPtsAt l (wPos l (q1 + 1) k + 4) := rfl
      generalize wPos l (q1 + 1) k = q at *
      have s0 := nxt_bd (l := l) (j := q) (m := 19) (by omega)
      have s1 := nxt_bd (l := l) (j := q + 1) (m := 19) (by omega)
      have s2 := nxt_bd (l := l) (j := q + 2) (m := 5) (by omega)
      have s3 := nxt_bd (l := l) (j := q + 3) (m := 4) (by omega)
      (conv => whnf)
      refine call_i (mk_Signed l q 9 19 (by omega) (by omega) (by omega) hl) ?_
      (conv => whnf)
      refine call_i (mk_Signed l (q + 1) 9 19 (by omega) (by omega) (by omega) hl) ?_
      (conv => whnf)
      refine call_i (mk_Signed l (q + 2) 2 5 (by omega) (by omega) (by omega) hl) ?_
      (conv => whnf)
      refine call_i (mk_Next l (q + 3) 4 (by omega) (by omega) hl) ?_
      (conv => whnf)
      refine ⟨by omega, ?_⟩
      (conv => whnf)
      rw [w64 (x := (nxt l q 19 - 9) * 32768) (by omega) (by omega), w64 (x := (nxt l (q + 1) 19 - 9) * 32768) (by omega) (by omega), w64 (x := (nxt l (q + 2) 5 - 2) * 32768) (by omega) (by omega), w_rad s3.1 s3.2]
      refine call_i (mk_points l (q + 4) ⟨(nxt l q 19 - 9) * 32768, (nxt l (q + 1) 19 - 9) * 32768, (nxt l (q + 2) 5 - 2) * 32768⟩ hl (near_mk (by omega) (by omega) (by omega))) ?_
      (conv => whnf)
      refine ⟨⟨by simp; omega, by simp; omega⟩, ?_⟩
      (conv => whnf)
      refine ⟨k + 1, [(3, 6)], hlt, by omega, ⟨⟨rfl, rfl, rfl, eqI ?_, trivial⟩, ⟨rfl, ?_, rfl, ?_, trivial⟩⟩⟩
      · rw [w64] <;> omega
      · rw [hpos]; rfl
      · show Box.rows Y.Shape 3 _ = Box.rows Y.Shape 3 _
        refine congrArg _ ?_
        rw [hsucc, show ls ++ (shWs l (q1 + 1) k ++ [shW l q]) = (ls ++ shWs l (q1 + 1) k) ++ [shW l q] by rw [List.append_assoc], List.map_append (l₁ := ls ++ shWs l (q1 + 1) k)]; rfl
    · have hk : k = c := by have := of_decide_eq_false h; omega
      subst hk
      generalize wPos l (q1 + 1) k = q at *
      (conv => whnf)
      refine call_i (mk_Next l q 5 (by omega) (by omega) hl) ?_
      (conv => whnf)
      refine ask_m (fun h => ?_) (fun h => ?_)
      · have h : nxt l q 5 = 1 := by simpa using h
        rw [mkSkips, if_pos h]
        (conv => whnf)
        rw [List.length_map]
        refine call_i (mk_Next l (q + 1) r.joints.length (by omega) (by omega) hl) ?_
        (conv => whnf)
        refine ⟨⟨by simp, by simp⟩, ?_⟩
        (conv => whnf)
        refine retO [.frz 3, .frz 5] ?_
        (conv => whnf)
        exact ⟨[], ⟨rfl, trivial⟩, trivial⟩
      · have h : ¬ nxt l q 5 = 1 := by simpa using h
        rw [mkSkips, if_neg h]
        (conv => whnf)
        refine retO [.frz 3, .ownC 0 3 Y.Skip 2, .frz 4] ?_
        (conv => whnf)
        exact ⟨[], ⟨rfl, trivial⟩, trivial⟩
end Go.Proofs.YtlfclainmbafiaaDoor

/- What the makers make is valid. No program in sight. -/
namespace Go.Proofs.YtlfclainmbafiaaDoor
open Eng
set_option maxRecDepth 10000

/-- what is asked of a joint but for its name -/
theorem inV_mk {x y z m : Int} (h1 : -m ≤ x ∧ x ≤ m) (h2 : -m ≤ y ∧ y ≤ m) (h3 : -m ≤ z ∧ z ≤ m) : inV ⟨x, y, z⟩ m = true := by
  simp [inV]; omega
theorem letter_name : ∀ k, k < 10 → nameOk (letter k) = true := by decide
theorem letter_ne : ∀ k, k < 10 → ∀ j, j < 10 → letter k = letter j → k = j := by decide
theorem kindOf_mem {n : Int} (h0 : 0 ≤ n) (h8 : n < 8) : kindOf n = 3 ∨ kindOf n = 1 ∨ kindOf n = 2 ∨ kindOf n = 4 ∨ kindOf n = 5 ∨ kindOf n = 0 := by
  obtain ⟨k, rfl⟩ : ∃ k : Nat, n = k := ⟨n.toNat, by omega⟩
  rw [kindOf, Int.toNat_natCast]
  match k, h8 with
  | 0, _ | 1, _ | 2, _ | 3, _ | 4, _ | 5, _ | 6, _ | 7, _ => decide
  | k + 8, h => omega
theorem mkJoint_body (l : List Int) (p i : Nat) : bodyOk i (mkJoint l p i) := by
  have hk := kindOf_mem (nxt_bd (l := l) (j := p + 2) (m := 8) (by omega)).1 (nxt_bd (l := l) (j := p + 2) (m := 8) (by omega)).2
  refine ⟨?_, ?_, ?_, ?_, ?_⟩
  · show 0 ≤ kindOf _ ∧ kindOf _ ≤ 6
    omega
  · show -1 ≤ jParent l p i ∧ jParent l p i < (i : Int)
    unfold jParent; split <;> omega
  · show inV (jOff l p i) _ = true
    have h1 := nxt_bd (l := l) (j := p + 4) (m := 5) (by omega)
    have h2 := nxt_bd (l := l) (j := p + 5) (m := 3) (by omega)
    unfold jOff; split
    · exact inV_mk (by omega) (by omega) (by omega)
    · rfl
  · show (jSpan l (jAt p i) (jKind l p)).1 ≤ (jSpan l (jAt p i) (jKind l p)).2.1 ∧ - reach (jKind l p) ≤ (jSpan l (jAt p i) (jKind l p)).1 ∧ (jSpan l (jAt p i) (jKind l p)).2.1 ≤ reach (jKind l p)
    generalize jAt p i = q
    have h1 := nxt_bd (l := l) (j := q) (m := 3) (by omega)
    have h2 := nxt_bd (l := l) (j := q + 1) (m := 4) (by omega)
    have h3 := nxt_bd (l := l) (j := q) (m := 5) (by omega)
    have h4 := nxt_bd (l := l) (j := q + 2) (m := 3) (by omega)
    have hk' : jKind l p = 3 ∨ jKind l p = 1 ∨ jKind l p = 2 ∨ jKind l p = 4 ∨ jKind l p = 5 ∨ jKind l p = 0 := hk
    rcases hk' with e | e | e | e | e | e <;> rw [e] <;> simp [jSpan, reach] <;> omega
  · show (from1 (1 + nxt l p 4) 1024 && from1 65536 1048576 && from1 (65536 + nxt l (p + 1) 3) 1048576 && from1 327680 1099511627776) = true
    have h1 := nxt_bd (l := l) (j := p) (m := 4) (by omega)
    have h2 := nxt_bd (l := l) (j := p + 1) (m := 3) (by omega)
    simp [from1]; omega
theorem mkJoints_at {l : List Int} {p n k : Nat} {j : Joint} (h : (mkJoints l p n)[k]? = some j) : k < n ∧ j = mkJoint l (jPos l p k) k := by
  unfold mkJoints at h
  rw [List.getElem?_map] at h
  simp only [Option.map_eq_some_iff] at h
  obtain ⟨i, hi, rfl⟩ := h
  obtain ⟨h1, h2⟩ := List.getElem?_eq_some_iff.1 hi
  simp at h1 h2
  subst h2
  exact ⟨h1, rfl⟩
theorem mkJoints_ok (l : List Int) (p n : Nat) (hn : n ≤ 10) : jointsErr (mkJoints l p n) 0 (mkJoints l p n) = 0 := by
  refine jointsErr_zero fun k j hj => ?_
  obtain ⟨h1, h2⟩ := mkJoints_at hj
  rw [Nat.zero_add]
  refine jointErr_zero ?_ ?_ ?_
  · rw [h2]; exact letter_name k (by omega)
  · have := find_at (k := 0) hj fun i' j' hi hj' e => by
      obtain ⟨h3, h4⟩ := mkJoints_at hj'
      rw [h2, h4] at e
      have := letter_ne i' (by omega) k (by omega) e
      omega
    rw [this]; simp
  · rw [h2]; exact mkJoint_body l _ k
theorem linkOk_mk {n : Nat} {k : Int} (h1 : -1 ≤ k) (h2 : k < (n : Int)) : linkOk n k = true := by simp [linkOk]; omega
theorem massOk_mk {n : Nat} {a b : Int} {v : Vec} (h1 : 0 ≤ a) (h2 : a < (n : Int)) (h3 : 1 ≤ b) (h4 : b ≤ 65536) (h5 : inV v 4194304 = true) : massOk n ⟨a, b, v⟩ = true := by simp [massOk, from1, h5]; omega
theorem mkMass_ok (l : List Int) (n q : Nat) (hn : 0 < n) : massOk n (mkMass l n q) = true := by
  have h1 := nxt_bd (l := l) (j := q) (m := n) (by omega)
  have h2 := nxt_bd (l := l) (j := q + 1) (m := 9000) (by omega)
  have h3 := nxt_bd (l := l) (j := q + 2) (m := 7) (by omega)
  have h4 := nxt_bd (l := l) (j := q + 3) (m := 5) (by omega)
  have h5 : inV ⟨(nxt l (q + 2) 7 - 3) * 32768, 0, (nxt l (q + 3) 5 - 2) * 32768⟩ 4194304 = true := inV_mk (by omega) (by omega) (by omega)
  exact massOk_mk h1.1 h1.2 (by omega) (by omega) h5
theorem robot_valid {r : Robot} (h1 : 1 ≤ r.joints.length) (h2 : r.joints.length ≤ 10) (h3 : jointsErr r.joints 0 r.joints = 0) (h4 : r.masses.length ≤ 32) (h5 : r.masses.all (massOk r.joints.length) = true) : checkRobot r = 0 := by
  unfold checkRobot
  rw [if_neg (by omega), if_neg (by rw [h3]; simp), if_neg (by rw [h5]; simp; omega)]
theorem nJ_bd (l : List Int) (p : Nat) : 1 ≤ nJ l p ∧ nJ l p ≤ 3 := by
  have := nxt_bd (l := l) (j := p) (m := 3) (by omega)
  unfold nJ; omega
theorem mkJoints_len (l : List Int) (p n : Nat) : (mkJoints l p n).length = n := by simp [mkJoints]
theorem mkRobot_ok (l : List Int) (p : Nat) : checkRobot (mkRobot l p) = 0 := by
  have hn := nJ_bd l p
  have hl : (mkRobot l p).joints.length = nJ l p := mkJoints_len l (p + 1) (nJ l p)
  have hm := nxt_bd (l := l) (j := qM l p) (m := 3) (by omega)
  refine robot_valid (by omega) (by omega) (mkJoints_ok l (p + 1) (nJ l p) (by omega)) ?_ ?_
  · simp [mkRobot, mkMasses, nM]; omega
  · rw [hl, List.all_eq_true]
    intro m hmm
    simp only [mkRobot, mkMasses, List.mem_map] at hmm
    obtain ⟨i, _, rfl⟩ := hmm
    exact mkMass_ok l (nJ l p) _ (by omega)
theorem shapesErr_zero {n : Nat} : ∀ {l : List Shape}, (∀ x ∈ l, shapeErr n x = 0) → shapesErr n l = 0
  | [], _ => rfl
  | x :: l, h => by rw [shapesErr, if_pos (h x (by simp))]; exact shapesErr_zero fun y hy => h y (by simp [hy])
theorem shapeErr_zero {n : Nat} {x : Shape} (h1 : linkOk n x.link = true) (h2 : 1 ≤ x.radius ∧ x.radius ≤ 1048576) (h3 : 1 ≤ x.points.length ∧ x.points.length ≤ 8) (h4 : x.points.all (inV · 4194304) = true) : shapeErr n x = 0 := by
  unfold shapeErr
  rw [if_neg (by rw [h1]; rintro (h | h | h | h | h) <;> first | contradiction | omega), if_neg (by rw [h4]; simp)]
theorem mkPts_len (l : List Int) (b : Vec) (p : Nat) : 1 ≤ (mkPts l b p).length ∧ (mkPts l b p).length ≤ 4 := by
  have := nxt_bd (l := l) (j := p) (m := 4) (by omega)
  simp [mkPts, ptsTo, nPts]; omega
theorem mkPts_in (l : List Int) (b : Vec) (p : Nat) (hx : -1048576 ≤ b.x ∧ b.x ≤ 1048576) (hy : -1048576 ≤ b.y ∧ b.y ≤ 1048576) (hz : -1048576 ≤ b.z ∧ b.z ≤ 1048576) : (mkPts l b p).all (inV · 4194304) = true := by
  rw [List.all_eq_true]
  intro v hv
  simp only [mkPts, ptsTo, List.mem_cons, List.mem_map] at hv
  rcases hv with rfl | ⟨i, _, rfl⟩
  · obtain ⟨x, y, z⟩ := v
    simp only at hx hy hz
    exact inV_mk (by omega) (by omega) (by omega)
  · have h1 := nxt_bd (l := l) (j := p + 1 + 3 * i) (m := 7) (by omega)
    have h2 := nxt_bd (l := l) (j := p + 1 + 3 * i + 1) (m := 5) (by omega)
    have h3 := nxt_bd (l := l) (j := p + 1 + 3 * i + 2) (m := 5) (by omega)
    exact inV_mk (by omega) (by omega) (by omega)
theorem shOf_ok {l : List Int} {q i n : Nat} (hi : i < n) {x : Shape} (h : x ∈ shOf l q i) : shapeErr n x = 0 := by
  unfold shOf at h
  split at h
  · simp only [List.mem_singleton] at h
    subst h
    have h1 := nxt_bd (l := l) (j := q + 1) (m := 3) (by omega)
    have h2 := nxt_bd (l := l) (j := q + 2) (m := 4) (by omega)
    have h3 := mkPts_len l ⟨nxt l (q + 2) 4 * 32768, 0, 0⟩ (q + 3)
    refine shapeErr_zero ?_ ⟨?_, ?_⟩ ⟨h3.1, Nat.le_trans h3.2 (by decide)⟩ (mkPts_in l _ _ ⟨?_, ?_⟩ ⟨?_, ?_⟩ ⟨?_, ?_⟩)
    · simp [linkOk]; omega
    all_goals (simp only; omega)
  · simp at h
theorem shW_ok (l : List Int) (q n : Nat) : shapeErr n (shW l q) = 0 := by
  have h0 := nxt_bd (l := l) (j := q) (m := 19) (by omega)
  have h1 := nxt_bd (l := l) (j := q + 1) (m := 19) (by omega)
  have h2 := nxt_bd (l := l) (j := q + 2) (m := 5) (by omega)
  have h3 := nxt_bd (l := l) (j := q + 3) (m := 4) (by omega)
  have h4 := mkPts_len l ⟨(nxt l q 19 - 9) * 32768, (nxt l (q + 1) 19 - 9) * 32768, (nxt l (q + 2) 5 - 2) * 32768⟩ (q + 4)
  refine shapeErr_zero ?_ ⟨?_, ?_⟩ ⟨h4.1, Nat.le_trans h4.2 (by decide)⟩ (mkPts_in l _ _ ⟨?_, ?_⟩ ⟨?_, ?_⟩ ⟨?_, ?_⟩)
  · exact linkOk_mk (k := -1) (by omega) (by omega)
  all_goals (simp only [shW]; omega)
theorem scene_valid {s : Scene} (h1 : checkRobot s.robot = 0) (h2 : s.shapes.length ≤ 24) (h3 : ∀ x ∈ s.shapes, shapeErr s.robot.joints.length x = 0) (h4 : s.skips.length ≤ 64) (h5 : (s.skips.all fun k => linkOk s.robot.joints.length k.a && linkOk s.robot.joints.length k.b) = true) : checkScene s = 0 := by
  unfold checkScene
  rw [if_neg (by rw [h1]; simp), if_neg (by omega), if_neg (by rw [shapesErr_zero h3]; simp), if_neg (by omega), if_neg (by rw [h5]; simp)]
theorem mkScene_len (l : List Int) : (mkScene l).shapes.length ≤ 6 ∧ (mkScene l).skips.length ≤ 1 ∧ (mkScene l).robot.masses.length ≤ 2 := by
  have hn := joints_len l 0
  have h1 := shLinks_len l (mkRobotAt l 0) (mkRobot l 0).joints.length
  have h2 := nxt_bd (l := l) (j := scQ1 l) (m := 3) (by omega)
  have h3 := nxt_bd (l := l) (j := qM l 0) (m := 3) (by omega)
  refine ⟨?_, ?_, ?_⟩
  · simp only [mkScene, List.length_append, shWs, List.length_map, List.length_range, scN]; omega
  · simp only [mkScene, mkSkips]; split <;> simp
  · simp [mkScene, mkRobot, mkMasses, nM]; omega
theorem mkScene_ok (l : List Int) : checkScene (mkScene l) = 0 := by
  have hn := joints_len l 0
  obtain ⟨k1, k2, _⟩ := mkScene_len l
  refine scene_valid (mkRobot_ok l 0) (by omega) (fun x hx => ?_) (by omega) ?_
  · simp only [mkScene, List.mem_append, shLinks, List.mem_flatMap, List.mem_range, shWs, List.mem_map] at hx
    rcases hx with ⟨i, hi, hx⟩ | ⟨i, _, rfl⟩
    · exact shOf_ok hi hx
    · exact shW_ok l _ _
  · rw [List.all_eq_true]
    intro k hk
    simp only [mkScene, mkSkips] at hk
    split at hk
    · simp only [List.mem_singleton] at hk
      subst hk
      have := nxt_bd (l := l) (j := scQ2 l + 1) (m := ((mkRobot l 0).joints.length : Int)) (by omega)
      rw [Bool.and_eq_true]
      exact ⟨linkOk_mk (k := -1) (by omega) (by omega), linkOk_mk (k := nxt l (scQ2 l + 1) ((mkRobot l 0).joints.length : Int)) (by omega) this.2⟩
    · simp at hk
theorem mkScene_small (l : List Int) : small (mkScene l) := by
  have hn := joints_len l 0
  obtain ⟨k1, k2, k3⟩ := mkScene_len l
  refine ⟨by show (mkRobot l 0).joints.length ≤ _; omega, by omega, by omega, by omega, fun x hx => ?_⟩
  simp only [mkScene, List.mem_append, shLinks, List.mem_flatMap, List.mem_range, shWs, List.mem_map] at hx
  rcases hx with ⟨i, hi, hx⟩ | ⟨i, _, rfl⟩
  · unfold shOf at hx
    split at hx
    · simp only [List.mem_singleton] at hx
      subst hx
      have := mkPts_len l ⟨nxt l (shPos l (mkRobotAt l 0) i + 2) 4 * 32768, 0, 0⟩ (shPos l (mkRobotAt l 0) i + 3)
      simp only; omega
    · simp at hx
  · unfold shW
    simp only
    generalize wPos l (scQ1 l + 1) i = q
    have := mkPts_len l ⟨(nxt l q 19 - 9) * 32768, (nxt l (q + 1) 19 - 9) * 32768, (nxt l (q + 2) 5 - 2) * 32768⟩ (q + 4)
    omega
end Go.Proofs.YtlfclainmbafiaaDoor

/- law8: Chain, awake, RobotChainSteps. -/
namespace Go.Proofs.YtlfclainmbafiaaDoor
open Eng
set_option maxRecDepth 10000
attribute [local irreducible] FnOk loopW idxF retX arrF findF

def chainOf (r : Robot) (k : Int) : List Int := if hasB r [k] then chain r.joints k else []
theorem has_good {r : Robot} {ks : List Int} (h : hasB r ks = true) : checkRobot r = 0 ∧ ∀ k ∈ ks, -1 ≤ k ∧ k < r.joints.length := by
  simp only [hasB, Bool.and_eq_true, List.all_eq_true, decide_eq_true_eq] at h
  exact ⟨h.2, fun k hk => link_bd (h.1 k hk)⟩
theorem robot_Chain (r : Robot) (k : Int) (hj : r.joints.length ≤ 4611686018427387904) (hm : r.masses.length ≤ 4611686018427387904) : FnOk Tryd.prog F.robot_Chain [Ro r, I k] [] 0 (.one (.row 0)) [(0, bIs (chainOf r k))] 1 := by
  refine fnOk tab mix G.robot_Chain rfl rfl (by kernel_rfl) rfl rfl ?_
  (conv => whnf)
  refine call_i (robot_has r [k] hj hm (by simp)) ?_
  (conv => whnf)
  refine ⟨⟨trivial, trivial⟩, ?_⟩
  (conv => whnf)
  cases hh : hasB r [k] with
  | false =>
    (conv => whnf)
    rw [chainOf, hh]
    (conv => whnf)
    refine retO [.own 4 Y.int 1] ?_
    (conv => whnf)
    exact ⟨[(0, 2)], ⟨rfl, trivial⟩, ⟨rfl, trivial⟩⟩
  | true =>
    obtain ⟨h1, h2⟩ := has_good hh
    obtain ⟨g1, g2, g3⟩ := robot_good h1
    have h3 := h2 k (by simp)
    rw [chainOf, hh]
    (conv => whnf)
    refine call_i (robot_chain r k g1 g3 h3.1 h3.2) ?_
    (conv => whnf)
    (conv => whnf)
    refine retO [] ?_
    (conv => whnf)
    exact ⟨[(0, 2)], ⟨rfl, trivial⟩, ⟨rfl, trivial⟩⟩
theorem mk_Robot (l : List Int) (hl : l.length ≤ 4611686018427387904) : FnOk Tryd.prog F.mk_Robot [Li l] [] 0 (Ro (mkRobot l 0)) [] 0 := by
  refine fnOk tab mix G.mk_Robot rfl rfl (by kernel_rfl) rfl rfl ?_
  (conv => whnf)
  refine call_i (mk_From l) ?_
  (conv => whnf)
  refine call_i (mk_robot l 0 hl) ?_
  (conv => whnf)
  (conv => whnf)
  refine ret0 ?_
  exact ⟨[], ⟨rfl, trivial⟩, trivial⟩
def baseT : ByteArray := ⟨#[98, 97, 115, 101]⟩
def one8 : Robot := ⟨[⟨baseT, 3, -1, ⟨0, 0, 0⟩, -16384, 16384, 1, 65536, 65536, 65536⟩], []⟩
theorem law8_one : FnOk Tryd.prog F.law8_one [] [] 0 (Ro one8) [] 0 := by
  refine fnOk tab mix G.law8_one rfl rfl (by kernel_rfl) rfl rfl ?_
  (conv => whnf)
  (conv => whnf)
  refine retO [.ownC 0 1 Y.Mass 5, .frz 1, .frz 2] ?_
  (conv => whnf)
  exact ⟨[], ⟨rfl, trivial⟩, trivial⟩
def st8 : Stmt := ⟨1, wJoint, [baseT, ⟨#[116, 117, 114, 110, 122]⟩, worldT, ⟨#[48]⟩, ⟨#[48]⟩, ⟨#[48]⟩, ⟨#[45, 48, 46, 50, 53]⟩, ⟨#[48, 46, 50, 53]⟩, ⟨#[49]⟩]⟩
theorem read_one : readRobot [st8] = (one8, 0, 0) := by decide +kernel
theorem st8_ok : ∀ s ∈ [st8], stOk s := by
  have h : stOk st8 := by unfold stOk; decide
  intro s hs
  simp only [List.mem_singleton] at hs
  subst hs; exact h
theorem one_ok : checkRobot one8 = 0 := by decide
theorem law8_awake : FnOk Tryd.prog F.law8_awake [] [] 0 (Bo true) [] 0 := by
  refine fnOk tab mix G.law8_awake rfl rfl (by kernel_rfl) rfl rfl ?_
  (conv => whnf)
  refine call_i (robot_Read [st8] (by decide) st8_ok) ?_
  (conv => whnf)
  rw [read_one]
  (conv => whnf)
  refine call_i (law8_one) ?_
  (conv => whnf)
  refine call_i (robot_Check one8 (by decide) (by decide)) ?_
  (conv => whnf)
  rw [one_ok]
  (conv => whnf)
  refine call_i (law8_one) ?_
  (conv => whnf)
  refine call_i (mk_SameRobot one8 one8 ⟨by decide, by decide⟩ ⟨by decide, by decide⟩) ?_
  (conv => whnf)
  rw [decide_eq_true rfl]
  (conv => whnf)
  refine call_i (law8_one) ?_
  (conv => whnf)
  refine call_i (robot_Find one8 baseT (by decide)) ?_
  (conv => whnf)
  (conv => whnf)
  refine ret0 ?_
  exact ret_b (by decide) rfl
/- the joints of a chain -/
theorem chain_last {js : List Joint} (hd : downOk js) {k : Nat} (hk : k < js.length) : (chain js k)[(chain js k).length - 1]? = some (k : Int) ∧ 0 < (chain js k).length := by
  obtain ⟨j, hj⟩ : ∃ j, js[k]? = some j := ⟨_, List.getElem?_eq_getElem hk⟩
  rw [chain_step hd hj]
  simp
theorem chain_par {js : List Joint} (hd : downOk js) : ∀ k : Int, -1 ≤ k → k < js.length → ∀ (i : Nat) (x : Int), (chain js k)[i]? = some x → 0 ≤ x ∧ x < js.length ∧ ∃ j, js[x.toNat]? = some j ∧ j.parent = if i = 0 then -1 else (chain js k).getD (i - 1) 0 := by
  refine link_ind hd ?_ ?_
  · intro i x h
    rw [chain_neg js (by decide)] at h
    simp at h
  · intro k j hj ih i x h
    have hkl : k < js.length := (List.getElem?_eq_some_iff.1 hj).1
    rw [chain_step hd hj] at h ⊢
    rcases Nat.lt_or_ge i (chain js j.parent).length with hi | hi
    · rw [List.getElem?_append_left hi] at h
      obtain ⟨h1, h2, j', h3, h4⟩ := ih i x h
      refine ⟨h1, h2, j', h3, ?_⟩
      rw [h4]
      split
      · rfl
      · rw [List.getD_eq_getElem?_getD, List.getD_eq_getElem?_getD, List.getElem?_append_left (by omega)]
    · have hi2 : i = (chain js j.parent).length := by
        have := (List.getElem?_eq_some_iff.1 h).1
        simp at this; omega
      rw [List.getElem?_append_right hi, hi2, Nat.sub_self] at h
      simp at h
      subst h
      refine ⟨by omega, by omega, j, by simpa using hj, ?_⟩
      obtain ⟨d1, d2⟩ := hd k j hj
      rcases (by omega : j.parent < 0 ∨ 0 ≤ j.parent) with hp | hp
      · have hp : j.parent = -1 := by omega
        rw [hp, chain_neg js (by decide)] at hi2
        rw [if_pos (by simpa using hi2), hp]
      · obtain ⟨p, hpe⟩ : ∃ p : Nat, j.parent = p := ⟨j.parent.toNat, by omega⟩
        rw [hpe] at hi2 ⊢
        obtain ⟨l1, l2⟩ := chain_last hd (k := p) (by omega)
        rw [if_neg (by omega), hi2, List.getD_eq_getElem?_getD, List.getElem?_append_left (by omega), l1]; rfl
theorem chain_len {js : List Joint} (hd : downOk js) : ∀ k : Int, -1 ≤ k → k < js.length → ((chain js k).length : Int) ≤ k + 1 := by
  refine link_ind hd ?_ ?_
  · rw [chain_neg js (by decide)]; decide
  · intro k j hj ih
    obtain ⟨d1, d2⟩ := hd k j hj
    rw [chain_step hd hj, List.length_append, List.length_singleton]; omega
theorem law8_ChainSteps (l : List Int) (a : Int) (hl : l.length ≤ 17592186044416) (ha : True) : FnOk Tryd.prog F.law8_RobotChainSteps [Li l, I a] [] 0 (Bo true) [] 0 := by
  refine fnOk tab mix G.law8_RobotChainSteps rfl rfl (by kernel_rfl) rfl rfl ?_
  (conv => whnf)
  refine call_i (mk_Robot l (by omega)) ?_
  (conv => whnf)
  have hok := mkRobot_ok l 0
  have hml := (robot_facts hok).2.2.1
  obtain ⟨g1, g2, g3⟩ := robot_good hok
  generalize mkRobot l 0 = r at *
  refine call_i (mk_Round a ((r.joints.map encJ).length : Int) (by rw [List.length_map]; omega) (by rw [List.length_map]; omega)) ?_
  (conv => whnf)
  have e1 := Int.emod_nonneg a (b := ((r.joints.map encJ).length : Int)) (by rw [List.length_map]; omega)
  have e2 := Int.emod_lt_of_pos a (b := ((r.joints.map encJ).length : Int)) (by rw [List.length_map]; omega)
  obtain ⟨k, hk⟩ : ∃ i : Nat, a % ((r.joints.map encJ).length : Int) = i := ⟨_, (Int.toNat_of_nonneg e1).symm⟩
  rw [hk] at e2 ⊢
  have hkl : k < r.joints.length := by rw [List.length_map] at e2; omega
  refine call_i (robot_Chain r k (by omega) (by omega)) ?_
  (conv => whnf)
  have hh : chainOf r k = chain r.joints k := by
    rw [chainOf, if_pos]
    simp [hasB, hok, linkOk]; omega
  rw [hh]
  have hpar := chain_par g3 k (by omega) (by omega)
  obtain ⟨l1, l2⟩ := chain_last g3 hkl
  have hw : chainOf r (-1) = [] := by
    rw [chainOf]; split
    · exact chain_neg _ (by decide)
    · rfl
  have hcl : (chain r.joints k).length ≤ 1000 := by
    have := chain_len g3 k (by omega) (by omega)
    omega
  generalize chain r.joints k = c at *
  refine loop_intro (fun i : Nat => ⟨[(5, .one (.vptr 0 0)), (6, I k), (7, .one (.row 1)), (8, I i)], [(0, bRo r), (1, bIs c)], 2⟩) (fun i => i ≤ c.length) (fun i => c.length - i) [] 0 [] (Nat.zero_le _) ⟨⟨rfl, rfl, rfl, rfl, trivial⟩, ⟨rfl, rfl, trivial⟩⟩ ?_
  rintro i hi
  have hii : IntKind.i64.wrap ((i : Int) + 1) = ((i + 1 : Nat) : Int) := by rw [w64] <;> omega
  (conv => whnf)
  refine ask_m (fun hlt => ?_) (fun hlt => ?_)
  · have hlt : i < c.length := by simpa using hlt
    obtain ⟨x, hx⟩ : ∃ x, c[i]? = some x := ⟨_, List.getElem?_eq_getElem hlt⟩
    obtain ⟨p1, p2, j, hj, hp⟩ := hpar i x hx
    have hjl : x.toNat < r.joints.length := by omega
    (conv => whnf)
    refine ask_m (fun h0 => ?_) (fun h0 => ?_)
    · have h0 : 0 < i := by have := of_decide_eq_true h0; omega
      obtain ⟨y, hy⟩ : ∃ y, c[i - 1]? = some y := ⟨_, List.getElem?_eq_getElem (by omega)⟩
      rw [if_neg (by omega), List.getD_eq_getElem?_getD, hy] at hp
      have hp : j.parent = y := hp
      have ei : IntKind.i64.wrap ((i : Int) - 1) = ((i - 1 : Nat) : Int) := by rw [w64] <;> omega
      (conv => whnf)
      rw [ei]
      refine ⟨⟨by omega, by rw [List.length_map]; omega⟩, ?_⟩
      (conv => whnf)
      refine idx_map (by simpa using hy) ?_
      (conv => whnf)
      refine ⟨⟨by omega, by rw [List.length_map]; omega⟩, ?_⟩
      (conv => whnf)
      refine idx_map (by simpa using hx) ?_
      (conv => whnf)
      refine ask_mf (decide_eq_false (by omega)) ?_
      (conv => whnf)
      refine ⟨⟨by omega, by rw [List.length_map]; omega⟩, ?_⟩
      (conv => whnf)
      refine idx_map (by simpa using hx) ?_
      (conv => whnf)
      refine ask_mf (decide_eq_false (by rw [List.length_map]; omega)) ?_
      (conv => whnf)
      refine ⟨⟨by omega, by rw [List.length_map]; omega⟩, ?_⟩
      (conv => whnf)
      refine idx_map (by simpa using hx) ?_
      (conv => whnf)
      refine idx_and (by omega) (by simpa using hj) ?_
      (conv => whnf)
      refine ask_mf (by simp [hp]) ?_
      (conv => whnf)
      exact ⟨i + 1, [], hlt, by omega, ⟨⟨rfl, rfl, rfl, eqI hii, trivial⟩, ⟨rfl, rfl, trivial⟩⟩⟩
    · have h0 : i = 0 := by have := of_decide_eq_false h0; omega
      subst h0
      rw [if_pos rfl] at hp
      (conv => whnf)
      refine ⟨⟨by omega, by rw [List.length_map]; omega⟩, ?_⟩
      (conv => whnf)
      refine idx_map (by simpa using hx) ?_
      (conv => whnf)
      refine ask_mf (decide_eq_false (by omega)) ?_
      (conv => whnf)
      refine ⟨⟨by omega, by rw [List.length_map]; omega⟩, ?_⟩
      (conv => whnf)
      refine idx_map (by simpa using hx) ?_
      (conv => whnf)
      refine ask_mf (decide_eq_false (by rw [List.length_map]; omega)) ?_
      (conv => whnf)
      refine ⟨⟨by omega, by rw [List.length_map]; omega⟩, ?_⟩
      (conv => whnf)
      refine idx_map (by simpa using hx) ?_
      (conv => whnf)
      refine idx_and (by omega) (by simpa using hj) ?_
      (conv => whnf)
      refine ask_mf (by simp [hp]) ?_
      (conv => whnf)
      exact ⟨1, [], hlt, by omega, ⟨⟨rfl, rfl, rfl, eqI hii, trivial⟩, ⟨rfl, rfl, trivial⟩⟩⟩
  · have hi : i = c.length := by simp at hlt; omega
    subst hi
    have ei : IntKind.i64.wrap ((((c.map encI).length : Nat) : Int) - 1) = ((c.length - 1 : Nat) : Int) := by rw [List.length_map, w64] <;> omega
    (conv => whnf)
    refine call_i (law8_awake) ?_
    (conv => whnf)
    refine ask_mt (decide_eq_true (by rw [List.length_map]; omega)) ?_
    (conv => whnf)
    rw [ei]
    refine ⟨⟨by omega, by rw [List.length_map]; omega⟩, ?_⟩
    (conv => whnf)
    refine idx_map (by simpa using l1) ?_
    (conv => whnf)
    refine ask_mt (by simp) ?_
    (conv => whnf)
    refine call_i (robot_Chain r (-1) (by omega) (by omega)) ?_
    (conv => whnf)
    rw [hw]
    (conv => whnf)
    refine ret0 ?_
    exact ret_b (by decide) rfl
end Go.Proofs.YtlfclainmbafiaaDoor

/- What the row's list gives: the texts of robot.kindNames; a world that holds them. -/
namespace Go.Proofs.YtlfclainmbafiaaDoor
open Eng
set_option maxRecDepth 100000

theorem gTab : Tryd.prog.globalNamed "armplan/robot.kindNames" = some 0 := by kernel_rfl
theorem gTabType : (Tryd.prog.globals[0]?).map (·.type) = some Y.a7_string := by kernel_rfl
theorem uTab : Tryd.prog.underlying Y.a7_string = some (.array 7 Y.string) := by kernel_rfl
theorem uStr : Tryd.prog.underlying Y.string = some .string := by kernel_rfl
theorem cTab : Tryd.prog.cellsOf Y.a7_string = 7 := by kernel_rfl
theorem cStr : Tryd.prog.cellsOf Y.string = 1 := by kernel_rfl
theorem cells_of_texts {H : Type} {enc : TypeId × Value → H} {P : Program} {w : World} {base : Nat} {sp : Nat → Bool} {held : Bool} {fuel : Nat} {t e : TypeId} {n : Nat} {cs : List Value} {ss : List (List UInt8)} {p : List MemPlace}
    (ht : P.underlying t = some (.array n e)) (he : P.underlying e = some .string) (hce : P.cellsOf e = 1) (hct : P.cellsOf t = n)
    (h : DataW.trod enc P w base sp held fuel t cs = some (.agg (ss.map fun b => .lit (.string b)), p)) : ∀ (i : Nat) (b : List UInt8), ss[i]? = some b → cs[i]? = some (.string ⟨b.toArray⟩) := by
  cases fuel with
  | zero => simp [DataW.trod] at h
  | succ fuel =>
    simp only [DataW.trod, ht, hce, hct, Nat.mul_one] at h
    split at h
    · rename_i hl
      obtain ⟨xs, hm, hx⟩ := Option.map_eq_some_iff.1 h
      have hxs : xs.map (·.1) = ss.map fun b => (DataW.lit (.string b) : DataW H) := by
        have := congrArg Prod.fst hx
        simpa using this
      have hxl : xs.length = n := by simpa using Lib.mapM_length hm
      have hzl : ss.length = n := by
        have := congrArg List.length hxs
        simp at this
        omega
      intro i b hb
      have hi : i < n := by
        have := (List.getElem?_eq_some_iff.1 hb).1
        omega
      obtain ⟨y, hy, hf⟩ := Lib.mapM_at hm i i (by simp [hi])
      have h2 : (xs.map (·.1))[i]? = some (DataW.lit (.string b) : DataW H) := by rw [hxs]; simp [hb]
      simp only [List.getElem?_map, hy, Option.map_some, Option.some.injEq] at h2
      obtain ⟨yd, yp⟩ := y
      simp only at h2
      subst h2
      obtain ⟨str, hc, hx2, _⟩ := DataW.trod_string he hf
      simp only [Prod.mk.injEq, DataW.lit.injEq, Lit.string.injEq] at hx2
      have h1 : cs[i]? = some (.string str) := by
        have := congrArg (·[0]?) hc
        simpa [List.getElem?_take, List.getElem?_drop] using this
      rw [h1, hx2.1]
    · cases h
def kindB : List (List UInt8) := [[102, 105, 120, 101, 100], [116, 117, 114, 110, 120], [116, 117, 114, 110, 121], [116, 117, 114, 110, 122], [115, 108, 105, 100, 101, 120], [115, 108, 105, 100, 101, 121], [115, 108, 105, 100, 101, 122]]
theorem globs {W : World} (h : laidMet Tryd.prog [("armplan/robot.kindNames", Rows.laid_armplan_robot_kindNames)] W) : ∀ g ss, lkv GLV g = some ss → g < W.heap.size ∧ ∀ (j : Nat) s, ss[j]? = some s → W.cell? ⟨g, j, none⟩ = some (.string s) := by
  obtain ⟨ps, ⟨g', t', cs, fuel, p, q, hg', ht', hvar, hd, _, _⟩, _⟩ := h
  obtain rfl := Option.some.inj (gTab.symm.trans hg')
  obtain rfl := Option.some.inj (gTabType.symm.trans ht')
  have hc := cells_of_texts (ss := kindB) uTab uStr cStr cTab hd
  intro g ss hg
  have hg0 : g = 0 ∧ ss = kindB.map fun b => ⟨b.toArray⟩ := by
    rw [GLV, lkv] at hg
    cases hb : Nat.beq 0 g with
    | true =>
      rw [hb] at hg
      exact ⟨(Nat.eq_of_beq_eq_true hb).symm, (Option.some.inj hg).symm⟩
    | false => rw [hb] at hg; cases hg
  obtain ⟨rfl, rfl⟩ := hg0
  have hcell := World.var?_cell gTab hvar
  have key : ∀ (j : Nat) s, (kindB.map fun b => (⟨b.toArray⟩ : ByteArray))[j]? = some s → W.cell? ⟨0, j, none⟩ = some (.string s) := by
    intro j s hs
    rw [List.getElem?_map] at hs
    cases hb : kindB[j]? with
    | none => rw [hb] at hs; cases hs
    | some b =>
      rw [hb] at hs
      simp only [Option.map_some, Option.some.injEq] at hs
      subst hs
      rw [hcell]
      have := hc j b hb
      simpa using this
  refine ⟨?_, key⟩
  have h0 := key 0 _ rfl
  rcases Nat.lt_or_ge 0 W.heap.size with h | h
  · exact h
  · rw [World.cell?, Array.getElem?_eq_none h] at h0; cases h0
/-- a world for the witness: the settled one, the table holding what its initialiser lays -/
noncomputable def laidWorld (os : Os) : World :=
  { World.holding Tryd.prog os ⟨#[], #[], []⟩ with heap := (World.holding Tryd.prog os ⟨#[], #[], []⟩).heap.modify 0 fun
      | .cells _ t frozen => .cells #[.string ⟨#[102, 105, 120, 101, 100]⟩, .string ⟨#[116, 117, 114, 110, 120]⟩, .string ⟨#[116, 117, 114, 110, 121]⟩, .string ⟨#[116, 117, 114, 110, 122]⟩, .string ⟨#[115, 108, 105, 100, 101, 120]⟩, .string ⟨#[115, 108, 105, 100, 101, 121]⟩, .string ⟨#[115, 108, 105, 100, 101, 122]⟩] t frozen
      | o => o }
end Go.Proofs.YtlfclainmbafiaaDoor
