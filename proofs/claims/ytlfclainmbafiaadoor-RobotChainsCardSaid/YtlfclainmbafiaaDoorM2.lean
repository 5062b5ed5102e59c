import Derived.Test.YtlfclainmbafiaaDoorM1
import Derived.Lib.LaidTab
import Derived.Deep.DeepHandedRow
/- The makers: points. -/
namespace Go.Proofs.YtlfclainmbafiaaDoor
open Eng
set_option maxRecDepth 10000
attribute [local irreducible] FnOk loopW idxF retX arrF

def mkPt (l : List Int) (b : Vec) (q : Nat) : Vec := ⟨b.x + (nxt l q 7 - 3) * 32768, b.y + (nxt l (q + 1) 5 - 2) * 32768, b.z + (nxt l (q + 2) 5 - 2) * 32768⟩
def ptsTo (l : List Int) (b : Vec) (p k : Nat) : List Vec := b :: (List.range k).map fun i => mkPt l b (p + 1 + 3 * i)
def nPts (l : List Int) (p : Nat) : Nat := (nxt l p 4).toNat
def mkPts (l : List Int) (b : Vec) (p : Nat) : List Vec := ptsTo l b p (nPts l p)
def mkPtsAt (l : List Int) (p : Nat) : Nat := p + 1 + 3 * nPts l p
theorem ptsTo_succ (l : List Int) (b : Vec) (p k : Nat) : ptsTo l b p (k + 1) = ptsTo l b p k ++ [mkPt l b (p + 1 + 3 * k)] := by
  simp [ptsTo, List.range_succ]
def near (b : Vec) : Prop := (-1099511627776 ≤ b.x ∧ b.x ≤ 1099511627776) ∧ (-1099511627776 ≤ b.y ∧ b.y ≤ 1099511627776) ∧ (-1099511627776 ≤ b.z ∧ b.z ≤ 1099511627776)
theorem w_co {a c : Int} (h1 : -1099511627776 ≤ a) (h2 : a ≤ 1099511627776) (h3 : -10000 ≤ c) (h4 : c ≤ 10000) : IntKind.i64.wrap (a + IntKind.i64.wrap (c * 32768)) = a + c * 32768 := by
  rw [w64 (x := c * 32768) (by omega) (by omega), w64] <;> omega
theorem mk_points (l : List Int) (p : Nat) (b : Vec) (hl : l.length ≤ 4611686018427387904) (hb : near b) : FnOk Tryd.prog F.mk_points [.one (.vptr 0 0), Ve b] [(0, SrcJ l p)] 1 (.one (.dv (dVs (mkPts l b p)))) [(0, SrcJ l (mkPtsAt l p))] 1 := by
  refine fnOk tab mix G.mk_points rfl rfl (by kernel_rfl) rfl rfl ?_
  obtain ⟨⟨b1, b2⟩, ⟨b3, b4⟩, b5, b6⟩ := hb
  have n0 := nxt_bd (l := l) (j := p) (m := 4) (by omega)
  obtain ⟨n, hn⟩ : ∃ n : Nat, nxt l p 4 = n := ⟨(nxt l p 4).toNat, by omega⟩
  have hn2 : nPts l p = n := by simp [nPts, hn]
  rw [mkPts, mkPtsAt, hn2]
  (conv => whnf)
  refine call_i (mk_Next l p 4 (by omega) (by omega) hl) ?_
  (conv => whnf)
  rw [hn]
  refine loop_intro (fun k : Nat => ⟨[(0, .one (.vptr 0 0)), (3, .one (.vptr 1 0)), (5, .one (.row 2)), (6, I ((n : Int) - k))], [(0, SrcJ l (p + 1 + 3 * k)), (1, .vars Y.Vec [.dv (.int .i64 b.x), .dv (.int .i64 b.y), .dv (.int .i64 b.z)]), (2, .rows Y.Vec 3 ((ptsTo l b p k).map encV))], 3⟩) (fun k => k ≤ n) (fun k => n - k) [] 0 [] (Nat.zero_le _) ⟨⟨rfl, rfl, rfl, eqI (by simp), trivial⟩, ⟨rfl, rfl, rfl, trivial⟩⟩ ?_
  rintro k hk
  (conv => whnf)
  refine ask_m (fun h => ?_) (fun h => ?_)
  · have hlt : k < n := by have := of_decide_eq_true h; omega
    (conv => whnf)
    refine ⟨⟨by omega, by omega⟩, ?_⟩
    (conv => whnf)
    refine call_i (mk_Signed l (p + 1 + 3 * k) 3 7 (by omega) (by omega) (by omega) hl) ?_
    (conv => whnf)
    refine ⟨⟨by omega, by omega⟩, ?_⟩
    (conv => whnf)
    refine call_i (mk_Signed l (p + 1 + 3 * k + 1) 2 5 (by omega) (by omega) (by omega) hl) ?_
    (conv => whnf)
    refine ⟨⟨by omega, by omega⟩, ?_⟩
    (conv => whnf)
    refine call_i (mk_Signed l (p + 1 + 3 * k + 2) 2 5 (by omega) (by omega) (by omega) hl) ?_
    (conv => whnf)
    have hlen : (ptsTo l b p k).length = k + 1 := by simp [ptsTo]
    refine ⟨⟨by simp; omega, by simp; omega⟩, ?_⟩
    (conv => whnf)
    have s0 := nxt_bd (l := l) (j := p + 1 + 3 * k) (m := 7) (by omega)
    have s1 := nxt_bd (l := l) (j := p + 1 + 3 * k + 1) (m := 5) (by omega)
    have s2 := nxt_bd (l := l) (j := p + 1 + 3 * k + 2) (m := 5) (by omega)
    refine ⟨k + 1, [(2, 4)], hlt, by omega, ⟨⟨rfl, rfl, rfl, eqI ?_, trivial⟩, ⟨?_, rfl, ?_, trivial⟩⟩⟩
    · rw [w64] <;> omega
    · rw [show p + 1 + 3 * (k + 1) = p + 1 + 3 * k + 3 by omega]; rfl
    · rw [ptsTo_succ]
      rw [w_co b1 b2 (by omega) (by omega), w_co b3 b4 (by omega) (by omega), w_co b5 b6 (by omega) (by omega)]
      rw [List.map_append]
      rfl
  · have hk : k = n := by have := of_decide_eq_false h; omega
    subst hk
    (conv => whnf)
    refine retO [.frz 2] ?_
    (conv => whnf)
    exact ⟨[], ⟨rfl, trivial⟩, ⟨rfl, trivial⟩⟩
end Go.Proofs.YtlfclainmbafiaaDoor

/- The makers: robots. -/
namespace Go.Proofs.YtlfclainmbafiaaDoor
open Eng
set_option maxRecDepth 10000
attribute [local irreducible] FnOk loopW idxF retX arrF

def jPos (l : List Int) (p : Nat) : Nat → Nat
  | 0 => p
  | k + 1 => mkJointAt l (jPos l p k) k
def mkJoints (l : List Int) (p k : Nat) : List Joint := (List.range k).map fun i => mkJoint l (jPos l p i) i
theorem mkJoints_succ (l : List Int) (p k : Nat) : mkJoints l p (k + 1) = mkJoints l p k ++ [mkJoint l (jPos l p k) k] := by
  simp [mkJoints, List.range_succ]
def mkMass (l : List Int) (n : Nat) (q : Nat) : Mass := ⟨nxt l q n, 1 + nxt l (q + 1) 9000, ⟨(nxt l (q + 2) 7 - 3) * 32768, 0, (nxt l (q + 3) 5 - 2) * 32768⟩⟩
def mkMasses (l : List Int) (n q k : Nat) : List Mass := (List.range k).map fun i => mkMass l n (q + 1 + 4 * i)
theorem mkMasses_succ (l : List Int) (n q k : Nat) : mkMasses l n q (k + 1) = mkMasses l n q k ++ [mkMass l n (q + 1 + 4 * k)] := by
  simp [mkMasses, List.range_succ]
def nJ (l : List Int) (p : Nat) : Nat := 1 + (nxt l p 3).toNat
def qM (l : List Int) (p : Nat) : Nat := jPos l (p + 1) (nJ l p)
def nM (l : List Int) (p : Nat) : Nat := (nxt l (qM l p) 3).toNat
def mkRobot (l : List Int) (p : Nat) : Robot := ⟨mkJoints l (p + 1) (nJ l p), mkMasses l (nJ l p) (qM l p) (nM l p)⟩
def mkRobotAt (l : List Int) (p : Nat) : Nat := qM l p + 1 + 4 * nM l p
theorem mk_robot (l : List Int) (p : Nat) (hl : l.length ≤ 4611686018427387904) : FnOk Tryd.prog F.mk_robot [.one (.vptr 0 0)] [(0, SrcJ l p)] 1 (Ro (mkRobot l p)) [(0, SrcJ l (mkRobotAt l p))] 1 := by
  refine fnOk tab mix G.mk_robot rfl rfl (by kernel_rfl) rfl rfl ?_
  have n0 := nxt_bd (l := l) (j := p) (m := 3) (by omega)
  have hn : IntKind.i64.wrap (1 + nxt l p 3) = (nJ l p : Nat) := by
    rw [w64 (by omega) (by omega)]; unfold nJ; omega
  have hn2 : nJ l p ≤ 3 := by unfold nJ; omega
  have hn1 : 1 ≤ nJ l p := by unfold nJ; omega
  rw [mkRobotAt, mkRobot, nM, qM]
  (conv => whnf)
  refine call_i (mk_Next l p 3 (by omega) (by omega) hl) ?_
  (conv => whnf)
  rw [hn]
  generalize nJ l p = n at *
  refine loop_intro (fun k : Nat => ⟨[(0, .one (.vptr 0 0)), (2, .one (.vptr 1 0)), (3, .one (.vptr 2 0)), (4, I n), (5, I k)], [(0, SrcJ l (jPos l (p + 1) k)), (1, .vars Y.Robot [.nil 12, .nil 5]), (2, .vars Y.Robot [.row 3, .nil 5]), (3, .rows Y.Joint 12 ((mkJoints l (p + 1) k).map encJ))], 4⟩) (fun k => k ≤ n) (fun k => n - k) [.ownC 2 0 Y.Joint 12] 0 [] (Nat.zero_le _) ⟨⟨rfl, rfl, rfl, rfl, rfl, trivial⟩, ⟨rfl, rfl, rfl, rfl, trivial⟩⟩ ?_
  rintro k hk
  (conv => whnf)
  refine ask_m (fun h => ?_) (fun h => ?_)
  · have hlt : k < n := by have := of_decide_eq_true h; omega
    (conv => whnf)
    refine call_i (mk_joint l (jPos l (p + 1) k) k hl (by omega)) ?_
    (conv => whnf)
    have hlen : (mkJoints l (p + 1) k).length = k := by simp [mkJoints]
    have hkk : IntKind.i64.wrap ((k : Int) + 1) = ((k + 1 : Nat) : Int) := by rw [w64] <;> omega
    refine ⟨⟨by simp; omega, by simp; omega⟩, ?_⟩
    (conv => whnf)
    refine ⟨k + 1, [(3, 5)], hlt, by omega, ⟨⟨rfl, rfl, rfl, rfl, eqI hkk, trivial⟩, ⟨rfl, rfl, rfl, ?_, trivial⟩⟩⟩
    rw [mkJoints_succ, List.map_append]; rfl
  · have hk : k = n := by have := of_decide_eq_false h; omega
    subst hk
    (conv => whnf)
    refine call_i (mk_Next l (jPos l (p + 1) k) 3 (by omega) (by omega) hl) ?_
    (conv => whnf)
    generalize hq : jPos l (p + 1) k = q
    have c0 := nxt_bd (l := l) (j := q) (m := 3) (by omega)
    obtain ⟨c, hc⟩ : ∃ c : Nat, nxt l q 3 = c := ⟨(nxt l q 3).toNat, by omega⟩
    rw [hc, Int.toNat_natCast]
    refine loop_intro (fun i : Nat => ⟨[(0, .one (.vptr 0 0)), (2, .one (.vptr 1 0)), (3, .one (.vptr 2 0)), (4, I k), (6, I ((c : Int) - i))], [(0, SrcJ l (q + 1 + 4 * i)), (1, .vars Y.Robot [.nil 12, .nil 5]), (2, .vars Y.Robot [.row 3, .row 4]), (3, .rows Y.Joint 12 ((mkJoints l (p + 1) k).map encJ)), (4, .rows Y.Mass 5 ((mkMasses l k q i).map encM))], 5⟩) (fun i => i ≤ c) (fun i => c - i) [.ownC 2 1 Y.Mass 5] 0 [] (Nat.zero_le _) ⟨⟨rfl, rfl, rfl, rfl, eqI (by simp), trivial⟩, ⟨rfl, rfl, rfl, rfl, rfl, trivial⟩⟩ ?_
    rintro i hi
    (conv => whnf)
    refine ask_m (fun h => ?_) (fun h => ?_)
    · have hlt : i < c := by have := of_decide_eq_true h; omega
      (conv => whnf)
      refine call_i (mk_Next l (q + 1 + 4 * i) k (by omega) (by omega) hl) ?_
      (conv => whnf)
      refine call_i (mk_Next l (q + 1 + 4 * i + 1) 9000 (by omega) (by omega) hl) ?_
      (conv => whnf)
      refine call_i (mk_Signed l (q + 1 + 4 * i + 2) 3 7 (by omega) (by omega) (by omega) hl) ?_
      (conv => whnf)
      refine call_i (mk_Signed l (q + 1 + 4 * i + 3) 2 5 (by omega) (by omega) (by omega) hl) ?_
      (conv => whnf)
      have hlen : (mkMasses l k q i).length = i := by simp [mkMasses]
      refine ⟨⟨by simp; omega, by simp; omega⟩, ?_⟩
      (conv => whnf)
      have s1 := nxt_bd (l := l) (j := q + 1 + 4 * i + 1) (m := 9000) (by omega)
      have s2 := nxt_bd (l := l) (j := q + 1 + 4 * i + 2) (m := 7) (by omega)
      have s3 := nxt_bd (l := l) (j := q + 1 + 4 * i + 3) (m := 5) (by omega)
      refine ⟨i + 1, [(4, 6)], hlt, by omega, ⟨⟨rfl, rfl, rfl, rfl, eqI ?_, trivial⟩, ⟨?_, rfl, rfl, rfl, ?_, trivial⟩⟩⟩
      · rw [w64] <;> omega
      · rw [show q + 1 + 4 * (i + 1) = q + 1 + 4 * i + 4 by omega]; rfl
      · rw [mkMasses_succ, List.map_append, show IntKind.i64.wrap (1 + nxt l (q + 1 + 4 * i + 1) 9000) = 1 + nxt l (q + 1 + 4 * i + 1) 9000 by rw [w64] <;> omega, show IntKind.i64.wrap ((nxt l (q + 1 + 4 * i + 2) 7 - 3) * 32768) = (nxt l (q + 1 + 4 * i + 2) 7 - 3) * 32768 by rw [w64] <;> omega, show IntKind.i64.wrap ((nxt l (q + 1 + 4 * i + 3) 5 - 2) * 32768) = (nxt l (q + 1 + 4 * i + 3) 5 - 2) * 32768 by rw [w64] <;> omega]
        rfl
    · have hi : i = c := by have := of_decide_eq_false h; omega
      subst hi
      (conv => whnf)
      refine retO [.frz 3, .frz 4] ?_
      (conv => whnf)
      exact ⟨[], ⟨rfl, trivial⟩, ⟨rfl, trivial⟩⟩
end Go.Proofs.YtlfclainmbafiaaDoor

/- The makers: scenes. -/
namespace Go.Proofs.YtlfclainmbafiaaDoor
open Eng
set_option maxRecDepth 10000
attribute [local irreducible] FnOk loopW idxF retX arrF

def shPos (l : List Int) (q : Nat) : Nat → Nat
  | 0 => q
  | k + 1 => if nxt l (shPos l q k) 5 < 4 then mkPtsAt l (shPos l q k + 3) else shPos l q k + 1
def shOf (l : List Int) (q i : Nat) : List Shape := if nxt l q 5 < 4 then [⟨i, (1 + nxt l (q + 1) 3) * 8192, mkPts l ⟨nxt l (q + 2) 4 * 32768, 0, 0⟩ (q + 3)⟩] else []
def shLinks (l : List Int) (q k : Nat) : List Shape := (List.range k).flatMap fun i => shOf l (shPos l q i) i
theorem shLinks_succ (l : List Int) (q k : Nat) : shLinks l q (k + 1) = shLinks l q k ++ shOf l (shPos l q k) k := by
  simp [shLinks, List.range_succ]
theorem shLinks_len (l : List Int) (q k : Nat) : (shLinks l q k).length ≤ k := by
  induction k with
  | zero => simp [shLinks]
  | succ k ih =>
    rw [shLinks_succ, List.length_append]
    have : (shOf l (shPos l q k) k).length ≤ 1 := by unfold shOf; split <;> simp
    omega
def wPos (l : List Int) (q : Nat) : Nat → Nat
  | 0 => q
  | k + 1 => mkPtsAt l (wPos l q k + 4)
def shW (l : List Int) (q : Nat) : Shape := ⟨-1, (1 + nxt l (q + 3) 4) * 8192, mkPts l ⟨(nxt l q 19 - 9) * 32768, (nxt l (q + 1) 19 - 9) * 32768, (nxt l (q + 2) 5 - 2) * 32768⟩ (q + 4)⟩
def shWs (l : List Int) (q k : Nat) : List Shape := (List.range k).map fun i => shW l (wPos l q i)
theorem shWs_succ (l : List Int) (q k : Nat) : shWs l q (k + 1) = shWs l q k ++ [shW l (wPos l q k)] := by
  simp [shWs, List.range_succ]
def scQ1 (l : List Int) : Nat := shPos l (mkRobotAt l 0) (mkRobot l 0).joints.length
def scN (l : List Int) : Nat := 1 + (nxt l (scQ1 l) 3).toNat
def scQ2 (l : List Int) : Nat := wPos l (scQ1 l + 1) (scN l)
def mkSkips (l : List Int) (q n : Nat) : List Skip := if nxt l q 5 = 1 then [⟨-1, nxt l (q + 1) n⟩] else []
def mkScene (l : List Int) : Scene := ⟨mkRobot l 0, shLinks l (mkRobotAt l 0) (mkRobot l 0).joints.length ++ shWs l (scQ1 l + 1) (scN l), mkSkips l (scQ2 l) (mkRobot l 0).joints.length⟩
theorem w_rad {a : Int} (h0 : 0 ≤ a) (h1 : a < 4) : IntKind.i64.wrap ((IntKind.i64.wrap (IntKind.i64.wrap (1 + a) * 65536)).tdiv 8) = (1 + a) * 8192 := by
  rw [w64 (x := 1 + a) (by omega) (by omega), w64 (x := (1 + a) * 65536) (by omega) (by omega), show (1 + a) * 65536 = ((1 + a) * 8192) * 8 by omega, Int.mul_tdiv_cancel _ (by decide), w64] <;> omega
theorem near_mk {x y z : Int} (hx : -1099511627776 ≤ x ∧ x ≤ 1099511627776) (hy : -1099511627776 ≤ y ∧ y ≤ 1099511627776) (hz : -1099511627776 ≤ z ∧ z ≤ 1099511627776) : near ⟨x, y, z⟩ := ⟨hx, hy, hz⟩
theorem joints_len (l : List Int) (p : Nat) : 1 ≤ (mkRobot l p).joints.length ∧ (mkRobot l p).joints.length ≤ 3 := by
  have := nxt_bd (l := l) (j := p) (m := 3) (by omega)
  simp [mkRobot, mkJoints, nJ]; omega
theorem mk_Scene (l : List Int) (hl : l.length ≤ 4611686018427387904) : FnOk Tryd.prog F.mk_Scene [Li l] [] 0 (Sc (mkScene l)) [] 0 := by
  refine fnOk tab mix G.mk_Scene rfl rfl (by kernel_rfl) rfl rfl ?_
  have hn := joints_len l 0
  have hS : mkScene l = ⟨mkRobot l 0, shLinks l (mkRobotAt l 0) (mkRobot l 0).joints.length ++ shWs l (scQ1 l + 1) (scN l), mkSkips l (scQ2 l) (mkRobot l 0).joints.length⟩ := rfl
  rw [hS, scQ2, scN, scQ1]
  (conv => whnf)
  refine call_i (mk_From l) ?_
  (conv => whnf)
  refine call_i (mk_robot l 0 hl) ?_
  (conv => whnf)
  generalize mkRobot l 0 = r at *
  generalize mkRobotAt l 0 = q0
  refine loop_intro (fun k : Nat => ⟨[(2, .one (.vptr 0 0)), (3, .one (.vptr 1 0)), (4, .one (.vptr 2 0)), (5, I k)], [(0, .vars Y.Scene [.nil 12, .nil 5, .nil 3, .nil 2]), (1, SrcJ l (shPos l q0 k)), (2, .vars Y.Scene [.dv (dJs r.joints), .dv (dMs r.masses), .row 3, .nil 2]), (3, .rows Y.Shape 3 ((shLinks l q0 k).map encSh))], 4⟩) (fun k => k ≤ r.joints.length) (fun k => r.joints.length - k) [.ownC 2 2 Y.Shape 3] 0 [] (Nat.zero_le _) ⟨⟨rfl, rfl, rfl, rfl, trivial⟩, ⟨rfl, rfl, rfl, rfl, trivial⟩⟩ ?_
  rintro k hk
  (conv => whnf)
  refine ask_m (fun h => ?_) (fun h => ?_)
  · have hlt : k < r.joints.length := by simpa using h
    have hkk : IntKind.i64.wrap ((k : Int) + 1) = ((k + 1 : Nat) : Int) := by rw [w64] <;> omega
    have hll := shLinks_len l q0 k
    have hsucc := shLinks_succ l q0 k
    have hpos : shPos l q0 (k + 1) = if nxt l (shPos l q0 k) 5 < 4 then mkPtsAt l (shPos l q0 k + 3) else shPos l q0 k + 1 := rfl
    generalize shPos l q0 k = q at *
    (conv => whnf)
    refine call_i (mk_Next l q 5 (by omega) (by omega) hl) ?_
    (conv => whnf)
    refine ask_m (fun h => ?_) (fun h => ?_)
    · have h := of_decide_eq_true h
      rw [if_pos h] at hpos
      rw [shOf, if_pos h] at hsucc
      have s1 := nxt_bd (l := l) (j := q + 1) (m := 3) (by omega)
      have s2 := nxt_bd (l := l) (j := q + 2) (m := 4) (by omega)
      (conv => whnf)
      refine call_i (mk_Next l (q + 1) 3 (by omega) (by omega) hl) ?_
      (conv => whnf)
      refine ⟨by omega, ?_⟩
      (conv => whnf)
      refine call_i (mk_Next l (q + 2) 4 (by omega) (by omega) hl) ?_
      (conv => whnf)
      rw [w64 (x := nxt l (q + 2) 4 * 32768) (by omega) (by omega), w_rad s1.1 (by omega)]
      refine call_i (mk_points l (q + 3) ⟨nxt l (q + 2) 4 * 32768, 0, 0⟩ hl (near_mk (by omega) (by omega) (by omega))) ?_
      (conv => whnf)
      refine ⟨⟨by simp; omega, by simp; omega⟩, ?_⟩
      (conv => whnf)
      refine ⟨k + 1, [(3, 5)], hlt, by omega, ⟨⟨rfl, rfl, rfl, eqI hkk, trivial⟩, ⟨rfl, ?_, rfl, ?_, trivial⟩⟩⟩
      · rw [hpos]; rfl
      · rw [hsucc, List.map_append]; rfl
    · have h := of_decide_eq_false h
      rw [if_neg h] at hpos
      rw [shOf, if_neg h, List.append_nil] at hsucc
      (conv => whnf)
      refine ⟨k + 1, [], hlt, by omega, ⟨⟨rfl, rfl, rfl, eqI hkk, trivial⟩, ⟨rfl, ?_, rfl, ?_, trivial⟩⟩⟩
      · rw [hpos]; rfl
      · rw [hsucc]; rfl
  · have hk : k = r.joints.length := by simp at h; omega
    subst hk
    generalize hq1 : shPos l q0 r.joints.length = q1
    have hll := shLinks_len l q0 r.joints.length
    generalize shLinks l q0 r.joints.length = ls at *
    have c0 := nxt_bd (l := l) (j := q1) (m := 3) (by omega)
    obtain ⟨c, hc⟩ : ∃ c : Nat, 1 + (nxt l q1 3).toNat = c := ⟨_, rfl⟩
    have hc1 : IntKind.i64.wrap (1 + nxt l q1 3) = (c : Int) := by rw [w64] <;> omega
    rw [hc]
    (conv => whnf)
    refine call_i (mk_Next l q1 3 (by omega) (by omega) hl) ?_
    (conv => whnf)
    rw [hc1]
    refine loop_intro (fun k : Nat => ⟨[(2, .one (.vptr 0 0)), (3, .one (.vptr 1 0)), (4, .one (.vptr 2 0)), (6, I ((c : Int) - k))], [(0, .vars Y.Scene [.nil 12, .nil 5, .nil 3, .nil 2]), (1, SrcJ l (wPos l (q1 + 1) k)), (2, .vars Y.Scene [.dv (dJs r.joints), .dv (dMs r.masses), .row 3, .nil 2]), (3, .rows Y.Shape 3 ((ls ++ shWs l (q1 + 1) k).map encSh))], 4⟩) (fun k => k ≤ c) (fun k => c - k) [] 0 [] (Nat.zero_le _) ⟨⟨rfl, rfl, rfl, eqI (by simp), trivial⟩, ⟨rfl, rfl, rfl, ?_, trivial⟩⟩ ?_
    · simp [shWs]; rfl
    rintro k hk
    (conv => whnf)
    refine ask_m (fun h => ?_) (fun h => ?_)
    · have hlt : k < c := by have := of_decide_eq_true h; omega
      have hlen : (shWs l (q1 + 1) k).length = k := by simp [shWs]
      have hsucc := shWs_succ l (q1 + 1) k
      have hpos : wPos l (q1 + 1) (k + 1) = mkPtsAt l (wPos l (q1 + 1) k + 4) := rfl
      generalize wPos l (q1 + 1) k = q at *
      have s0 := nxt_bd (l := l) (j := q) (m := 19) (by omega)
      have s1 := nxt_bd (l := l) (j := q + 1) (m := 19) (by omega)
      have s2 := nxt_bd (l := l) (j := q + 2) (m := 5) (by omega)
      have s3 := nxt_bd (l := l) (j := q + 3) (m := 4) (by omega)
      (conv => whnf)
      refine call_i (mk_Signed l q 9 19 (by omega) (by omega) (by omega) hl) ?_
      (conv => whnf)
      refine call_i (mk_Signed l (q + 1) 9 19 (by omega) (by omega) (by omega) hl) ?_
      (conv => whnf)
      refine call_i (mk_Signed l (q + 2) 2 5 (by omega) (by omega) (by omega) hl) ?_
      (conv => whnf)
      refine call_i (mk_Next l (q + 3) 4 (by omega) (by omega) hl) ?_
      (conv => whnf)
      refine ⟨by omega, ?_⟩
      (conv => whnf)
      rw [w64 (x := (nxt l q 19 - 9) * 32768) (by omega) (by omega), w64 (x := (nxt l (q + 1) 19 - 9) * 32768) (by omega) (by omega), w64 (x := (nxt l (q + 2) 5 - 2) * 32768) (by omega) (by omega), w_rad s3.1 s3.2]
      refine call_i (mk_points l (q + 4) ⟨(nxt l q 19 - 9) * 32768, (nxt l (q + 1) 19 - 9) * 32768, (nxt l (q + 2) 5 - 2) * 32768⟩ hl (near_mk (by omega) (by omega) (by omega))) ?_
      (conv => whnf)
      refine ⟨⟨by simp; omega, by simp; omega⟩, ?_⟩
      (conv => whnf)
      refine ⟨k + 1, [(3, 6)], hlt, by omega, ⟨⟨rfl, rfl, rfl, eqI ?_, trivial⟩, ⟨rfl, ?_, rfl, ?_, trivial⟩⟩⟩
      · rw [w64] <;> omega
      · rw [hpos]; rfl
      · show Box.rows Y.Shape 3 _ = Box.rows Y.Shape 3 _
        refine congrArg _ ?_
        rw [hsucc, show ls ++ (shWs l (q1 + 1) k ++ [shW l q]) = (ls ++ shWs l (q1 + 1) k) ++ [shW l q] by rw [List.append_assoc], List.map_append (l₁ := ls ++ shWs l (q1 + 1) k)]; rfl
    · have hk : k = c := by have := of_decide_eq_false h; omega
      subst hk
      generalize wPos l (q1 + 1) k = q at *
      (conv => whnf)
      refine call_i (mk_Next l q 5 (by omega) (by omega) hl) ?_
      (conv => whnf)
      refine ask_m (fun h => ?_) (fun h => ?_)
      · have h : nxt l q 5 = 1 := by simpa using h
        rw [mkSkips, if_pos h]
        (conv => whnf)
        rw [List.length_map]
        refine call_i (mk_Next l (q + 1) r.joints.length (by omega) (by omega) hl) ?_
        (conv => whnf)
        refine ⟨⟨by simp, by simp⟩, ?_⟩
        (conv => whnf)
        refine retO [.frz 3, .frz 5] ?_
        (conv => whnf)
        exact ⟨[], ⟨rfl, trivial⟩, trivial⟩
      · have h : ¬ nxt l q 5 = 1 := by simpa using h
        rw [mkSkips, if_neg h]
        (conv => whnf)
        refine retO [.frz 3, .ownC 0 3 Y.Skip 2, .frz 4] ?_
        (conv => whnf)
        exact ⟨[], ⟨rfl, trivial⟩, trivial⟩
end Go.Proofs.YtlfclainmbafiaaDoor

/- What the makers make is valid. No program in sight. -/
namespace Go.Proofs.YtlfclainmbafiaaDoor
open Eng
set_option maxRecDepth 10000

/-- what is asked of a joint but for its name -/
theorem inV_mk {x y z m : Int} (h1 : -m ≤ x ∧ x ≤ m) (h2 : -m ≤ y ∧ y ≤ m) (h3 : -m ≤ z ∧ z ≤ m) : inV ⟨x, y, z⟩ m = true := by
  simp [inV]; omega
theorem letter_name : ∀ k, k < 10 → nameOk (letter k) = true := by decide
theorem letter_ne : ∀ k, k < 10 → ∀ j, j < 10 → letter k = letter j → k = j := by decide
theorem kindOf_mem {n : Int} (h0 : 0 ≤ n) (h8 : n < 8) : kindOf n = 3 ∨ kindOf n = 1 ∨ kindOf n = 2 ∨ kindOf n = 4 ∨ kindOf n = 5 ∨ kindOf n = 0 := by
  obtain ⟨k, rfl⟩ : ∃ k : Nat, n = k := ⟨n.toNat, by omega⟩
  rw [kindOf, Int.toNat_natCast]
  match k, h8 with
  | 0, _ | 1, _ | 2, _ | 3, _ | 4, _ | 5, _ | 6, _ | 7, _ => decide
  | k + 8, h => omega
theorem mkJoint_body (l : List Int) (p i : Nat) : bodyOk i (mkJoint l p i) := by
  have hk := kindOf_mem (nxt_bd (l := l) (j := p + 2) (m := 8) (by omega)).1 (nxt_bd (l := l) (j := p + 2) (m := 8) (by omega)).2
  refine ⟨?_, ?_, ?_, ?_, ?_⟩
  · show 0 ≤ kindOf _ ∧ kindOf _ ≤ 6
    omega
  · show -1 ≤ jParent l p i ∧ jParent l p i < (i : Int)
    unfold jParent; split <;> omega
  · show inV (jOff l p i) _ = true
    have h1 := nxt_bd (l := l) (j := p + 4) (m := 5) (by omega)
    have h2 := nxt_bd (l := l) (j := p + 5) (m := 3) (by omega)
    unfold jOff; split
    · exact inV_mk (by omega) (by omega) (by omega)
    · rfl
  · show (jSpan l (jAt p i) (jKind l p)).1 ≤ (jSpan l (jAt p i) (jKind l p)).2.1 ∧ - reach (jKind l p) ≤ (jSpan l (jAt p i) (jKind l p)).1 ∧ (jSpan l (jAt p i) (jKind l p)).2.1 ≤ reach (jKind l p)
    generalize jAt p i = q
    have h1 := nxt_bd (l := l) (j := q) (m := 3) (by omega)
    have h2 := nxt_bd (l := l) (j := q + 1) (m := 4) (by omega)
    have h3 := nxt_bd (l := l) (j := q) (m := 5) (by omega)
    have h4 := nxt_bd (l := l) (j := q + 2) (m := 3) (by omega)
    have hk' : jKind l p = 3 ∨ jKind l p = 1 ∨ jKind l p = 2 ∨ jKind l p = 4 ∨ jKind l p = 5 ∨ jKind l p = 0 := hk
    rcases hk' with e | e | e | e | e | e <;> rw [e] <;> simp [jSpan, reach] <;> omega
  · show (from1 (1 + nxt l p 4) 1024 && from1 65536 1048576 && from1 (65536 + nxt l (p + 1) 3) 1048576 && from1 327680 1099511627776) = true
    have h1 := nxt_bd (l := l) (j := p) (m := 4) (by omega)
    have h2 := nxt_bd (l := l) (j := p + 1) (m := 3) (by omega)
    simp [from1]; omega
theorem mkJoints_at {l : List Int} {p n k : Nat} {j : Joint} (h : (mkJoints l p n)[k]? = some j) : k < n ∧ j = mkJoint l (jPos l p k) k := by
  unfold mkJoints at h
  rw [List.getElem?_map] at h
  simp only [Option.map_eq_some_iff] at h
  obtain ⟨i, hi, rfl⟩ := h
  obtain ⟨h1, h2⟩ := List.getElem?_eq_some_iff.1 hi
  simp at h1 h2
  subst h2
  exact ⟨h1, rfl⟩
theorem mkJoints_ok (l : List Int) (p n : Nat) (hn : n ≤ 10) : jointsErr (mkJoints l p n) 0 (mkJoints l p n) = 0 := by
  refine jointsErr_zero fun k j hj => ?_
  obtain ⟨h1, h2⟩ := mkJoints_at hj
  rw [Nat.zero_add]
  refine jointErr_zero ?_ ?_ ?_
  · rw [h2]; exact letter_name k (by omega)
  · have := find_at (k := 0) hj fun i' j' hi hj' e => by
      obtain ⟨h3, h4⟩ := mkJoints_at hj'
      rw [h2, h4] at e
      have := letter_ne i' (by omega) k (by omega) e
      omega
    rw [this]; simp
  · rw [h2]; exact mkJoint_body l _ k
theorem linkOk_mk {n : Nat} {k : Int} (h1 : -1 ≤ k) (h2 : k < (n : Int)) : linkOk n k = true := by simp [linkOk]; omega
theorem massOk_mk {n : Nat} {a b : Int} {v : Vec} (h1 : 0 ≤ a) (h2 : a < (n : Int)) (h3 : 1 ≤ b) (h4 : b ≤ 65536) (h5 : inV v 4194304 = true) : massOk n ⟨a, b, v⟩ = true := by simp [massOk, from1, h5]; omega
theorem mkMass_ok (l : List Int) (n q : Nat) (hn : 0 < n) : massOk n (mkMass l n q) = true := by
  have h1 := nxt_bd (l := l) (j := q) (m := n) (by omega)
  have h2 := nxt_bd (l := l) (j := q + 1) (m := 9000) (by omega)
  have h3 := nxt_bd (l := l) (j := q + 2) (m := 7) (by omega)
  have h4 := nxt_bd (l := l) (j := q + 3) (m := 5) (by omega)
  have h5 : inV ⟨(nxt l (q + 2) 7 - 3) * 32768, 0, (nxt l (q + 3) 5 - 2) * 32768⟩ 4194304 = true := inV_mk (by omega) (by omega) (by omega)
  exact massOk_mk h1.1 h1.2 (by omega) (by omega) h5
theorem robot_valid {r : Robot} (h1 : 1 ≤ r.joints.length) (h2 : r.joints.length ≤ 10) (h3 : jointsErr r.joints 0 r.joints = 0) (h4 : r.masses.length ≤ 32) (h5 : r.masses.all (massOk r.joints.length) = true) : checkRobot r = 0 := by
  unfold checkRobot
  rw [if_neg (by omega), if_neg (by rw [h3]; simp), if_neg (by rw [h5]; simp; omega)]
theorem nJ_bd (l : List Int) (p : Nat) : 1 ≤ nJ l p ∧ nJ l p ≤ 3 := by
  have := nxt_bd (l := l) (j := p) (m := 3) (by omega)
  unfold nJ; omega
theorem mkJoints_len (l : List Int) (p n : Nat) : (mkJoints l p n).length = n := by simp [mkJoints]
theorem mkRobot_ok (l : List Int) (p : Nat) : checkRobot (mkRobot l p) = 0 := by
  have hn := nJ_bd l p
  have hl : (mkRobot l p).joints.length = nJ l p := mkJoints_len l (p + 1) (nJ l p)
  have hm := nxt_bd (l := l) (j := qM l p) (m := 3) (by omega)
  refine robot_valid (by omega) (by omega) (mkJoints_ok l (p + 1) (nJ l p) (by omega)) ?_ ?_
  · simp [mkRobot, mkMasses, nM]; omega
  · rw [hl, List.all_eq_true]
    intro m hmm
    simp only [mkRobot, mkMasses, List.mem_map] at hmm
    obtain ⟨i, _, rfl⟩ := hmm
    exact mkMass_ok l (nJ l p) _ (by omega)
theorem shapesErr_zero {n : Nat} : ∀ {l : List Shape}, (∀ x ∈ l, shapeErr n x = 0) → shapesErr n l = 0
  | [], _ => rfl
  | x :: l, h => by rw [shapesErr, if_pos (h x (by simp))]; exact shapesErr_zero fun y hy => h y (by simp [hy])
theorem shapeErr_zero {n : Nat} {x : Shape} (h1 : linkOk n x.link = true) (h2 : 1 ≤ x.radius ∧ x.radius ≤ 1048576) (h3 : 1 ≤ x.points.length ∧ x.points.length ≤ 8) (h4 : x.points.all (inV · 4194304) = true) : shapeErr n x = 0 := by
  unfold shapeErr
  rw [if_neg (by rw [h1]; rintro (h | h | h | h | h) <;> first | contradiction | omega), if_neg (by rw [h4]; simp)]
theorem mkPts_len (l : List Int) (b : Vec) (p : Nat) : 1 ≤ (mkPts l b p).length ∧ (mkPts l b p).length ≤ 4 := by
  have := nxt_bd (l := l) (j := p) (m := 4) (by omega)
  simp [mkPts, ptsTo, nPts]; omega
theorem mkPts_in (l : List Int) (b : Vec) (p : Nat) (hx : -1048576 ≤ b.x ∧ b.x ≤ 1048576) (hy : -1048576 ≤ b.y ∧ b.y ≤ 1048576) (hz : -1048576 ≤ b.z ∧ b.z ≤ 1048576) : (mkPts l b p).all (inV · 4194304) = true := by
  rw [List.all_eq_true]
  intro v hv
  simp only [mkPts, ptsTo, List.mem_cons, List.mem_map] at hv
  rcases hv with rfl | ⟨i, _, rfl⟩
  · obtain ⟨x, y, z⟩ := v
    simp only at hx hy hz
    exact inV_mk (by omega) (by omega) (by omega)
  · have h1 := nxt_bd (l := l) (j := p + 1 + 3 * i) (m := 7) (by omega)
    have h2 := nxt_bd (l := l) (j := p + 1 + 3 * i + 1) (m := 5) (by omega)
    have h3 := nxt_bd (l := l) (j := p + 1 + 3 * i + 2) (m := 5) (by omega)
    exact inV_mk (by omega) (by omega) (by omega)
theorem shOf_ok {l : List Int} {q i n : Nat} (hi : i < n) {x : Shape} (h : x ∈ shOf l q i) : shapeErr n x = 0 := by
  unfold shOf at h
  split at h
  · simp only [List.mem_singleton] at h
    subst h
    have h1 := nxt_bd (l := l) (j := q + 1) (m := 3) (by omega)
    have h2 := nxt_bd (l := l) (j := q + 2) (m := 4) (by omega)
    have h3 := mkPts_len l ⟨nxt l (q + 2) 4 * 32768, 0, 0⟩ (q + 3)
    refine shapeErr_zero ?_ ⟨?_, ?_⟩ ⟨h3.1, Nat.le_trans h3.2 (by decide)⟩ (mkPts_in l _ _ ⟨?_, ?_⟩ ⟨?_, ?_⟩ ⟨?_, ?_⟩)
    · simp [linkOk]; omega
    all_goals (simp only; omega)
  · simp at h
theorem shW_ok (l : List Int) (q n : Nat) : shapeErr n (shW l q) = 0 := by
  have h0 := nxt_bd (l := l) (j := q) (m := 19) (by omega)
  have h1 := nxt_bd (l := l) (j := q + 1) (m := 19) (by omega)
  have h2 := nxt_bd (l := l) (j := q + 2) (m := 5) (by omega)
  have h3 := nxt_bd (l := l) (j := q + 3) (m := 4) (by omega)
  have h4 := mkPts_len l ⟨(nxt l q 19 - 9) * 32768, (nxt l (q + 1) 19 - 9) * 32768, (nxt l (q + 2) 5 - 2) * 32768⟩ (q + 4)
  refine shapeErr_zero ?_ ⟨?_, ?_⟩ ⟨h4.1, Nat.le_trans h4.2 (by decide)⟩ (mkPts_in l _ _ ⟨?_, ?_⟩ ⟨?_, ?_⟩ ⟨?_, ?_⟩)
  · exact linkOk_mk (k := -1) (by omega) (by omega)
  all_goals (simp only [shW]; omega)
theorem scene_valid {s : Scene} (h1 : checkRobot s.robot = 0) (h2 : s.shapes.length ≤ 24) (h3 : ∀ x ∈ s.shapes, shapeErr s.robot.joints.length x = 0) (h4 : s.skips.length ≤ 64) (h5 : (s.skips.all fun k => linkOk s.robot.joints.length k.a && linkOk s.robot.joints.length k.b) = true) : checkScene s = 0 := by
  unfold checkScene
  rw [if_neg (by rw [h1]; simp), if_neg (by omega), if_neg (by rw [shapesErr_zero h3]; simp), if_neg (by omega), if_neg (by rw [h5]; simp)]
theorem mkScene_len (l : List Int) : (mkScene l).shapes.length ≤ 6 ∧ (mkScene l).skips.length ≤ 1 ∧ (mkScene l).robot.masses.length ≤ 2 := by
  have hn := joints_len l 0
  have h1 := shLinks_len l (mkRobotAt l 0) (mkRobot l 0).joints.length
  have h2 := nxt_bd (l := l) (j := scQ1 l) (m := 3) (by omega)
  have h3 := nxt_bd (l := l) (j := qM l 0) (m := 3) (by omega)
  refine ⟨?_, ?_, ?_⟩
  · simp only [mkScene, List.length_append, shWs, List.length_map, List.length_range, scN]; omega
  · simp only [mkScene, mkSkips]; split <;> simp
  · simp [mkScene, mkRobot, mkMasses, nM]; omega
theorem mkScene_ok (l : List Int) : checkScene (mkScene l) = 0 := by
  have hn := joints_len l 0
  obtain ⟨k1, k2, _⟩ := mkScene_len l
  refine scene_valid (mkRobot_ok l 0) (by omega) (fun x hx => ?_) (by omega) ?_
  · simp only [mkScene, List.mem_append, shLinks, List.mem_flatMap, List.mem_range, shWs, List.mem_map] at hx
    rcases hx with ⟨i, hi, hx⟩ | ⟨i, _, rfl⟩
    · exact shOf_ok hi hx
    · exact shW_ok l _ _
  · rw [List.all_eq_true]
    intro k hk
    simp only [mkScene, mkSkips] at hk
    split at hk
    · simp only [List.mem_singleton] at hk
      subst hk
      have := nxt_bd (l := l) (j := scQ2 l + 1) (m := ((mkRobot l 0).joints.length : Int)) (by omega)
      rw [Bool.and_eq_true]
      exact ⟨linkOk_mk (k := -1) (by omega) (by omega), linkOk_mk (k := nxt l (scQ2 l + 1) ((mkRobot l 0).joints.length : Int)) (by omega) this.2⟩
    · simp at hk
theorem mkScene_small (l : List Int) : small (mkScene l) := by
  have hn := joints_len l 0
  obtain ⟨k1, k2, k3⟩ := mkScene_len l
  refine ⟨by show (mkRobot l 0).joints.length ≤ _; omega, by omega, by omega, by omega, fun x hx => ?_⟩
  simp only [mkScene, List.mem_append, shLinks, List.mem_flatMap, List.mem_range, shWs, List.mem_map] at hx
  rcases hx with ⟨i, hi, hx⟩ | ⟨i, _, rfl⟩
  · unfold shOf at hx
    split at hx
    · simp only [List.mem_singleton] at hx
      subst hx
      have := mkPts_len l ⟨nxt l (shPos l (mkRobotAt l 0) i + 2) 4 * 32768, 0, 0⟩ (shPos l (mkRobotAt l 0) i + 3)
      simp only; omega
    · simp at hx
  · unfold shW
    simp only
    generalize wPos l (scQ1 l + 1) i = q
    have := mkPts_len l ⟨(nxt l q 19 - 9) * 32768, (nxt l (q + 1) 19 - 9) * 32768, (nxt l (q + 2) 5 - 2) * 32768⟩ (q + 4)
    omega
end Go.Proofs.YtlfclainmbafiaaDoor

/- law8: Chain, awake, RobotChainSteps. -/
namespace Go.Proofs.YtlfclainmbafiaaDoor
open Eng
set_option maxRecDepth 10000
attribute [local irreducible] FnOk loopW idxF retX arrF findF

def chainOf (r : Robot) (k : Int) : List Int := if hasB r [k] then chain r.joints k else []
theorem has_good {r : Robot} {ks : List Int} (h : hasB r ks = true) : checkRobot r = 0 ∧ ∀ k ∈ ks, -1 ≤ k ∧ k < r.joints.length := by
  simp only [hasB, Bool.and_eq_true, List.all_eq_true, decide_eq_true_eq] at h
  exact ⟨h.2, fun k hk => link_bd (h.1 k hk)⟩
theorem robot_Chain (r : Robot) (k : Int) (hj : r.joints.length ≤ 4611686018427387904) (hm : r.masses.length ≤ 4611686018427387904) : FnOk Tryd.prog F.robot_Chain [Ro r, I k] [] 0 (.one (.row 0)) [(0, bIs (chainOf r k))] 1 := by
  refine fnOk tab mix G.robot_Chain rfl rfl (by kernel_rfl) rfl rfl ?_
  (conv => whnf)
  refine call_i (robot_has r [k] hj hm (by simp)) ?_
  (conv => whnf)
  refine ⟨⟨trivial, trivial⟩, ?_⟩
  (conv => whnf)
  cases hh : hasB r [k] with
  | false =>
    (conv => whnf)
    rw [chainOf, hh]
    (conv => whnf)
    refine retO [.own 4 Y.int 1] ?_
    (conv => whnf)
    exact ⟨[(0, 2)], ⟨rfl, trivial⟩, ⟨rfl, trivial⟩⟩
  | true =>
    obtain ⟨h1, h2⟩ := has_good hh
    obtain ⟨g1, g2, g3⟩ := robot_good h1
    have h3 := h2 k (by simp)
    rw [chainOf, hh]
    (conv => whnf)
    refine call_i (robot_chain r k g1 g3 h3.1 h3.2) ?_
    (conv => whnf)
    (conv => whnf)
    refine retO [] ?_
    (conv => whnf)
    exact ⟨[(0, 2)], ⟨rfl, trivial⟩, ⟨rfl, trivial⟩⟩
theorem mk_Robot (l : List Int) (hl : l.length ≤ 4611686018427387904) : FnOk Tryd.prog F.mk_Robot [Li l] [] 0 (Ro (mkRobot l 0)) [] 0 := by
  refine fnOk tab mix G.mk_Robot rfl rfl (by kernel_rfl) rfl rfl ?_
  (conv => whnf)
  refine call_i (mk_From l) ?_
  (conv => whnf)
  refine call_i (mk_robot l 0 hl) ?_
  (conv => whnf)
  (conv => whnf)
  refine ret0 ?_
  exact ⟨[], ⟨rfl, trivial⟩, trivial⟩
def baseT : ByteArray := ⟨#[98, 97, 115, 101]⟩
def one8 : Robot := ⟨[⟨baseT, 3, -1, ⟨0, 0, 0⟩, -16384, 16384, 1, 65536, 65536, 65536⟩], []⟩
theorem law8_one : FnOk Tryd.prog F.law8_one [] [] 0 (Ro one8) [] 0 := by
  refine fnOk tab mix G.law8_one rfl rfl (by kernel_rfl) rfl rfl ?_
  (conv => whnf)
  (conv => whnf)
  refine retO [.ownC 0 1 Y.Mass 5, .frz 1, .frz 2] ?_
  (conv => whnf)
  exact ⟨[], ⟨rfl, trivial⟩, trivial⟩
def st8 : Stmt := ⟨1, wJoint, [baseT, ⟨#[116, 117, 114, 110, 122]⟩, worldT, ⟨#[48]⟩, ⟨#[48]⟩, ⟨#[48]⟩, ⟨#[45, 48, 46, 50, 53]⟩, ⟨#[48, 46, 50, 53]⟩, ⟨#[49]⟩]⟩
theorem read_one : readRobot [st8] = (one8, 0, 0) := by decide +kernel
theorem st8_ok : ∀ s ∈ [st8], stOk s := by
  have h : stOk st8 := by unfold stOk; decide
  intro s hs
  simp only [List.mem_singleton] at hs
  subst hs; exact h
theorem one_ok : checkRobot one8 = 0 := by decide
theorem law8_awake : FnOk Tryd.prog F.law8_awake [] [] 0 (Bo true) [] 0 := by
  refine fnOk tab mix G.law8_awake rfl rfl (by kernel_rfl) rfl rfl ?_
  (conv => whnf)
  refine call_i (robot_Read [st8] (by decide) st8_ok) ?_
  (conv => whnf)
  rw [read_one]
  (conv => whnf)
  refine call_i (law8_one) ?_
  (conv => whnf)
  refine call_i (robot_Check one8 (by decide) (by decide)) ?_
  (conv => whnf)
  rw [one_ok]
  (conv => whnf)
  refine call_i (law8_one) ?_
  (conv => whnf)
  refine call_i (mk_SameRobot one8 one8 ⟨by decide, by decide⟩ ⟨by decide, by decide⟩) ?_
  (conv => whnf)
  rw [decide_eq_true rfl]
  (conv => whnf)
  refine call_i (law8_one) ?_
  (conv => whnf)
  refine call_i (robot_Find one8 baseT (by decide)) ?_
  (conv => whnf)
  (conv => whnf)
  refine ret0 ?_
  exact ret_b (by decide) rfl
/- the joints of a chain -/
theorem chain_last {js : List Joint} (hd : downOk js) {k : Nat} (hk : k < js.length) : (chain js k)[(chain js k).length - 1]? = some (k : Int) ∧ 0 < (chain js k).length := by
  obtain ⟨j, hj⟩ : ∃ j, js[k]? = some j := ⟨_, List.getElem?_eq_getElem hk⟩
  rw [chain_step hd hj]
  simp
theorem chain_par {js : List Joint} (hd : downOk js) : ∀ k : Int, -1 ≤ k → k < js.length → ∀ (i : Nat) (x : Int), (chain js k)[i]? = some x → 0 ≤ x ∧ x < js.length ∧ ∃ j, js[x.toNat]? = some j ∧ j.parent = if i = 0 then -1 else (chain js k).getD (i - 1) 0 := by
  refine link_ind hd ?_ ?_
  · intro i x h
    rw [chain_neg js (by decide)] at h
    simp at h
  · intro k j hj ih i x h
    have hkl : k < js.length := (List.getElem?_eq_some_iff.1 hj).1
    rw [chain_step hd hj] at h ⊢
    rcases Nat.lt_or_ge i (chain js j.parent).length with hi | hi
    · rw [List.getElem?_append_left hi] at h
      obtain ⟨h1, h2, j', h3, h4⟩ := ih i x h
      refine ⟨h1, h2, j', h3, ?_⟩
      rw [h4]
      split
      · rfl
      · rw [List.getD_eq_getElem?_getD, List.getD_eq_getElem?_getD, List.getElem?_append_left (by omega)]
    · have hi2 : i = (chain js j.parent).length := by
        have := (List.getElem?_eq_some_iff.1 h).1
        simp at this; omega
      rw [List.getElem?_append_right hi, hi2, Nat.sub_self] at h
      simp at h
      subst h
      refine ⟨by omega, by omega, j, by simpa using hj, ?_⟩
      obtain ⟨d1, d2⟩ := hd k j hj
      rcases (by omega : j.parent < 0 ∨ 0 ≤ j.parent) with hp | hp
      · have hp : j.parent = -1 := by omega
        rw [hp, chain_neg js (by decide)] at hi2
        rw [if_pos (by simpa using hi2), hp]
      · obtain ⟨p, hpe⟩ : ∃ p : Nat, j.parent = p := ⟨j.parent.toNat, by omega⟩
        rw [hpe] at hi2 ⊢
        obtain ⟨l1, l2⟩ := chain_last hd (k := p) (by omega)
        rw [if_neg (by omega), hi2, List.getD_eq_getElem?_getD, List.getElem?_append_left (by omega), l1]; rfl
theorem chain_len {js : List Joint} (hd : downOk js) : ∀ k : Int, -1 ≤ k → k < js.length → ((chain js k).length : Int) ≤ k + 1 := by
  refine link_ind hd ?_ ?_
  · rw [chain_neg js (by decide)]; decide
  · intro k j hj ih
    obtain ⟨d1, d2⟩ := hd k j hj
    rw [chain_step hd hj, List.length_append, List.length_singleton]; omega
theorem law8_ChainSteps (l : List Int) (a : Int) (hl : l.length ≤ 17592186044416) (ha : True) : FnOk Tryd.prog F.law8_RobotChainSteps [Li l, I a] [] 0 (Bo true) [] 0 := by
  refine fnOk tab mix G.law8_RobotChainSteps rfl rfl (by kernel_rfl) rfl rfl ?_
  (conv => whnf)
  refine call_i (mk_Robot l (by omega)) ?_
  (conv => whnf)
  have hok := mkRobot_ok l 0
  have hml := (robot_facts hok).2.2.1
  obtain ⟨g1, g2, g3⟩ := robot_good hok
  generalize mkRobot l 0 = r at *
  refine call_i (mk_Round a ((r.joints.map encJ).length : Int) (by rw [List.length_map]; omega) (by rw [List.length_map]; omega)) ?_
  (conv => whnf)
  have e1 := Int.emod_nonneg a (b := ((r.joints.map encJ).length : Int)) (by rw [List.length_map]; omega)
  have e2 := Int.emod_lt_of_pos a (b := ((r.joints.map encJ).length : Int)) (by rw [List.length_map]; omega)
  obtain ⟨k, hk⟩ : ∃ i : Nat, a % ((r.joints.map encJ).length : Int) = i := ⟨_, (Int.toNat_of_nonneg e1).symm⟩
  rw [hk] at e2 ⊢
  have hkl : k < r.joints.length := by rw [List.length_map] at e2; omega
  refine call_i (robot_Chain r k (by omega) (by omega)) ?_
  (conv => whnf)
  have hh : chainOf r k = chain r.joints k := by
    rw [chainOf, if_pos]
    simp [hasB, hok, linkOk]; omega
  rw [hh]
  have hpar := chain_par g3 k (by omega) (by omega)
  obtain ⟨l1, l2⟩ := chain_last g3 hkl
  have hw : chainOf r (-1) = [] := by
    rw [chainOf]; split
    · exact chain_neg _ (by decide)
    · rfl
  have hcl : (chain r.joints k).length ≤ 1000 := by
    have := chain_len g3 k (by omega) (by omega)
    omega
  generalize chain r.joints k = c at *
  refine loop_intro (fun i : Nat => ⟨[(5, .one (.vptr 0 0)), (6, I k), (7, .one (.row 1)), (8, I i)], [(0, bRo r), (1, bIs c)], 2⟩) (fun i => i ≤ c.length) (fun i => c.length - i) [] 0 [] (Nat.zero_le _) ⟨⟨rfl, rfl, rfl, rfl, trivial⟩, ⟨rfl, rfl, trivial⟩⟩ ?_
  rintro i hi
  have hii : IntKind.i64.wrap ((i : Int) + 1) = ((i + 1 : Nat) : Int) := by rw [w64] <;> omega
  (conv => whnf)
  refine ask_m (fun hlt => ?_) (fun hlt => ?_)
  · have hlt : i < c.length := by simpa using hlt
    obtain ⟨x, hx⟩ : ∃ x, c[i]? = some x := ⟨_, List.getElem?_eq_getElem hlt⟩
    obtain ⟨p1, p2, j, hj, hp⟩ := hpar i x hx
    have hjl : x.toNat < r.joints.length := by omega
    (conv => whnf)
    refine ask_m (fun h0 => ?_) (fun h0 => ?_)
    · have h0 : 0 < i := by have := of_decide_eq_true h0; omega
      obtain ⟨y, hy⟩ : ∃ y, c[i - 1]? = some y := ⟨_, List.getElem?_eq_getElem (by omega)⟩
      rw [if_neg (by omega), List.getD_eq_getElem?_getD, hy] at hp
      have hp : j.parent = y := hp
      have ei : IntKind.i64.wrap ((i : Int) - 1) = ((i - 1 : Nat) : Int) := by rw [w64] <;> omega
      (conv => whnf)
      rw [ei]
      refine ⟨⟨by omega, by rw [List.length_map]; omega⟩, ?_⟩
      (conv => whnf)
      refine idx_map (by simpa using hy) ?_
      (conv => whnf)
      refine ⟨⟨by omega, by rw [List.length_map]; omega⟩, ?_⟩
      (conv => whnf)
      refine idx_map (by simpa using hx) ?_
      (conv => whnf)
      refine ask_mf (decide_eq_false (by omega)) ?_
      (conv => whnf)
      refine ⟨⟨by omega, by rw [List.length_map]; omega⟩, ?_⟩
      (conv => whnf)
      refine idx_map (by simpa using hx) ?_
      (conv => whnf)
      refine ask_mf (decide_eq_false (by rw [List.length_map]; omega)) ?_
      (conv => whnf)
      refine ⟨⟨by omega, by rw [List.length_map]; omega⟩, ?_⟩
      (conv => whnf)
      refine idx_map (by simpa using hx) ?_
      (conv => whnf)
      refine idx_and (by omega) (by simpa using hj) ?_
      (conv => whnf)
      refine ask_mf (by simp [hp]) ?_
      (conv => whnf)
      exact ⟨i + 1, [], hlt, by omega, ⟨⟨rfl, rfl, rfl, eqI hii, trivial⟩, ⟨rfl, rfl, trivial⟩⟩⟩
    · have h0 : i = 0 := by have := of_decide_eq_false h0; omega
      subst h0
      rw [if_pos rfl] at hp
      (conv => whnf)
      refine ⟨⟨by omega, by rw [List.length_map]; omega⟩, ?_⟩
      (conv => whnf)
      refine idx_map (by simpa using hx) ?_
      (conv => whnf)
      refine ask_mf (decide_eq_false (by omega)) ?_
      (conv => whnf)
      refine ⟨⟨by omega, by rw [List.length_map]; omega⟩, ?_⟩
      (conv => whnf)
      refine idx_map (by simpa using hx) ?_
      (conv => whnf)
      refine ask_mf (decide_eq_false (by rw [List.length_map]; omega)) ?_
      (conv => whnf)
      refine ⟨⟨by omega, by rw [List.length_map]; omega⟩, ?_⟩
      (conv => whnf)
      refine idx_map (by simpa using hx) ?_
      (conv => whnf)
      refine idx_and (by omega) (by simpa using hj) ?_
      (conv => whnf)
      refine ask_mf (by simp [hp]) ?_
      (conv => whnf)
      exact ⟨1, [], hlt, by omega, ⟨⟨rfl, rfl, rfl, eqI hii, trivial⟩, ⟨rfl, rfl, trivial⟩⟩⟩
  · have hi : i = c.length := by simp at hlt; omega
    subst hi
    have ei : IntKind.i64.wrap ((((c.map encI).length : Nat) : Int) - 1) = ((c.length - 1 : Nat) : Int) := by rw [List.length_map, w64] <;> omega
    (conv => whnf)
    refine call_i (law8_awake) ?_
    (conv => whnf)
    refine ask_mt (decide_eq_true (by rw [List.length_map]; omega)) ?_
    (conv => whnf)
    rw [ei]
    refine ⟨⟨by omega, by rw [List.length_map]; omega⟩, ?_⟩
    (conv => whnf)
    refine idx_map (by simpa using l1) ?_
    (conv => whnf)
    refine ask_mt (by simp) ?_
    (conv => whnf)
    refine call_i (robot_Chain r (-1) (by omega) (by omega)) ?_
    (conv => whnf)
    rw [hw]
    (conv => whnf)
    refine ret0 ?_
    exact ret_b (by decide) rfl
end Go.Proofs.YtlfclainmbafiaaDoor

/- What the row's list gives: the texts of robot.kindNames; a world that holds them. -/
namespace Go.Proofs.YtlfclainmbafiaaDoor
open Eng
set_option maxRecDepth 100000

theorem gTab : Tryd.prog.globalNamed "armplan/robot.kindNames" = some 0 := by kernel_rfl
theorem gTabType : (Tryd.prog.globals[0]?).map (·.type) = some Y.a7_string := by kernel_rfl
theorem uTab : Tryd.prog.underlying Y.a7_string = some (.array 7 Y.string) := by kernel_rfl
theorem uStr : Tryd.prog.underlying Y.string = some .string := by kernel_rfl
theorem cTab : Tryd.prog.cellsOf Y.a7_string = 7 := by kernel_rfl
theorem cStr : Tryd.prog.cellsOf Y.string = 1 := by kernel_rfl
theorem cells_of_texts {H : Type} {enc : TypeId × Value → H} {P : Program} {w : World} {base : Nat} {sp : Nat → Bool} {held : Bool} {fuel : Nat} {t e : TypeId} {n : Nat} {cs : List Value} {ss : List (List UInt8)} {p : List MemPlace}
    (ht : P.underlying t = some (.array n e)) (he : P.underlying e = some .string) (hce : P.cellsOf e = 1) (hct : P.cellsOf t = n)
    (h : DataW.trod enc P w base sp held fuel t cs = some (.agg (ss.map fun b => .lit (.string b)), p)) : cs.length = ss.length ∧ ∀ (i : Nat) (b : List UInt8), ss[i]? = some b → cs[i]? = some (.string ⟨b.toArray⟩) := by
  cases fuel with
  | zero => simp [DataW.trod] at h
  | succ fuel =>
    simp only [DataW.trod, ht, hce, hct, Nat.mul_one] at h
    split at h
    · rename_i hl
      obtain ⟨xs, hm, hx⟩ := Option.map_eq_some_iff.1 h
      have hxs : xs.map (·.1) = ss.map fun b => (DataW.lit (.string b) : DataW H) := by
        have := congrArg Prod.fst hx
        simpa using this
      have hxl : xs.length = n := by simpa using Lib.mapM_length hm
      have hzl : ss.length = n := by
        have := congrArg List.length hxs
        simp at this
        omega
      refine ⟨by omega, ?_⟩
      intro i b hb
      have hi : i < n := by
        have := (List.getElem?_eq_some_iff.1 hb).1
        omega
      obtain ⟨y, hy, hf⟩ := Lib.mapM_at hm i i (by simp [hi])
      have h2 : (xs.map (·.1))[i]? = some (DataW.lit (.string b) : DataW H) := by rw [hxs]; simp [hb]
      simp only [List.getElem?_map, hy, Option.map_some, Option.some.injEq] at h2
      obtain ⟨yd, yp⟩ := y
      simp only at h2
      subst h2
      obtain ⟨str, hc, hx2, _⟩ := DataW.trod_string he hf
      simp only [Prod.mk.injEq, DataW.lit.injEq, Lit.string.injEq] at hx2
      have h1 : cs[i]? = some (.string str) := by
        have := congrArg (·[0]?) hc
        simpa [List.getElem?_take, List.getElem?_drop] using this
      rw [h1, hx2.1]
    · cases h
def kindB : List (List UInt8) := [[102, 105, 120, 101, 100], [116, 117, 114, 110, 120], [116, 117, 114, 110, 121], [116, 117, 114, 110, 122], [115, 108, 105, 100, 101, 120], [115, 108, 105, 100, 101, 121], [115, 108, 105, 100, 101, 122]]
theorem heap_of_var {P : Program} {W : World} {name : String} {g : Nat} {cs : Array Value} (hg : P.globalNamed name = some g) (h : W.var? P name = some cs) : g < W.heap.size ∧ ∃ t fr, W.heap[g]? = some (.cells cs t fr) := by
  unfold World.var? at h
  rw [hg, Option.bind_some] at h
  split at h
  · rename_i c t fr hh
    injection h with h; subst h
    exact ⟨(Array.getElem?_eq_some_iff.1 hh).1, t, fr, hh⟩
  · cases h
theorem globs {W : World} (h : laidMet Tryd.prog [("armplan/robot.kindNames", Rows.laid_armplan_robot_kindNames)] W) : ∀ g ss, lkv GLV g = some ss → g < W.heap.size ∧ ∃ t fr, W.heap[g]? = some (.cells ss.toArray t fr) := by
  obtain ⟨ps, ⟨g', t', cs, fuel, p, q, hg', ht', hvar, hd, _, _⟩, _⟩ := h
  obtain rfl := Option.some.inj (gTab.symm.trans hg')
  obtain rfl := Option.some.inj (gTabType.symm.trans ht')
  obtain ⟨hl, hc⟩ := cells_of_texts (ss := kindB) uTab uStr cStr cTab hd
  intro g ss hg
  have hg0 : g = 0 ∧ ss = kindB.map fun b => .string ⟨b.toArray⟩ := by
    rw [GLV, lkv] at hg
    cases hb : Nat.beq 0 g with
    | true =>
      rw [hb] at hg
      exact ⟨(Nat.eq_of_beq_eq_true hb).symm, (Option.some.inj hg).symm⟩
    | false => rw [hb] at hg; cases hg
  obtain ⟨rfl, rfl⟩ := hg0
  have e : cs = (kindB.map fun b => (.string ⟨b.toArray⟩ : Value)).toArray := by
    apply Array.ext'
    apply List.ext_getElem?
    intro i
    rw [List.getElem?_map]
    cases hb : kindB[i]? with
    | some b => exact hc i b hb
    | none =>
      rw [List.getElem?_eq_none_iff] at hb
      exact List.getElem?_eq_none_iff.2 (by rw [hl]; exact hb)
  rw [← e]
  exact heap_of_var gTab hvar
/-- a world for the witness: the settled one, the table holding what its initialiser lays -/
noncomputable def laidWorld (os : Os) : World :=
  { World.holding Tryd.prog os ⟨#[], #[], []⟩ with heap := (World.holding Tryd.prog os ⟨#[], #[], []⟩).heap.modify 0 fun
      | .cells _ t frozen => .cells #[.string ⟨#[102, 105, 120, 101, 100]⟩, .string ⟨#[116, 117, 114, 110, 120]⟩, .string ⟨#[116, 117, 114, 110, 121]⟩, .string ⟨#[116, 117, 114, 110, 122]⟩, .string ⟨#[115, 108, 105, 100, 101, 120]⟩, .string ⟨#[115, 108, 105, 100, 101, 121]⟩, .string ⟨#[115, 108, 105, 100, 101, 122]⟩] t frozen
      | o => o }
end Go.Proofs.YtlfclainmbafiaaDoor

/- The reference's checks: joints, robots. -/
namespace Go.Proofs.YtlfclainmbafiaaDoor
open Eng
set_option maxRecDepth 10000
attribute [local irreducible] FnOk loopW idxF retX arrF

theorem ref_isLink (r : Robot) (k : Int) : FnOk Tryd.prog F.ref6_isLink [Ro r, I k] [] 0 (Bo (linkOk r.joints.length k)) [] 0 := by
  refine fnOk tab mix G.ref6_isLink rfl rfl (by kernel_rfl) rfl rfl ?_
  (conv => whnf)
  repeat' ((conv => whnf); first | refine ask_m (fun h => ?_) (fun h => ?_) | refine ret0 ?_)
  all_goals exact ret_b (by first | (simp_all [linkOk]; done) | (simp_all [linkOk]; omega)) rfl
def betw (x a b : Int) : Bool := decide (a ≤ x) && decide (x ≤ b)
theorem ref_between (x a b : Int) : FnOk Tryd.prog F.ref6_between [I x, I a, I b] [] 0 (Bo (betw x a b)) [] 0 := by
  refine fnOk tab mix G.ref6_between rfl rfl (by kernel_rfl) rfl rfl ?_
  (conv => whnf)
  repeat' ((conv => whnf); first | refine ask_m (fun h => ?_) (fun h => ?_) | refine ret0 ?_)
  all_goals exact ret_b (by first | (simp_all [betw]; done) | (simp_all [betw]; omega)) rfl
def inX (m x : Int) : Bool := decide (-m ≤ x) && decide (x ≤ m)
theorem ref_Near (v : Vec) (m : Int) (hm : 0 ≤ m) (hm2 : m ≤ 4611686018427387904) : FnOk Tryd.prog F.ref6_Near [Ve v, I m] [] 0 (Bo (inV v m)) [] 0 := by
  refine fnOk tab mix G.ref6_Near rfl rfl (by kernel_rfl) rfl rfl ?_
  (conv => whnf)
  have wn : IntKind.i64.wrap (0 - m) = -m := by rw [w64] <;> omega
  have e : inV v m = (inX m v.x && inX m v.y && inX m v.z) := rfl
  refine loop_intro (fun k : Nat => ⟨[(1, I m), (2, .one (.vptr 0 0)), (5, I k)], [(0, .vars Y.Vec [.dv (.int .i64 v.x), .dv (.int .i64 v.y), .dv (.int .i64 v.z)])], 1⟩) (fun k => k ≤ 3 ∧ (1 ≤ k → inX m v.x = true) ∧ (2 ≤ k → inX m v.y = true) ∧ (3 ≤ k → inX m v.z = true)) (fun k => 3 - k) [] 0 [] ⟨by decide, by omega, by omega, by omega⟩ ⟨⟨rfl, rfl, rfl, trivial⟩, ⟨rfl, trivial⟩⟩ ?_
  rintro k ⟨hk, k1, k2, k3⟩
  rcases (show k = 0 ∨ k = 1 ∨ k = 2 ∨ k = 3 by omega) with rfl | rfl | rfl | rfl
  · (conv => whnf)
    refine ⟨by decide, ?_⟩
    (conv => whnf)
    rw [wn]
    refine ask_m (fun h => ?_) (fun h => ?_)
    · have h := of_decide_eq_true h
      (conv => whnf)
      refine ret0 ?_
      exact ret_b (by rw [e]; simp [inX]; omega) rfl
    · have h := of_decide_eq_false h
      (conv => whnf)
      refine ⟨by decide, ?_⟩
      (conv => whnf)
      refine ask_m (fun h2 => ?_) (fun h2 => ?_)
      · have h2 := of_decide_eq_true h2
        (conv => whnf)
        refine ret0 ?_
        exact ret_b (by rw [e]; simp [inX]; omega) rfl
      · have h2 := of_decide_eq_false h2
        (conv => whnf)
        exact ⟨1, [], ⟨by decide, fun _ => by simp [inX]; omega, by omega, by omega⟩, by omega, ⟨⟨rfl, rfl, rfl, trivial⟩, ⟨rfl, trivial⟩⟩⟩
  · (conv => whnf)
    refine ⟨by decide, ?_⟩
    (conv => whnf)
    rw [wn]
    refine ask_m (fun h => ?_) (fun h => ?_)
    · have h := of_decide_eq_true h
      (conv => whnf)
      refine ret0 ?_
      exact ret_b (by rw [e]; simp [inX]; omega) rfl
    · have h := of_decide_eq_false h
      (conv => whnf)
      refine ⟨by decide, ?_⟩
      (conv => whnf)
      refine ask_m (fun h2 => ?_) (fun h2 => ?_)
      · have h2 := of_decide_eq_true h2
        (conv => whnf)
        refine ret0 ?_
        exact ret_b (by rw [e]; simp [inX]; omega) rfl
      · have h2 := of_decide_eq_false h2
        (conv => whnf)
        exact ⟨2, [], ⟨by decide, fun _ => k1 (by decide), fun _ => by simp [inX]; omega, by omega⟩, by omega, ⟨⟨rfl, rfl, rfl, trivial⟩, ⟨rfl, trivial⟩⟩⟩
  · (conv => whnf)
    refine ⟨by decide, ?_⟩
    (conv => whnf)
    rw [wn]
    refine ask_m (fun h => ?_) (fun h => ?_)
    · have h := of_decide_eq_true h
      (conv => whnf)
      refine ret0 ?_
      exact ret_b (by rw [e]; simp [inX]; omega) rfl
    · have h := of_decide_eq_false h
      (conv => whnf)
      refine ⟨by decide, ?_⟩
      (conv => whnf)
      refine ask_m (fun h2 => ?_) (fun h2 => ?_)
      · have h2 := of_decide_eq_true h2
        (conv => whnf)
        refine ret0 ?_
        exact ret_b (by rw [e]; simp [inX]; omega) rfl
      · have h2 := of_decide_eq_false h2
        (conv => whnf)
        exact ⟨3, [], ⟨by decide, fun _ => k1 (by decide), fun _ => k2 (by decide), fun _ => by simp [inX]; omega⟩, by omega, ⟨⟨rfl, rfl, rfl, trivial⟩, ⟨rfl, trivial⟩⟩⟩
  · (conv => whnf)
    refine ret0 ?_
    exact ret_b (by rw [e, k1 (by decide), k2 (by decide), k3 (by decide)]; rfl) rfl
def reachR (k : Int) : Int := if k = 0 then 0 else if k = 1 ∨ k = 2 ∨ k = 3 then 524288 else 4194304
theorem reachR_eq {k : Int} (h0 : 0 ≤ k) (h6 : k ≤ 6) : reachR k = reach k := by
  rcases (show k = 0 ∨ k = 1 ∨ k = 2 ∨ k = 3 ∨ k = 4 ∨ k = 5 ∨ k = 6 by omega) with rfl | rfl | rfl | rfl | rfl | rfl | rfl <;> decide
theorem ref_reach (k : Int) : FnOk Tryd.prog F.ref6_reach [I k] [] 0 (I (reachR k)) [] 0 := by
  refine fnOk tab mix G.ref6_reach rfl rfl (by kernel_rfl) rfl rfl ?_
  (conv => whnf)
  repeat' ((conv => whnf); first | refine ask_m (fun h => ?_) (fun h => ?_) | refine ret0 ?_)
  all_goals exact ret_i (by first | (simp_all [reachR]; done) | (simp_all [reachR]; omega)) rfl
theorem find_le : ∀ {js : List Joint} {k b : Nat} {x : Joint}, js[k]? = some x → (b : Int) ≤ find js x.name b ∧ find js x.name b ≤ ((b + k : Nat) : Int)
  | [], _, _, _, h => by simp at h
  | j :: js, 0, b, x, h => by
    simp at h; subst h
    rw [find, if_pos rfl]; omega
  | j :: js, k + 1, b, x, h => by
    rw [find]; split
    · omega
    · have := find_le (js := js) (k := k) (b := b + 1) (by simpa using h)
      omega
theorem ref_checkJoint (js : List Joint) (i : Nat) (j : Joint) (hj : js[i]? = some j) (hl : js.length ≤ 4611686018427387904) : FnOk Tryd.prog F.ref6_checkJoint [.one (.dv (dJs js)), I i] [] 0 (I (jointErr js i j)) [] 0 := by
  refine fnOk tab mix G.ref6_checkJoint rfl rfl (by kernel_rfl) rfl rfl ?_
  (conv => whnf)
  have hil : i < js.length := (List.getElem?_eq_some_iff.1 hj).1
  refine idx_and (by omega) (by simpa using hj) ?_
  (conv => whnf)
  refine call_i (ref_Name j.name) ?_
  (conv => whnf)
  refine ask_m (fun hn => ?_) (fun hn => ?_)
  · have hn : nameOk j.name = false := by simpa using hn
    (conv => whnf)
    refine ret0 ?_
    exact ret_i (by rw [jointErr, if_pos (.inl hn)]) rfl
  have hn : nameOk j.name = true := by simpa using hn
  (conv => whnf)
  refine loop_intro (fun k : Nat => ⟨[(0, .one (.dv (dJs js))), (1, I i), (5, .one (.vptr 0 0)), (6, I k)], [(0, .vars Y.Joint [.dv (.str j.name), .dv (.int .i64 j.kind), .dv (.int .i64 j.parent), .dv (.int .i64 j.off.x), .dv (.int .i64 j.off.y), .dv (.int .i64 j.off.z), .dv (.int .i64 j.lo), .dv (.int .i64 j.hi), .dv (.int .i64 j.weight), .dv (.int .i64 j.speed), .dv (.int .i64 j.accel), .dv (.int .i64 j.torque)])], 1⟩)
    (fun k => k ≤ i ∧ ∀ (a : Nat) (x : Joint), a < k → js[a]? = some x → x.name ≠ j.name) (fun k => i - k) [] 0 [] ⟨Nat.zero_le _, fun a x h => by omega⟩ ⟨⟨rfl, rfl, rfl, rfl, trivial⟩, ⟨rfl, trivial⟩⟩ ?_
  rintro k ⟨hk, hne⟩
  (conv => whnf)
  refine ask_m (fun h => ?_) (fun h => ?_)
  · have hlt : k < i := by have := of_decide_eq_true h; omega
    obtain ⟨x, hx⟩ : ∃ x, js[k]? = some x := ⟨_, List.getElem?_eq_getElem (by omega)⟩
    have hkk : IntKind.i64.wrap ((k : Int) + 1) = ((k + 1 : Nat) : Int) := by rw [w64] <;> omega
    (conv => whnf)
    refine idx_and (by omega) (by simpa using hx) ?_
    (conv => whnf)
    refine ask_m (fun he => ?_) (fun he => ?_)
    · have he : x.name = j.name := of_decide_eq_true he
      have hf := find_le (b := 0) hx
      rw [he] at hf
      (conv => whnf)
      refine ret0 ?_
      exact ret_i (by rw [jointErr, if_pos (.inr (by omega))]) rfl
    · have he : ¬ x.name = j.name := of_decide_eq_false he
      (conv => whnf)
      refine ⟨k + 1, [], ⟨hlt, fun a y ha hy => ?_⟩, by omega, ⟨⟨rfl, rfl, rfl, eqI hkk, trivial⟩, ⟨rfl, trivial⟩⟩⟩
      rcases Nat.lt_or_ge a k with h' | h'
      · exact hne a y h' hy
      · obtain rfl : a = k := by omega
        rw [hx] at hy; injection hy with hy; subst hy; exact he
  · have hki : k = i := by have := of_decide_eq_false h; omega
    subst hki
    have hf := find_at (k := 0) hj fun a x ha hx => hne a x ha hx
    have hE : jointErr js k j = if j.kind < 0 ∨ 6 < j.kind then 803
      else if j.parent < -1 ∨ (k : Int) ≤ j.parent then 804
      else if inV j.off 4194304 = false then 805
      else if j.hi < j.lo ∨ j.lo < - reach j.kind ∨ reach j.kind < j.hi then 806
      else if (from1 j.weight 1024 && from1 j.speed 1048576 && from1 j.accel 1048576 && from1 j.torque 1099511627776) = false then 807
      else 0 := by rw [jointErr, if_neg (by rw [hn, hf]; simp)]
    rw [hE]
    have hrr : ¬ (j.kind < 0 ∨ 6 < j.kind) → reachR j.kind = reach j.kind := fun h => reachR_eq (by omega) (by omega)
    have hrc := reach_cases j.kind
    have wr : IntKind.i64.wrap (0 - reach j.kind) = - reach j.kind := by rw [w64] <;> omega
    have fb : ∀ x m, betw x 1 m = from1 x m := fun _ _ => rfl
    clear h hE hne
    (conv => whnf)
    refine ask_m (fun h1 => ?_) (fun h1 => ?_)
    · have h1 := of_decide_eq_true h1
      rw [if_pos (.inl h1)]
      (conv => whnf)
      refine ret0 ?_
      exact ret_i rfl rfl
    have h1 := of_decide_eq_false h1
    (conv => whnf)
    refine ask_m (fun h2 => ?_) (fun h2 => ?_)
    · have h2 := of_decide_eq_true h2
      rw [if_pos (.inr h2)]
      (conv => whnf)
      refine ret0 ?_
      exact ret_i rfl rfl
    have h2 := of_decide_eq_false h2
    have h12 : ¬ (j.kind < 0 ∨ 6 < j.kind) := by omega
    rw [if_neg h12]
    (conv => whnf)
    refine ask_m (fun h3 => ?_) (fun h3 => ?_)
    · have h3 := of_decide_eq_true h3
      rw [if_pos (.inl h3)]
      (conv => whnf)
      refine ret0 ?_
      exact ret_i rfl rfl
    have h3 := of_decide_eq_false h3
    (conv => whnf)
    refine ask_m (fun h4 => ?_) (fun h4 => ?_)
    · have h4 := of_decide_eq_true h4
      rw [if_pos (.inr h4)]
      (conv => whnf)
      refine ret0 ?_
      exact ret_i rfl rfl
    have h4 := of_decide_eq_false h4
    rw [if_neg (by omega)]
    (conv => whnf)
    refine call_i (ref_Near j.off 4194304 (by decide) (by decide)) ?_
    (conv => whnf)
    refine ask_m (fun h5 => ?_) (fun h5 => ?_)
    · have h5 : inV j.off 4194304 = false := by simpa using h5
      rw [if_pos h5]
      (conv => whnf)
      refine ret0 ?_
      exact ret_i rfl rfl
    have h5 : inV j.off 4194304 = true := by simpa using h5
    rw [if_neg (by rw [h5]; simp)]
    (conv => whnf)
    refine call_i (ref_reach j.kind) ?_
    (conv => whnf)
    rw [hrr h12]
    refine ask_m (fun h6 => ?_) (fun h6 => ?_)
    · have h6 := of_decide_eq_true h6
      rw [if_pos (.inl h6)]
      (conv => whnf)
      refine ret0 ?_
      exact ret_i rfl rfl
    have h6 := of_decide_eq_false h6
    (conv => whnf)
    rw [wr]
    refine ask_m (fun h7 => ?_) (fun h7 => ?_)
    · have h7 := of_decide_eq_true h7
      rw [if_pos (.inr (.inl h7))]
      (conv => whnf)
      refine ret0 ?_
      exact ret_i rfl rfl
    have h7 := of_decide_eq_false h7
    (conv => whnf)
    refine ask_m (fun h8 => ?_) (fun h8 => ?_)
    · have h8 := of_decide_eq_true h8
      rw [if_pos (.inr (.inr h8))]
      (conv => whnf)
      refine ret0 ?_
      exact ret_i rfl rfl
    have h8 := of_decide_eq_false h8
    rw [if_neg (by omega)]
    (conv => whnf)
    refine call_i (ref_between j.weight 1 1024) ?_
    (conv => whnf)
    rw [fb]
    refine ask_m (fun h9 => ?_) (fun h9 => ?_)
    · have h9 : from1 j.weight 1024 = false := by simpa using h9
      rw [if_pos (by rw [h9]; simp)]
      (conv => whnf)
      refine ret0 ?_
      exact ret_i rfl rfl
    have h9 : from1 j.weight 1024 = true := by simpa using h9
    (conv => whnf)
    refine call_i (ref_between j.speed 1 1048576) ?_
    (conv => whnf)
    rw [fb]
    refine ask_m (fun h10 => ?_) (fun h10 => ?_)
    · have h10 : from1 j.speed 1048576 = false := by simpa using h10
      rw [if_pos (by rw [h10]; simp)]
      (conv => whnf)
      refine ret0 ?_
      exact ret_i rfl rfl
    have h10 : from1 j.speed 1048576 = true := by simpa using h10
    (conv => whnf)
    refine call_i (ref_between j.accel 1 1048576) ?_
    (conv => whnf)
    rw [fb]
    refine ask_m (fun h11 => ?_) (fun h11 => ?_)
    · have h11 : from1 j.accel 1048576 = false := by simpa using h11
      rw [if_pos (by rw [h11]; simp)]
      (conv => whnf)
      refine ret0 ?_
      exact ret_i rfl rfl
    have h11 : from1 j.accel 1048576 = true := by simpa using h11
    (conv => whnf)
    refine call_i (ref_between j.torque 1 1099511627776) ?_
    (conv => whnf)
    rw [fb]
    refine ask_m (fun h13 => ?_) (fun h13 => ?_)
    · have h13 : from1 j.torque 1099511627776 = false := by simpa using h13
      rw [if_pos (by rw [h13]; simp)]
      (conv => whnf)
      refine ret0 ?_
      exact ret_i rfl rfl
    have h13 : from1 j.torque 1099511627776 = true := by simpa using h13
    rw [h9, h10, h11, h13, if_neg (by simp)]
    (conv => whnf)
    refine ret0 ?_
    exact ret_i rfl rfl
end Go.Proofs.YtlfclainmbafiaaDoor

/- The reference's checks: robots, scenes. -/
namespace Go.Proofs.YtlfclainmbafiaaDoor
open Eng
set_option maxRecDepth 10000
attribute [local irreducible] FnOk loopW idxF retX arrF

theorem ref_CheckRobot (r : Robot) (hj : r.joints.length ≤ 4611686018427387904) (hm : r.masses.length ≤ 4611686018427387904) : FnOk Tryd.prog F.ref6_CheckRobot [Ro r] [] 0 (I (checkRobot r)) [] 0 := by
  refine fnOk tab mix G.ref6_CheckRobot rfl rfl (by kernel_rfl) rfl rfl ?_
  (conv => whnf)
  refine ask_m (fun h => ?_) (fun h => ?_)
  · have h : r.joints.length = 0 := by have := of_decide_eq_true h; simp only [List.length_map] at this; omega
    (conv => whnf)
    refine ret0 ?_
    exact ret_i (by unfold checkRobot; rw [if_pos (.inl h)]) rfl
  have h1 : ¬ r.joints.length = 0 := by have := of_decide_eq_false h; simp only [List.length_map] at this; omega
  (conv => whnf)
  refine ask_m (fun h => ?_) (fun h => ?_)
  · have h : 10 < r.joints.length := by have := of_decide_eq_true h; simp only [List.length_map] at this; omega
    (conv => whnf)
    refine ret0 ?_
    exact ret_i (by unfold checkRobot; rw [if_pos (.inr h)]) rfl
  have h2 : ¬ 10 < r.joints.length := by have := of_decide_eq_false h; simp only [List.length_map] at this; omega
  have e : checkRobot r = if jointsErr r.joints 0 r.joints ≠ 0 then jointsErr r.joints 0 r.joints
    else if 32 < r.masses.length ∨ r.masses.all (massOk r.joints.length) = false then 808 else 0 := by unfold checkRobot; rw [if_neg (by omega)]
  rw [e]
  (conv => whnf)
  refine loop_intro (fun k : Nat => ⟨[(1, .one (.vptr 0 0)), (3, I k)], [(0, bRo r)], 1⟩) (fun k => k ≤ r.joints.length ∧ jointsErr r.joints 0 r.joints = jointsErr r.joints k (r.joints.drop k)) (fun k => r.joints.length - k) [] 0 [] ⟨Nat.zero_le _, rfl⟩ ⟨⟨rfl, rfl, trivial⟩, ⟨rfl, trivial⟩⟩ ?_
  rintro k ⟨hk, hE⟩
  (conv => whnf)
  refine ask_m (fun h => ?_) (fun h => ?_)
  · have hlt : k < r.joints.length := by simp at h; omega
    obtain ⟨j, hj'⟩ : ∃ j, r.joints[k]? = some j := ⟨_, List.getElem?_eq_getElem hlt⟩
    have hkk : IntKind.i64.wrap ((k : Int) + 1) = ((k + 1 : Nat) : Int) := by rw [w64] <;> omega
    rw [drop_cons hj', jointsErr] at hE
    (conv => whnf)
    refine call_i (ref_checkJoint r.joints k j hj' hj) ?_
    (conv => whnf)
    refine ask_m (fun he => ?_) (fun he => ?_)
    · have he : ¬ jointErr r.joints k j = 0 := by simpa using he
      rw [if_neg he] at hE
      (conv => whnf)
      refine ret0 ?_
      exact ret_i (by rw [hE, if_pos he]) rfl
    · have he : jointErr r.joints k j = 0 := by simpa using he
      rw [if_pos he] at hE
      (conv => whnf)
      exact ⟨k + 1, [], ⟨hlt, hE⟩, by omega, ⟨⟨rfl, eqI hkk, trivial⟩, ⟨rfl, trivial⟩⟩⟩
  · have hk : k = r.joints.length := by simp at h; omega
    subst hk
    rw [List.drop_length, jointsErr] at hE
    rw [hE, if_neg (by simp)]
    (conv => whnf)
    refine ask_m (fun h3 => ?_) (fun h3 => ?_)
    · have h3 : 32 < r.masses.length := by have := of_decide_eq_true h3; simp only [List.length_map] at this; omega
      rw [if_pos (.inl h3)]
      (conv => whnf)
      refine ret0 ?_
      exact ret_i rfl rfl
    have h3 : ¬ 32 < r.masses.length := by have := of_decide_eq_false h3; simp only [List.length_map] at this; omega
    (conv => whnf)
    refine loop_intro (fun k : Nat => ⟨[(1, .one (.vptr 0 0)), (5, I k)], [(0, bRo r)], 1⟩) (fun k => k ≤ r.masses.length ∧ (r.masses.take k).all (massOk r.joints.length) = true) (fun k => r.masses.length - k) [] 0 [] ⟨Nat.zero_le _, rfl⟩ ⟨⟨rfl, rfl, trivial⟩, ⟨rfl, trivial⟩⟩ ?_
    rintro k ⟨hk, hall⟩
    (conv => whnf)
    refine ask_m (fun h4 => ?_) (fun h4 => ?_)
    · have hlt : k < r.masses.length := by simp at h4; omega
      obtain ⟨m, hm'⟩ : ∃ j, r.masses[k]? = some j := ⟨_, List.getElem?_eq_getElem hlt⟩
      have hkk : IntKind.i64.wrap ((k : Int) + 1) = ((k + 1 : Nat) : Int) := by rw [w64] <;> omega
      have bad : massOk r.joints.length m = false → (if 32 < r.masses.length ∨ r.masses.all (massOk r.joints.length) = false then (808 : Int) else 0) = 808 := fun h => by rw [if_pos (.inr (all_not hm' h))]
      have hM : massOk r.joints.length m = (decide (0 ≤ m.link) && decide (m.link < r.joints.length) && betw m.mass 1 65536 && inV m.point 4194304) := rfl
      (conv => whnf)
      refine idx_and (by omega) (by simpa using hm') ?_
      (conv => whnf)
      refine ask_m (fun a1 => ?_) (fun a1 => ?_)
      · have a1 := of_decide_eq_true a1
        rw [bad (by rw [hM, decide_eq_false (by omega)]; simp)]
        (conv => whnf)
        refine ret0 ?_
        exact ret_i rfl rfl
      have a1 := of_decide_eq_false a1
      (conv => whnf)
      rw [List.length_map]
      refine ask_m (fun a2 => ?_) (fun a2 => ?_)
      · have a2 := of_decide_eq_true a2
        rw [bad (by rw [hM, decide_eq_false (p := m.link < _) (by omega)]; simp)]
        (conv => whnf)
        refine ret0 ?_
        exact ret_i rfl rfl
      have a2 := of_decide_eq_false a2
      (conv => whnf)
      refine call_i (ref_between m.mass 1 65536) ?_
      (conv => whnf)
      refine ask_m (fun a3 => ?_) (fun a3 => ?_)
      · have a3 : betw m.mass 1 65536 = false := by simpa using a3
        rw [bad (by rw [hM, a3]; simp)]
        (conv => whnf)
        refine ret0 ?_
        exact ret_i rfl rfl
      have a3 : betw m.mass 1 65536 = true := by simpa using a3
      (conv => whnf)
      refine call_i (ref_Near m.point 4194304 (by decide) (by decide)) ?_
      (conv => whnf)
      refine ask_m (fun a4 => ?_) (fun a4 => ?_)
      · have a4 : inV m.point 4194304 = false := by simpa using a4
        rw [bad (by rw [hM, a4]; simp)]
        (conv => whnf)
        refine ret0 ?_
        exact ret_i rfl rfl
      have a4 : inV m.point 4194304 = true := by simpa using a4
      (conv => whnf)
      exact ⟨k + 1, [], ⟨hlt, all_take hall hm' (by rw [hM, a3, a4, decide_eq_true (by omega), decide_eq_true (p := m.link < _) (by omega)]; rfl)⟩, by omega, ⟨⟨rfl, eqI hkk, trivial⟩, ⟨rfl, trivial⟩⟩⟩
    · have hk : k = r.masses.length := by simp at h4; omega
      subst hk
      rw [List.take_length] at hall
      rw [hall, if_neg (by simp; omega)]
      (conv => whnf)
      refine ret0 ?_
      exact ret_i rfl rfl
theorem ref_CheckScene (s : Scene) (hs : small s) : FnOk Tryd.prog F.ref6_CheckScene [Sc s] [] 0 (I (checkScene s)) [] 0 := by
  refine fnOk tab mix G.ref6_CheckScene rfl rfl (by kernel_rfl) rfl rfl ?_
  (conv => whnf)
  obtain ⟨s1, s2, s3, s4, s5⟩ := hs
  refine call_i (ref_CheckRobot s.robot s1 s2) ?_
  (conv => whnf)
  refine ask_m (fun h => ?_) (fun h => ?_)
  · have h : ¬ checkRobot s.robot = 0 := by simpa using h
    (conv => whnf)
    refine ret0 ?_
    exact ret_i (by unfold checkScene; rw [if_pos h]) rfl
  have h0 : checkRobot s.robot = 0 := by simpa using h
  have e : checkScene s = if 24 < s.shapes.length then 901
    else if shapesErr s.robot.joints.length s.shapes ≠ 0 then shapesErr s.robot.joints.length s.shapes
    else if 64 < s.skips.length then 903
    else if (s.skips.all (skipOk s.robot.joints.length)) = false then 903
    else 0 := by unfold checkScene; rw [if_neg (by rw [h0]; simp)]; rfl
  rw [e]
  clear e
  (conv => whnf)
  refine ask_m (fun h1 => ?_) (fun h1 => ?_)
  · have h1 : 24 < s.shapes.length := by have := of_decide_eq_true h1; simp only [List.length_map] at this; omega
    rw [if_pos h1]
    (conv => whnf)
    refine ret0 ?_
    exact ret_i rfl rfl
  have h1 : ¬ 24 < s.shapes.length := by have := of_decide_eq_false h1; simp only [List.length_map] at this; omega
  rw [if_neg h1]
  (conv => whnf)
  refine loop_intro (fun k : Nat => ⟨[(1, .one (.vptr 0 0)), (4, I k)], [(0, bSc s)], 1⟩) (fun k => k ≤ s.shapes.length ∧ shapesErr s.robot.joints.length s.shapes = shapesErr s.robot.joints.length (s.shapes.drop k)) (fun k => s.shapes.length - k) [] 0 [] ⟨Nat.zero_le _, rfl⟩ ⟨⟨rfl, rfl, trivial⟩, ⟨rfl, trivial⟩⟩ ?_
  rintro k ⟨hk, hE⟩
  (conv => whnf)
  refine ask_m (fun h2 => ?_) (fun h2 => ?_)
  · have hlt : k < s.shapes.length := by simp at h2; omega
    obtain ⟨x, hx⟩ : ∃ j, s.shapes[k]? = some j := ⟨_, List.getElem?_eq_getElem hlt⟩
    have hkk : IntKind.i64.wrap ((k : Int) + 1) = ((k + 1 : Nat) : Int) := by rw [w64] <;> omega
    have hxp := s5 x (List.mem_of_getElem? hx)
    rw [drop_cons hx, shapesErr] at hE
    have e1 : (linkOk s.robot.joints.length x.link = false ∨ x.radius < 1 ∨ 1048576 < x.radius ∨ x.points.length < 1 ∨ 8 < x.points.length) → shapesErr s.robot.joints.length s.shapes = 902 := fun h => by
      have : shapeErr s.robot.joints.length x = 902 := by rw [shapeErr, if_pos h]
      rw [hE, this, if_neg (by decide)]
    have e2 : ¬ (linkOk s.robot.joints.length x.link = false ∨ x.radius < 1 ∨ 1048576 < x.radius ∨ x.points.length < 1 ∨ 8 < x.points.length) → x.points.all (inV · 4194304) = false → shapesErr s.robot.joints.length s.shapes = 805 := fun h h' => by
      have : shapeErr s.robot.joints.length x = 805 := by rw [shapeErr, if_neg h, if_pos h']
      rw [hE, this, if_neg (by decide)]
    have e3 : ¬ (linkOk s.robot.joints.length x.link = false ∨ x.radius < 1 ∨ 1048576 < x.radius ∨ x.points.length < 1 ∨ 8 < x.points.length) → x.points.all (inV · 4194304) = true → shapesErr s.robot.joints.length s.shapes = shapesErr s.robot.joints.length (s.shapes.drop (k + 1)) := fun h h' => by
      have : shapeErr s.robot.joints.length x = 0 := by rw [shapeErr, if_neg h, if_neg (by rw [h']; simp)]
      rw [hE, this, if_pos rfl]
    (conv => whnf)
    refine idx_and (by omega) (by simpa using hx) ?_
    (conv => whnf)
    refine call_i (ref_isLink s.robot x.link) ?_
    (conv => whnf)
    refine ask_m (fun a1 => ?_) (fun a1 => ?_)
    · have a1 : linkOk s.robot.joints.length x.link = false := by simpa using a1
      rw [e1 (.inl a1), if_pos (by decide)]
      (conv => whnf)
      refine ret0 ?_
      exact ret_i rfl rfl
    have a1 : linkOk s.robot.joints.length x.link = true := by simpa using a1
    (conv => whnf)
    refine call_i (ref_between x.radius 1 1048576) ?_
    (conv => whnf)
    refine ask_m (fun a2 => ?_) (fun a2 => ?_)
    · have a2 : betw x.radius 1 1048576 = false := by simpa using a2
      rw [e1 (by simp [betw] at a2; omega), if_pos (by decide)]
      (conv => whnf)
      refine ret0 ?_
      exact ret_i rfl rfl
    have a2 : betw x.radius 1 1048576 = true := by simpa using a2
    simp [betw] at a2
    (conv => whnf)
    refine ask_m (fun a3 => ?_) (fun a3 => ?_)
    · have a3 : x.points.length < 1 := by have := of_decide_eq_true a3; simp only [List.length_map] at this; omega
      rw [e1 (by omega), if_pos (by decide)]
      (conv => whnf)
      refine ret0 ?_
      exact ret_i rfl rfl
    have a3 : ¬ x.points.length < 1 := by have := of_decide_eq_false a3; simp only [List.length_map] at this; omega
    (conv => whnf)
    refine ask_m (fun a4 => ?_) (fun a4 => ?_)
    · have a4 : 8 < x.points.length := by have := of_decide_eq_true a4; simp only [List.length_map] at this; omega
      rw [e1 (by omega), if_pos (by decide)]
      (conv => whnf)
      refine ret0 ?_
      exact ret_i rfl rfl
    have a4 : ¬ 8 < x.points.length := by have := of_decide_eq_false a4; simp only [List.length_map] at this; omega
    have hno : ¬ (linkOk s.robot.joints.length x.link = false ∨ x.radius < 1 ∨ 1048576 < x.radius ∨ x.points.length < 1 ∨ 8 < x.points.length) := by rw [a1]; rintro (h | h | h | h | h) <;> first | contradiction | omega
    (conv => whnf)
    refine loop_intro (fun c : Nat => ⟨[(1, .one (.vptr 0 0)), (4, I k), (5, .one (.vptr 1 0)), (6, I c)], [(0, bSc s), (1, .vars Y.Shape [.dv (.int .i64 x.link), .dv (.int .i64 x.radius), .dv (dVs x.points)])], 2⟩) (fun c => c ≤ x.points.length ∧ (x.points.take c).all (inV · 4194304) = true) (fun c => x.points.length - c) [] 0 [] ⟨Nat.zero_le _, rfl⟩ ⟨⟨rfl, rfl, rfl, rfl, trivial⟩, ⟨rfl, rfl, trivial⟩⟩ ?_
    rintro c ⟨hc, hall⟩
    (conv => whnf)
    refine ask_m (fun a5 => ?_) (fun a5 => ?_)
    · have hcl : c < x.points.length := by simp at a5; omega
      obtain ⟨p, hp⟩ : ∃ j, x.points[c]? = some j := ⟨_, List.getElem?_eq_getElem hcl⟩
      have hcc : IntKind.i64.wrap ((c : Int) + 1) = ((c + 1 : Nat) : Int) := by rw [w64] <;> omega
      (conv => whnf)
      refine idx_and (by omega) (by simpa using hp) ?_
      (conv => whnf)
      refine call_i (ref_Near p 4194304 (by decide) (by decide)) ?_
      (conv => whnf)
      refine ask_m (fun a6 => ?_) (fun a6 => ?_)
      · have a6 : inV p 4194304 = false := by simpa using a6
        rw [e2 hno (all_not hp a6), if_pos (by decide)]
        (conv => whnf)
        refine ret0 ?_
        exact ret_i rfl rfl
      · have a6 : inV p 4194304 = true := by simpa using a6
        (conv => whnf)
        exact ⟨c + 1, [], ⟨hcl, all_take hall hp a6⟩, by omega, ⟨⟨rfl, rfl, rfl, eqI hcc, trivial⟩, ⟨rfl, rfl, trivial⟩⟩⟩
    · have hc : c = x.points.length := by simp at a5; omega
      subst hc
      rw [List.take_length] at hall
      (conv => whnf)
      exact ⟨k + 1, [], ⟨hlt, e3 hno hall⟩, by omega, ⟨⟨rfl, eqI hkk, trivial⟩, ⟨rfl, trivial⟩⟩⟩
  · have hk : k = s.shapes.length := by simp at h2; omega
    subst hk
    rw [List.drop_length, shapesErr] at hE
    rw [hE, if_neg (by simp)]
    (conv => whnf)
    refine ask_m (fun h3 => ?_) (fun h3 => ?_)
    · have h3 : 64 < s.skips.length := by have := of_decide_eq_true h3; simp only [List.length_map] at this; omega
      rw [if_pos h3]
      (conv => whnf)
      refine ret0 ?_
      exact ret_i rfl rfl
    have h3 : ¬ 64 < s.skips.length := by have := of_decide_eq_false h3; simp only [List.length_map] at this; omega
    rw [if_neg h3]
    (conv => whnf)
    refine loop_intro (fun k : Nat => ⟨[(1, .one (.vptr 0 0)), (7, I k)], [(0, bSc s)], 1⟩) (fun k => k ≤ s.skips.length ∧ (s.skips.take k).all (skipOk s.robot.joints.length) = true) (fun k => s.skips.length - k) [] 0 [] ⟨Nat.zero_le _, rfl⟩ ⟨⟨rfl, rfl, trivial⟩, ⟨rfl, trivial⟩⟩ ?_
    rintro k ⟨hk, hall⟩
    (conv => whnf)
    refine ask_m (fun h4 => ?_) (fun h4 => ?_)
    · have hlt : k < s.skips.length := by simp at h4; omega
      obtain ⟨m, hm'⟩ : ∃ j, s.skips[k]? = some j := ⟨_, List.getElem?_eq_getElem hlt⟩
      have hkk : IntKind.i64.wrap ((k : Int) + 1) = ((k + 1 : Nat) : Int) := by rw [w64] <;> omega
      (conv => whnf)
      refine idx_and (by omega) (by simpa using hm') ?_
      (conv => whnf)
      refine call_i (ref_isLink s.robot m.a) ?_
      (conv => whnf)
      refine ask_m (fun a1 => ?_) (fun a1 => ?_)
      · have a1 : linkOk s.robot.joints.length m.a = false := by simpa using a1
        rw [if_pos (all_not hm' (by simp [skipOk, a1]))]
        (conv => whnf)
        refine ret0 ?_
        exact ret_i rfl rfl
      have a1 : linkOk s.robot.joints.length m.a = true := by simpa using a1
      (conv => whnf)
      refine idx_and (by omega) (by simpa using hm') ?_
      (conv => whnf)
      refine call_i (ref_isLink s.robot m.b) ?_
      (conv => whnf)
      refine ask_m (fun a2 => ?_) (fun a2 => ?_)
      · have a2 : linkOk s.robot.joints.length m.b = false := by simpa using a2
        rw [if_pos (all_not hm' (by simp [skipOk, a2]))]
        (conv => whnf)
        refine ret0 ?_
        exact ret_i rfl rfl
      · have a2 : linkOk s.robot.joints.length m.b = true := by simpa using a2
        (conv => whnf)
        exact ⟨k + 1, [], ⟨hlt, all_take hall hm' (by simp [skipOk, a1, a2])⟩, by omega, ⟨⟨rfl, eqI hkk, trivial⟩, ⟨rfl, trivial⟩⟩⟩
    · have hk : k = s.skips.length := by simp at h4; omega
      subst hk
      rw [List.take_length] at hall
      rw [hall, if_neg (by simp)]
      (conv => whnf)
      refine ret0 ?_
      exact ret_i rfl rfl
end Go.Proofs.YtlfclainmbafiaaDoor

/- The reference's Chain, member, Between, Rigid. -/
namespace Go.Proofs.YtlfclainmbafiaaDoor
open Eng
set_option maxRecDepth 10000
attribute [local irreducible] FnOk loopW idxF retX arrF

def hasR (r : Robot) (ks : List Int) : Bool := ks.all (linkOk r.joints.length) && decide (checkRobot r = 0)
theorem hasR_good {r : Robot} {ks : List Int} (h : hasR r ks = true) : checkRobot r = 0 ∧ ∀ k ∈ ks, -1 ≤ k ∧ k < r.joints.length := by
  simp only [hasR, Bool.and_eq_true, List.all_eq_true, decide_eq_true_eq] at h
  exact ⟨h.2, fun k hk => link_bd (h.1 k hk)⟩
def chainR (r : Robot) (k : Int) : List Int := if hasR r [k] then chain r.joints k else []
theorem chain_len' {js : List Joint} (hd : downOk js) : ∀ k : Int, -1 ≤ k → k < js.length → ((chain js k).length : Int) ≤ k + 1 := by
  refine link_ind hd ?_ ?_
  · rw [chain_neg js (by decide)]; decide
  · intro k j hj ih
    obtain ⟨d1, d2⟩ := hd k j hj
    rw [chain_step hd hj, List.length_append, List.length_singleton]; omega
abbrev bIn (l : List Int) : Box := .rows Y.int 1 (l.map encI)
theorem ref_Chain (r : Robot) (k0 : Int) (hj : r.joints.length ≤ 4611686018427387904) (hm : r.masses.length ≤ 4611686018427387904) : FnOk Tryd.prog F.ref6_Chain [Ro r, I k0] [] 0 (.one (.row 0)) [(0, bIn (chainR r k0))] 1 := by
  refine fnOk tab mix G.ref6_Chain rfl rfl (by kernel_rfl) rfl rfl ?_
  (conv => whnf)
  refine call_i (ref_CheckRobot r hj hm) ?_
  (conv => whnf)
  refine ask_m (fun h1 => ?_) (fun h1 => ?_)
  · have h1 : ¬ checkRobot r = 0 := by simpa using h1
    have e : chainR r k0 = [] := by rw [chainR, hasR, decide_eq_false h1, Bool.and_false]; rfl
    rw [e]
    (conv => whnf)
    refine retO [.own 4 Y.int 1] ?_
    (conv => whnf)
    exact ⟨[(0, 1)], ⟨rfl, trivial⟩, ⟨rfl, trivial⟩⟩
  have h1 : checkRobot r = 0 := by simpa using h1
  obtain ⟨g1, g2, g3⟩ := robot_good h1
  (conv => whnf)
  refine call_i (ref_isLink r k0) ?_
  (conv => whnf)
  cases hk : linkOk r.joints.length k0 with
  | false =>
    have e : chainR r k0 = [] := by rw [chainR, hasR]; simp [hk]
    rw [e]
    (conv => whnf)
    (conv => whnf)
    refine retO [.own 4 Y.int 1] ?_
    (conv => whnf)
    exact ⟨[(0, 1)], ⟨rfl, trivial⟩, ⟨rfl, trivial⟩⟩
  | true =>
  have e : chainR r k0 = chain r.joints k0 := by rw [chainR, hasR]; simp [hk, h1]
  rw [e]
  have hk := link_bd hk
  (conv => whnf)
  refine loop_intro (fun p : Int × List Int => ⟨[(2, .one (.vptr 0 0)), (5, .one (.row 1)), (6, I p.1)], [(0, bRo r), (1, bIn p.2)], 2⟩) (fun p => -1 ≤ p.1 ∧ p.1 < r.joints.length ∧ p.2.length ≤ 100 - (p.1 + 1).toNat ∧ chain r.joints p.1 ++ p.2 = chain r.joints k0) (fun p => (p.1 + 1).toNat) [.own 5 Y.int 1] (k0, []) [] ⟨hk.1, hk.2, Nat.zero_le _, List.append_nil _⟩ ⟨⟨rfl, rfl, rfl, trivial⟩, ⟨rfl, rfl, trivial⟩⟩ ?_
  rintro ⟨k, xs⟩ ⟨hk1, hk2, hxl, hc⟩
  simp only at hk1 hk2 hxl hc
  (conv => whnf)
  refine ask_m (fun h => ?_) (fun h => ?_)
  · have h : ¬ k = -1 := by simpa using h
    obtain ⟨n, rfl⟩ : ∃ n : Nat, k = n := ⟨k.toNat, by omega⟩
    obtain ⟨j, hj'⟩ : ∃ j, r.joints[n]? = some j := ⟨_, List.getElem?_eq_getElem (by omega)⟩
    obtain ⟨d1, d2⟩ := g3 n j hj'
    rw [chain_step g3 hj', List.append_assoc] at hc
    (conv => whnf)
    refine ⟨⟨by simp; omega, by simp; omega⟩, ?_⟩
    (conv => whnf)
    refine idx_and (by omega) (by simpa using hj') ?_
    (conv => whnf)
    exact ⟨(j.parent, (n : Int) :: xs), [(1, 3)], ⟨d1, by simp only; omega, by simp only [List.length_cons]; omega, hc⟩, by simp only; omega, ⟨⟨rfl, rfl, rfl, trivial⟩, ⟨rfl, rfl, trivial⟩⟩⟩
  · have h : k = -1 := by simpa using h
    subst h
    rw [chain_neg _ (by decide), List.nil_append] at hc
    subst hc
    (conv => whnf)
    refine retO [] ?_
    (conv => whnf)
    exact ⟨[(0, 1)], ⟨rfl, trivial⟩, ⟨rfl, trivial⟩⟩
theorem ref_member (l : List Int) (x : Int) (hl : l.length ≤ 4611686018427387904) : FnOk Tryd.prog F.ref6_member [Li l, I x] [] 0 (Bo (decide (x ∈ l))) [] 0 := by
  refine fnOk tab mix G.ref6_member rfl rfl (by kernel_rfl) rfl rfl ?_
  (conv => whnf)
  refine loop_intro (fun k : Nat => ⟨[(0, Li l), (1, I x), (5, I k)], [], 0⟩) (fun k => k ≤ l.length ∧ x ∉ l.take k) (fun k => l.length - k) [] 0 [] ⟨Nat.zero_le _, by simp⟩ ⟨⟨rfl, rfl, rfl, trivial⟩, trivial⟩ ?_
  rintro k ⟨hk, hall⟩
  have hkk : IntKind.i64.wrap ((k : Int) + 1) = ((k + 1 : Nat) : Int) := by rw [w64] <;> omega
  (conv => whnf)
  refine ask_m (fun h => ?_) (fun h => ?_)
  · have hlt : k < l.length := by simpa using h
    obtain ⟨y, hy⟩ : ∃ y, l[k]? = some y := ⟨_, List.getElem?_eq_getElem hlt⟩
    (conv => whnf)
    refine idx_and (by omega) (by simpa using hy) ?_
    (conv => whnf)
    refine ask_m (fun he => ?_) (fun he => ?_)
    · have he : y = x := by simpa using he
      subst he
      (conv => whnf)
      refine ret0 ?_
      exact ret_b (by rw [decide_eq_true (List.mem_of_getElem? hy)]) rfl
    · have he : ¬ y = x := by simpa using he
      (conv => whnf)
      refine ⟨k + 1, [], ⟨hlt, ?_⟩, by omega, ⟨⟨rfl, rfl, eqI hkk, trivial⟩, trivial⟩⟩
      rw [List.take_add_one, hy]
      simp only [Option.toList_some, List.mem_append, List.mem_singleton, not_or]
      exact ⟨hall, fun e => he e.symm⟩
  · have hk : k = l.length := by simp at h; omega
    subst hk
    rw [List.take_length] at hall
    (conv => whnf)
    refine ret0 ?_
    exact ret_b (by rw [decide_eq_false hall]) rfl
def btwP (js : List Joint) (a b : Int) (i : Nat) : Bool := decide ((chain js a).count (i : Int) + (chain js b).count (i : Int) = 1)
theorem btwP_out {js : List Joint} (hd : downOk js) {a b : Int} (a1 : -1 ≤ a) (a2 : a < js.length) (b1 : -1 ≤ b) (b2 : b < js.length) {i : Nat} (hi : js.length ≤ i) : btwP js a b i = false := by
  have h1 : (i : Int) ∉ chain js a := fun h => by have := (chain_in hd a a1 a2).1 _ h; omega
  have h2 : (i : Int) ∉ chain js b := fun h => by have := (chain_in hd b b1 b2).1 _ h; omega
  rw [btwP, List.count_eq_zero.2 h1, List.count_eq_zero.2 h2]; rfl
theorem btwP_mem {js : List Joint} (hd : downOk js) {a b : Int} (a1 : -1 ≤ a) (a2 : a < js.length) (b1 : -1 ≤ b) (b2 : b < js.length) (i : Nat) : btwP js a b i = (decide ((i : Int) ∈ chain js a) != decide ((i : Int) ∈ chain js b)) := by
  rw [btwP, count_in (chain_in hd a a1 a2).2.1, count_in (chain_in hd b b1 b2).2.1]
  by_cases h1 : (i : Int) ∈ chain js a <;> by_cases h2 : (i : Int) ∈ chain js b <;> simp [h1, h2]
theorem filter_one (P : Nat → Bool) (x : Nat) : [x].filter P = if P x then [x] else [] := by cases h : P x <;> simp [h]
theorem filter_range {P : Nat → Bool} {n : Nat} (h : ∀ i, n ≤ i → P i = false) : ∀ d, (List.range (n + d)).filter P = (List.range n).filter P
  | 0 => rfl
  | d + 1 => by
    rw [← Nat.add_assoc, List.range_succ, List.filter_append, filter_range h d, filter_one, h _ (by omega)]; simp
theorem btw_eq {js : List Joint} (hl : js.length ≤ 10) (hd : downOk js) {a b : Int} (a1 : -1 ≤ a) (a2 : a < js.length) (b1 : -1 ≤ b) (b2 : b < js.length) : (List.range js.length).filter (btwP js a b) = btw js a b := by
  have := filter_range (P := btwP js a b) (n := js.length) (fun i hi => btwP_out hd a1 a2 b1 b2 hi) (10 - js.length)
  rw [show js.length + (10 - js.length) = 10 by omega] at this
  exact this.symm
def btwR (r : Robot) (a b : Int) : List Int := if hasR r [a, b] then (btw r.joints a b).map fun (i : Nat) => (i : Int) else []
theorem ref_Between (r : Robot) (a b : Int) (hj : r.joints.length ≤ 4611686018427387904) (hm : r.masses.length ≤ 4611686018427387904) : FnOk Tryd.prog F.ref6_Between [Ro r, I a, I b] [] 0 (.one (.row 0)) [(0, bIn (btwR r a b))] 1 := by
  refine fnOk tab mix G.ref6_Between rfl rfl (by kernel_rfl) rfl rfl ?_
  (conv => whnf)
  refine call_i (ref_CheckRobot r hj hm) ?_
  (conv => whnf)
  refine ask_m (fun h1 => ?_) (fun h1 => ?_)
  · have h1 : ¬ checkRobot r = 0 := by simpa using h1
    have e : btwR r a b = [] := by rw [btwR, hasR, decide_eq_false h1, Bool.and_false]; rfl
    rw [e]
    (conv => whnf)
    refine retO [.own 6 Y.int 1] ?_
    (conv => whnf)
    exact ⟨[(0, 1)], ⟨rfl, trivial⟩, ⟨rfl, trivial⟩⟩
  have h1 : checkRobot r = 0 := by simpa using h1
  obtain ⟨g1, g2, g3⟩ := robot_good h1
  (conv => whnf)
  refine call_i (ref_isLink r a) ?_
  (conv => whnf)
  cases ha : linkOk r.joints.length a with
  | false =>
    have e : btwR r a b = [] := by rw [btwR, hasR]; simp [ha]
    rw [e]
    (conv => whnf)
    (conv => whnf)
    refine retO [.own 6 Y.int 1] ?_
    (conv => whnf)
    exact ⟨[(0, 1)], ⟨rfl, trivial⟩, ⟨rfl, trivial⟩⟩
  | true =>
  (conv => whnf)
  refine call_i (ref_isLink r b) ?_
  (conv => whnf)
  cases hb : linkOk r.joints.length b with
  | false =>
    have e : btwR r a b = [] := by rw [btwR, hasR]; simp [hb]
    rw [e]
    (conv => whnf)
    (conv => whnf)
    refine retO [.own 6 Y.int 1] ?_
    (conv => whnf)
    exact ⟨[(0, 1)], ⟨rfl, trivial⟩, ⟨rfl, trivial⟩⟩
  | true =>
  have e : btwR r a b = (btw r.joints a b).map fun (i : Nat) => (i : Int) := by rw [btwR, hasR]; simp [ha, hb, h1]
  have ea : chainR r a = chain r.joints a := by rw [chainR, hasR]; simp [ha, h1]
  have eb : chainR r b = chain r.joints b := by rw [chainR, hasR]; simp [hb, h1]
  obtain ⟨a1, a2⟩ := link_bd ha
  obtain ⟨b1, b2⟩ := link_bd hb
  rw [e, ← btw_eq g1 g3 a1 a2 b1 b2]
  have hla := chain_len' g3 a a1 a2
  have hlb := chain_len' g3 b b1 b2
  (conv => whnf)
  refine call_i (ref_Chain r a hj hm) ?_
  (conv => whnf)
  refine call_i (ref_Chain r b hj hm) ?_
  (conv => whnf)
  rw [ea, eb]
  have hmem := btwP_mem g3 a1 a2 b1 b2
  generalize hP : btwP r.joints a b = P at *
  generalize chain r.joints a = ca at *
  generalize chain r.joints b = cb at *
  refine loop_intro (fun k : Nat => ⟨[(3, .one (.vptr 0 0)), (7, .one (.row 1)), (8, .one (.row 2)), (9, .one (.row 3)), (10, I k)], [(0, bRo r), (1, bIn ca), (2, bIn cb), (3, bIn (((List.range k).filter P).map fun (i : Nat) => (i : Int)))], 4⟩) (fun k => k ≤ r.joints.length) (fun k => r.joints.length - k) [.own 9 Y.int 1] 0 [] (Nat.zero_le _) ⟨⟨rfl, rfl, rfl, rfl, rfl, trivial⟩, ⟨rfl, rfl, rfl, rfl, trivial⟩⟩ ?_
  rintro k hk
  have hkk : IntKind.i64.wrap ((k : Int) + 1) = ((k + 1 : Nat) : Int) := by rw [w64] <;> omega
  have hfl : ((List.range k).filter P).length ≤ k := by
    have := List.length_filter_le P (List.range k)
    rw [List.length_range] at this; exact this
  (conv => whnf)
  refine ask_m (fun h => ?_) (fun h => ?_)
  · have hlt : k < r.joints.length := by simpa using h
    have hnx : (List.range (k + 1)).filter P = (List.range k).filter P ++ if P k then [k] else [] := by
      rw [List.range_succ, List.filter_append, filter_one]
    (conv => whnf)
    refine call_i (ref_member ca k (by omega)) ?_
    (conv => whnf)
    refine ⟨⟨trivial, trivial⟩, ?_⟩
    (conv => whnf)
    refine call_i (ref_member cb k (by omega)) ?_
    (conv => whnf)
    refine ⟨⟨trivial, trivial⟩, ?_⟩
    (conv => whnf)
    rw [hmem k] at hnx
    refine ask_m (fun hne => ?_) (fun hne => ?_)
    · have hne : (decide ((k : Int) ∈ ca) != decide ((k : Int) ∈ cb)) = true := by simpa [bne] using hne
      rw [hne, if_pos rfl] at hnx
      (conv => whnf)
      refine ⟨⟨by simp; omega, by simp; omega⟩, ?_⟩
      (conv => whnf)
      exact ⟨k + 1, [(3, 5)], hlt, by omega, ⟨⟨rfl, rfl, rfl, rfl, eqI hkk, trivial⟩, ⟨rfl, rfl, rfl, rows_eq (by rw [hnx, List.map_append, List.map_append]; rfl), trivial⟩⟩⟩
    · have hne : (decide ((k : Int) ∈ ca) != decide ((k : Int) ∈ cb)) = false := by simpa [bne] using hne
      rw [hne, if_neg (by decide), List.append_nil] at hnx
      (conv => whnf)
      exact ⟨k + 1, [], hlt, by omega, ⟨⟨rfl, rfl, rfl, rfl, eqI hkk, trivial⟩, ⟨rfl, rfl, rfl, rows_eq (by rw [hnx]), trivial⟩⟩⟩
  · have hk : k = r.joints.length := by simp at h; omega
    subst hk
    (conv => whnf)
    refine retO [] ?_
    (conv => whnf)
    exact ⟨[(0, 3)], ⟨rfl, trivial⟩, ⟨rfl, trivial⟩⟩
def rigidR (r : Robot) (a b : Int) : Bool := hasR r [a, b] && rigid r.joints a b
theorem lo_hi {r : Robot} (h : checkRobot r = 0) {k : Nat} {j : Joint} (hj : r.joints[k]? = some j) : j.lo ≤ j.hi := ((robot_facts h).2.1 k j hj).2.2.2.2.1.1
theorem ref_Rigid (r : Robot) (a b : Int) (hj : r.joints.length ≤ 4611686018427387904) (hm : r.masses.length ≤ 4611686018427387904) : FnOk Tryd.prog F.ref6_Rigid [Ro r, I a, I b] [] 0 (Bo (rigidR r a b)) [] 0 := by
  refine fnOk tab mix G.ref6_Rigid rfl rfl (by kernel_rfl) rfl rfl ?_
  (conv => whnf)
  refine call_i (ref_CheckRobot r hj hm) ?_
  (conv => whnf)
  refine ask_m (fun h1 => ?_) (fun h1 => ?_)
  · have h1 : ¬ checkRobot r = 0 := by simpa using h1
    (conv => whnf)
    refine ret0 ?_
    exact ret_b (by rw [rigidR, hasR, decide_eq_false h1, Bool.and_false, Bool.false_and]) rfl
  have h1 : checkRobot r = 0 := by simpa using h1
  obtain ⟨g1, g2, g3⟩ := robot_good h1
  (conv => whnf)
  refine call_i (ref_isLink r a) ?_
  (conv => whnf)
  cases ha : linkOk r.joints.length a with
  | false =>
    (conv => whnf)
    (conv => whnf)
    refine ret0 ?_
    exact ret_b (by rw [rigidR, hasR]; simp [ha]) rfl
  | true =>
  (conv => whnf)
  refine call_i (ref_isLink r b) ?_
  (conv => whnf)
  cases hb : linkOk r.joints.length b with
  | false =>
    (conv => whnf)
    (conv => whnf)
    refine ret0 ?_
    exact ret_b (by rw [rigidR, hasR]; simp [hb]) rfl
  | true =>
  have hh : hasR r [a, b] = true := by rw [hasR]; simp [ha, hb, h1]
  have e : btwR r a b = (btw r.joints a b).map fun (i : Nat) => (i : Int) := by rw [btwR, hh]; rfl
  obtain ⟨a1, a2⟩ := link_bd ha
  obtain ⟨b1, b2⟩ := link_bd hb
  have hbt : ∀ x ∈ btw r.joints a b, x < r.joints.length := by
    intro x hx
    rw [← btw_eq g1 g3 a1 a2 b1 b2] at hx
    exact List.mem_range.1 (List.mem_filter.1 hx).1
  have hbl : (btw r.joints a b).length ≤ 10 := by
    have := List.length_filter_le (btwP r.joints a b) (List.range 10)
    rw [List.length_range] at this
    exact this
  (conv => whnf)
  refine call_i (ref_Between r a b hj hm) ?_
  (conv => whnf)
  rw [e, rigidR, hh, Bool.true_and, rigid]
  generalize btw r.joints a b = bs at *
  refine loop_intro (fun k : Nat => ⟨[(3, .one (.vptr 0 0)), (7, .one (.row 1)), (8, I k)], [(0, bRo r), (1, bIn (bs.map fun (i : Nat) => (i : Int)))], 2⟩) (fun k => k ≤ bs.length ∧ (bs.take k).any (fun i => mov r.joints i) = false) (fun k => bs.length - k) [] 0 [] ⟨Nat.zero_le _, rfl⟩ ⟨⟨rfl, rfl, rfl, trivial⟩, ⟨rfl, rfl, trivial⟩⟩ ?_
  rintro k ⟨hk, hall⟩
  have hkk : IntKind.i64.wrap ((k : Int) + 1) = ((k + 1 : Nat) : Int) := by rw [w64] <;> omega
  (conv => whnf)
  refine ask_m (fun h => ?_) (fun h => ?_)
  · have hlt : k < bs.length := by simpa using h
    obtain ⟨i, hi⟩ : ∃ i, bs[k]? = some i := ⟨_, List.getElem?_eq_getElem hlt⟩
    have him := hbt i (List.mem_of_getElem? hi)
    obtain ⟨j, hj'⟩ : ∃ j, r.joints[i]? = some j := ⟨_, List.getElem?_eq_getElem him⟩
    have hmv := mov_at hj'
    have hlh := lo_hi h1 hj'
    have hik : (bs.map fun (i : Nat) => (i : Int))[k]? = some (i : Int) := by rw [List.getElem?_map, hi]; rfl
    (conv => whnf)
    refine ⟨⟨by omega, by simp; omega⟩, ?_⟩
    (conv => whnf)
    refine idx_map (by rw [Int.toNat_natCast]; exact hik) ?_
    (conv => whnf)
    refine idx_and (by omega) (by simpa using hj') ?_
    (conv => whnf)
    refine ⟨⟨by omega, by simp; omega⟩, ?_⟩
    (conv => whnf)
    refine idx_map (by rw [Int.toNat_natCast]; exact hik) ?_
    (conv => whnf)
    refine idx_and (by omega) (by simpa using hj') ?_
    (conv => whnf)
    refine ask_m (fun he => ?_) (fun he => ?_)
    · have he : j.lo < j.hi := of_decide_eq_true he
      rw [decide_eq_true (by omega)] at hmv
      (conv => whnf)
      refine ret0 ?_
      exact ret_b (by rw [any_yes hi hmv]; rfl) rfl
    · have he : ¬ j.lo < j.hi := of_decide_eq_false he
      rw [decide_eq_false (by omega)] at hmv
      (conv => whnf)
      exact ⟨k + 1, [], ⟨hlt, any_take hall hi hmv⟩, by omega, ⟨⟨rfl, rfl, eqI hkk, trivial⟩, ⟨rfl, rfl, trivial⟩⟩⟩
  · have hk : k = bs.length := by simp at h; omega
    subst hk
    rw [List.take_length] at hall
    (conv => whnf)
    refine ret0 ?_
    exact ret_b (by rw [hall]; rfl) rfl
end Go.Proofs.YtlfclainmbafiaaDoor

/- law8: Between, Rigid, Find; RobotBetween, RobotChains. -/
namespace Go.Proofs.YtlfclainmbafiaaDoor
open Eng
set_option maxRecDepth 10000
attribute [local irreducible] FnOk loopW idxF retX arrF findF

theorem mk_Same_int (a b : List Int) (ha : a.length ≤ 4611686018427387904) (hb : b.length ≤ 4611686018427387904) : FnOk Tryd.prog F.mk_Same_int [.one (.dv (.lst 1 (a.map encI))), .one (.dv (.lst 1 (b.map encI)))] [] 0 (Bo (decide (a = b))) [] 0 := by
  refine fnOk tab mix G.mk_Same_int rfl rfl (by kernel_rfl) rfl rfl ?_
  (conv => whnf)
  refine ask_m (fun h => ?_) (fun h => ?_)
  · (conv => whnf)
    refine ret0 ?_
    refine ret_b (Eq.symm (decide_eq_false ?_)) rfl
    rintro rfl
    simp at h
  have hl : a.length = b.length := by simp at h; omega
  (conv => whnf)
  refine loop_intro (fun k : Nat => ⟨[(0, .one (.dv (.lst 1 (a.map encI)))), (1, .one (.dv (.lst 1 (b.map encI)))), (5, I k)], [], 0⟩) (fun k => k ≤ a.length ∧ a.take k = b.take k) (fun k => a.length - k) [] 0 [] ⟨Nat.zero_le _, rfl⟩ ⟨⟨rfl, rfl, rfl, trivial⟩, trivial⟩ ?_
  rintro k ⟨hk, hall⟩
  (conv => whnf)
  refine ask_m (fun h => ?_) (fun h => ?_)
  · have hlt : k < a.length := by simpa using h
    obtain ⟨x, hx⟩ : ∃ j, a[k]? = some j := ⟨_, List.getElem?_eq_getElem hlt⟩
    obtain ⟨y, hy⟩ : ∃ j, b[k]? = some j := ⟨_, List.getElem?_eq_getElem (by omega)⟩
    have hkk : IntKind.i64.wrap ((k : Int) + 1) = ((k + 1 : Nat) : Int) := by rw [w64] <;> omega
    (conv => whnf)
    refine idx_and (by omega) (by simpa using hx) ?_
    (conv => whnf)
    refine idx_and (by omega) (by simpa using hy) ?_
    (conv => whnf)
    refine ask_m (fun h => ?_) (fun h => ?_)
    · (conv => whnf)
      refine ret0 ?_
      refine ret_b (Eq.symm (decide_eq_false (ne_at hx hy ?_))) rfl
      rintro rfl
      simp at h
    · skip
      have e : x = y := by simpa using h
      subst e
      (conv => whnf)
      exact ⟨k + 1, [], ⟨hlt, take_same hall hx hy⟩, by omega, ⟨⟨rfl, rfl, eqI hkk, trivial⟩, trivial⟩⟩
  · have hk : k = a.length := by simp at h; omega
    subst hk
    rw [List.take_length, hl, List.take_length] at hall
    (conv => whnf)
    refine ret0 ?_
    exact ret_b (decide_eq_true hall).symm rfl

theorem robot_Between (r : Robot) (a b : Int) (hj : r.joints.length ≤ 4611686018427387904) (hm : r.masses.length ≤ 4611686018427387904) : FnOk Tryd.prog F.robot_Between [Ro r, I a, I b] [] 0 (.one (.row 0)) [(0, bIn (btwR r a b))] 1 := by
  refine fnOk tab mix G.robot_Between rfl rfl (by kernel_rfl) rfl rfl ?_
  (conv => whnf)
  refine call_i (robot_has r [a, b] hj hm (by simp)) ?_
  (conv => whnf)
  refine ⟨⟨trivial, trivial⟩, ?_⟩
  (conv => whnf)
  cases hh : hasB r [a, b] with
  | false =>
    (conv => whnf)
    have e : btwR r a b = [] := by rw [btwR]; have : hasR r [a, b] = false := hh; rw [this]; rfl
    rw [e]
    (conv => whnf)
    refine retO [.own 6 Y.int 1] ?_
    (conv => whnf)
    exact ⟨[(0, 2)], ⟨rfl, trivial⟩, ⟨rfl, trivial⟩⟩
  | true =>
    obtain ⟨h1, h2⟩ := has_good hh
    obtain ⟨g1, g2, g3⟩ := robot_good h1
    have ha := h2 a (by simp)
    have hb := h2 b (by simp)
    have e : btwR r a b = (btw r.joints a b).map fun (i : Nat) => (i : Int) := by rw [btwR]; have : hasR r [a, b] = true := hh; rw [this]; rfl
    rw [e]
    (conv => whnf)
    refine call_i (robot_between r a b g1 g3 ha.1 ha.2 hb.1 hb.2) ?_
    (conv => whnf)
    (conv => whnf)
    refine retO [] ?_
    (conv => whnf)
    exact ⟨[(0, 2)], ⟨rfl, trivial⟩, ⟨rfl, trivial⟩⟩
theorem robot_RigidR (r : Robot) (a b : Int) (hj : r.joints.length ≤ 4611686018427387904) (hm : r.masses.length ≤ 4611686018427387904) : FnOk Tryd.prog F.robot_Rigid [Ro r, I a, I b] [] 0 (Bo (rigidR r a b)) [] 0 := by
  refine fnOkG [(1000018, [.frz 2])] tab mix G.robot_Rigid rfl rfl (by kernel_rfl) rfl rfl ?_
  (conv => whnf)
  refine call_i (robot_has r [a, b] hj hm (by simp)) ?_
  (conv => whnf)
  refine ⟨⟨trivial, trivial⟩, ?_⟩
  (conv => whnf)
  cases hh : hasB r [a, b] with
  | false =>
    (conv => whnf)
    (conv => whnf)
    refine ret0 ?_
    exact ret_b (by rw [rigidR]; have : hasR r [a, b] = false := hh; rw [this]; rfl) rfl
  | true =>
    obtain ⟨h1, h2⟩ := has_good hh
    obtain ⟨g1, g2, g3⟩ := robot_good h1
    have ha := h2 a (by simp)
    have hb := h2 b (by simp)
    have e : rigidR r a b = rigid r.joints a b := by rw [rigidR]; have : hasR r [a, b] = true := hh; rw [this]; rfl
    rw [e]
    (conv => whnf)
    refine call_i (robot_between r a b g1 g3 ha.1 ha.2 hb.1 hb.2) ?_
    (conv => whnf)
    rw [List.map_map]
    have hbt : ∀ x ∈ btw r.joints a b, x < r.joints.length := by
      intro x hx
      rw [← btw_eq g1 g3 ha.1 ha.2 hb.1 hb.2] at hx
      exact List.mem_range.1 (List.mem_filter.1 hx).1
    refine call_i (ints_ContainsFunc r (btw r.joints a b) (Nat.le_trans (List.length_filter_le _ _) (by simp)) hbt) ?_
    (conv => whnf)
    (conv => whnf)
    refine ret0 ?_
    exact ret_b rfl rfl
theorem ref_Find (r : Robot) (nm : ByteArray) (hl : r.joints.length ≤ 4611686018427387904) : FnOk Tryd.prog F.ref6_Find [Ro r, Tx nm] [] 0 (I (find r.joints nm 0)) [] 0 := by
  refine fnOk tab mix G.ref6_Find rfl rfl (by kernel_rfl) rfl rfl ?_
  (conv => whnf)
  refine loop_intro (fun k : Nat => ⟨[(1, Tx nm), (2, .one (.vptr 0 0)), (5, I k)], [(0, bRo r)], 1⟩) (fun k => k ≤ r.joints.length ∧ find r.joints nm 0 = find (r.joints.drop k) nm k) (fun k => r.joints.length - k) [] 0 [] ⟨Nat.zero_le _, rfl⟩ ⟨⟨rfl, rfl, rfl, trivial⟩, ⟨rfl, trivial⟩⟩ ?_
  rintro k ⟨hk, hf⟩
  have hkk : IntKind.i64.wrap ((k : Int) + 1) = ((k + 1 : Nat) : Int) := by rw [w64] <;> omega
  (conv => whnf)
  refine ask_m (fun h => ?_) (fun h => ?_)
  · have hlt : k < r.joints.length := by simpa using h
    obtain ⟨j, hj⟩ : ∃ j, r.joints[k]? = some j := ⟨_, List.getElem?_eq_getElem hlt⟩
    rw [drop_cons hj, find] at hf
    (conv => whnf)
    refine idx_and (by omega) (by simpa using hj) ?_
    (conv => whnf)
    refine ask_m (fun he => ?_) (fun he => ?_)
    · have he : j.name = nm := of_decide_eq_true he
      rw [if_pos he] at hf
      (conv => whnf)
      refine ret0 ?_
      exact ret_i hf.symm rfl
    · have he : ¬ j.name = nm := of_decide_eq_false he
      rw [if_neg he] at hf
      (conv => whnf)
      exact ⟨k + 1, [], ⟨hlt, hf⟩, by omega, ⟨⟨rfl, rfl, eqI hkk, trivial⟩, ⟨rfl, trivial⟩⟩⟩
  · have hk : k = r.joints.length := by simp at h; omega
    subst hk
    rw [List.drop_length, find] at hf
    (conv => whnf)
    refine ret0 ?_
    exact ret_i hf.symm rfl
theorem chainR_len (r : Robot) (k : Int) : (chainR r k).length ≤ 100 := by
  rw [chainR]
  split
  · rename_i h
    obtain ⟨h1, h2⟩ := hasR_good h
    obtain ⟨g1, g2, g3⟩ := robot_good h1
    have h3 := h2 k (by simp)
    have := chain_len g3 k h3.1 h3.2
    omega
  · simp
theorem btw_len (js : List Joint) (a b : Int) : (btw js a b).length ≤ 10 := by
  have := List.length_filter_le (btwP js a b) (List.range 10)
  rw [List.length_range] at this
  exact this
theorem btwR_len (r : Robot) (a b : Int) : (btwR r a b).length ≤ 100 := by
  rw [btwR]
  split
  · have := btw_len r.joints a b
    rw [List.length_map]; omega
  · simp
theorem law8_chains (r : Robot) (nm : ByteArray) (a b : Int) (hj : r.joints.length ≤ 4611686018427387904) (hm : r.masses.length ≤ 4611686018427387904) : FnOk Tryd.prog F.law8_chains [Ro r, Tx nm, I a, I b] [] 0 (Bo true) [] 0 := by
  refine fnOk tab mix G.law8_chains rfl rfl (by kernel_rfl) rfl rfl ?_
  (conv => whnf)
  have l1 := chainR_len r a
  have l2 := btwR_len r a b
  refine call_i (robot_Find r nm hj) ?_
  (conv => whnf)
  refine call_i (ref_Find r nm hj) ?_
  (conv => whnf)
  refine ask_mt (by simp) ?_
  (conv => whnf)
  refine call_i (robot_Chain r a hj hm) ?_
  (conv => whnf)
  refine call_i (ref_Chain r a hj hm) ?_
  (conv => whnf)
  refine call_i (mk_Same_int (chainR r a) (chainR r a) (by omega) (by omega)) ?_
  (conv => whnf)
  refine ⟨⟨trivial, trivial⟩, ?_⟩
  (conv => whnf)
  rw [decide_eq_true rfl]
  (conv => whnf)
  refine call_i (robot_Between r a b hj hm) ?_
  (conv => whnf)
  refine call_i (ref_Between r a b hj hm) ?_
  (conv => whnf)
  refine call_i (mk_Same_int (btwR r a b) (btwR r a b) (by omega) (by omega)) ?_
  (conv => whnf)
  refine ⟨⟨trivial, trivial⟩, ?_⟩
  (conv => whnf)
  rw [decide_eq_true rfl]
  (conv => whnf)
  refine call_i (robot_RigidR r a b hj hm) ?_
  (conv => whnf)
  refine call_i (ref_Rigid r a b hj hm) ?_
  (conv => whnf)
  (conv => whnf)
  refine ret0 ?_
  exact ret_b (by simp) rfl
theorem law8_Chains (raw : Robot) (nm : ByteArray) (a b : Int) (l : List Int) (hr : raw.joints.length ≤ 140737488351232 ∧ raw.masses.length ≤ 140737488351232) (hn : nm.size ≤ 140737488351232) (ha : True) (hb : True) (hl : l.length ≤ 17592186044416) : FnOk Tryd.prog F.law8_RobotChains [Ro raw, Tx nm, I a, I b, Li l] [] 0 (Bo true) [] 0 := by
  refine fnOk tab mix G.law8_RobotChains rfl rfl (by kernel_rfl) rfl rfl ?_
  (conv => whnf)
  refine call_i (mk_Robot l (by omega)) ?_
  (conv => whnf)
  have hok := mkRobot_ok l 0
  obtain ⟨g1, _, g3, _⟩ := robot_facts hok
  generalize mkRobot l 0 = r at *
  refine call_i (mk_Round a 6 (by decide) (by decide)) ?_
  (conv => whnf)
  refine call_i (mk_Round b 6 (by decide) (by decide)) ?_
  (conv => whnf)
  refine call_i (law8_awake) ?_
  (conv => whnf)
  refine call_i (law8_chains raw nm a b (by omega) (by omega)) ?_
  (conv => whnf)
  refine call_i (law8_chains raw ⟨#[97]⟩ (IntKind.i64.wrap (a % 6 - 2)) (IntKind.i64.wrap (b % 6 - 2)) (by omega) (by omega)) ?_
  (conv => whnf)
  refine call_i (law8_chains r ⟨#[98]⟩ (IntKind.i64.wrap (a % 6 - 2)) (IntKind.i64.wrap (b % 6 - 2)) (by omega) (by omega)) ?_
  (conv => whnf)
  refine call_i (law8_chains r nm a b (by omega) (by omega)) ?_
  (conv => whnf)
  (conv => whnf)
  refine ret0 ?_
  exact ret_b rfl rfl
theorem law8_member (l : List Int) (x : Int) (hl : l.length ≤ 4611686018427387904) : FnOk Tryd.prog F.law8_member [Li l, I x] [] 0 (Bo (decide (x ∈ l))) [] 0 := by
  refine fnOk tab mix G.law8_member rfl rfl (by kernel_rfl) rfl rfl ?_
  (conv => whnf)
  refine loop_intro (fun k : Nat => ⟨[(0, Li l), (1, I x), (5, I k)], [], 0⟩) (fun k => k ≤ l.length ∧ x ∉ l.take k) (fun k => l.length - k) [] 0 [] ⟨Nat.zero_le _, by simp⟩ ⟨⟨rfl, rfl, rfl, trivial⟩, trivial⟩ ?_
  rintro k ⟨hk, hall⟩
  have hkk : IntKind.i64.wrap ((k : Int) + 1) = ((k + 1 : Nat) : Int) := by rw [w64] <;> omega
  (conv => whnf)
  refine ask_m (fun h => ?_) (fun h => ?_)
  · have hlt : k < l.length := by simpa using h
    obtain ⟨y, hy⟩ : ∃ y, l[k]? = some y := ⟨_, List.getElem?_eq_getElem hlt⟩
    (conv => whnf)
    refine idx_and (by omega) (by simpa using hy) ?_
    (conv => whnf)
    refine ask_m (fun he => ?_) (fun he => ?_)
    · have he : y = x := by simpa using he
      subst he
      (conv => whnf)
      refine ret0 ?_
      exact ret_b (by rw [decide_eq_true (List.mem_of_getElem? hy)]) rfl
    · have he : ¬ y = x := by simpa using he
      (conv => whnf)
      refine ⟨k + 1, [], ⟨hlt, ?_⟩, by omega, ⟨⟨rfl, rfl, eqI hkk, trivial⟩, trivial⟩⟩
      rw [List.take_add_one, hy]
      simp only [Option.toList_some, List.mem_append, List.mem_singleton, not_or]
      exact ⟨hall, fun e => he e.symm⟩
  · have hk : k = l.length := by simp at h; omega
    subst hk
    rw [List.take_length] at hall
    (conv => whnf)
    refine ret0 ?_
    exact ret_b (by rw [decide_eq_false hall]) rfl
theorem btw_sym (js : List Joint) (a b : Int) : btw js a b = btw js b a := by
  rw [btw, btw]
  refine List.filter_congr fun i _ => ?_
  rw [Nat.add_comm]
theorem btw_self {js : List Joint} (a : Int) : btw js a a = [] := by
  rw [btw, List.filter_eq_nil_iff]
  intro i _
  simp; omega
theorem mem_btw {js : List Joint} (hl : js.length ≤ 10) (hd : downOk js) {a b : Int} (a1 : -1 ≤ a) (a2 : a < js.length) (b1 : -1 ≤ b) (b2 : b < js.length) (i : Nat) (hi : i < 10) : ((i : Int) ∈ (btw js a b).map fun (i : Nat) => (i : Int)) ↔ (decide ((i : Int) ∈ chain js a) != decide ((i : Int) ∈ chain js b)) = true := by
  rw [← btwP_mem hd a1 a2 b1 b2 i]
  constructor
  · intro h
    obtain ⟨k, hk, e⟩ := List.mem_map.1 h
    have : k = i := by omega
    subst this
    exact (List.mem_filter.1 hk).2
  · intro h
    exact List.mem_map.2 ⟨i, List.mem_filter.2 ⟨List.mem_range.2 hi, h⟩, rfl⟩
theorem bxor3 : ∀ p q s : Bool, (p != q) = true → decide ((p != s) = true) ≠ decide ((s != q) = true) := by
  intro p q s h
  cases p <;> cases q <;> cases s <;> first | (exact absurd h (by decide)) | decide
theorem law8_Between (l : List Int) (a b c : Int) (hl : l.length ≤ 17592186044416) (ha : True) (hb : True) (hc : True) : FnOk Tryd.prog F.law8_RobotBetween [Li l, I a, I b, I c] [] 0 (Bo true) [] 0 := by
  refine fnOk tab mix G.law8_RobotBetween rfl rfl (by kernel_rfl) rfl rfl ?_
  (conv => whnf)
  refine call_i (mk_Robot l (by omega)) ?_
  (conv => whnf)
  have hok := mkRobot_ok l 0
  obtain ⟨m1, _, m3, _⟩ := robot_facts hok
  obtain ⟨g1, g2, g3⟩ := robot_good hok
  generalize mkRobot l 0 = r at *
  have en : IntKind.i64.wrap ((((r.joints.map encJ).length : Nat) : Int) + 1) = (r.joints.length : Int) + 1 := by rw [List.length_map, w64] <;> omega
  rw [en]
  have hlink : ∀ q : Int, ∃ x : Int, IntKind.i64.wrap (q % ((r.joints.length : Int) + 1) - 1) = x ∧ -1 ≤ x ∧ x < r.joints.length := fun q => by
    have e1 := Int.emod_nonneg q (b := (r.joints.length : Int) + 1) (by omega)
    have e2 := Int.emod_lt_of_pos q (b := (r.joints.length : Int) + 1) (by omega)
    exact ⟨_, rfl, by rw [w64] <;> omega, by rw [w64] <;> omega⟩
  obtain ⟨x, ex, x1, x2⟩ := hlink a
  obtain ⟨y, ey, y1, y2⟩ := hlink b
  obtain ⟨z, ez, z1, z2⟩ := hlink c
  refine call_i (mk_Round a ((r.joints.length : Int) + 1) (by omega) (by omega)) ?_
  (conv => whnf)
  refine call_i (mk_Round b ((r.joints.length : Int) + 1) (by omega) (by omega)) ?_
  (conv => whnf)
  refine call_i (mk_Round c ((r.joints.length : Int) + 1) (by omega) (by omega)) ?_
  (conv => whnf)
  rw [ex, ey, ez]
  have hbt : ∀ p q : Int, -1 ≤ p → p < r.joints.length → -1 ≤ q → q < r.joints.length → btwR r p q = (btw r.joints p q).map fun (i : Nat) => (i : Int) := fun p q p1 p2 q1 q2 => by
    rw [btwR, if_pos]
    simp [hasR, hok, linkOk, p1, p2, q1, q2]
  refine call_i (robot_Between r x y (by omega) (by omega)) ?_
  (conv => whnf)
  refine call_i (robot_Between r x z (by omega) (by omega)) ?_
  (conv => whnf)
  refine call_i (robot_Between r z y (by omega) (by omega)) ?_
  (conv => whnf)
  refine call_i (robot_Between r y x (by omega) (by omega)) ?_
  (conv => whnf)
  rw [hbt x y x1 x2 y1 y2, hbt x z x1 x2 z1 z2, hbt z y z1 z2 y1 y2, hbt y x y1 y2 x1 x2, btw_sym r.joints y x]
  have l1 := btw_len r.joints x y
  have l2 := btw_len r.joints x z
  have l3 := btw_len r.joints z y
  refine call_i (mk_Same_int ((btw r.joints x y).map fun (i : Nat) => (i : Int)) ((btw r.joints x y).map fun (i : Nat) => (i : Int)) (by rw [List.length_map]; omega) (by rw [List.length_map]; omega)) ?_
  (conv => whnf)
  refine ⟨⟨trivial, trivial⟩, ?_⟩
  (conv => whnf)
  rw [decide_eq_true rfl]
  (conv => whnf)
  refine call_i (robot_Between r x x (by omega) (by omega)) ?_
  (conv => whnf)
  rw [hbt x x x1 x2 x1 x2, btw_self]
  (conv => whnf)
  have hmb : ∀ k (i : Nat), (btw r.joints x y)[k]? = some i → decide ((i : Int) ∈ (btw r.joints x z).map fun (i : Nat) => (i : Int)) ≠ decide ((i : Int) ∈ (btw r.joints z y).map fun (i : Nat) => (i : Int)) := fun k i hi => by
    have hm := List.mem_filter.1 (List.mem_of_getElem? hi)
    have hi10 := List.mem_range.1 hm.1
    have h1 := (mem_btw g1 g3 x1 x2 y1 y2 i hi10).1 (List.mem_map.2 ⟨i, List.mem_of_getElem? hi, rfl⟩)
    rw [decide_eq_decide.2 (mem_btw g1 g3 x1 x2 z1 z2 i hi10), decide_eq_decide.2 (mem_btw g1 g3 z1 z2 y1 y2 i hi10)]
    exact bxor3 _ _ _ h1
  generalize btw r.joints x y = u at *
  generalize (btw r.joints x z) = v at *
  generalize (btw r.joints z y) = w at *
  refine loop_intro (fun k : Nat => ⟨[(9, .one (.vptr 0 0)), (11, I x), (14, .one (.row 1)), (15, .one (.row 2)), (16, .one (.row 3)), (17, I k)], [(0, bRo r), (1, bIn (u.map fun (i : Nat) => (i : Int))), (2, bIn (v.map fun (i : Nat) => (i : Int))), (3, bIn (w.map fun (i : Nat) => (i : Int)))], 4⟩) (fun k => k ≤ u.length) (fun k => u.length - k) [] 0 [] (Nat.zero_le _) ⟨⟨rfl, rfl, rfl, rfl, rfl, rfl, trivial⟩, ⟨rfl, rfl, rfl, rfl, trivial⟩⟩ ?_
  rintro k hk
  have hkk : IntKind.i64.wrap ((k : Int) + 1) = ((k + 1 : Nat) : Int) := by rw [w64] <;> omega
  (conv => whnf)
  refine ask_m (fun h => ?_) (fun h => ?_)
  · have hlt : k < u.length := by simpa using h
    obtain ⟨i, hi⟩ : ∃ i, u[k]? = some i := ⟨_, List.getElem?_eq_getElem hlt⟩
    have hik : (u.map fun (i : Nat) => (i : Int))[k]? = some (i : Int) := by rw [List.getElem?_map, hi]; rfl
    (conv => whnf)
    refine ⟨⟨by omega, by simp; omega⟩, ?_⟩
    (conv => whnf)
    refine idx_map (by rw [Int.toNat_natCast]; exact hik) ?_
    (conv => whnf)
    refine call_i (law8_member (v.map fun (i : Nat) => (i : Int)) i (by rw [List.length_map]; omega)) ?_
    (conv => whnf)
    refine ⟨⟨trivial, trivial⟩, ?_⟩
    (conv => whnf)
    refine ⟨⟨by omega, by simp; omega⟩, ?_⟩
    (conv => whnf)
    refine idx_map (by rw [Int.toNat_natCast]; exact hik) ?_
    (conv => whnf)
    refine call_i (law8_member (w.map fun (i : Nat) => (i : Int)) i (by rw [List.length_map]; omega)) ?_
    (conv => whnf)
    refine ⟨⟨trivial, trivial⟩, ?_⟩
    (conv => whnf)
    refine ask_mf (by simpa using hmb k i hi) ?_
    (conv => whnf)
    exact ⟨k + 1, [], hlt, by omega, ⟨⟨rfl, rfl, rfl, rfl, rfl, eqI hkk, trivial⟩, ⟨rfl, rfl, rfl, rfl, trivial⟩⟩⟩
  · (conv => whnf)
    refine call_i (law8_awake) ?_
    (conv => whnf)
    refine call_i (robot_RigidR r x x (by omega) (by omega)) ?_
    (conv => whnf)
    have hrg : rigidR r x x = true := by
      rw [rigidR, rigid, btw_self]
      simp [hasR, hok, linkOk, x1, x2]
    (conv => whnf)
    refine ret0 ?_
    exact ret_b hrg rfl
end Go.Proofs.YtlfclainmbafiaaDoor

/- Data of the types of robots and scenes. -/
namespace Go.Proofs.YtlfclainmbafiaaDoor
open Eng
set_option maxRecDepth 10000

theorem tz_i64 {n : Nat} {ds : List DV} (h : Typed T (n + 1) Y.int64 ds) : ∃ a, ds = [.int .i64 a] := by
  obtain ⟨a, h, _⟩ := h
  exact ⟨a, h⟩
theorem tz_int {n : Nat} {ds : List DV} (h : Typed T (n + 1) Y.int ds) : ∃ a, ds = [.int .i64 a] := by
  obtain ⟨a, h, _⟩ := h
  exact ⟨a, h⟩
theorem tz_str {n : Nat} {ds : List DV} (h : Typed T (n + 1) Y.string ds) : ∃ a, ds = [.str a] := by
  obtain ⟨a, h, _⟩ := h
  exact ⟨a, h⟩
theorem tz_Vec {n : Nat} {ds : List DV} (h : Typed T (n + 2) Y.Vec ds) : ∃ v, ds = encV v := by
  obtain ⟨ps, h1, h2, rfl⟩ := h
  match ps, h1 with
  | [a, b, c], _ =>
    obtain ⟨x, rfl⟩ := tz_i64 (h2 a (by simp))
    obtain ⟨y, rfl⟩ := tz_i64 (h2 b (by simp))
    obtain ⟨z, rfl⟩ := tz_i64 (h2 c (by simp))
    exact ⟨⟨x, y, z⟩, rfl⟩
theorem tz_Joint {n : Nat} {ds : List DV} (h : Typed T (n + 3) Y.Joint ds) : ∃ j, ds = encJ j := by
  obtain ⟨ps, h, rfl⟩ := h
  replace h := all2_cons h
  obtain ⟨d, q, rfl, h1, h⟩ := h
  obtain ⟨a1, rfl⟩ := tz_str h1
  replace h := all2_cons h
  obtain ⟨d, q, rfl, h1, h⟩ := h
  obtain ⟨a2, rfl⟩ := tz_int h1
  replace h := all2_cons h
  obtain ⟨d, q, rfl, h1, h⟩ := h
  obtain ⟨a3, rfl⟩ := tz_int h1
  replace h := all2_cons h
  obtain ⟨d, q, rfl, h1, h⟩ := h
  obtain ⟨a4, rfl⟩ := tz_Vec h1
  replace h := all2_cons h
  obtain ⟨d, q, rfl, h1, h⟩ := h
  obtain ⟨a5, rfl⟩ := tz_i64 h1
  replace h := all2_cons h
  obtain ⟨d, q, rfl, h1, h⟩ := h
  obtain ⟨a6, rfl⟩ := tz_i64 h1
  replace h := all2_cons h
  obtain ⟨d, q, rfl, h1, h⟩ := h
  obtain ⟨a7, rfl⟩ := tz_i64 h1
  replace h := all2_cons h
  obtain ⟨d, q, rfl, h1, h⟩ := h
  obtain ⟨a8, rfl⟩ := tz_i64 h1
  replace h := all2_cons h
  obtain ⟨d, q, rfl, h1, h⟩ := h
  obtain ⟨a9, rfl⟩ := tz_i64 h1
  replace h := all2_cons h
  obtain ⟨d, q, rfl, h1, h⟩ := h
  obtain ⟨a10, rfl⟩ := tz_i64 h1
  obtain rfl := all2_nil h
  exact ⟨⟨a1, a2, a3, a4, a5, a6, a7, a8, a9, a10⟩, rfl⟩
theorem tz_Mass {n : Nat} {ds : List DV} (h : Typed T (n + 3) Y.Mass ds) : ∃ j, ds = encM j := by
  obtain ⟨ps, h, rfl⟩ := h
  replace h := all2_cons h
  obtain ⟨d, q, rfl, h1, h⟩ := h
  obtain ⟨a1, rfl⟩ := tz_int h1
  replace h := all2_cons h
  obtain ⟨d, q, rfl, h1, h⟩ := h
  obtain ⟨a2, rfl⟩ := tz_i64 h1
  replace h := all2_cons h
  obtain ⟨d, q, rfl, h1, h⟩ := h
  obtain ⟨a3, rfl⟩ := tz_Vec h1
  obtain rfl := all2_nil h
  exact ⟨⟨a1, a2, a3⟩, rfl⟩
theorem tz_Skip {n : Nat} {ds : List DV} (h : Typed T (n + 2) Y.Skip ds) : ∃ j, ds = encSk j := by
  obtain ⟨ps, h, rfl⟩ := h
  replace h := all2_cons h
  obtain ⟨d, q, rfl, h1, h⟩ := h
  obtain ⟨a1, rfl⟩ := tz_int h1
  replace h := all2_cons h
  obtain ⟨d, q, rfl, h1, h⟩ := h
  obtain ⟨a2, rfl⟩ := tz_int h1
  obtain rfl := all2_nil h
  exact ⟨⟨a1, a2⟩, rfl⟩
theorem tz_sVec {n : Nat} {ds : List DV} (h : Typed T (n + 3) Y.s_Vec ds) : ∃ l : List Vec, ds = [dVs l] ∧ l.length ≤ 140737488351232 := by
  obtain ⟨rs, h1, h2, _, h3⟩ := h
  obtain ⟨l, rfl⟩ := map_of (enc := encV) fun r hr => tz_Vec (h3 r hr)
  refine ⟨l, h1, ?_⟩
  have : l.length * 24 ≤ reachBytes := by simpa using h2
  unfold reachBytes at this; omega
theorem tz_Shape {n : Nat} {ds : List DV} (h : Typed T (n + 4) Y.Shape ds) : ∃ j, ds = encSh j ∧ j.points.length ≤ 140737488351232 := by
  obtain ⟨ps, h, rfl⟩ := h
  replace h := all2_cons h
  obtain ⟨d, q, rfl, h1, h⟩ := h
  obtain ⟨a1, rfl⟩ := tz_int h1
  replace h := all2_cons h
  obtain ⟨d, q, rfl, h1, h⟩ := h
  obtain ⟨a2, rfl⟩ := tz_i64 h1
  replace h := all2_cons h
  obtain ⟨d, q, rfl, h1, h⟩ := h
  obtain ⟨a3, rfl, h3⟩ := tz_sVec h1
  obtain rfl := all2_nil h
  exact ⟨⟨a1, a2, a3⟩, rfl, h3⟩
theorem map_of' {α : Type} {enc : α → List DV} {Q : α → Prop} : ∀ {rs : List (List DV)}, (∀ r ∈ rs, ∃ a, r = enc a ∧ Q a) → ∃ xs : List α, rs = xs.map enc ∧ ∀ x ∈ xs, Q x
  | [], _ => ⟨[], rfl, by simp⟩
  | r :: rs, h => by
    obtain ⟨a, ha, qa⟩ := h r (by simp)
    obtain ⟨xs, hx, qx⟩ := map_of' (rs := rs) fun r hr => h r (by simp [hr])
    exact ⟨a :: xs, by rw [ha, hx]; rfl, fun x hx' => by
      rcases List.mem_cons.1 hx' with rfl | hx'
      · exact qa
      · exact qx x hx'⟩
theorem tz_Robot {n : Nat} {ds : List DV} (h : Typed T (n + 5) Y.Robot ds) : ∃ r : Robot, ds = [dJs r.joints, dMs r.masses] ∧ r.joints.length ≤ 140737488351232 ∧ r.masses.length ≤ 140737488351232 := by
  obtain ⟨ps, h, rfl⟩ := h
  replace h := all2_cons h
  obtain ⟨d, q, rfl, h1, h⟩ := h
  obtain ⟨rs, e1, b1, _, g1⟩ := h1
  obtain ⟨js, rfl⟩ := map_of (enc := encJ) fun r hr => tz_Joint (g1 r hr)
  replace h := all2_cons h
  obtain ⟨d2, q, rfl, h2, h⟩ := h
  obtain ⟨rs, e2, b2, _, g2⟩ := h2
  obtain ⟨ms, rfl⟩ := map_of (enc := encM) fun r hr => tz_Mass (g2 r hr)
  obtain rfl := all2_nil h
  refine ⟨⟨js, ms⟩, by rw [e1, e2]; rfl, ?_, ?_⟩
  · have : js.length * 104 ≤ reachBytes := by simpa using b1
    unfold reachBytes at this; simp only; omega
  · have : ms.length * 40 ≤ reachBytes := by simpa using b2
    unfold reachBytes at this; simp only; omega
theorem tyB_Robot {n : Nat} {ds : List DV} (h : Typed T (n + 5) Y.Robot ds) : ∃ r : Robot, ds = [dJs r.joints, dMs r.masses] ∧ (r.joints.length ≤ 140737488351232 ∧ r.masses.length ≤ 140737488351232) := tz_Robot h
theorem tyB_Scene {n : Nat} {ds : List DV} (h : Typed T (n + 6) Y.Scene ds) : ∃ s : Scene, ds = [dJs s.robot.joints, dMs s.robot.masses, dShs s.shapes, dSks s.skips] ∧ small s := by
  obtain ⟨ps, h, rfl⟩ := h
  replace h := all2_cons h
  obtain ⟨d, q, rfl, h1, h⟩ := h
  obtain ⟨r, rfl, r1, r2⟩ := tz_Robot h1
  replace h := all2_cons h
  obtain ⟨d, q, rfl, h1, h⟩ := h
  obtain ⟨rs, e1, b1, _, g1⟩ := h1
  obtain ⟨shs, rfl, gs⟩ := map_of' (enc := encSh) (Q := fun x => x.points.length ≤ 140737488351232) fun r hr => tz_Shape (g1 r hr)
  replace h := all2_cons h
  obtain ⟨d2, q, rfl, h2, h⟩ := h
  obtain ⟨rs, e2, b2, _, g2⟩ := h2
  obtain ⟨sks, rfl⟩ := map_of (enc := encSk) fun r hr => tz_Skip (g2 r hr)
  obtain rfl := all2_nil h
  refine ⟨⟨r, shs, sks⟩, by rw [e1, e2]; rfl, ?_⟩
  have a1 : shs.length * 40 ≤ reachBytes := by simpa using b1
  have a2 : sks.length * 16 ≤ reachBytes := by simpa using b2
  unfold reachBytes at a1 a2
  exact ⟨by simp only; omega, by simp only; omega, by simp only; omega, by simp only; omega, fun x hx => by have := gs x hx; omega⟩
end Go.Proofs.YtlfclainmbafiaaDoor

/- Joins the row's list with the second batch of law8's contracts. -/
