import Derived.Test.YtlfclainmbafiaaDoorM1
import Derived.Lib.ItoaMem
/- The makers: points. -/
namespace Go.Proofs.YtlfclainmbafiaaDoor
open Eng
set_option maxRecDepth 10000
attribute [local irreducible] FnOk loopW idxF retX arrF

def mkPt (l : List Int) (b : Vec) (q : Nat) : Vec := ⟨b.x + (nxt l q 7 - 3) * 32768, b.y + (nxt l (q + 1) 5 - 2) * 32768, b.z + (nxt l (q + 2) 5 - 2) * 32768⟩
def ptsTo (l : List Int) (b : Vec) (p k : Nat) : List Vec := b :: (List.range k).map fun i => mkPt l b (p + 1 + 3 * i)
def nPts (l : List Int) (p : Nat) : Nat := (nxt l p 4).toNat
def mkPts (l : List Int) (b : Vec) (p : Nat) : List Vec := ptsTo l b p (nPts l p)
def mkPtsAt (l : List Int) (p : Nat) : Nat := p + 1 + 3 * nPts l p
theorem ptsTo_succ (l : List Int) (b : Vec) (p k : Nat) : ptsTo l b p (k + 1) = ptsTo l b p k ++ [mkPt l b (p + 1 + 3 * k)] := by
  simp [ptsTo, List.range_succ]
def near (b : Vec) : Prop := (-1099511627776 ≤ b.x ∧ b.x ≤ 1099511627776) ∧ (-1099511627776 ≤ b.y ∧ b.y ≤ 1099511627776) ∧ (-1099511627776 ≤ b.z ∧ b.z ≤ 1099511627776)
theorem w_co {a c : Int} (h1 : -1099511627776 ≤ a) (h2 : a ≤ 1099511627776) (h3 : -10000 ≤ c) (h4 : c ≤ 10000) : IntKind.i64.wrap (a + IntKind.i64.wrap (c * 32768)) = a + c * 32768 := by
  rw [w64 (x := c * 32768) (by omega) (by omega), w64] <;> omega
theorem mk_points (l : List Int) (p : Nat) (b : Vec) (hl : l.length ≤ 4611686018427387904) (hb : near b) : FnOk Tryd.prog F.mk_points [.one (.vptr 0 0), Ve b] [(0, SrcJ l p)] 1 (.one (.dv (dVs (mkPts l b p)))) [(0, SrcJ l (mkPtsAt l p))] 1 := by
  refine fnOk tab mix G.mk_points rfl rfl (by kernel_rfl) rfl rfl ?_
  obtain ⟨⟨b1, b2⟩, ⟨b3, b4⟩, b5, b6⟩ := hb
  have n0 := nxt_bd (l := l) (j := p) (m := 4) (by omega)
  obtain ⟨n, hn⟩ : ∃ n : Nat, nxt l p 4 = n := ⟨(nxt l p 4).toNat, by omega⟩
  have hn2 : nPts l p = n := by simp [nPts, hn]
  rw [mkPts, mkPtsAt, hn2]
  (conv => whnf)
  refine call_i (mk_Next l p 4 (by omega) (by omega) hl) ?_
  (conv => whnf)
  rw [hn]
  refine loop_intro (fun k : Nat => ⟨[(0, .one (.vptr 0 0)), (3, .one (.vptr 1 0)), (5, .one (.row 2)), (6, I ((n : Int) - k))], [(0, SrcJ l (p + 1 + 3 * k)), (1, .vars Y.Vec [.dv (.int .i64 b.x), .dv (.int .i64 b.y), .dv (.int .i64 b.z)]), (2, .rows Y.Vec 3 ((ptsTo l b p k).map encV))], 3⟩) (fun k => k ≤ n) (fun k => n - k) [] 0 [] (Nat.zero_le _) ⟨⟨rfl, rfl, rfl, eqI (by simp), trivial⟩, ⟨rfl, rfl, rfl, trivial⟩⟩ ?_
  rintro k hk
  (conv => whnf)
  refine ask_m (fun h => ?_) (fun h => ?_)
  · have hlt : k < n := by have := of_decide_eq_true h; omega
    (conv => whnf)
    refine ⟨⟨by omega, by omega⟩, ?_⟩
    (conv => whnf)
    refine call_i (mk_Signed l (p + 1 + 3 * k) 3 7 (by omega) (by omega) (by omega) hl) ?_
    (conv => whnf)
    refine ⟨⟨by omega, by omega⟩, ?_⟩
    (conv => whnf)
    refine call_i (mk_Signed l (p + 1 + 3 * k + 1) 2 5 (by omega) (by omega) (by omega) hl) ?_
    (conv => whnf)
    refine ⟨⟨by omega, by omega⟩, ?_⟩
    (conv => whnf)
    refine call_i (mk_Signed l (p + 1 + 3 * k + 2) 2 5 (by omega) (by omega) (by omega) hl) ?_
    (conv => whnf)
    have hlen : (ptsTo l b p k).length = k + 1 := by simp [ptsTo]
    refine ⟨⟨by simp; omega, by simp; omega⟩, ?_⟩
    (conv => whnf)
    have s0 := nxt_bd (l := l) (j := p + 1 + 3 * k) (m := 7) (by omega)
    have s1 := nxt_bd (l := l) (j := p + 1 + 3 * k + 1) (m := 5) (by omega)
    have s2 := nxt_bd (l := l) (j := p + 1 + 3 * k + 2) (m := 5) (by omega)
    refine ⟨k + 1, [(2, 4)], hlt, by omega, ⟨⟨rfl, rfl, rfl, eqI ?_, trivial⟩, ⟨?_, rfl, ?_, trivial⟩⟩⟩
    · rw [w64] <;> omega
    · rw [show p + 1 + 3 * (k + 1) = p + 1 + 3 * k + 3 by omega]; rfl
    · rw [ptsTo_succ]
      rw [w_co b1 b2 (by omega) (by omega), w_co b3 b4 (by omega) (by omega), w_co b5 b6 (by omega) (by omega)]
      rw [List.map_append]
      rfl
  · have hk : k = n := by have := of_decide_eq_false h; omega
    subst hk
    (conv => whnf)
    refine retO [.frz 2] ?_
    (conv => whnf)
    exact ⟨[], ⟨rfl, trivial⟩, ⟨rfl, trivial⟩⟩
end Go.Proofs.YtlfclainmbafiaaDoor

/- The makers: robots. -/
namespace Go.Proofs.YtlfclainmbafiaaDoor
open Eng
set_option maxRecDepth 10000
attribute [local irreducible] FnOk loopW idxF retX arrF

def jPos (l : List Int) (p : Nat) : Nat → Nat
  | 0 => p
  | k + 1 => mkJointAt l (jPos l p k) k
def mkJoints (l : List Int) (p k : Nat) : List Joint := (List.range k).map fun i => mkJoint l (jPos l p i) i
theorem mkJoints_succ (l : List Int) (p k : Nat) : mkJoints l p (k + 1) = mkJoints l p k ++ [mkJoint l (jPos l p k) k] := by
  simp [mkJoints, List.range_succ]
def mkMass (l : List Int) (n : Nat) (q : Nat) : Mass := ⟨nxt l q n, 1 + nxt l (q + 1) 9000, ⟨(nxt l (q + 2) 7 - 3) * 32768, 0, (nxt l (q + 3) 5 - 2) * 32768⟩⟩
def mkMasses (l : List Int) (n q k : Nat) : List Mass := (List.range k).map fun i => mkMass l n (q + 1 + 4 * i)
theorem mkMasses_succ (l : List Int) (n q k : Nat) : mkMasses l n q (k + 1) = mkMasses l n q k ++ [mkMass l n (q + 1 + 4 * k)] := by
  simp [mkMasses, List.range_succ]
def nJ (l : List Int) (p : Nat) : Nat := 1 + (nxt l p 3).toNat
def qM (l : List Int) (p : Nat) : Nat := jPos l (p + 1) (nJ l p)
def nM (l : List Int) (p : Nat) : Nat := (nxt l (qM l p) 3).toNat
def mkRobot (l : List Int) (p : Nat) : Robot := ⟨mkJoints l (p + 1) (nJ l p), mkMasses l (nJ l p) (qM l p) (nM l p)⟩
def mkRobotAt (l : List Int) (p : Nat) : Nat := qM l p + 1 + 4 * nM l p
theorem mk_robot (l : List Int) (p : Nat) (hl : l.length ≤ 4611686018427387904) : FnOk Tryd.prog F.mk_robot [.one (.vptr 0 0)] [(0, SrcJ l p)] 1 (Ro (mkRobot l p)) [(0, SrcJ l (mkRobotAt l p))] 1 := by
  refine fnOk tab mix G.mk_robot rfl rfl (by kernel_rfl) rfl rfl ?_
  have n0 := nxt_bd (l := l) (j := p) (m := 3) (by omega)
  have hn : IntKind.i64.wrap (1 + nxt l p 3) = (nJ l p : Nat) := by
    rw [w64 (by omega) (by omega)]; unfold nJ; omega
  have hn2 : nJ l p ≤ 3 := by unfold nJ; omega
  have hn1 : 1 ≤ nJ l p := by unfold nJ; omega
  rw [mkRobotAt, mkRobot, nM, qM]
  (conv => whnf)
  refine call_i (mk_Next l p 3 (by omega) (by omega) hl) ?_
  (conv => whnf)
  rw [hn]
  generalize nJ l p = n at *
  refine loop_intro (fun k : Nat => ⟨[(0, .one (.vptr 0 0)), (2, .one (.vptr 1 0)), (3, .one (.vptr 2 0)), (4, I n), (5, I k)], [(0, SrcJ l (jPos l (p + 1) k)), (1, .vars Y.Robot [.nil 12, .nil 5]), (2, .vars Y.Robot [.row 3, .nil 5]), (3, .rows Y.Joint 12 ((mkJoints l (p + 1) k).map encJ))], 4⟩) (fun k => k ≤ n) (fun k => n - k) [.ownC 2 0 Y.Joint 12] 0 [] (Nat.zero_le _) ⟨⟨rfl, rfl, rfl, rfl, rfl, trivial⟩, ⟨rfl, rfl, rfl, rfl, trivial⟩⟩ ?_
  rintro k hk
  (conv => whnf)
  refine ask_m (fun h => ?_) (fun h => ?_)
  · have hlt : k < n := by have := of_decide_eq_true h; omega
    (conv => whnf)
    refine call_i (mk_joint l (jPos l (p + 1) k) k hl (by omega)) ?_
    (conv => whnf)
    have hlen : (mkJoints l (p + 1) k).length = k := by simp [mkJoints]
    have hkk : IntKind.i64.wrap ((k : Int) + 1) = ((k + 1 : Nat) : Int) := by rw [w64] <;> omega
    refine ⟨⟨by simp; omega, by simp; omega⟩, ?_⟩
    (conv => whnf)
    refine ⟨k + 1, [(3, 5)], hlt, by omega, ⟨⟨rfl, rfl, rfl, rfl, eqI hkk, trivial⟩, ⟨rfl, rfl, rfl, ?_, trivial⟩⟩⟩
    rw [mkJoints_succ, List.map_append]; rfl
  · have hk : k = n := by have := of_decide_eq_false h; omega
    subst hk
    (conv => whnf)
    refine call_i (mk_Next l (jPos l (p + 1) k) 3 (by omega) (by omega) hl) ?_
    (conv => whnf)
    generalize hq : jPos l (p + 1) k = q
    have c0 := nxt_bd (l := l) (j := q) (m := 3) (by omega)
    obtain ⟨c, hc⟩ : ∃ c : Nat, nxt l q 3 = c := ⟨(nxt l q 3).toNat, by omega⟩
    rw [hc, Int.toNat_natCast]
    refine loop_intro (fun i : Nat => ⟨[(0, .one (.vptr 0 0)), (2, .one (.vptr 1 0)), (3, .one (.vptr 2 0)), (4, I k), (6, I ((c : Int) - i))], [(0, SrcJ l (q + 1 + 4 * i)), (1, .vars Y.Robot [.nil 12, .nil 5]), (2, .vars Y.Robot [.row 3, .row 4]), (3, .rows Y.Joint 12 ((mkJoints l (p + 1) k).map encJ)), (4, .rows Y.Mass 5 ((mkMasses l k q i).map encM))], 5⟩) (fun i => i ≤ c) (fun i => c - i) [.ownC 2 1 Y.Mass 5] 0 [] (Nat.zero_le _) ⟨⟨rfl, rfl, rfl, rfl, eqI (by simp), trivial⟩, ⟨rfl, rfl, rfl, rfl, rfl, trivial⟩⟩ ?_
    rintro i hi
    (conv => whnf)
    refine ask_m (fun h => ?_) (fun h => ?_)
    · have hlt : i < c := by have := of_decide_eq_true h; omega
      (conv => whnf)
      refine call_i (mk_Next l (q + 1 + 4 * i) k (by omega) (by omega) hl) ?_
      (conv => whnf)
      refine call_i (mk_Next l (q + 1 + 4 * i + 1) 9000 (by omega) (by omega) hl) ?_
      (conv => whnf)
      refine call_i (mk_Signed l (q + 1 + 4 * i + 2) 3 7 (by omega) (by omega) (by omega) hl) ?_
      (conv => whnf)
      refine call_i (mk_Signed l (q + 1 + 4 * i + 3) 2 5 (by omega) (by omega) (by omega) hl) ?_
      (conv => whnf)
      have hlen : (mkMasses l k q i).length = i := by simp [mkMasses]
      refine ⟨⟨by simp; omega, by simp; omega⟩, ?_⟩
      (conv => whnf)
      have s1 := nxt_bd (l := l) (j := q + 1 + 4 * i + 1) (m := 9000) (by omega)
      have s2 := nxt_bd (l := l) (j := q + 1 + 4 * i + 2) (m := 7) (by omega)
      have s3 := nxt_bd (l := l) (j := q + 1 + 4 * i + 3) (m := 5) (by omega)
      refine ⟨i + 1, [(4, 6)], hlt, by omega, ⟨⟨rfl, rfl, rfl, rfl, eqI ?_, trivial⟩, ⟨?_, rfl, rfl, rfl, ?_, trivial⟩⟩⟩
      · rw [w64] <;> omega
      · rw [show q + 1 + 4 * (i + 1) = q + 1 + 4 * i + 4 by omega]; rfl
      · rw [mkMasses_succ, List.map_append, show IntKind.i64.wrap (1 + nxt l (q + 1 + 4 * i + 1) 9000) = 1 + nxt l (q + 1 + 4 * i + 1) 9000 by rw [w64] <;> omega, show IntKind.i64.wrap ((nxt l (q + 1 + 4 * i + 2) 7 - 3) * 32768) = (nxt l (q + 1 + 4 * i + 2) 7 - 3) * 32768 by rw [w64] <;> omega, show IntKind.i64.wrap ((nxt l (q + 1 + 4 * i + 3) 5 - 2) * 32768) = (nxt l (q + 1 + 4 * i + 3) 5 - 2) * 32768 by rw [w64] <;> omega]
        rfl
    · have hi : i = c := by have := of_decide_eq_false h; omega
      subst hi
      (conv => whnf)
      refine retO [.frz 3, .frz 4] ?_
      (conv => whnf)
      exact ⟨[], ⟨rfl, trivial⟩, ⟨rfl, trivial⟩⟩
end Go.Proofs.YtlfclainmbafiaaDoor

/- The makers: scenes. -/
namespace Go.Proofs.YtlfclainmbafiaaDoor
open Eng
set_option maxRecDepth 10000
attribute [local irreducible] FnOk loopW idxF retX arrF

def shPos (l : List Int) (q : Nat) : Nat → Nat
  | 0 => q
  | k + 1 => if nxt l (shPos l q k) 5 < 4 then mkPtsAt l (shPos l q k + 3) else shPos l q k + 1
def shOf (l : List Int) (q i : Nat) : List Shape := if nxt l q 5 < 4 then [⟨i, (1 + nxt l (q + 1) 3) * 8192, mkPts l ⟨nxt l (q + 2) 4 * 32768, 0, 0⟩ (q + 3)⟩] else []
def shLinks (l : List Int) (q k : Nat) : List Shape := (List.range k).flatMap fun i => shOf l (shPos l q i) i
theorem shLinks_succ (l : List Int) (q k : Nat) : shLinks l q (k + 1) = shLinks l q k ++ shOf l (shPos l q k) k := by
  simp [shLinks, List.range_succ]
theorem shLinks_len (l : List Int) (q k : Nat) : (shLinks l q k).length ≤ k := by
  induction k with
  | zero => simp [shLinks]
  | succ k ih =>
    rw [shLinks_succ, List.length_append]
    have : (shOf l (shPos l q k) k).length ≤ 1 := by unfold shOf; split <;> simp
    omega
def wPos (l : List Int) (q : Nat) : Nat → Nat
  | 0 => q
  | k + 1 => mkPtsAt l (wPos l q k + 4)
def shW (l : List Int) (q : Nat) : Shape := ⟨-1, (1 + nxt l (q + 3) 4) * 8192, mkPts l ⟨(nxt l q 19 - 9) * 32768, (nxt l (q + 1) 19 - 9) * 32768, (nxt l (q + 2) 5 - 2) * 32768⟩ (q + 4)⟩
def shWs (l : List Int) (q k : Nat) : List Shape := (List.range k).map fun i => shW l (wPos l q i)
theorem shWs_succ (l : List Int) (q k : Nat) : shWs l q (k + 1) = shWs l q k ++ [shW l (wPos l q k)] := by
  simp [shWs, List.range_succ]
def scQ1 (l : List Int) : Nat := shPos l (mkRobotAt l 0) (mkRobot l 0).joints.length
def scN (l : List Int) : Nat := 1 + (nxt l (scQ1 l) 3).toNat
def scQ2 (l : List Int) : Nat := wPos l (scQ1 l + 1) (scN l)
def mkSkips (l : List Int) (q n : Nat) : List Skip := if nxt l q 5 = 1 then [⟨-1, nxt l (q + 1) n⟩] else []
def mkScene (l : List Int) : Scene := ⟨mkRobot l 0, shLinks l (mkRobotAt l 0) (mkRobot l 0).joints.length ++ shWs l (scQ1 l + 1) (scN l), mkSkips l (scQ2 l) (mkRobot l 0).joints.length⟩
theorem w_rad {a : Int} (h0 : 0 ≤ a) (h1 : a < 4) : IntKind.i64.wrap ((IntKind.i64.wrap (IntKind.i64.wrap (1 + a) * 65536)).tdiv 8) = (1 + a) * 8192 := by
  rw [w64 (x := 1 + a) (by omega) (by omega), w64 (x := (1 + a) * 65536) (by omega) (by omega), show (1 + a) * 65536 = ((1 + a) * 8192) * 8 by omega, Int.mul_tdiv_cancel _ (by decide), w64] <;> omega
theorem near_mk {x y z : Int} (hx : -1099511627776 ≤ x ∧ x ≤ 1099511627776) (hy : -1099511627776 ≤ y ∧ y ≤ 1099511627776) (hz : -1099511627776 ≤ z ∧ z ≤ 1099511627776) : near ⟨x, y, z⟩ := ⟨hx, hy, hz⟩
theorem joints_len (l : List Int) (p : Nat) : 1 ≤ (mkRobot l p).joints.length ∧ (mkRobot l p).joints.length ≤ 3 := by
  have := nxt_bd (l := l) (j := p) (m := 3) (by omega)
  simp [mkRobot, mkJoints, nJ]; omega
theorem mk_Scene (l : List Int) (hl : l.length ≤ 4611686018427387904) : FnOk Tryd.prog F.mk_Scene [Li l] [] 0 (Sc (mkScene l)) [] 0 := by
  refine fnOk tab mix G.mk_Scene rfl rfl (by kernel_rfl) rfl rfl ?_
  have hn := joints_len l 0
  have hS : mkScene l = ⟨mkRobot l 0, shLinks l (mkRobotAt l 0) (mkRobot l 0).joints.length ++ shWs l (scQ1 l + 1) (scN l), mkSkips l (scQ2 l) (mkRobot l 0).joints.length⟩ := rfl
  rw [hS, scQ2, scN, scQ1]
  (conv => whnf)
  refine call_i (mk_From l) ?_
  (conv => whnf)
  refine call_i (mk_robot l 0 hl) ?_
  (conv => whnf)
  generalize mkRobot l 0 = r at *
  generalize mkRobotAt l 0 = q0
  refine loop_intro (fun k : Nat => ⟨[(2, .one (.vptr 0 0)), (3, .one (.vptr 1 0)), (4, .one (.vptr 2 0)), (5, I k)], [(0, .vars Y.Scene [.nil 12, .nil 5, .nil 3, .nil 2]), (1, SrcJ l (shPos l q0 k)), (2, .vars Y.Scene [.dv (dJs r.joints), .dv (dMs r.masses), .row 3, .nil 2]), (3, .rows Y.Shape 3 ((shLinks l q0 k).map encSh))], 4⟩) (fun k => k ≤ r.joints.length) (fun k => r.joints.length - k) [.ownC 2 2 Y.Shape 3] 0 [] (Nat.zero_le _) ⟨⟨rfl, rfl, rfl, rfl, trivial⟩, ⟨rfl, rfl, rfl, rfl, trivial⟩⟩ ?_
  rintro k hk
  (conv => whnf)
  refine ask_m (fun h => ?_) (fun h => ?_)
  · have hlt : k < r.joints.length := by simpa using h
    have hkk : IntKind.i64.wrap ((k : Int) + 1) = ((k + 1 : Nat) : Int) := by rw [w64] <;> omega
    have hll := shLinks_len l q0 k
    have hsucc := shLinks_succ l q0 k
    have hpos : shPos l q0 (k + 1) = if nxt l (shPos l q0 k) 5 < 4 then mkPtsAt l (shPos l q0 k + 3) else shPos l q0 k + 1 := rfl
    generalize shPos l q0 k = q at *
    (conv => whnf)
    refine call_i (mk_Next l q 5 (by omega) (by omega) hl) ?_
    (conv => whnf)
    refine ask_m (fun h => ?_) (fun h => ?_)
    · have h := of_decide_eq_true h
      rw [if_pos h] at hpos
      rw [shOf, if_pos h] at hsucc
      have s1 := nxt_bd (l := l) (j := q + 1) (m := 3) (by omega)
      have s2 := nxt_bd (l := l) (j := q + 2) (m := 4) (by omega)
      (conv => whnf)
      refine call_i (mk_Next l (q + 1) 3 (by omega) (by omega) hl) ?_
      (conv => whnf)
      refine ⟨by omega, ?_⟩
      (conv => whnf)
      refine call_i (mk_Next l (q + 2) 4 (by omega) (by omega) hl) ?_
      (conv => whnf)
      rw [w64 (x := nxt l (q + 2) 4 * 32768) (by omega) (by omega), w_rad s1.1 (by omega)]
      refine call_i (mk_points l (q + 3) ⟨nxt l (q + 2) 4 * 32768, 0, 0⟩ hl (near_mk (by omega) (by omega) (by omega))) ?_
      (conv => whnf)
      refine ⟨⟨by simp; omega, by simp; omega⟩, ?_⟩
      (conv => whnf)
      refine ⟨k + 1, [(3, 5)], hlt, by omega, ⟨⟨rfl, rfl, rfl, eqI hkk, trivial⟩, ⟨rfl, ?_, rfl, ?_, trivial⟩⟩⟩
      · rw [hpos]; rfl
      · rw [hsucc, List.map_append]; rfl
    · have h := of_decide_eq_false h
      rw [if_neg h] at hpos
      rw [shOf, if_neg h, List.append_nil] at hsucc
      (conv => whnf)
      refine ⟨k + 1, [], hlt, by omega, ⟨⟨rfl, rfl, rfl, eqI hkk, trivial⟩, ⟨rfl, ?_, rfl, ?_, trivial⟩⟩⟩
      · rw [hpos]; rfl
      · rw [hsucc]; rfl
  · have hk : k = r.joints.length := by simp at h; omega
    subst hk
    generalize hq1 : shPos l q0 r.joints.length = q1
    have hll := shLinks_len l q0 r.joints.length
    generalize shLinks l q0 r.joints.length = ls at *
    have c0 := nxt_bd (l := l) (j := q1) (m := 3) (by omega)
    obtain ⟨c, hc⟩ : ∃ c : Nat, 1 + (nxt l q1 3).toNat = c := ⟨_, rfl⟩
    have hc1 : IntKind.i64.wrap (1 + nxt l q1 3) = (c : Int) := by rw [w64] <;> omega
    rw [hc]
    (conv => whnf)
    refine call_i (mk_Next l q1 3 (by omega) (by omega) hl) ?_
    (conv => whnf)
    rw [hc1]
    refine loop_intro (fun k : Nat => ⟨[(2, .one (.vptr 0 0)), (3, .one (.vptr 1 0)), (4, .one (.vptr 2 0)), (6, I ((c : Int) - k))], [(0, .vars Y.Scene [.nil 12, .nil 5, .nil 3, .nil 2]), (1, SrcJ l (wPos l (q1 + 1) k)), (2, .vars Y.Scene [.dv (dJs r.joints), .dv (dMs r.masses), .row 3, .nil 2]), (3, .rows Y.Shape 3 ((ls ++ shWs l (q1 + 1) k).map encSh))], 4⟩) (fun k => k ≤ c) (fun k => c - k) [] 0 [] (Nat.zero_le _) ⟨⟨rfl, rfl, rfl, eqI (by simp), trivial⟩, ⟨rfl, rfl, rfl, ?_, trivial⟩⟩ ?_
    · simp [shWs]; rfl
    rintro k hk
    (conv => whnf)
    refine ask_m (fun h => ?_) (fun h => ?_)
    · have hlt : k < c := by have := of_decide_eq_true h; omega
      have hlen : (shWs l (q1 + 1) k).length = k := by simp [shWs]
      have hsucc := shWs_succ l (q1 + 1) k
      have hpos : wPos l (q1 + 1) (k + 1) = mkPtsAt l (wPos l (q1 + 1) k + 4) := rfl
      generalize wPos l (q1 + 1) k = q at *
      have s0 := nxt_bd (l := l) (j := q) (m := 19) (by omega)
      have s1 := nxt_bd (l := l) (j := q + 1) (m := 19) (by omega)
      have s2 := nxt_bd (l := l) (j := q + 2) (m := 5) (by omega)
      have s3 := nxt_bd (l := l) (j := q + 3) (m := 4) (by omega)
      (conv => whnf)
      refine call_i (mk_Signed l q 9 19 (by omega) (by omega) (by omega) hl) ?_
      (conv => whnf)
      refine call_i (mk_Signed l (q + 1) 9 19 (by omega) (by omega) (by omega) hl) ?_
      (conv => whnf)
      refine call_i (mk_Signed l (q + 2) 2 5 (by omega) (by omega) (by omega) hl) ?_
      (conv => whnf)
      refine call_i (mk_Next l (q + 3) 4 (by omega) (by omega) hl) ?_
      (conv => whnf)
      refine ⟨by omega, ?_⟩
      (conv => whnf)
      rw [w64 (x := (nxt l q 19 - 9) * 32768) (by omega) (by omega), w64 (x := (nxt l (q + 1) 19 - 9) * 32768) (by omega) (by omega), w64 (x := (nxt l (q + 2) 5 - 2) * 32768) (by omega) (by omega), w_rad s3.1 s3.2]
      refine call_i (mk_points l (q + 4) ⟨(nxt l q 19 - 9) * 32768, (nxt l (q + 1) 19 - 9) * 32768, (nxt l (q + 2) 5 - 2) * 32768⟩ hl (near_mk (by omega) (by omega) (by omega))) ?_
      (conv => whnf)
      refine ⟨⟨by simp; omega, by simp; omega⟩, ?_⟩
      (conv => whnf)
      refine ⟨k + 1, [(3, 6)], hlt, by omega, ⟨⟨rfl, rfl, rfl, eqI ?_, trivial⟩, ⟨rfl, ?_, rfl, ?_, trivial⟩⟩⟩
      · rw [w64] <;> omega
      · rw [hpos]; rfl
      · show Box.rows Y.Shape 3 _ = Box.rows Y.Shape 3 _
        refine congrArg _ ?_
        rw [hsucc, show ls ++ (shWs l (q1 + 1) k ++ [shW l q]) = (ls ++ shWs l (q1 + 1) k) ++ [shW l q] by rw [List.append_assoc], List.map_append (l₁ := ls ++ shWs l (q1 + 1) k)]; rfl
    · have hk : k = c := by have := of_decide_eq_false h; omega
      subst hk
      generalize wPos l (q1 + 1) k = q at *
      (conv => whnf)
      refine call_i (mk_Next l q 5 (by omega) (by omega) hl) ?_
      (conv => whnf)
      refine ask_m (fun h => ?_) (fun h => ?_)
      · have h : nxt l q 5 = 1 := by simpa using h
        rw [mkSkips, if_pos h]
        (conv => whnf)
        rw [List.length_map]
        refine call_i (mk_Next l (q + 1) r.joints.length (by omega) (by omega) hl) ?_
        (conv => whnf)
        refine ⟨⟨by simp, by simp⟩, ?_⟩
        (conv => whnf)
        refine retO [.frz 3, .frz 5] ?_
        (conv => whnf)
        exact ⟨[], ⟨rfl, trivial⟩, trivial⟩
      · have h : ¬ nxt l q 5 = 1 := by simpa using h
        rw [mkSkips, if_neg h]
        (conv => whnf)
        refine retO [.frz 3, .ownC 0 3 Y.Skip 2, .frz 4] ?_
        (conv => whnf)
        exact ⟨[], ⟨rfl, trivial⟩, trivial⟩
end Go.Proofs.YtlfclainmbafiaaDoor

/- What the makers make is valid. No program in sight. -/
namespace Go.Proofs.YtlfclainmbafiaaDoor
open Eng
set_option maxRecDepth 10000

/-- what is asked of a joint but for its name -/
theorem inV_mk {x y z m : Int} (h1 : -m ≤ x ∧ x ≤ m) (h2 : -m ≤ y ∧ y ≤ m) (h3 : -m ≤ z ∧ z ≤ m) : inV ⟨x, y, z⟩ m = true := by
  simp [inV]; omega
theorem letter_name : ∀ k, k < 10 → nameOk (letter k) = true := by decide
theorem letter_ne : ∀ k, k < 10 → ∀ j, j < 10 → letter k = letter j → k = j := by decide
theorem kindOf_mem {n : Int} (h0 : 0 ≤ n) (h8 : n < 8) : kindOf n = 3 ∨ kindOf n = 1 ∨ kindOf n = 2 ∨ kindOf n = 4 ∨ kindOf n = 5 ∨ kindOf n = 0 := by
  obtain ⟨k, rfl⟩ : ∃ k : Nat, n = k := ⟨n.toNat, by omega⟩
  rw [kindOf, Int.toNat_natCast]
  match k, h8 with
  | 0, _ | 1, _ | 2, _ | 3, _ | 4, _ | 5, _ | 6, _ | 7, _ => decide
  | k + 8, h => omega
theorem mkJoint_body (l : List Int) (p i : Nat) : bodyOk i (mkJoint l p i) := by
  have hk := kindOf_mem (nxt_bd (l := l) (j := p + 2) (m := 8) (by omega)).1 (nxt_bd (l := l) (j := p + 2) (m := 8) (by omega)).2
  refine ⟨?_, ?_, ?_, ?_, ?_⟩
  · show 0 ≤ kindOf _ ∧ kindOf _ ≤ 6
    omega
  · show -1 ≤ jParent l p i ∧ jParent l p i < (i : Int)
    unfold jParent; split <;> omega
  · show inV (jOff l p i) _ = true
    have h1 := nxt_bd (l := l) (j := p + 4) (m := 5) (by omega)
    have h2 := nxt_bd (l := l) (j := p + 5) (m := 3) (by omega)
    unfold jOff; split
    · exact inV_mk (by omega) (by omega) (by omega)
    · rfl
  · show (jSpan l (jAt p i) (jKind l p)).1 ≤ (jSpan l (jAt p i) (jKind l p)).2.1 ∧ - reach (jKind l p) ≤ (jSpan l (jAt p i) (jKind l p)).1 ∧ (jSpan l (jAt p i) (jKind l p)).2.1 ≤ reach (jKind l p)
    generalize jAt p i = q
    have h1 := nxt_bd (l := l) (j := q) (m := 3) (by omega)
    have h2 := nxt_bd (l := l) (j := q + 1) (m := 4) (by omega)
    have h3 := nxt_bd (l := l) (j := q) (m := 5) (by omega)
    have h4 := nxt_bd (l := l) (j := q + 2) (m := 3) (by omega)
    have hk' : jKind l p = 3 ∨ jKind l p = 1 ∨ jKind l p = 2 ∨ jKind l p = 4 ∨ jKind l p = 5 ∨ jKind l p = 0 := hk
    rcases hk' with e | e | e | e | e | e <;> rw [e] <;> simp [jSpan, reach] <;> omega
  · show (from1 (1 + nxt l p 4) 1024 && from1 65536 1048576 && from1 (65536 + nxt l (p + 1) 3) 1048576 && from1 327680 1099511627776) = true
    have h1 := nxt_bd (l := l) (j := p) (m := 4) (by omega)
    have h2 := nxt_bd (l := l) (j := p + 1) (m := 3) (by omega)
    simp [from1]; omega
theorem mkJoints_at {l : List Int} {p n k : Nat} {j : Joint} (h : (mkJoints l p n)[k]? = some j) : k < n ∧ j = mkJoint l (jPos l p k) k := by
  unfold mkJoints at h
  rw [List.getElem?_map] at h
  simp only [Option.map_eq_some_iff] at h
  obtain ⟨i, hi, rfl⟩ := h
  obtain ⟨h1, h2⟩ := List.getElem?_eq_some_iff.1 hi
  simp at h1 h2
  subst h2
  exact ⟨h1, rfl⟩
theorem mkJoints_ok (l : List Int) (p n : Nat) (hn : n ≤ 10) : jointsErr (mkJoints l p n) 0 (mkJoints l p n) = 0 := by
  refine jointsErr_zero fun k j hj => ?_
  obtain ⟨h1, h2⟩ := mkJoints_at hj
  rw [Nat.zero_add]
  refine jointErr_zero ?_ ?_ ?_
  · rw [h2]; exact letter_name k (by omega)
  · have := find_at (k := 0) hj fun i' j' hi hj' e => by
      obtain ⟨h3, h4⟩ := mkJoints_at hj'
      rw [h2, h4] at e
      have := letter_ne i' (by omega) k (by omega) e
      omega
    rw [this]; simp
  · rw [h2]; exact mkJoint_body l _ k
theorem linkOk_mk {n : Nat} {k : Int} (h1 : -1 ≤ k) (h2 : k < (n : Int)) : linkOk n k = true := by simp [linkOk]; omega
theorem massOk_mk {n : Nat} {a b : Int} {v : Vec} (h1 : 0 ≤ a) (h2 : a < (n : Int)) (h3 : 1 ≤ b) (h4 : b ≤ 65536) (h5 : inV v 4194304 = true) : massOk n ⟨a, b, v⟩ = true := by simp [massOk, from1, h5]; omega
theorem mkMass_ok (l : List Int) (n q : Nat) (hn : 0 < n) : massOk n (mkMass l n q) = true := by
  have h1 := nxt_bd (l := l) (j := q) (m := n) (by omega)
  have h2 := nxt_bd (l := l) (j := q + 1) (m := 9000) (by omega)
  have h3 := nxt_bd (l := l) (j := q + 2) (m := 7) (by omega)
  have h4 := nxt_bd (l := l) (j := q + 3) (m := 5) (by omega)
  have h5 : inV ⟨(nxt l (q + 2) 7 - 3) * 32768, 0, (nxt l (q + 3) 5 - 2) * 32768⟩ 4194304 = true := inV_mk (by omega) (by omega) (by omega)
  exact massOk_mk h1.1 h1.2 (by omega) (by omega) h5
theorem robot_valid {r : Robot} (h1 : 1 ≤ r.joints.length) (h2 : r.joints.length ≤ 10) (h3 : jointsErr r.joints 0 r.joints = 0) (h4 : r.masses.length ≤ 32) (h5 : r.masses.all (massOk r.joints.length) = true) : checkRobot r = 0 := by
  unfold checkRobot
  rw [if_neg (by omega), if_neg (by rw [h3]; simp), if_neg (by rw [h5]; simp; omega)]
theorem nJ_bd (l : List Int) (p : Nat) : 1 ≤ nJ l p ∧ nJ l p ≤ 3 := by
  have := nxt_bd (l := l) (j := p) (m := 3) (by omega)
  unfold nJ; omega
theorem mkJoints_len (l : List Int) (p n : Nat) : (mkJoints l p n).length = n := by simp [mkJoints]
theorem mkRobot_ok (l : List Int) (p : Nat) : checkRobot (mkRobot l p) = 0 := by
  have hn := nJ_bd l p
  have hl : (mkRobot l p).joints.length = nJ l p := mkJoints_len l (p + 1) (nJ l p)
  have hm := nxt_bd (l := l) (j := qM l p) (m := 3) (by omega)
  refine robot_valid (by omega) (by omega) (mkJoints_ok l (p + 1) (nJ l p) (by omega)) ?_ ?_
  · simp [mkRobot, mkMasses, nM]; omega
  · rw [hl, List.all_eq_true]
    intro m hmm
    simp only [mkRobot, mkMasses, List.mem_map] at hmm
    obtain ⟨i, _, rfl⟩ := hmm
    exact mkMass_ok l (nJ l p) _ (by omega)
theorem shapesErr_zero {n : Nat} : ∀ {l : List Shape}, (∀ x ∈ l, shapeErr n x = 0) → shapesErr n l = 0
  | [], _ => rfl
  | x :: l, h => by rw [shapesErr, if_pos (h x (by simp))]; exact shapesErr_zero fun y hy => h y (by simp [hy])
theorem shapeErr_zero {n : Nat} {x : Shape} (h1 : linkOk n x.link = true) (h2 : 1 ≤ x.radius ∧ x.radius ≤ 1048576) (h3 : 1 ≤ x.points.length ∧ x.points.length ≤ 8) (h4 : x.points.all (inV · 4194304) = true) : shapeErr n x = 0 := by
  unfold shapeErr
  rw [if_neg (by rw [h1]; rintro (h | h | h | h | h) <;> first | contradiction | omega), if_neg (by rw [h4]; simp)]
theorem mkPts_len (l : List Int) (b : Vec) (p : Nat) : 1 ≤ (mkPts l b p).length ∧ (mkPts l b p).length ≤ 4 := by
  have := nxt_bd (l := l) (j := p) (m := 4) (by omega)
  simp [mkPts, ptsTo, nPts]; omega
theorem mkPts_in (l : List Int) (b : Vec) (p : Nat) (hx : -1048576 ≤ b.x ∧ b.x ≤ 1048576) (hy : -1048576 ≤ b.y ∧ b.y ≤ 1048576) (hz : -1048576 ≤ b.z ∧ b.z ≤ 1048576) : (mkPts l b p).all (inV · 4194304) = true := by
  rw [List.all_eq_true]
  intro v hv
  simp only [mkPts, ptsTo, List.mem_cons, List.mem_map] at hv
  rcases hv with rfl | ⟨i, _, rfl⟩
  · obtain ⟨x, y, z⟩ := v
    simp only at hx hy hz
    exact inV_mk (by omega) (by omega) (by omega)
  · have h1 := nxt_bd (l := l) (j := p + 1 + 3 * i) (m := 7) (by omega)
    have h2 := nxt_bd (l := l) (j := p + 1 + 3 * i + 1) (m := 5) (by omega)
    have h3 := nxt_bd (l := l) (j := p + 1 + 3 * i + 2) (m := 5) (by omega)
    exact inV_mk (by omega) (by omega) (by omega)
theorem shOf_ok {l : List Int} {q i n : Nat} (hi : i < n) {x : Shape} (h : x ∈ shOf l q i) : shapeErr n x = 0 := by
  unfold shOf at h
  split at h
  · simp only [List.mem_singleton] at h
    subst h
    have h1 := nxt_bd (l := l) (j := q + 1) (m := 3) (by omega)
    have h2 := nxt_bd (l := l) (j := q + 2) (m := 4) (by omega)
    have h3 := mkPts_len l ⟨nxt l (q + 2) 4 * 32768, 0, 0⟩ (q + 3)
    refine shapeErr_zero ?_ ⟨?_, ?_⟩ ⟨h3.1, Nat.le_trans h3.2 (by decide)⟩ (mkPts_in l _ _ ⟨?_, ?_⟩ ⟨?_, ?_⟩ ⟨?_, ?_⟩)
    · simp [linkOk]; omega
    all_goals (simp only; omega)
  · simp at h
theorem shW_ok (l : List Int) (q n : Nat) : shapeErr n (shW l q) = 0 := by
  have h0 := nxt_bd (l := l) (j := q) (m := 19) (by omega)
  have h1 := nxt_bd (l := l) (j := q + 1) (m := 19) (by omega)
  have h2 := nxt_bd (l := l) (j := q + 2) (m := 5) (by omega)
  have h3 := nxt_bd (l := l) (j := q + 3) (m := 4) (by omega)
  have h4 := mkPts_len l ⟨(nxt l q 19 - 9) * 32768, (nxt l (q + 1) 19 - 9) * 32768, (nxt l (q + 2) 5 - 2) * 32768⟩ (q + 4)
  refine shapeErr_zero ?_ ⟨?_, ?_⟩ ⟨h4.1, Nat.le_trans h4.2 (by decide)⟩ (mkPts_in l _ _ ⟨?_, ?_⟩ ⟨?_, ?_⟩ ⟨?_, ?_⟩)
  · exact linkOk_mk (k := -1) (by omega) (by omega)
  all_goals (simp only [shW]; omega)
theorem scene_valid {s : Scene} (h1 : checkRobot s.robot = 0) (h2 : s.shapes.length ≤ 24) (h3 : ∀ x ∈ s.shapes, shapeErr s.robot.joints.length x = 0) (h4 : s.skips.length ≤ 64) (h5 : (s.skips.all fun k => linkOk s.robot.joints.length k.a && linkOk s.robot.joints.length k.b) = true) : checkScene s = 0 := by
  unfold checkScene
  rw [if_neg (by rw [h1]; simp), if_neg (by omega), if_neg (by rw [shapesErr_zero h3]; simp), if_neg (by omega), if_neg (by rw [h5]; simp)]
theorem mkScene_len (l : List Int) : (mkScene l).shapes.length ≤ 6 ∧ (mkScene l).skips.length ≤ 1 ∧ (mkScene l).robot.masses.length ≤ 2 := by
  have hn := joints_len l 0
  have h1 := shLinks_len l (mkRobotAt l 0) (mkRobot l 0).joints.length
  have h2 := nxt_bd (l := l) (j := scQ1 l) (m := 3) (by omega)
  have h3 := nxt_bd (l := l) (j := qM l 0) (m := 3) (by omega)
  refine ⟨?_, ?_, ?_⟩
  · simp only [mkScene, List.length_append, shWs, List.length_map, List.length_range, scN]; omega
  · simp only [mkScene, mkSkips]; split <;> simp
  · simp [mkScene, mkRobot, mkMasses, nM]; omega
theorem mkScene_ok (l : List Int) : checkScene (mkScene l) = 0 := by
  have hn := joints_len l 0
  obtain ⟨k1, k2, _⟩ := mkScene_len l
  refine scene_valid (mkRobot_ok l 0) (by omega) (fun x hx => ?_) (by omega) ?_
  · simp only [mkScene, List.mem_append, shLinks, List.mem_flatMap, List.mem_range, shWs, List.mem_map] at hx
    rcases hx with ⟨i, hi, hx⟩ | ⟨i, _, rfl⟩
    · exact shOf_ok hi hx
    · exact shW_ok l _ _
  · rw [List.all_eq_true]
    intro k hk
    simp only [mkScene, mkSkips] at hk
    split at hk
    · simp only [List.mem_singleton] at hk
      subst hk
      have := nxt_bd (l := l) (j := scQ2 l + 1) (m := ((mkRobot l 0).joints.length : Int)) (by omega)
      rw [Bool.and_eq_true]
      exact ⟨linkOk_mk (k := -1) (by omega) (by omega), linkOk_mk (k := nxt l (scQ2 l + 1) ((mkRobot l 0).joints.length : Int)) (by omega) this.2⟩
    · simp at hk
theorem mkScene_small (l : List Int) : small (mkScene l) := by
  have hn := joints_len l 0
  obtain ⟨k1, k2, k3⟩ := mkScene_len l
  refine ⟨by show (mkRobot l 0).joints.length ≤ _; omega, by omega, by omega, by omega, fun x hx => ?_⟩
  simp only [mkScene, List.mem_append, shLinks, List.mem_flatMap, List.mem_range, shWs, List.mem_map] at hx
  rcases hx with ⟨i, hi, hx⟩ | ⟨i, _, rfl⟩
  · unfold shOf at hx
    split at hx
    · simp only [List.mem_singleton] at hx
      subst hx
      have := mkPts_len l ⟨nxt l (shPos l (mkRobotAt l 0) i + 2) 4 * 32768, 0, 0⟩ (shPos l (mkRobotAt l 0) i + 3)
      simp only; omega
    · simp at hx
  · unfold shW
    simp only
    generalize wPos l (scQ1 l + 1) i = q
    have := mkPts_len l ⟨(nxt l q 19 - 9) * 32768, (nxt l (q + 1) 19 - 9) * 32768, (nxt l (q + 2) 5 - 2) * 32768⟩ (q + 4)
    omega
end Go.Proofs.YtlfclainmbafiaaDoor

/- law8: Chain, awake, RobotChainSteps. -/
namespace Go.Proofs.YtlfclainmbafiaaDoor
open Eng
set_option maxRecDepth 10000
attribute [local irreducible] FnOk loopW idxF retX arrF findF

def chainOf (r : Robot) (k : Int) : List Int := if hasB r [k] then chain r.joints k else []
theorem has_good {r : Robot} {ks : List Int} (h : hasB r ks = true) : checkRobot r = 0 ∧ ∀ k ∈ ks, -1 ≤ k ∧ k < r.joints.length := by
  simp only [hasB, Bool.and_eq_true, List.all_eq_true, decide_eq_true_eq] at h
  exact ⟨h.2, fun k hk => link_bd (h.1 k hk)⟩
theorem robot_Chain (r : Robot) (k : Int) (hj : r.joints.length ≤ 4611686018427387904) (hm : r.masses.length ≤ 4611686018427387904) : FnOk Tryd.prog F.robot_Chain [Ro r, I k] [] 0 (.one (.row 0)) [(0, bIs (chainOf r k))] 1 := by
  refine fnOk tab mix G.robot_Chain rfl rfl (by kernel_rfl) rfl rfl ?_
  (conv => whnf)
  refine call_i (robot_has r [k] hj hm (by simp)) ?_
  (conv => whnf)
  refine ⟨⟨trivial, trivial⟩, ?_⟩
  (conv => whnf)
  cases hh : hasB r [k] with
  | false =>
    (conv => whnf)
    rw [chainOf, hh]
    (conv => whnf)
    refine retO [.own 4 Y.int 1] ?_
    (conv => whnf)
    exact ⟨[(0, 2)], ⟨rfl, trivial⟩, ⟨rfl, trivial⟩⟩
  | true =>
    obtain ⟨h1, h2⟩ := has_good hh
    obtain ⟨g1, g2, g3⟩ := robot_good h1
    have h3 := h2 k (by simp)
    rw [chainOf, hh]
    (conv => whnf)
    refine call_i (robot_chain r k g1 g3 h3.1 h3.2) ?_
    (conv => whnf)
    (conv => whnf)
    refine retO [] ?_
    (conv => whnf)
    exact ⟨[(0, 2)], ⟨rfl, trivial⟩, ⟨rfl, trivial⟩⟩
theorem mk_Robot (l : List Int) (hl : l.length ≤ 4611686018427387904) : FnOk Tryd.prog F.mk_Robot [Li l] [] 0 (Ro (mkRobot l 0)) [] 0 := by
  refine fnOk tab mix G.mk_Robot rfl rfl (by kernel_rfl) rfl rfl ?_
  (conv => whnf)
  refine call_i (mk_From l) ?_
  (conv => whnf)
  refine call_i (mk_robot l 0 hl) ?_
  (conv => whnf)
  (conv => whnf)
  refine ret0 ?_
  exact ⟨[], ⟨rfl, trivial⟩, trivial⟩
def baseT : ByteArray := ⟨#[98, 97, 115, 101]⟩
def one8 : Robot := ⟨[⟨baseT, 3, -1, ⟨0, 0, 0⟩, -16384, 16384, 1, 65536, 65536, 65536⟩], []⟩
theorem law8_one : FnOk Tryd.prog F.law8_one [] [] 0 (Ro one8) [] 0 := by
  refine fnOk tab mix G.law8_one rfl rfl (by kernel_rfl) rfl rfl ?_
  (conv => whnf)
  (conv => whnf)
  refine retO [.ownC 0 1 Y.Mass 5, .frz 1, .frz 2] ?_
  (conv => whnf)
  exact ⟨[], ⟨rfl, trivial⟩, trivial⟩
def st8 : Stmt := ⟨1, wJoint, [baseT, ⟨#[116, 117, 114, 110, 122]⟩, worldT, ⟨#[48]⟩, ⟨#[48]⟩, ⟨#[48]⟩, ⟨#[45, 48, 46, 50, 53]⟩, ⟨#[48, 46, 50, 53]⟩, ⟨#[49]⟩]⟩
theorem read_one : readRobot [st8] = (one8, 0, 0) := by decide +kernel
theorem st8_ok : ∀ s ∈ [st8], stOk s := by
  have h : stOk st8 := by unfold stOk; decide
  intro s hs
  simp only [List.mem_singleton] at hs
  subst hs; exact h
theorem one_ok : checkRobot one8 = 0 := by decide
theorem law8_awake : FnOk Tryd.prog F.law8_awake [] [] 0 (Bo true) [] 0 := by
  refine fnOk tab mix G.law8_awake rfl rfl (by kernel_rfl) rfl rfl ?_
  (conv => whnf)
  refine call_i (robot_Read [st8] (by decide) st8_ok) ?_
  (conv => whnf)
  rw [read_one]
  (conv => whnf)
  refine call_i (law8_one) ?_
  (conv => whnf)
  refine call_i (robot_Check one8 (by decide) (by decide)) ?_
  (conv => whnf)
  rw [one_ok]
  (conv => whnf)
  refine call_i (law8_one) ?_
  (conv => whnf)
  refine call_i (mk_SameRobot one8 one8 ⟨by decide, by decide⟩ ⟨by decide, by decide⟩) ?_
  (conv => whnf)
  rw [decide_eq_true rfl]
  (conv => whnf)
  refine call_i (law8_one) ?_
  (conv => whnf)
  refine call_i (robot_Find one8 baseT (by decide)) ?_
  (conv => whnf)
  (conv => whnf)
  refine ret0 ?_
  exact ret_b (by decide) rfl
/- the joints of a chain -/
theorem chain_last {js : List Joint} (hd : downOk js) {k : Nat} (hk : k < js.length) : (chain js k)[(chain js k).length - 1]? = some (k : Int) ∧ 0 < (chain js k).length := by
  obtain ⟨j, hj⟩ : ∃ j, js[k]? = some j := ⟨_, List.getElem?_eq_getElem hk⟩
  rw [chain_step hd hj]
  simp
theorem chain_par {js : List Joint} (hd : downOk js) : ∀ k : Int, -1 ≤ k → k < js.length → ∀ (i : Nat) (x : Int), (chain js k)[i]? = some x → 0 ≤ x ∧ x < js.length ∧ ∃ j, js[x.toNat]? = some j ∧ j.parent = if i = 0 then -1 else (chain js k).getD (i - 1) 0 := by
  refine link_ind hd ?_ ?_
  · intro i x h
    rw [chain_neg js (by decide)] at h
    simp at h
  · intro k j hj ih i x h
    have hkl : k < js.length := (List.getElem?_eq_some_iff.1 hj).1
    rw [chain_step hd hj] at h ⊢
    rcases Nat.lt_or_ge i (chain js j.parent).length with hi | hi
    · rw [List.getElem?_append_left hi] at h
      obtain ⟨h1, h2, j', h3, h4⟩ := ih i x h
      refine ⟨h1, h2, j', h3, ?_⟩
      rw [h4]
      split
      · rfl
      · rw [List.getD_eq_getElem?_getD, List.getD_eq_getElem?_getD, List.getElem?_append_left (by omega)]
    · have hi2 : i = (chain js j.parent).length := by
        have := (List.getElem?_eq_some_iff.1 h).1
        simp at this; omega
      rw [List.getElem?_append_right hi, hi2, Nat.sub_self] at h
      simp at h
      subst h
      refine ⟨by omega, by omega, j, by simpa using hj, ?_⟩
      obtain ⟨d1, d2⟩ := hd k j hj
      rcases (by omega : j.parent < 0 ∨ 0 ≤ j.parent) with hp | hp
      · have hp : j.parent = -1 := by omega
        rw [hp, chain_neg js (by decide)] at hi2
        rw [if_pos (by simpa using hi2), hp]
      · obtain ⟨p, hpe⟩ : ∃ p : Nat, j.parent = p := ⟨j.parent.toNat, by omega⟩
        rw [hpe] at hi2 ⊢
        obtain ⟨l1, l2⟩ := chain_last hd (k := p) (by omega)
        rw [if_neg (by omega), hi2, List.getD_eq_getElem?_getD, List.getElem?_append_left (by omega), l1]; rfl
theorem chain_len {js : List Joint} (hd : downOk js) : ∀ k : Int, -1 ≤ k → k < js.length → ((chain js k).length : Int) ≤ k + 1 := by
  refine link_ind hd ?_ ?_
  · rw [chain_neg js (by decide)]; decide
  · intro k j hj ih
    obtain ⟨d1, d2⟩ := hd k j hj
    rw [chain_step hd hj, List.length_append, List.length_singleton]; omega
theorem law8_ChainSteps (l : List Int) (a : Int) (hl : l.length ≤ 17592186044416) (ha : True) : FnOk Tryd.prog F.law8_RobotChainSteps [Li l, I a] [] 0 (Bo true) [] 0 := by
  refine fnOk tab mix G.law8_RobotChainSteps rfl rfl (by kernel_rfl) rfl rfl ?_
  (conv => whnf)
  refine call_i (mk_Robot l (by omega)) ?_
  (conv => whnf)
  have hok := mkRobot_ok l 0
  have hml := (robot_facts hok).2.2.1
  obtain ⟨g1, g2, g3⟩ := robot_good hok
  generalize mkRobot l 0 = r at *
  refine call_i (mk_Round a ((r.joints.map encJ).length : Int) (by rw [List.length_map]; omega) (by rw [List.length_map]; omega)) ?_
  (conv => whnf)
  have e1 := Int.emod_nonneg a (b := ((r.joints.map encJ).length : Int)) (by rw [List.length_map]; omega)
  have e2 := Int.emod_lt_of_pos a (b := ((r.joints.map encJ).length : Int)) (by rw [List.length_map]; omega)
  obtain ⟨k, hk⟩ : ∃ i : Nat, a % ((r.joints.map encJ).length : Int) = i := ⟨_, (Int.toNat_of_nonneg e1).symm⟩
  rw [hk] at e2 ⊢
  have hkl : k < r.joints.length := by rw [List.length_map] at e2; omega
  refine call_i (robot_Chain r k (by omega) (by omega)) ?_
  (conv => whnf)
  have hh : chainOf r k = chain r.joints k := by
    rw [chainOf, if_pos]
    simp [hasB, hok, linkOk]; omega
  rw [hh]
  have hpar := chain_par g3 k (by omega) (by omega)
  obtain ⟨l1, l2⟩ := chain_last g3 hkl
  have hw : chainOf r (-1) = [] := by
    rw [chainOf]; split
    · exact chain_neg _ (by decide)
    · rfl
  have hcl : (chain r.joints k).length ≤ 1000 := by
    have := chain_len g3 k (by omega) (by omega)
    omega
  generalize chain r.joints k = c at *
  refine loop_intro (fun i : Nat => ⟨[(5, .one (.vptr 0 0)), (6, I k), (7, .one (.row 1)), (8, I i)], [(0, bRo r), (1, bIs c)], 2⟩) (fun i => i ≤ c.length) (fun i => c.length - i) [] 0 [] (Nat.zero_le _) ⟨⟨rfl, rfl, rfl, rfl, trivial⟩, ⟨rfl, rfl, trivial⟩⟩ ?_
  rintro i hi
  have hii : IntKind.i64.wrap ((i : Int) + 1) = ((i + 1 : Nat) : Int) := by rw [w64] <;> omega
  (conv => whnf)
  refine ask_m (fun hlt => ?_) (fun hlt => ?_)
  · have hlt : i < c.length := by simpa using hlt
    obtain ⟨x, hx⟩ : ∃ x, c[i]? = some x := ⟨_, List.getElem?_eq_getElem hlt⟩
    obtain ⟨p1, p2, j, hj, hp⟩ := hpar i x hx
    have hjl : x.toNat < r.joints.length := by omega
    (conv => whnf)
    refine ask_m (fun h0 => ?_) (fun h0 => ?_)
    · have h0 : 0 < i := by have := of_decide_eq_true h0; omega
      obtain ⟨y, hy⟩ : ∃ y, c[i - 1]? = some y := ⟨_, List.getElem?_eq_getElem (by omega)⟩
      rw [if_neg (by omega), List.getD_eq_getElem?_getD, hy] at hp
      have hp : j.parent = y := hp
      have ei : IntKind.i64.wrap ((i : Int) - 1) = ((i - 1 : Nat) : Int) := by rw [w64] <;> omega
      (conv => whnf)
      rw [ei]
      refine ⟨⟨by omega, by rw [List.length_map]; omega⟩, ?_⟩
      (conv => whnf)
      refine idx_map (by simpa using hy) ?_
      (conv => whnf)
      refine ⟨⟨by omega, by rw [List.length_map]; omega⟩, ?_⟩
      (conv => whnf)
      refine idx_map (by simpa using hx) ?_
      (conv => whnf)
      refine ask_mf (decide_eq_false (by omega)) ?_
      (conv => whnf)
      refine ⟨⟨by omega, by rw [List.length_map]; omega⟩, ?_⟩
      (conv => whnf)
      refine idx_map (by simpa using hx) ?_
      (conv => whnf)
      refine ask_mf (decide_eq_false (by rw [List.length_map]; omega)) ?_
      (conv => whnf)
      refine ⟨⟨by omega, by rw [List.length_map]; omega⟩, ?_⟩
      (conv => whnf)
      refine idx_map (by simpa using hx) ?_
      (conv => whnf)
      refine idx_and (by omega) (by simpa using hj) ?_
      (conv => whnf)
      refine ask_mf (by simp [hp]) ?_
      (conv => whnf)
      exact ⟨i + 1, [], hlt, by omega, ⟨⟨rfl, rfl, rfl, eqI hii, trivial⟩, ⟨rfl, rfl, trivial⟩⟩⟩
    · have h0 : i = 0 := by have := of_decide_eq_false h0; omega
      subst h0
      rw [if_pos rfl] at hp
      (conv => whnf)
      refine ⟨⟨by omega, by rw [List.length_map]; omega⟩, ?_⟩
      (conv => whnf)
      refine idx_map (by simpa using hx) ?_
      (conv => whnf)
      refine ask_mf (decide_eq_false (by omega)) ?_
      (conv => whnf)
      refine ⟨⟨by omega, by rw [List.length_map]; omega⟩, ?_⟩
      (conv => whnf)
      refine idx_map (by simpa using hx) ?_
      (conv => whnf)
      refine ask_mf (decide_eq_false (by rw [List.length_map]; omega)) ?_
      (conv => whnf)
      refine ⟨⟨by omega, by rw [List.length_map]; omega⟩, ?_⟩
      (conv => whnf)
      refine idx_map (by simpa using hx) ?_
      (conv => whnf)
      refine idx_and (by omega) (by simpa using hj) ?_
      (conv => whnf)
      refine ask_mf (by simp [hp]) ?_
      (conv => whnf)
      exact ⟨1, [], hlt, by omega, ⟨⟨rfl, rfl, rfl, eqI hii, trivial⟩, ⟨rfl, rfl, trivial⟩⟩⟩
  · have hi : i = c.length := by simp at hlt; omega
    subst hi
    have ei : IntKind.i64.wrap ((((c.map encI).length : Nat) : Int) - 1) = ((c.length - 1 : Nat) : Int) := by rw [List.length_map, w64] <;> omega
    (conv => whnf)
    refine call_i (law8_awake) ?_
    (conv => whnf)
    refine ask_mt (decide_eq_true (by rw [List.length_map]; omega)) ?_
    (conv => whnf)
    rw [ei]
    refine ⟨⟨by omega, by rw [List.length_map]; omega⟩, ?_⟩
    (conv => whnf)
    refine idx_map (by simpa using l1) ?_
    (conv => whnf)
    refine ask_mt (by simp) ?_
    (conv => whnf)
    refine call_i (robot_Chain r (-1) (by omega) (by omega)) ?_
    (conv => whnf)
    rw [hw]
    (conv => whnf)
    refine ret0 ?_
    exact ret_b (by decide) rfl
end Go.Proofs.YtlfclainmbafiaaDoor

/- The reference's checks: joints, robots. -/
namespace Go.Proofs.YtlfclainmbafiaaDoor
open Eng
set_option maxRecDepth 10000
attribute [local irreducible] FnOk loopW idxF retX arrF

theorem ref_isLink (r : Robot) (k : Int) : FnOk Tryd.prog F.ref6_isLink [Ro r, I k] [] 0 (Bo (linkOk r.joints.length k)) [] 0 := by
  refine fnOk tab mix G.ref6_isLink rfl rfl (by kernel_rfl) rfl rfl ?_
  (conv => whnf)
  repeat' ((conv => whnf); first | refine ask_m (fun h => ?_) (fun h => ?_) | refine ret0 ?_)
  all_goals exact ret_b (by first | (simp_all [linkOk]; done) | (simp_all [linkOk]; omega)) rfl
def betw (x a b : Int) : Bool := decide (a ≤ x) && decide (x ≤ b)
theorem ref_between (x a b : Int) : FnOk Tryd.prog F.ref6_between [I x, I a, I b] [] 0 (Bo (betw x a b)) [] 0 := by
  refine fnOk tab mix G.ref6_between rfl rfl (by kernel_rfl) rfl rfl ?_
  (conv => whnf)
  repeat' ((conv => whnf); first | refine ask_m (fun h => ?_) (fun h => ?_) | refine ret0 ?_)
  all_goals exact ret_b (by first | (simp_all [betw]; done) | (simp_all [betw]; omega)) rfl
def inX (m x : Int) : Bool := decide (-m ≤ x) && decide (x ≤ m)
theorem ref_Near (v : Vec) (m : Int) (hm : 0 ≤ m) (hm2 : m ≤ 4611686018427387904) : FnOk Tryd.prog F.ref6_Near [Ve v, I m] [] 0 (Bo (inV v m)) [] 0 := by
  refine fnOk tab mix G.ref6_Near rfl rfl (by kernel_rfl) rfl rfl ?_
  (conv => whnf)
  have wn : IntKind.i64.wrap (0 - m) = -m := by rw [w64] <;> omega
  have e : inV v m = (inX m v.x && inX m v.y && inX m v.z) := rfl
  refine loop_intro (fun k : Nat => ⟨[(1, I m), (2, .one (.vptr 0 0)), (5, I k)], [(0, .vars Y.Vec [.dv (.int .i64 v.x), .dv (.int .i64 v.y), .dv (.int .i64 v.z)])], 1⟩) (fun k => k ≤ 3 ∧ (1 ≤ k → inX m v.x = true) ∧ (2 ≤ k → inX m v.y = true) ∧ (3 ≤ k → inX m v.z = true)) (fun k => 3 - k) [] 0 [] ⟨by decide, by omega, by omega, by omega⟩ ⟨⟨rfl, rfl, rfl, trivial⟩, ⟨rfl, trivial⟩⟩ ?_
  rintro k ⟨hk, k1, k2, k3⟩
  rcases (show k = 0 ∨ k = 1 ∨ k = 2 ∨ k = 3 by omega) with rfl | rfl | rfl | rfl
  · (conv => whnf)
    refine ⟨by decide, ?_⟩
    (conv => whnf)
    rw [wn]
    refine ask_m (fun h => ?_) (fun h => ?_)
    · have h := of_decide_eq_true h
      (conv => whnf)
      refine ret0 ?_
      exact ret_b (by rw [e]; simp [inX]; omega) rfl
    · have h := of_decide_eq_false h
      (conv => whnf)
      refine ⟨by decide, ?_⟩
      (conv => whnf)
      refine ask_m (fun h2 => ?_) (fun h2 => ?_)
      · have h2 := of_decide_eq_true h2
        (conv => whnf)
        refine ret0 ?_
        exact ret_b (by rw [e]; simp [inX]; omega) rfl
      · have h2 := of_decide_eq_false h2
        (conv => whnf)
        exact ⟨1, [], ⟨by decide, fun _ => by simp [inX]; omega, by omega, by omega⟩, by omega, ⟨⟨rfl, rfl, rfl, trivial⟩, ⟨rfl, trivial⟩⟩⟩
  · (conv => whnf)
    refine ⟨by decide, ?_⟩
    (conv => whnf)
    rw [wn]
    refine ask_m (fun h => ?_) (fun h => ?_)
    · have h := of_decide_eq_true h
      (conv => whnf)
      refine ret0 ?_
      exact ret_b (by rw [e]; simp [inX]; omega) rfl
    · have h := of_decide_eq_false h
      (conv => whnf)
      refine ⟨by decide, ?_⟩
      (conv => whnf)
      refine ask_m (fun h2 => ?_) (fun h2 => ?_)
      · have h2 := of_decide_eq_true h2
        (conv => whnf)
        refine ret0 ?_
        exact ret_b (by rw [e]; simp [inX]; omega) rfl
      · have h2 := of_decide_eq_false h2
        (conv => whnf)
        exact ⟨2, [], ⟨by decide, fun _ => k1 (by decide), fun _ => by simp [inX]; omega, by omega⟩, by omega, ⟨⟨rfl, rfl, rfl, trivial⟩, ⟨rfl, trivial⟩⟩⟩
  · (conv => whnf)
    refine ⟨by decide, ?_⟩
    (conv => whnf)
    rw [wn]
    refine ask_m (fun h => ?_) (fun h => ?_)
    · have h := of_decide_eq_true h
      (conv => whnf)
      refine ret0 ?_
      exact ret_b (by rw [e]; simp [inX]; omega) rfl
    · have h := of_decide_eq_false h
      (conv => whnf)
      refine ⟨by decide, ?_⟩
      (conv => whnf)
      refine ask_m (fun h2 => ?_) (fun h2 => ?_)
      · have h2 := of_decide_eq_true h2
        (conv => whnf)
        refine ret0 ?_
        exact ret_b (by rw [e]; simp [inX]; omega) rfl
      · have h2 := of_decide_eq_false h2
        (conv => whnf)
        exact ⟨3, [], ⟨by decide, fun _ => k1 (by decide), fun _ => k2 (by decide), fun _ => by simp [inX]; omega⟩, by omega, ⟨⟨rfl, rfl, rfl, trivial⟩, ⟨rfl, trivial⟩⟩⟩
  · (conv => whnf)
    refine ret0 ?_
    exact ret_b (by rw [e, k1 (by decide), k2 (by decide), k3 (by decide)]; rfl) rfl
def reachR (k : Int) : Int := if k = 0 then 0 else if k = 1 ∨ k = 2 ∨ k = 3 then 524288 else 4194304
theorem reachR_eq {k : Int} (h0 : 0 ≤ k) (h6 : k ≤ 6) : reachR k = reach k := by
  rcases (show k = 0 ∨ k = 1 ∨ k = 2 ∨ k = 3 ∨ k = 4 ∨ k = 5 ∨ k = 6 by omega) with rfl | rfl | rfl | rfl | rfl | rfl | rfl <;> decide
theorem ref_reach (k : Int) : FnOk Tryd.prog F.ref6_reach [I k] [] 0 (I (reachR k)) [] 0 := by
  refine fnOk tab mix G.ref6_reach rfl rfl (by kernel_rfl) rfl rfl ?_
  (conv => whnf)
  repeat' ((conv => whnf); first | refine ask_m (fun h => ?_) (fun h => ?_) | refine ret0 ?_)
  all_goals exact ret_i (by first | (simp_all [reachR]; done) | (simp_all [reachR]; omega)) rfl
theorem find_le : ∀ {js : List Joint} {k b : Nat} {x : Joint}, js[k]? = some x → (b : Int) ≤ find js x.name b ∧ find js x.name b ≤ ((b + k : Nat) : Int)
  | [], _, _, _, h => by simp at h
  | j :: js, 0, b, x, h => by
    simp at h; subst h
    rw [find, if_pos rfl]; omega
  | j :: js, k + 1, b, x, h => by
    rw [find]; split
    · omega
    · have := find_le (js := js) (k := k) (b := b + 1) (by simpa using h)
      omega
theorem ref_checkJoint (js : List Joint) (i : Nat) (j : Joint) (hj : js[i]? = some j) (hl : js.length ≤ 4611686018427387904) : FnOk Tryd.prog F.ref6_checkJoint [.one (.dv (dJs js)), I i] [] 0 (I (jointErr js i j)) [] 0 := by
  refine fnOk tab mix G.ref6_checkJoint rfl rfl (by kernel_rfl) rfl rfl ?_
  (conv => whnf)
  have hil : i < js.length := (List.getElem?_eq_some_iff.1 hj).1
  refine idx_and (by omega) (by simpa using hj) ?_
  (conv => whnf)
  refine call_i (ref_Name j.name) ?_
  (conv => whnf)
  refine ask_m (fun hn => ?_) (fun hn => ?_)
  · have hn : nameOk j.name = false := by simpa using hn
    (conv => whnf)
    refine ret0 ?_
    exact ret_i (by rw [jointErr, if_pos (.inl hn)]) rfl
  have hn : nameOk j.name = true := by simpa using hn
  (conv => whnf)
  refine loop_intro (fun k : Nat => ⟨[(0, .one (.dv (dJs js))), (1, I i), (5, .one (.vptr 0 0)), (6, I k)], [(0, .vars Y.Joint [.dv (.str j.name), .dv (.int .i64 j.kind), .dv (.int .i64 j.parent), .dv (.int .i64 j.off.x), .dv (.int .i64 j.off.y), .dv (.int .i64 j.off.z), .dv (.int .i64 j.lo), .dv (.int .i64 j.hi), .dv (.int .i64 j.weight), .dv (.int .i64 j.speed), .dv (.int .i64 j.accel), .dv (.int .i64 j.torque)])], 1⟩)
    (fun k => k ≤ i ∧ ∀ (a : Nat) (x : Joint), a < k → js[a]? = some x → x.name ≠ j.name) (fun k => i - k) [] 0 [] ⟨Nat.zero_le _, fun a x h => by omega⟩ ⟨⟨rfl, rfl, rfl, rfl, trivial⟩, ⟨rfl, trivial⟩⟩ ?_
  rintro k ⟨hk, hne⟩
  (conv => whnf)
  refine ask_m (fun h => ?_) (fun h => ?_)
  · have hlt : k < i := by have := of_decide_eq_true h; omega
    obtain ⟨x, hx⟩ : ∃ x, js[k]? = some x := ⟨_, List.getElem?_eq_getElem (by omega)⟩
    have hkk : IntKind.i64.wrap ((k : Int) + 1) = ((k + 1 : Nat) : Int) := by rw [w64] <;> omega
    (conv => whnf)
    refine idx_and (by omega) (by simpa using hx) ?_
    (conv => whnf)
    refine ask_m (fun he => ?_) (fun he => ?_)
    · have he : x.name = j.name := of_decide_eq_true he
      have hf := find_le (b := 0) hx
      rw [he] at hf
      (conv => whnf)
      refine ret0 ?_
      exact ret_i (by rw [jointErr, if_pos (.inr (by omega))]) rfl
    · have he : ¬ x.name = j.name := of_decide_eq_false he
      (conv => whnf)
      refine ⟨k + 1, [], ⟨hlt, fun a y ha hy => ?_⟩, by omega, ⟨⟨rfl, rfl, rfl, eqI hkk, trivial⟩, ⟨rfl, trivial⟩⟩⟩
      rcases Nat.lt_or_ge a k with h' | h'
      · exact hne a y h' hy
      · obtain rfl : a = k := by omega
        rw [hx] at hy; injection hy with hy; subst hy; exact he
  · have hki : k = i := by have := of_decide_eq_false h; omega
    subst hki
    have hf := find_at (k := 0) hj fun a x ha hx => hne a x ha hx
    have hE : jointErr js k j = if j.kind < 0 ∨ 6 < j.kind then 803
      else if j.parent < -1 ∨ (k : Int) ≤ j.parent then 804
      else if inV j.off 4194304 = false then 805
      else if j.hi < j.lo ∨ j.lo < - reach j.kind ∨ reach j.kind < j.hi then 806
      else if (from1 j.weight 1024 && from1 j.speed 1048576 && from1 j.accel 1048576 && from1 j.torque 1099511627776) = false then 807
      else 0 := by rw [jointErr, if_neg (by rw [hn, hf]; simp)]
    rw [hE]
    have hrr : ¬ (j.kind < 0 ∨ 6 < j.kind) → reachR j.kind = reach j.kind := fun h => reachR_eq (by omega) (by omega)
    have hrc := reach_cases j.kind
    have wr : IntKind.i64.wrap (0 - reach j.kind) = - reach j.kind := by rw [w64] <;> omega
    have fb : ∀ x m, betw x 1 m = from1 x m := fun _ _ => rfl
    clear h hE hne
    (conv => whnf)
    refine ask_m (fun h1 => ?_) (fun h1 => ?_)
    · have h1 := of_decide_eq_true h1
      rw [if_pos (.inl h1)]
      (conv => whnf)
      refine ret0 ?_
      exact ret_i rfl rfl
    have h1 := of_decide_eq_false h1
    (conv => whnf)
    refine ask_m (fun h2 => ?_) (fun h2 => ?_)
    · have h2 := of_decide_eq_true h2
      rw [if_pos (.inr h2)]
      (conv => whnf)
      refine ret0 ?_
      exact ret_i rfl rfl
    have h2 := of_decide_eq_false h2
    have h12 : ¬ (j.kind < 0 ∨ 6 < j.kind) := by omega
    rw [if_neg h12]
    (conv => whnf)
    refine ask_m (fun h3 => ?_) (fun h3 => ?_)
    · have h3 := of_decide_eq_true h3
      rw [if_pos (.inl h3)]
      (conv => whnf)
      refine ret0 ?_
      exact ret_i rfl rfl
    have h3 := of_decide_eq_false h3
    (conv => whnf)
    refine ask_m (fun h4 => ?_) (fun h4 => ?_)
    · have h4 := of_decide_eq_true h4
      rw [if_pos (.inr h4)]
      (conv => whnf)
      refine ret0 ?_
      exact ret_i rfl rfl
    have h4 := of_decide_eq_false h4
    rw [if_neg (by omega)]
    (conv => whnf)
    refine call_i (ref_Near j.off 4194304 (by decide) (by decide)) ?_
    (conv => whnf)
    refine ask_m (fun h5 => ?_) (fun h5 => ?_)
    · have h5 : inV j.off 4194304 = false := by simpa using h5
      rw [if_pos h5]
      (conv => whnf)
      refine ret0 ?_
      exact ret_i rfl rfl
    have h5 : inV j.off 4194304 = true := by simpa using h5
    rw [if_neg (by rw [h5]; simp)]
    (conv => whnf)
    refine call_i (ref_reach j.kind) ?_
    (conv => whnf)
    rw [hrr h12]
    refine ask_m (fun h6 => ?_) (fun h6 => ?_)
    · have h6 := of_decide_eq_true h6
      rw [if_pos (.inl h6)]
      (conv => whnf)
      refine ret0 ?_
      exact ret_i rfl rfl
    have h6 := of_decide_eq_false h6
    (conv => whnf)
    rw [wr]
    refine ask_m (fun h7 => ?_) (fun h7 => ?_)
    · have h7 := of_decide_eq_true h7
      rw [if_pos (.inr (.inl h7))]
      (conv => whnf)
      refine ret0 ?_
      exact ret_i rfl rfl
    have h7 := of_decide_eq_false h7
    (conv => whnf)
    refine ask_m (fun h8 => ?_) (fun h8 => ?_)
    · have h8 := of_decide_eq_true h8
      rw [if_pos (.inr (.inr h8))]
      (conv => whnf)
      refine ret0 ?_
      exact ret_i rfl rfl
    have h8 := of_decide_eq_false h8
    rw [if_neg (by omega)]
    (conv => whnf)
    refine call_i (ref_between j.weight 1 1024) ?_
    (conv => whnf)
    rw [fb]
    refine ask_m (fun h9 => ?_) (fun h9 => ?_)
    · have h9 : from1 j.weight 1024 = false := by simpa using h9
      rw [if_pos (by rw [h9]; simp)]
      (conv => whnf)
      refine ret0 ?_
      exact ret_i rfl rfl
    have h9 : from1 j.weight 1024 = true := by simpa using h9
    (conv => whnf)
    refine call_i (ref_between j.speed 1 1048576) ?_
    (conv => whnf)
    rw [fb]
    refine ask_m (fun h10 => ?_) (fun h10 => ?_)
    · have h10 : from1 j.speed 1048576 = false := by simpa using h10
      rw [if_pos (by rw [h10]; simp)]
      (conv => whnf)
      refine ret0 ?_
      exact ret_i rfl rfl
    have h10 : from1 j.speed 1048576 = true := by simpa using h10
    (conv => whnf)
    refine call_i (ref_between j.accel 1 1048576) ?_
    (conv => whnf)
    rw [fb]
    refine ask_m (fun h11 => ?_) (fun h11 => ?_)
    · have h11 : from1 j.accel 1048576 = false := by simpa using h11
      rw [if_pos (by rw [h11]; simp)]
      (conv => whnf)
      refine ret0 ?_
      exact ret_i rfl rfl
    have h11 : from1 j.accel 1048576 = true := by simpa using h11
    (conv => whnf)
    refine call_i (ref_between j.torque 1 1099511627776) ?_
    (conv => whnf)
    rw [fb]
    refine ask_m (fun h13 => ?_) (fun h13 => ?_)
    · have h13 : from1 j.torque 1099511627776 = false := by simpa using h13
      rw [if_pos (by rw [h13]; simp)]
      (conv => whnf)
      refine ret0 ?_
      exact ret_i rfl rfl
    have h13 : from1 j.torque 1099511627776 = true := by simpa using h13
    rw [h9, h10, h11, h13, if_neg (by simp)]
    (conv => whnf)
    refine ret0 ?_
    exact ret_i rfl rfl
end Go.Proofs.YtlfclainmbafiaaDoor

/- The reference's checks: robots, scenes. -/
namespace Go.Proofs.YtlfclainmbafiaaDoor
open Eng
set_option maxRecDepth 10000
attribute [local irreducible] FnOk loopW idxF retX arrF

theorem ref_CheckRobot (r : Robot) (hj : r.joints.length ≤ 4611686018427387904) (hm : r.masses.length ≤ 4611686018427387904) : FnOk Tryd.prog F.ref6_CheckRobot [Ro r] [] 0 (I (checkRobot r)) [] 0 := by
  refine fnOk tab mix G.ref6_CheckRobot rfl rfl (by kernel_rfl) rfl rfl ?_
  (conv => whnf)
  refine ask_m (fun h => ?_) (fun h => ?_)
  · have h : r.joints.length = 0 := by have := of_decide_eq_true h; simp only [List.length_map] at this; omega
    (conv => whnf)
    refine ret0 ?_
    exact ret_i (by unfold checkRobot; rw [if_pos (.inl h)]) rfl
  have h1 : ¬ r.joints.length = 0 := by have := of_decide_eq_false h; simp only [List.length_map] at this; omega
  (conv => whnf)
  refine ask_m (fun h => ?_) (fun h => ?_)
  · have h : 10 < r.joints.length := by have := of_decide_eq_true h; simp only [List.length_map] at this; omega
    (conv => whnf)
    refine ret0 ?_
    exact ret_i (by unfold checkRobot; rw [if_pos (.inr h)]) rfl
  have h2 : ¬ 10 < r.joints.length := by have := of_decide_eq_false h; simp only [List.length_map] at this; omega
  have e : checkRobot r = if jointsErr r.joints 0 r.joints ≠ 0 then jointsErr r.joints 0 r.joints
    else if 32 < r.masses.length ∨ r.masses.all (massOk r.joints.length) = false then 808 else 0 := by unfold checkRobot; rw [if_neg (by omega)]
  rw [e]
  (conv => whnf)
  refine loop_intro (fun k : Nat => ⟨[(1, .one (.vptr 0 0)), (3, I k)], [(0, bRo r)], 1⟩) (fun k => k ≤ r.joints.length ∧ jointsErr r.joints 0 r.joints = jointsErr r.joints k (r.joints.drop k)) (fun k => r.joints.length - k) [] 0 [] ⟨Nat.zero_le _, rfl⟩ ⟨⟨rfl, rfl, trivial⟩, ⟨rfl, trivial⟩⟩ ?_
  rintro k ⟨hk, hE⟩
  (conv => whnf)
  refine ask_m (fun h => ?_) (fun h => ?_)
  · have hlt : k < r.joints.length := by simp at h; omega
    obtain ⟨j, hj'⟩ : ∃ j, r.joints[k]? = some j := ⟨_, List.getElem?_eq_getElem hlt⟩
    have hkk : IntKind.i64.wrap ((k : Int) + 1) = ((k + 1 : Nat) : Int) := by rw [w64] <;> omega
    rw [drop_cons hj', jointsErr] at hE
    (conv => whnf)
    refine call_i (ref_checkJoint r.joints k j hj' hj) ?_
    (conv => whnf)
    refine ask_m (fun he => ?_) (fun he => ?_)
    · have he : ¬ jointErr r.joints k j = 0 := by simpa using he
      rw [if_neg he] at hE
      (conv => whnf)
      refine ret0 ?_
      exact ret_i (by rw [hE, if_pos he]) rfl
    · have he : jointErr r.joints k j = 0 := by simpa using he
      rw [if_pos he] at hE
      (conv => whnf)
      exact ⟨k + 1, [], ⟨hlt, hE⟩, by omega, ⟨⟨rfl, eqI hkk, trivial⟩, ⟨rfl, trivial⟩⟩⟩
  · have hk : k = r.joints.length := by simp at h; omega
    subst hk
    rw [List.drop_length, jointsErr] at hE
    rw [hE, if_neg (by simp)]
    (conv => whnf)
    refine ask_m (fun h3 => ?_) (fun h3 => ?_)
    · have h3 : 32 < r.masses.length := by have := of_decide_eq_true h3; simp only [List.length_map] at this; omega
      rw [if_pos (.inl h3)]
      (conv => whnf)
      refine ret0 ?_
      exact ret_i rfl rfl
    have h3 : ¬ 32 < r.masses.length := by have := of_decide_eq_false h3; simp only [List.length_map] at this; omega
    (conv => whnf)
    refine loop_intro (fun k : Nat => ⟨[(1, .one (.vptr 0 0)), (5, I k)], [(0, bRo r)], 1⟩) (fun k => k ≤ r.masses.length ∧ (r.masses.take k).all (massOk r.joints.length) = true) (fun k => r.masses.length - k) [] 0 [] ⟨Nat.zero_le _, rfl⟩ ⟨⟨rfl, rfl, trivial⟩, ⟨rfl, trivial⟩⟩ ?_
    rintro k ⟨hk, hall⟩
    (conv => whnf)
    refine ask_m (fun h4 => ?_) (fun h4 => ?_)
    · have hlt : k < r.masses.length := by simp at h4; omega
      obtain ⟨m, hm'⟩ : ∃ j, r.masses[k]? = some j := ⟨_, List.getElem?_eq_getElem hlt⟩
      have hkk : IntKind.i64.wrap ((k : Int) + 1) = ((k + 1 : Nat) : Int) := by rw [w64] <;> omega
      have bad : massOk r.joints.length m = false → (if 32 < r.masses.length ∨ r.masses.all (massOk r.joints.length) = false then (808 : Int) else 0) = 808 := fun h => by rw [if_pos (.inr (all_not hm' h))]
      have hM : massOk r.joints.length m = (decide (0 ≤ m.link) && decide (m.link < r.joints.length) && betw m.mass 1 65536 && inV m.point 4194304) := rfl
      (conv => whnf)
      refine idx_and (by omega) (by simpa using hm') ?_
      (conv => whnf)
      refine ask_m (fun a1 => ?_) (fun a1 => ?_)
      · have a1 := of_decide_eq_true a1
        rw [bad (by rw [hM, decide_eq_false (by omega)]; simp)]
        (conv => whnf)
        refine ret0 ?_
        exact ret_i rfl rfl
      have a1 := of_decide_eq_false a1
      (conv => whnf)
      rw [List.length_map]
      refine ask_m (fun a2 => ?_) (fun a2 => ?_)
      · have a2 := of_decide_eq_true a2
        rw [bad (by rw [hM, decide_eq_false (p := m.link < _) (by omega)]; simp)]
        (conv => whnf)
        refine ret0 ?_
        exact ret_i rfl rfl
      have a2 := of_decide_eq_false a2
      (conv => whnf)
      refine call_i (ref_between m.mass 1 65536) ?_
      (conv => whnf)
      refine ask_m (fun a3 => ?_) (fun a3 => ?_)
      · have a3 : betw m.mass 1 65536 = false := by simpa using a3
        rw [bad (by rw [hM, a3]; simp)]
        (conv => whnf)
        refine ret0 ?_
        exact ret_i rfl rfl
      have a3 : betw m.mass 1 65536 = true := by simpa using a3
      (conv => whnf)
      refine call_i (ref_Near m.point 4194304 (by decide) (by decide)) ?_
      (conv => whnf)
      refine ask_m (fun a4 => ?_) (fun a4 => ?_)
      · have a4 : inV m.point 4194304 = false := by simpa using a4
        rw [bad (by rw [hM, a4]; simp)]
        (conv => whnf)
        refine ret0 ?_
        exact ret_i rfl rfl
      have a4 : inV m.point 4194304 = true := by simpa using a4
      (conv => whnf)
      exact ⟨k + 1, [], ⟨hlt, all_take hall hm' (by rw [hM, a3, a4, decide_eq_true (by omega), decide_eq_true (p := m.link < _) (by omega)]; rfl)⟩, by omega, ⟨⟨rfl, eqI hkk, trivial⟩, ⟨rfl, trivial⟩⟩⟩
    · have hk : k = r.masses.length := by simp at h4; omega
      subst hk
      rw [List.take_length] at hall
      rw [hall, if_neg (by simp; omega)]
      (conv => whnf)
      refine ret0 ?_
      exact ret_i rfl rfl
theorem ref_CheckScene (s : Scene) (hs : small s) : FnOk Tryd.prog F.ref6_CheckScene [Sc s] [] 0 (I (checkScene s)) [] 0 := by
  refine fnOk tab mix G.ref6_CheckScene rfl rfl (by kernel_rfl) rfl rfl ?_
  (conv => whnf)
  obtain ⟨s1, s2, s3, s4, s5⟩ := hs
  refine call_i (ref_CheckRobot s.robot s1 s2) ?_
  (conv => whnf)
  refine ask_m (fun h => ?_) (fun h => ?_)
  · have h : ¬ checkRobot s.robot = 0 := by simpa using h
    (conv => whnf)
    refine ret0 ?_
    exact ret_i (by unfold checkScene; rw [if_pos h]) rfl
  have h0 : checkRobot s.robot = 0 := by simpa using h
  have e : checkScene s = if 24 < s.shapes.length then 901
    else if shapesErr s.robot.joints.length s.shapes ≠ 0 then shapesErr s.robot.joints.length s.shapes
    else if 64 < s.skips.length then 903
    else if (s.skips.all (skipOk s.robot.joints.length)) = false then 903
    else 0 := by unfold checkScene; rw [if_neg (by rw [h0]; simp)]; rfl
  rw [e]
  clear e
  (conv => whnf)
  refine ask_m (fun h1 => ?_) (fun h1 => ?_)
  · have h1 : 24 < s.shapes.length := by have := of_decide_eq_true h1; simp only [List.length_map] at this; omega
    rw [if_pos h1]
    (conv => whnf)
    refine ret0 ?_
    exact ret_i rfl rfl
  have h1 : ¬ 24 < s.shapes.length := by have := of_decide_eq_false h1; simp only [List.length_map] at this; omega
  rw [if_neg h1]
  (conv => whnf)
  refine loop_intro (fun k : Nat => ⟨[(1, .one (.vptr 0 0)), (4, I k)], [(0, bSc s)], 1⟩) (fun k => k ≤ s.shapes.length ∧ shapesErr s.robot.joints.length s.shapes = shapesErr s.robot.joints.length (s.shapes.drop k)) (fun k => s.shapes.length - k) [] 0 [] ⟨Nat.zero_le _, rfl⟩ ⟨⟨rfl, rfl, trivial⟩, ⟨rfl, trivial⟩⟩ ?_
  rintro k ⟨hk, hE⟩
  (conv => whnf)
  refine ask_m (fun h2 => ?_) (fun h2 => ?_)
  · have hlt : k < s.shapes.length := by simp at h2; omega
    obtain ⟨x, hx⟩ : ∃ j, s.shapes[k]? = some j := ⟨_, List.getElem?_eq_getElem hlt⟩
    have hkk : IntKind.i64.wrap ((k : Int) + 1) = ((k + 1 : Nat) : Int) := by rw [w64] <;> omega
    have hxp := s5 x (List.mem_of_getElem? hx)
    rw [drop_cons hx, shapesErr] at hE
    have e1 : (linkOk s.robot.joints.length x.link = false ∨ x.radius < 1 ∨ 1048576 < x.radius ∨ x.points.length < 1 ∨ 8 < x.points.length) → shapesErr s.robot.joints.length s.shapes = 902 := fun h => by
      have : shapeErr s.robot.joints.length x = 902 := by rw [shapeErr, if_pos h]
      rw [hE, this, if_neg (by decide)]
    have e2 : ¬ (linkOk s.robot.joints.length x.link = false ∨ x.radius < 1 ∨ 1048576 < x.radius ∨ x.points.length < 1 ∨ 8 < x.points.length) → x.points.all (inV · 4194304) = false → shapesErr s.robot.joints.length s.shapes = 805 := fun h h' => by
      have : shapeErr s.robot.joints.length x = 805 := by rw [shapeErr, if_neg h, if_pos h']
      rw [hE, this, if_neg (by decide)]
    have e3 : ¬ (linkOk s.robot.joints.length x.link = false ∨ x.radius < 1 ∨ 1048576 < x.radius ∨ x.points.length < 1 ∨ 8 < x.points.length) → x.points.all (inV · 4194304) = true → shapesErr s.robot.joints.length s.shapes = shapesErr s.robot.joints.length (s.shapes.drop (k + 1)) := fun h h' => by
      have : shapeErr s.robot.joints.length x = 0 := by rw [shapeErr, if_neg h, if_neg (by rw [h']; simp)]
      rw [hE, this, if_pos rfl]
    (conv => whnf)
    refine idx_and (by omega) (by simpa using hx) ?_
    (conv => whnf)
    refine call_i (ref_isLink s.robot x.link) ?_
    (conv => whnf)
    refine ask_m (fun a1 => ?_) (fun a1 => ?_)
    · have a1 : linkOk s.robot.joints.length x.link = false := by simpa using a1
      rw [e1 (.inl a1), if_pos (by decide)]
      (conv => whnf)
      refine ret0 ?_
      exact ret_i rfl rfl
    have a1 : linkOk s.robot.joints.length x.link = true := by simpa using a1
    (conv => whnf)
    refine call_i (ref_between x.radius 1 1048576) ?_
    (conv => whnf)
    refine ask_m (fun a2 => ?_) (fun a2 => ?_)
    · have a2 : betw x.radius 1 1048576 = false := by simpa using a2
      rw [e1 (by simp [betw] at a2; omega), if_pos (by decide)]
      (conv => whnf)
      refine ret0 ?_
      exact ret_i rfl rfl
    have a2 : betw x.radius 1 1048576 = true := by simpa using a2
    simp [betw] at a2
    (conv => whnf)
    refine ask_m (fun a3 => ?_) (fun a3 => ?_)
    · have a3 : x.points.length < 1 := by have := of_decide_eq_true a3; simp only [List.length_map] at this; omega
      rw [e1 (by omega), if_pos (by decide)]
      (conv => whnf)
      refine ret0 ?_
      exact ret_i rfl rfl
    have a3 : ¬ x.points.length < 1 := by have := of_decide_eq_false a3; simp only [List.length_map] at this; omega
    (conv => whnf)
    refine ask_m (fun a4 => ?_) (fun a4 => ?_)
    · have a4 : 8 < x.points.length := by have := of_decide_eq_true a4; simp only [List.length_map] at this; omega
      rw [e1 (by omega), if_pos (by decide)]
      (conv => whnf)
      refine ret0 ?_
      exact ret_i rfl rfl
    have a4 : ¬ 8 < x.points.length := by have := of_decide_eq_false a4; simp only [List.length_map] at this; omega
    have hno : ¬ (linkOk s.robot.joints.length x.link = false ∨ x.radius < 1 ∨ 1048576 < x.radius ∨ x.points.length < 1 ∨ 8 < x.points.length) := by rw [a1]; rintro (h | h | h | h | h) <;> first | contradiction | omega
    (conv => whnf)
    refine loop_intro (fun c : Nat => ⟨[(1, .one (.vptr 0 0)), (4, I k), (5, .one (.vptr 1 0)), (6, I c)], [(0, bSc s), (1, .vars Y.Shape [.dv (.int .i64 x.link), .dv (.int .i64 x.radius), .dv (dVs x.points)])], 2⟩) (fun c => c ≤ x.points.length ∧ (x.points.take c).all (inV · 4194304) = true) (fun c => x.points.length - c) [] 0 [] ⟨Nat.zero_le _, rfl⟩ ⟨⟨rfl, rfl, rfl, rfl, trivial⟩, ⟨rfl, rfl, trivial⟩⟩ ?_
    rintro c ⟨hc, hall⟩
    (conv => whnf)
    refine ask_m (fun a5 => ?_) (fun a5 => ?_)
    · have hcl : c < x.points.length := by simp at a5; omega
      obtain ⟨p, hp⟩ : ∃ j, x.points[c]? = some j := ⟨_, List.getElem?_eq_getElem hcl⟩
      have hcc : IntKind.i64.wrap ((c : Int) + 1) = ((c + 1 : Nat) : Int) := by rw [w64] <;> omega
      (conv => whnf)
      refine idx_and (by omega) (by simpa using hp) ?_
      (conv => whnf)
      refine call_i (ref_Near p 4194304 (by decide) (by decide)) ?_
      (conv => whnf)
      refine ask_m (fun a6 => ?_) (fun a6 => ?_)
      · have a6 : inV p 4194304 = false := by simpa using a6
        rw [e2 hno (all_not hp a6), if_pos (by decide)]
        (conv => whnf)
        refine ret0 ?_
        exact ret_i rfl rfl
      · have a6 : inV p 4194304 = true := by simpa using a6
        (conv => whnf)
        exact ⟨c + 1, [], ⟨hcl, all_take hall hp a6⟩, by omega, ⟨⟨rfl, rfl, rfl, eqI hcc, trivial⟩, ⟨rfl, rfl, trivial⟩⟩⟩
    · have hc : c = x.points.length := by simp at a5; omega
      subst hc
      rw [List.take_length] at hall
      (conv => whnf)
      exact ⟨k + 1, [], ⟨hlt, e3 hno hall⟩, by omega, ⟨⟨rfl, eqI hkk, trivial⟩, ⟨rfl, trivial⟩⟩⟩
  · have hk : k = s.shapes.length := by simp at h2; omega
    subst hk
    rw [List.drop_length, shapesErr] at hE
    rw [hE, if_neg (by simp)]
    (conv => whnf)
    refine ask_m (fun h3 => ?_) (fun h3 => ?_)
    · have h3 : 64 < s.skips.length := by have := of_decide_eq_true h3; simp only [List.length_map] at this; omega
      rw [if_pos h3]
      (conv => whnf)
      refine ret0 ?_
      exact ret_i rfl rfl
    have h3 : ¬ 64 < s.skips.length := by have := of_decide_eq_false h3; simp only [List.length_map] at this; omega
    rw [if_neg h3]
    (conv => whnf)
    refine loop_intro (fun k : Nat => ⟨[(1, .one (.vptr 0 0)), (7, I k)], [(0, bSc s)], 1⟩) (fun k => k ≤ s.skips.length ∧ (s.skips.take k).all (skipOk s.robot.joints.length) = true) (fun k => s.skips.length - k) [] 0 [] ⟨Nat.zero_le _, rfl⟩ ⟨⟨rfl, rfl, trivial⟩, ⟨rfl, trivial⟩⟩ ?_
    rintro k ⟨hk, hall⟩
    (conv => whnf)
    refine ask_m (fun h4 => ?_) (fun h4 => ?_)
    · have hlt : k < s.skips.length := by simp at h4; omega
      obtain ⟨m, hm'⟩ : ∃ j, s.skips[k]? = some j := ⟨_, List.getElem?_eq_getElem hlt⟩
      have hkk : IntKind.i64.wrap ((k : Int) + 1) = ((k + 1 : Nat) : Int) := by rw [w64] <;> omega
      (conv => whnf)
      refine idx_and (by omega) (by simpa using hm') ?_
      (conv => whnf)
      refine call_i (ref_isLink s.robot m.a) ?_
      (conv => whnf)
      refine ask_m (fun a1 => ?_) (fun a1 => ?_)
      · have a1 : linkOk s.robot.joints.length m.a = false := by simpa using a1
        rw [if_pos (all_not hm' (by simp [skipOk, a1]))]
        (conv => whnf)
        refine ret0 ?_
        exact ret_i rfl rfl
      have a1 : linkOk s.robot.joints.length m.a = true := by simpa using a1
      (conv => whnf)
      refine idx_and (by omega) (by simpa using hm') ?_
      (conv => whnf)
      refine call_i (ref_isLink s.robot m.b) ?_
      (conv => whnf)
      refine ask_m (fun a2 => ?_) (fun a2 => ?_)
      · have a2 : linkOk s.robot.joints.length m.b = false := by simpa using a2
        rw [if_pos (all_not hm' (by simp [skipOk, a2]))]
        (conv => whnf)
        refine ret0 ?_
        exact ret_i rfl rfl
      · have a2 : linkOk s.robot.joints.length m.b = true := by simpa using a2
        (conv => whnf)
        exact ⟨k + 1, [], ⟨hlt, all_take hall hm' (by simp [skipOk, a1, a2])⟩, by omega, ⟨⟨rfl, eqI hkk, trivial⟩, ⟨rfl, trivial⟩⟩⟩
    · have hk : k = s.skips.length := by simp at h4; omega
      subst hk
      rw [List.take_length] at hall
      rw [hall, if_neg (by simp)]
      (conv => whnf)
      refine ret0 ?_
      exact ret_i rfl rfl
end Go.Proofs.YtlfclainmbafiaaDoor

/- The reference's Chain, member, Between, Rigid. -/
namespace Go.Proofs.YtlfclainmbafiaaDoor
open Eng
set_option maxRecDepth 10000
attribute [local irreducible] FnOk loopW idxF retX arrF

def hasR (r : Robot) (ks : List Int) : Bool := ks.all (linkOk r.joints.length) && decide (checkRobot r = 0)
theorem hasR_good {r : Robot} {ks : List Int} (h : hasR r ks = true) : checkRobot r = 0 ∧ ∀ k ∈ ks, -1 ≤ k ∧ k < r.joints.length := by
  simp only [hasR, Bool.and_eq_true, List.all_eq_true, decide_eq_true_eq] at h
  exact ⟨h.2, fun k hk => link_bd (h.1 k hk)⟩
def chainR (r : Robot) (k : Int) : List Int := if hasR r [k] then chain r.joints k else []
theorem chain_len' {js : List Joint} (hd : downOk js) : ∀ k : Int, -1 ≤ k → k < js.length → ((chain js k).length : Int) ≤ k + 1 := by
  refine link_ind hd ?_ ?_
  · rw [chain_neg js (by decide)]; decide
  · intro k j hj ih
    obtain ⟨d1, d2⟩ := hd k j hj
    rw [chain_step hd hj, List.length_append, List.length_singleton]; omega
abbrev bIn (l : List Int) : Box := .rows Y.int 1 (l.map encI)
theorem ref_Chain (r : Robot) (k0 : Int) (hj : r.joints.length ≤ 4611686018427387904) (hm : r.masses.length ≤ 4611686018427387904) : FnOk Tryd.prog F.ref6_Chain [Ro r, I k0] [] 0 (.one (.row 0)) [(0, bIn (chainR r k0))] 1 := by
  refine fnOk tab mix G.ref6_Chain rfl rfl (by kernel_rfl) rfl rfl ?_
  (conv => whnf)
  refine call_i (ref_CheckRobot r hj hm) ?_
  (conv => whnf)
  refine ask_m (fun h1 => ?_) (fun h1 => ?_)
  · have h1 : ¬ checkRobot r = 0 := by simpa using h1
    have e : chainR r k0 = [] := by rw [chainR, hasR, decide_eq_false h1, Bool.and_false]; rfl
    rw [e]
    (conv => whnf)
    refine retO [.own 4 Y.int 1] ?_
    (conv => whnf)
    exact ⟨[(0, 1)], ⟨rfl, trivial⟩, ⟨rfl, trivial⟩⟩
  have h1 : checkRobot r = 0 := by simpa using h1
  obtain ⟨g1, g2, g3⟩ := robot_good h1
  (conv => whnf)
  refine call_i (ref_isLink r k0) ?_
  (conv => whnf)
  cases hk : linkOk r.joints.length k0 with
  | false =>
    have e : chainR r k0 = [] := by rw [chainR, hasR]; simp [hk]
    rw [e]
    (conv => whnf)
    (conv => whnf)
    refine retO [.own 4 Y.int 1] ?_
    (conv => whnf)
    exact ⟨[(0, 1)], ⟨rfl, trivial⟩, ⟨rfl, trivial⟩⟩
  | true =>
  have e : chainR r k0 = chain r.joints k0 := by rw [chainR, hasR]; simp [hk, h1]
  rw [e]
  have hk := link_bd hk
  (conv => whnf)
  refine loop_intro (fun p : Int × List Int => ⟨[(2, .one (.vptr 0 0)), (5, .one (.row 1)), (6, I p.1)], [(0, bRo r), (1, bIn p.2)], 2⟩) (fun p => -1 ≤ p.1 ∧ p.1 < r.joints.length ∧ p.2.length ≤ 100 - (p.1 + 1).toNat ∧ chain r.joints p.1 ++ p.2 = chain r.joints k0) (fun p => (p.1 + 1).toNat) [.own 5 Y.int 1] (k0, []) [] ⟨hk.1, hk.2, Nat.zero_le _, List.append_nil _⟩ ⟨⟨rfl, rfl, rfl, trivial⟩, ⟨rfl, rfl, trivial⟩⟩ ?_
  rintro ⟨k, xs⟩ ⟨hk1, hk2, hxl, hc⟩
  simp only at hk1 hk2 hxl hc
  (conv => whnf)
  refine ask_m (fun h => ?_) (fun h => ?_)
  · have h : ¬ k = -1 := by simpa using h
    obtain ⟨n, rfl⟩ : ∃ n : Nat, k = n := ⟨k.toNat, by omega⟩
    obtain ⟨j, hj'⟩ : ∃ j, r.joints[n]? = some j := ⟨_, List.getElem?_eq_getElem (by omega)⟩
    obtain ⟨d1, d2⟩ := g3 n j hj'
    rw [chain_step g3 hj', List.append_assoc] at hc
    (conv => whnf)
    refine ⟨⟨by simp; omega, by simp; omega⟩, ?_⟩
    (conv => whnf)
    refine idx_and (by omega) (by simpa using hj') ?_
    (conv => whnf)
    exact ⟨(j.parent, (n : Int) :: xs), [(1, 3)], ⟨d1, by simp only; omega, by simp only [List.length_cons]; omega, hc⟩, by simp only; omega, ⟨⟨rfl, rfl, rfl, trivial⟩, ⟨rfl, rfl, trivial⟩⟩⟩
  · have h : k = -1 := by simpa using h
    subst h
    rw [chain_neg _ (by decide), List.nil_append] at hc
    subst hc
    (conv => whnf)
    refine retO [] ?_
    (conv => whnf)
    exact ⟨[(0, 1)], ⟨rfl, trivial⟩, ⟨rfl, trivial⟩⟩
theorem ref_member (l : List Int) (x : Int) (hl : l.length ≤ 4611686018427387904) : FnOk Tryd.prog F.ref6_member [Li l, I x] [] 0 (Bo (decide (x ∈ l))) [] 0 := by
  refine fnOk tab mix G.ref6_member rfl rfl (by kernel_rfl) rfl rfl ?_
  (conv => whnf)
  refine loop_intro (fun k : Nat => ⟨[(0, Li l), (1, I x), (5, I k)], [], 0⟩) (fun k => k ≤ l.length ∧ x ∉ l.take k) (fun k => l.length - k) [] 0 [] ⟨Nat.zero_le _, by simp⟩ ⟨⟨rfl, rfl, rfl, trivial⟩, trivial⟩ ?_
  rintro k ⟨hk, hall⟩
  have hkk : IntKind.i64.wrap ((k : Int) + 1) = ((k + 1 : Nat) : Int) := by rw [w64] <;> omega
  (conv => whnf)
  refine ask_m (fun h => ?_) (fun h => ?_)
  · have hlt : k < l.length := by simpa using h
    obtain ⟨y, hy⟩ : ∃ y, l[k]? = some y := ⟨_, List.getElem?_eq_getElem hlt⟩
    (conv => whnf)
    refine idx_and (by omega) (by simpa using hy) ?_
    (conv => whnf)
    refine ask_m (fun he => ?_) (fun he => ?_)
    · have he : y = x := by simpa using he
      subst he
      (conv => whnf)
      refine ret0 ?_
      exact ret_b (by rw [decide_eq_true (List.mem_of_getElem? hy)]) rfl
    · have he : ¬ y = x := by simpa using he
      (conv => whnf)
      refine ⟨k + 1, [], ⟨hlt, ?_⟩, by omega, ⟨⟨rfl, rfl, eqI hkk, trivial⟩, trivial⟩⟩
      rw [List.take_add_one, hy]
      simp only [Option.toList_some, List.mem_append, List.mem_singleton, not_or]
      exact ⟨hall, fun e => he e.symm⟩
  · have hk : k = l.length := by simp at h; omega
    subst hk
    rw [List.take_length] at hall
    (conv => whnf)
    refine ret0 ?_
    exact ret_b (by rw [decide_eq_false hall]) rfl
def btwP (js : List Joint) (a b : Int) (i : Nat) : Bool := decide ((chain js a).count (i : Int) + (chain js b).count (i : Int) = 1)
theorem btwP_out {js : List Joint} (hd : downOk js) {a b : Int} (a1 : -1 ≤ a) (a2 : a < js.length) (b1 : -1 ≤ b) (b2 : b < js.length) {i : Nat} (hi : js.length ≤ i) : btwP js a b i = false := by
  have h1 : (i : Int) ∉ chain js a := fun h => by have := (chain_in hd a a1 a2).1 _ h; omega
  have h2 : (i : Int) ∉ chain js b := fun h => by have := (chain_in hd b b1 b2).1 _ h; omega
  rw [btwP, List.count_eq_zero.2 h1, List.count_eq_zero.2 h2]; rfl
theorem btwP_mem {js : List Joint} (hd : downOk js) {a b : Int} (a1 : -1 ≤ a) (a2 : a < js.length) (b1 : -1 ≤ b) (b2 : b < js.length) (i : Nat) : btwP js a b i = (decide ((i : Int) ∈ chain js a) != decide ((i : Int) ∈ chain js b)) := by
  rw [btwP, count_in (chain_in hd a a1 a2).2.1, count_in (chain_in hd b b1 b2).2.1]
  by_cases h1 : (i : Int) ∈ chain js a <;> by_cases h2 : (i : Int) ∈ chain js b <;> simp [h1, h2]
theorem filter_one (P : Nat → Bool) (x : Nat) : [x].filter P = if P x then [x] else [] := by cases h : P x <;> simp [h]
theorem filter_range {P : Nat → Bool} {n : Nat} (h : ∀ i, n ≤ i → P i = false) : ∀ d, (List.range (n + d)).filter P = (List.range n).filter P
  | 0 => rfl
  | d + 1 => by
    rw [← Nat.add_assoc, List.range_succ, List.filter_append, filter_range h d, filter_one, h _ (by omega)]; simp
theorem btw_eq {js : List Joint} (hl : js.length ≤ 10) (hd : downOk js) {a b : Int} (a1 : -1 ≤ a) (a2 : a < js.length) (b1 : -1 ≤ b) (b2 : b < js.length) : (List.range js.length).filter (btwP js a b) = btw js a b := by
  have := filter_range (P := btwP js a b) (n := js.length) (fun i hi => btwP_out hd a1 a2 b1 b2 hi) (10 - js.length)
  rw [show js.length + (10 - js.length) = 10 by omega] at this
  exact this.symm
def btwR (r : Robot) (a b : Int) : List Int := if hasR r [a, b] then (btw r.joints a b).map fun (i : Nat) => (i : Int) else []
theorem ref_Between (r : Robot) (a b : Int) (hj : r.joints.length ≤ 4611686018427387904) (hm : r.masses.length ≤ 4611686018427387904) : FnOk Tryd.prog F.ref6_Between [Ro r, I a, I b] [] 0 (.one (.row 0)) [(0, bIn (btwR r a b))] 1 := by
  refine fnOk tab mix G.ref6_Between rfl rfl (by kernel_rfl) rfl rfl ?_
  (conv => whnf)
  refine call_i (ref_CheckRobot r hj hm) ?_
  (conv => whnf)
  refine ask_m (fun h1 => ?_) (fun h1 => ?_)
  · have h1 : ¬ checkRobot r = 0 := by simpa using h1
    have e : btwR r a b = [] := by rw [btwR, hasR, decide_eq_false h1, Bool.and_false]; rfl
    rw [e]
    (conv => whnf)
    refine retO [.own 6 Y.int 1] ?_
    (conv => whnf)
    exact ⟨[(0, 1)], ⟨rfl, trivial⟩, ⟨rfl, trivial⟩⟩
  have h1 : checkRobot r = 0 := by simpa using h1
  obtain ⟨g1, g2, g3⟩ := robot_good h1
  (conv => whnf)
  refine call_i (ref_isLink r a) ?_
  (conv => whnf)
  cases ha : linkOk r.joints.length a with
  | false =>
    have e : btwR r a b = [] := by rw [btwR, hasR]; simp [ha]
    rw [e]
    (conv => whnf)
    (conv => whnf)
    refine retO [.own 6 Y.int 1] ?_
    (conv => whnf)
    exact ⟨[(0, 1)], ⟨rfl, trivial⟩, ⟨rfl, trivial⟩⟩
  | true =>
  (conv => whnf)
  refine call_i (ref_isLink r b) ?_
  (conv => whnf)
  cases hb : linkOk r.joints.length b with
  | false =>
    have e : btwR r a b = [] := by rw [btwR, hasR]; simp [hb]
    rw [e]
    (conv => whnf)
    (conv => whnf)
    refine retO [.own 6 Y.int 1] ?_
    (conv => whnf)
    exact ⟨[(0, 1)], ⟨rfl, trivial⟩, ⟨rfl, trivial⟩⟩
  | true =>
  have e : btwR r a b = (btw r.joints a b).map fun (i : Nat) => (i : Int) := by rw [btwR, hasR]; simp [ha, hb, h1]
  have ea : chainR r a = chain r.joints a := by rw [chainR, hasR]; simp [ha, h1]
  have eb : chainR r b = chain r.joints b := by rw [chainR, hasR]; simp [hb, h1]
  obtain ⟨a1, a2⟩ := link_bd ha
  obtain ⟨b1, b2⟩ := link_bd hb
  rw [e, ← btw_eq g1 g3 a1 a2 b1 b2]
  have hla := chain_len' g3 a a1 a2
  have hlb := chain_len' g3 b b1 b2
  (conv => whnf)
  refine call_i (ref_Chain r a hj hm) ?_
  (conv => whnf)
  refine call_i (ref_Chain r b hj hm) ?_
  (conv => whnf)
  rw [ea, eb]
  have hmem := btwP_mem g3 a1 a2 b1 b2
  generalize hP : btwP r.joints a b = P at *
  generalize chain r.joints a = ca at *
  generalize chain r.joints b = cb at *
  refine loop_intro (fun k : Nat => ⟨[(3, .one (.vptr 0 0)), (7, .one (.row 1)), (8, .one (.row 2)), (9, .one (.row 3)), (10, I k)], [(0, bRo r), (1, bIn ca), (2, bIn cb), (3, bIn (((List.range k).filter P).map fun (i : Nat) => (i : Int)))], 4⟩) (fun k => k ≤ r.joints.length) (fun k => r.joints.length - k) [.own 9 Y.int 1] 0 [] (Nat.zero_le _) ⟨⟨rfl, rfl, rfl, rfl, rfl, trivial⟩, ⟨rfl, rfl, rfl, rfl, trivial⟩⟩ ?_
  rintro k hk
  have hkk : IntKind.i64.wrap ((k : Int) + 1) = ((k + 1 : Nat) : Int) := by rw [w64] <;> omega
  have hfl : ((List.range k).filter P).length ≤ k := by
    have := List.length_filter_le P (List.range k)
    rw [List.length_range] at this; exact this
  (conv => whnf)
  refine ask_m (fun h => ?_) (fun h => ?_)
  · have hlt : k < r.joints.length := by simpa using h
    have hnx : (List.range (k + 1)).filter P = (List.range k).filter P ++ if P k then [k] else [] := by
      rw [List.range_succ, List.filter_append, filter_one]
    (conv => whnf)
    refine call_i (ref_member ca k (by omega)) ?_
    (conv => whnf)
    refine ⟨⟨trivial, trivial⟩, ?_⟩
    (conv => whnf)
    refine call_i (ref_member cb k (by omega)) ?_
    (conv => whnf)
    refine ⟨⟨trivial, trivial⟩, ?_⟩
    (conv => whnf)
    rw [hmem k] at hnx
    refine ask_m (fun hne => ?_) (fun hne => ?_)
    · have hne : (decide ((k : Int) ∈ ca) != decide ((k : Int) ∈ cb)) = true := by simpa [bne] using hne
      rw [hne, if_pos rfl] at hnx
      (conv => whnf)
      refine ⟨⟨by simp; omega, by simp; omega⟩, ?_⟩
      (conv => whnf)
      exact ⟨k + 1, [(3, 5)], hlt, by omega, ⟨⟨rfl, rfl, rfl, rfl, eqI hkk, trivial⟩, ⟨rfl, rfl, rfl, rows_eq (by rw [hnx, List.map_append, List.map_append]; rfl), trivial⟩⟩⟩
    · have hne : (decide ((k : Int) ∈ ca) != decide ((k : Int) ∈ cb)) = false := by simpa [bne] using hne
      rw [hne, if_neg (by decide), List.append_nil] at hnx
      (conv => whnf)
      exact ⟨k + 1, [], hlt, by omega, ⟨⟨rfl, rfl, rfl, rfl, eqI hkk, trivial⟩, ⟨rfl, rfl, rfl, rows_eq (by rw [hnx]), trivial⟩⟩⟩
  · have hk : k = r.joints.length := by simp at h; omega
    subst hk
    (conv => whnf)
    refine retO [] ?_
    (conv => whnf)
    exact ⟨[(0, 3)], ⟨rfl, trivial⟩, ⟨rfl, trivial⟩⟩
def rigidR (r : Robot) (a b : Int) : Bool := hasR r [a, b] && rigid r.joints a b
theorem lo_hi {r : Robot} (h : checkRobot r = 0) {k : Nat} {j : Joint} (hj : r.joints[k]? = some j) : j.lo ≤ j.hi := ((robot_facts h).2.1 k j hj).2.2.2.2.1.1
theorem ref_Rigid (r : Robot) (a b : Int) (hj : r.joints.length ≤ 4611686018427387904) (hm : r.masses.length ≤ 4611686018427387904) : FnOk Tryd.prog F.ref6_Rigid [Ro r, I a, I b] [] 0 (Bo (rigidR r a b)) [] 0 := by
  refine fnOk tab mix G.ref6_Rigid rfl rfl (by kernel_rfl) rfl rfl ?_
  (conv => whnf)
  refine call_i (ref_CheckRobot r hj hm) ?_
  (conv => whnf)
  refine ask_m (fun h1 => ?_) (fun h1 => ?_)
  · have h1 : ¬ checkRobot r = 0 := by simpa using h1
    (conv => whnf)
    refine ret0 ?_
    exact ret_b (by rw [rigidR, hasR, decide_eq_false h1, Bool.and_false, Bool.false_and]) rfl
  have h1 : checkRobot r = 0 := by simpa using h1
  obtain ⟨g1, g2, g3⟩ := robot_good h1
  (conv => whnf)
  refine call_i (ref_isLink r a) ?_
  (conv => whnf)
  cases ha : linkOk r.joints.length a with
  | false =>
    (conv => whnf)
    (conv => whnf)
    refine ret0 ?_
    exact ret_b (by rw [rigidR, hasR]; simp [ha]) rfl
  | true =>
  (conv => whnf)
  refine call_i (ref_isLink r b) ?_
  (conv => whnf)
  cases hb : linkOk r.joints.length b with
  | false =>
    (conv => whnf)
    (conv => whnf)
    refine ret0 ?_
    exact ret_b (by rw [rigidR, hasR]; simp [hb]) rfl
  | true =>
  have hh : hasR r [a, b] = true := by rw [hasR]; simp [ha, hb, h1]
  have e : btwR r a b = (btw r.joints a b).map fun (i : Nat) => (i : Int) := by rw [btwR, hh]; rfl
  obtain ⟨a1, a2⟩ := link_bd ha
  obtain ⟨b1, b2⟩ := link_bd hb
  have hbt : ∀ x ∈ btw r.joints a b, x < r.joints.length := by
    intro x hx
    rw [← btw_eq g1 g3 a1 a2 b1 b2] at hx
    exact List.mem_range.1 (List.mem_filter.1 hx).1
  have hbl : (btw r.joints a b).length ≤ 10 := by
    have := List.length_filter_le (btwP r.joints a b) (List.range 10)
    rw [List.length_range] at this
    exact this
  (conv => whnf)
  refine call_i (ref_Between r a b hj hm) ?_
  (conv => whnf)
  rw [e, rigidR, hh, Bool.true_and, rigid]
  generalize btw r.joints a b = bs at *
  refine loop_intro (fun k : Nat => ⟨[(3, .one (.vptr 0 0)), (7, .one (.row 1)), (8, I k)], [(0, bRo r), (1, bIn (bs.map fun (i : Nat) => (i : Int)))], 2⟩) (fun k => k ≤ bs.length ∧ (bs.take k).any (fun i => mov r.joints i) = false) (fun k => bs.length - k) [] 0 [] ⟨Nat.zero_le _, rfl⟩ ⟨⟨rfl, rfl, rfl, trivial⟩, ⟨rfl, rfl, trivial⟩⟩ ?_
  rintro k ⟨hk, hall⟩
  have hkk : IntKind.i64.wrap ((k : Int) + 1) = ((k + 1 : Nat) : Int) := by rw [w64] <;> omega
  (conv => whnf)
  refine ask_m (fun h => ?_) (fun h => ?_)
  · have hlt : k < bs.length := by simpa using h
    obtain ⟨i, hi⟩ : ∃ i, bs[k]? = some i := ⟨_, List.getElem?_eq_getElem hlt⟩
    have him := hbt i (List.mem_of_getElem? hi)
    obtain ⟨j, hj'⟩ : ∃ j, r.joints[i]? = some j := ⟨_, List.getElem?_eq_getElem him⟩
    have hmv := mov_at hj'
    have hlh := lo_hi h1 hj'
    have hik : (bs.map fun (i : Nat) => (i : Int))[k]? = some (i : Int) := by rw [List.getElem?_map, hi]; rfl
    (conv => whnf)
    refine ⟨⟨by omega, by simp; omega⟩, ?_⟩
    (conv => whnf)
    refine idx_map (by rw [Int.toNat_natCast]; exact hik) ?_
    (conv => whnf)
    refine idx_and (by omega) (by simpa using hj') ?_
    (conv => whnf)
    refine ⟨⟨by omega, by simp; omega⟩, ?_⟩
    (conv => whnf)
    refine idx_map (by rw [Int.toNat_natCast]; exact hik) ?_
    (conv => whnf)
    refine idx_and (by omega) (by simpa using hj') ?_
    (conv => whnf)
    refine ask_m (fun he => ?_) (fun he => ?_)
    · have he : j.lo < j.hi := of_decide_eq_true he
      rw [decide_eq_true (by omega)] at hmv
      (conv => whnf)
      refine ret0 ?_
      exact ret_b (by rw [any_yes hi hmv]; rfl) rfl
    · have he : ¬ j.lo < j.hi := of_decide_eq_false he
      rw [decide_eq_false (by omega)] at hmv
      (conv => whnf)
      exact ⟨k + 1, [], ⟨hlt, any_take hall hi hmv⟩, by omega, ⟨⟨rfl, rfl, eqI hkk, trivial⟩, ⟨rfl, rfl, trivial⟩⟩⟩
  · have hk : k = bs.length := by simp at h; omega
    subst hk
    rw [List.take_length] at hall
    (conv => whnf)
    refine ret0 ?_
    exact ret_b (by rw [hall]; rfl) rfl
end Go.Proofs.YtlfclainmbafiaaDoor

/- law8: Between, Rigid, Find; RobotBetween, RobotChains. -/
namespace Go.Proofs.YtlfclainmbafiaaDoor
open Eng
set_option maxRecDepth 10000
attribute [local irreducible] FnOk loopW idxF retX arrF findF

theorem mk_Same_int (a b : List Int) (ha : a.length ≤ 4611686018427387904) (hb : b.length ≤ 4611686018427387904) : FnOk Tryd.prog F.mk_Same_int [.one (.dv (.lst 1 (a.map encI))), .one (.dv (.lst 1 (b.map encI)))] [] 0 (Bo (decide (a = b))) [] 0 := by
  refine fnOk tab mix G.mk_Same_int rfl rfl (by kernel_rfl) rfl rfl ?_
  (conv => whnf)
  refine ask_m (fun h => ?_) (fun h => ?_)
  · (conv => whnf)
    refine ret0 ?_
    refine ret_b (Eq.symm (decide_eq_false ?_)) rfl
    rintro rfl
    simp at h
  have hl : a.length = b.length := by simp at h; omega
  (conv => whnf)
  refine loop_intro (fun k : Nat => ⟨[(0, .one (.dv (.lst 1 (a.map encI)))), (1, .one (.dv (.lst 1 (b.map encI)))), (5, I k)], [], 0⟩) (fun k => k ≤ a.length ∧ a.take k = b.take k) (fun k => a.length - k) [] 0 [] ⟨Nat.zero_le _, rfl⟩ ⟨⟨rfl, rfl, rfl, trivial⟩, trivial⟩ ?_
  rintro k ⟨hk, hall⟩
  (conv => whnf)
  refine ask_m (fun h => ?_) (fun h => ?_)
  · have hlt : k < a.length := by simpa using h
    obtain ⟨x, hx⟩ : ∃ j, a[k]? = some j := ⟨_, List.getElem?_eq_getElem hlt⟩
    obtain ⟨y, hy⟩ : ∃ j, b[k]? = some j := ⟨_, List.getElem?_eq_getElem (by omega)⟩
    have hkk : IntKind.i64.wrap ((k : Int) + 1) = ((k + 1 : Nat) : Int) := by rw [w64] <;> omega
    (conv => whnf)
    refine idx_and (by omega) (by simpa using hx) ?_
    (conv => whnf)
    refine idx_and (by omega) (by simpa using hy) ?_
    (conv => whnf)
    refine ask_m (fun h => ?_) (fun h => ?_)
    · (conv => whnf)
      refine ret0 ?_
      refine ret_b (Eq.symm (decide_eq_false (ne_at hx hy ?_))) rfl
      rintro rfl
      simp at h
    · skip
      have e : x = y := by simpa using h
      subst e
      (conv => whnf)
      exact ⟨k + 1, [], ⟨hlt, take_same hall hx hy⟩, by omega, ⟨⟨rfl, rfl, eqI hkk, trivial⟩, trivial⟩⟩
  · have hk : k = a.length := by simp at h; omega
    subst hk
    rw [List.take_length, hl, List.take_length] at hall
    (conv => whnf)
    refine ret0 ?_
    exact ret_b (decide_eq_true hall).symm rfl

theorem robot_Between (r : Robot) (a b : Int) (hj : r.joints.length ≤ 4611686018427387904) (hm : r.masses.length ≤ 4611686018427387904) : FnOk Tryd.prog F.robot_Between [Ro r, I a, I b] [] 0 (.one (.row 0)) [(0, bIn (btwR r a b))] 1 := by
  refine fnOk tab mix G.robot_Between rfl rfl (by kernel_rfl) rfl rfl ?_
  (conv => whnf)
  refine call_i (robot_has r [a, b] hj hm (by simp)) ?_
  (conv => whnf)
  refine ⟨⟨trivial, trivial⟩, ?_⟩
  (conv => whnf)
  cases hh : hasB r [a, b] with
  | false =>
    (conv => whnf)
    have e : btwR r a b = [] := by rw [btwR]; have : hasR r [a, b] = false := hh; rw [this]; rfl
    rw [e]
    (conv => whnf)
    refine retO [.own 6 Y.int 1] ?_
    (conv => whnf)
    exact ⟨[(0, 2)], ⟨rfl, trivial⟩, ⟨rfl, trivial⟩⟩
  | true =>
    obtain ⟨h1, h2⟩ := has_good hh
    obtain ⟨g1, g2, g3⟩ := robot_good h1
    have ha := h2 a (by simp)
    have hb := h2 b (by simp)
    have e : btwR r a b = (btw r.joints a b).map fun (i : Nat) => (i : Int) := by rw [btwR]; have : hasR r [a, b] = true := hh; rw [this]; rfl
    rw [e]
    (conv => whnf)
    refine call_i (robot_between r a b g1 g3 ha.1 ha.2 hb.1 hb.2) ?_
    (conv => whnf)
    (conv => whnf)
    refine retO [] ?_
    (conv => whnf)
    exact ⟨[(0, 2)], ⟨rfl, trivial⟩, ⟨rfl, trivial⟩⟩
theorem robot_RigidR (r : Robot) (a b : Int) (hj : r.joints.length ≤ 4611686018427387904) (hm : r.masses.length ≤ 4611686018427387904) : FnOk Tryd.prog F.robot_Rigid [Ro r, I a, I b] [] 0 (Bo (rigidR r a b)) [] 0 := by
  refine fnOkG [(1000018, [.frz 2])] tab mix G.robot_Rigid rfl rfl (by kernel_rfl) rfl rfl ?_
  (conv => whnf)
  refine call_i (robot_has r [a, b] hj hm (by simp)) ?_
  (conv => whnf)
  refine ⟨⟨trivial, trivial⟩, ?_⟩
  (conv => whnf)
  cases hh : hasB r [a, b] with
  | false =>
    (conv => whnf)
    (conv => whnf)
    refine ret0 ?_
    exact ret_b (by rw [rigidR]; have : hasR r [a, b] = false := hh; rw [this]; rfl) rfl
  | true =>
    obtain ⟨h1, h2⟩ := has_good hh
    obtain ⟨g1, g2, g3⟩ := robot_good h1
    have ha := h2 a (by simp)
    have hb := h2 b (by simp)
    have e : rigidR r a b = rigid r.joints a b := by rw [rigidR]; have : hasR r [a, b] = true := hh; rw [this]; rfl
    rw [e]
    (conv => whnf)
    refine call_i (robot_between r a b g1 g3 ha.1 ha.2 hb.1 hb.2) ?_
    (conv => whnf)
    rw [List.map_map]
    have hbt : ∀ x ∈ btw r.joints a b, x < r.joints.length := by
      intro x hx
      rw [← btw_eq g1 g3 ha.1 ha.2 hb.1 hb.2] at hx
      exact List.mem_range.1 (List.mem_filter.1 hx).1
    refine call_i (ints_ContainsFunc r (btw r.joints a b) (Nat.le_trans (List.length_filter_le _ _) (by simp)) hbt) ?_
    (conv => whnf)
    (conv => whnf)
    refine ret0 ?_
    exact ret_b rfl rfl
theorem ref_Find (r : Robot) (nm : ByteArray) (hl : r.joints.length ≤ 4611686018427387904) : FnOk Tryd.prog F.ref6_Find [Ro r, Tx nm] [] 0 (I (find r.joints nm 0)) [] 0 := by
  refine fnOk tab mix G.ref6_Find rfl rfl (by kernel_rfl) rfl rfl ?_
  (conv => whnf)
  refine loop_intro (fun k : Nat => ⟨[(1, Tx nm), (2, .one (.vptr 0 0)), (5, I k)], [(0, bRo r)], 1⟩) (fun k => k ≤ r.joints.length ∧ find r.joints nm 0 = find (r.joints.drop k) nm k) (fun k => r.joints.length - k) [] 0 [] ⟨Nat.zero_le _, rfl⟩ ⟨⟨rfl, rfl, rfl, trivial⟩, ⟨rfl, trivial⟩⟩ ?_
  rintro k ⟨hk, hf⟩
  have hkk : IntKind.i64.wrap ((k : Int) + 1) = ((k + 1 : Nat) : Int) := by rw [w64] <;> omega
  (conv => whnf)
  refine ask_m (fun h => ?_) (fun h => ?_)
  · have hlt : k < r.joints.length := by simpa using h
    obtain ⟨j, hj⟩ : ∃ j, r.joints[k]? = some j := ⟨_, List.getElem?_eq_getElem hlt⟩
    rw [drop_cons hj, find] at hf
    (conv => whnf)
    refine idx_and (by omega) (by simpa using hj) ?_
    (conv => whnf)
    refine ask_m (fun he => ?_) (fun he => ?_)
    · have he : j.name = nm := of_decide_eq_true he
      rw [if_pos he] at hf
      (conv => whnf)
      refine ret0 ?_
      exact ret_i hf.symm rfl
    · have he : ¬ j.name = nm := of_decide_eq_false he
      rw [if_neg he] at hf
      (conv => whnf)
      exact ⟨k + 1, [], ⟨hlt, hf⟩, by omega, ⟨⟨rfl, rfl, eqI hkk, trivial⟩, ⟨rfl, trivial⟩⟩⟩
  · have hk : k = r.joints.length := by simp at h; omega
    subst hk
    rw [List.drop_length, find] at hf
    (conv => whnf)
    refine ret0 ?_
    exact ret_i hf.symm rfl
theorem chainR_len (r : Robot) (k : Int) : (chainR r k).length ≤ 100 := by
  rw [chainR]
  split
  · rename_i h
    obtain ⟨h1, h2⟩ := hasR_good h
    obtain ⟨g1, g2, g3⟩ := robot_good h1
    have h3 := h2 k (by simp)
    have := chain_len g3 k h3.1 h3.2
    omega
  · simp
theorem btw_len (js : List Joint) (a b : Int) : (btw js a b).length ≤ 10 := by
  have := List.length_filter_le (btwP js a b) (List.range 10)
  rw [List.length_range] at this
  exact this
theorem btwR_len (r : Robot) (a b : Int) : (btwR r a b).length ≤ 100 := by
  rw [btwR]
  split
  · have := btw_len r.joints a b
    rw [List.length_map]; omega
  · simp
theorem law8_chains (r : Robot) (nm : ByteArray) (a b : Int) (hj : r.joints.length ≤ 4611686018427387904) (hm : r.masses.length ≤ 4611686018427387904) : FnOk Tryd.prog F.law8_chains [Ro r, Tx nm, I a, I b] [] 0 (Bo true) [] 0 := by
  refine fnOk tab mix G.law8_chains rfl rfl (by kernel_rfl) rfl rfl ?_
  (conv => whnf)
  have l1 := chainR_len r a
  have l2 := btwR_len r a b
  refine call_i (robot_Find r nm hj) ?_
  (conv => whnf)
  refine call_i (ref_Find r nm hj) ?_
  (conv => whnf)
  refine ask_mt (by simp) ?_
  (conv => whnf)
  refine call_i (robot_Chain r a hj hm) ?_
  (conv => whnf)
  refine call_i (ref_Chain r a hj hm) ?_
  (conv => whnf)
  refine call_i (mk_Same_int (chainR r a) (chainR r a) (by omega) (by omega)) ?_
  (conv => whnf)
  refine ⟨⟨trivial, trivial⟩, ?_⟩
  (conv => whnf)
  rw [decide_eq_true rfl]
  (conv => whnf)
  refine call_i (robot_Between r a b hj hm) ?_
  (conv => whnf)
  refine call_i (ref_Between r a b hj hm) ?_
  (conv => whnf)
  refine call_i (mk_Same_int (btwR r a b) (btwR r a b) (by omega) (by omega)) ?_
  (conv => whnf)
  refine ⟨⟨trivial, trivial⟩, ?_⟩
  (conv => whnf)
  rw [decide_eq_true rfl]
  (conv => whnf)
  refine call_i (robot_RigidR r a b hj hm) ?_
  (conv => whnf)
  refine call_i (ref_Rigid r a b hj hm) ?_
  (conv => whnf)
  (conv => whnf)
  refine ret0 ?_
  exact ret_b (by simp) rfl
theorem law8_Chains (raw : Robot) (nm : ByteArray) (a b : Int) (l : List Int) (hr : raw.joints.length ≤ 140737488351232 ∧ raw.masses.length ≤ 140737488351232) (hn : nm.size ≤ 140737488351232) (ha : True) (hb : True) (hl : l.length ≤ 17592186044416) : FnOk Tryd.prog F.law8_RobotChains [Ro raw, Tx nm, I a, I b, Li l] [] 0 (Bo true) [] 0 := by
  refine fnOk tab mix G.law8_RobotChains rfl rfl (by kernel_rfl) rfl rfl ?_
  (conv => whnf)
  refine call_i (mk_Robot l (by omega)) ?_
  (conv => whnf)
  have hok := mkRobot_ok l 0
  obtain ⟨g1, _, g3, _⟩ := robot_facts hok
  generalize mkRobot l 0 = r at *
  refine call_i (mk_Round a 6 (by decide) (by decide)) ?_
  (conv => whnf)
  refine call_i (mk_Round b 6 (by decide) (by decide)) ?_
  (conv => whnf)
  refine call_i (law8_awake) ?_
  (conv => whnf)
  refine call_i (law8_chains raw nm a b (by omega) (by omega)) ?_
  (conv => whnf)
  refine call_i (law8_chains raw ⟨#[97]⟩ (IntKind.i64.wrap (a % 6 - 2)) (IntKind.i64.wrap (b % 6 - 2)) (by omega) (by omega)) ?_
  (conv => whnf)
  refine call_i (law8_chains r ⟨#[98]⟩ (IntKind.i64.wrap (a % 6 - 2)) (IntKind.i64.wrap (b % 6 - 2)) (by omega) (by omega)) ?_
  (conv => whnf)
  refine call_i (law8_chains r nm a b (by omega) (by omega)) ?_
  (conv => whnf)
  (conv => whnf)
  refine ret0 ?_
  exact ret_b rfl rfl
theorem law8_member (l : List Int) (x : Int) (hl : l.length ≤ 4611686018427387904) : FnOk Tryd.prog F.law8_member [Li l, I x] [] 0 (Bo (decide (x ∈ l))) [] 0 := by
  refine fnOk tab mix G.law8_member rfl rfl (by kernel_rfl) rfl rfl ?_
  (conv => whnf)
  refine loop_intro (fun k : Nat => ⟨[(0, Li l), (1, I x), (5, I k)], [], 0⟩) (fun k => k ≤ l.length ∧ x ∉ l.take k) (fun k => l.length - k) [] 0 [] ⟨Nat.zero_le _, by simp⟩ ⟨⟨rfl, rfl, rfl, trivial⟩, trivial⟩ ?_
  rintro k ⟨hk, hall⟩
  have hkk : IntKind.i64.wrap ((k : Int) + 1) = ((k + 1 : Nat) : Int) := by rw [w64] <;> omega
  (conv => whnf)
  refine ask_m (fun h => ?_) (fun h => ?_)
  · have hlt : k < l.length := by simpa using h
    obtain ⟨y, hy⟩ : ∃ y, l[k]? = some y := ⟨_, List.getElem?_eq_getElem hlt⟩
    (conv => whnf)
    refine idx_and (by omega) (by simpa using hy) ?_
    (conv => whnf)
    refine ask_m (fun he => ?_) (fun he => ?_)
    · have he : y = x := by simpa using he
      subst he
      (conv => whnf)
      refine ret0 ?_
      exact ret_b (by rw [decide_eq_true (List.mem_of_getElem? hy)]) rfl
    · have he : ¬ y = x := by simpa using he
      (conv => whnf)
      refine ⟨k + 1, [], ⟨hlt, ?_⟩, by omega, ⟨⟨rfl, rfl, eqI hkk, trivial⟩, trivial⟩⟩
      rw [List.take_add_one, hy]
      simp only [Option.toList_some, List.mem_append, List.mem_singleton, not_or]
      exact ⟨hall, fun e => he e.symm⟩
  · have hk : k = l.length := by simp at h; omega
    subst hk
    rw [List.take_length] at hall
    (conv => whnf)
    refine ret0 ?_
    exact ret_b (by rw [decide_eq_false hall]) rfl
theorem btw_sym (js : List Joint) (a b : Int) : btw js a b = btw js b a := by
  rw [btw, btw]
  refine List.filter_congr fun i _ => ?_
  rw [Nat.add_comm]
theorem btw_self {js : List Joint} (a : Int) : btw js a a = [] := by
  rw [btw, List.filter_eq_nil_iff]
  intro i _
  simp; omega
theorem mem_btw {js : List Joint} (hl : js.length ≤ 10) (hd : downOk js) {a b : Int} (a1 : -1 ≤ a) (a2 : a < js.length) (b1 : -1 ≤ b) (b2 : b < js.length) (i : Nat) (hi : i < 10) : ((i : Int) ∈ (btw js a b).map fun (i : Nat) => (i : Int)) ↔ (decide ((i : Int) ∈ chain js a) != decide ((i : Int) ∈ chain js b)) = true := by
  rw [← btwP_mem hd a1 a2 b1 b2 i]
  constructor
  · intro h
    obtain ⟨k, hk, e⟩ := List.mem_map.1 h
    have : k = i := by omega
    subst this
    exact (List.mem_filter.1 hk).2
  · intro h
    exact List.mem_map.2 ⟨i, List.mem_filter.2 ⟨List.mem_range.2 hi, h⟩, rfl⟩
theorem bxor3 : ∀ p q s : Bool, (p != q) = true → decide ((p != s) = true) ≠ decide ((s != q) = true) := by
  intro p q s h
  cases p <;> cases q <;> cases s <;> first | (exact absurd h (by decide)) | decide
theorem law8_Between (l : List Int) (a b c : Int) (hl : l.length ≤ 17592186044416) (ha : True) (hb : True) (hc : True) : FnOk Tryd.prog F.law8_RobotBetween [Li l, I a, I b, I c] [] 0 (Bo true) [] 0 := by
  refine fnOk tab mix G.law8_RobotBetween rfl rfl (by kernel_rfl) rfl rfl ?_
  (conv => whnf)
  refine call_i (mk_Robot l (by omega)) ?_
  (conv => whnf)
  have hok := mkRobot_ok l 0
  obtain ⟨m1, _, m3, _⟩ := robot_facts hok
  obtain ⟨g1, g2, g3⟩ := robot_good hok
  generalize mkRobot l 0 = r at *
  have en : IntKind.i64.wrap ((((r.joints.map encJ).length : Nat) : Int) + 1) = (r.joints.length : Int) + 1 := by rw [List.length_map, w64] <;> omega
  rw [en]
  have hlink : ∀ q : Int, ∃ x : Int, IntKind.i64.wrap (q % ((r.joints.length : Int) + 1) - 1) = x ∧ -1 ≤ x ∧ x < r.joints.length := fun q => by
    have e1 := Int.emod_nonneg q (b := (r.joints.length : Int) + 1) (by omega)
    have e2 := Int.emod_lt_of_pos q (b := (r.joints.length : Int) + 1) (by omega)
    exact ⟨_, rfl, by rw [w64] <;> omega, by rw [w64] <;> omega⟩
  obtain ⟨x, ex, x1, x2⟩ := hlink a
  obtain ⟨y, ey, y1, y2⟩ := hlink b
  obtain ⟨z, ez, z1, z2⟩ := hlink c
  refine call_i (mk_Round a ((r.joints.length : Int) + 1) (by omega) (by omega)) ?_
  (conv => whnf)
  refine call_i (mk_Round b ((r.joints.length : Int) + 1) (by omega) (by omega)) ?_
  (conv => whnf)
  refine call_i (mk_Round c ((r.joints.length : Int) + 1) (by omega) (by omega)) ?_
  (conv => whnf)
  rw [ex, ey, ez]
  have hbt : ∀ p q : Int, -1 ≤ p → p < r.joints.length → -1 ≤ q → q < r.joints.length → btwR r p q = (btw r.joints p q).map fun (i : Nat) => (i : Int) := fun p q p1 p2 q1 q2 => by
    rw [btwR, if_pos]
    simp [hasR, hok, linkOk, p1, p2, q1, q2]
  refine call_i (robot_Between r x y (by omega) (by omega)) ?_
  (conv => whnf)
  refine call_i (robot_Between r x z (by omega) (by omega)) ?_
  (conv => whnf)
  refine call_i (robot_Between r z y (by omega) (by omega)) ?_
  (conv => whnf)
  refine call_i (robot_Between r y x (by omega) (by omega)) ?_
  (conv => whnf)
  rw [hbt x y x1 x2 y1 y2, hbt x z x1 x2 z1 z2, hbt z y z1 z2 y1 y2, hbt y x y1 y2 x1 x2, btw_sym r.joints y x]
  have l1 := btw_len r.joints x y
  have l2 := btw_len r.joints x z
  have l3 := btw_len r.joints z y
  refine call_i (mk_Same_int ((btw r.joints x y).map fun (i : Nat) => (i : Int)) ((btw r.joints x y).map fun (i : Nat) => (i : Int)) (by rw [List.length_map]; omega) (by rw [List.length_map]; omega)) ?_
  (conv => whnf)
  refine ⟨⟨trivial, trivial⟩, ?_⟩
  (conv => whnf)
  rw [decide_eq_true rfl]
  (conv => whnf)
  refine call_i (robot_Between r x x (by omega) (by omega)) ?_
  (conv => whnf)
  rw [hbt x x x1 x2 x1 x2, btw_self]
  (conv => whnf)
  have hmb : ∀ k (i : Nat), (btw r.joints x y)[k]? = some i → decide ((i : Int) ∈ (btw r.joints x z).map fun (i : Nat) => (i : Int)) ≠ decide ((i : Int) ∈ (btw r.joints z y).map fun (i : Nat) => (i : Int)) := fun k i hi => by
    have hm := List.mem_filter.1 (List.mem_of_getElem? hi)
    have hi10 := List.mem_range.1 hm.1
    have h1 := (mem_btw g1 g3 x1 x2 y1 y2 i hi10).1 (List.mem_map.2 ⟨i, List.mem_of_getElem? hi, rfl⟩)
    rw [decide_eq_decide.2 (mem_btw g1 g3 x1 x2 z1 z2 i hi10), decide_eq_decide.2 (mem_btw g1 g3 z1 z2 y1 y2 i hi10)]
    exact bxor3 _ _ _ h1
  generalize btw r.joints x y = u at *
  generalize (btw r.joints x z) = v at *
  generalize (btw r.joints z y) = w at *
  refine loop_intro (fun k : Nat => ⟨[(9, .one (.vptr 0 0)), (11, I x), (14, .one (.row 1)), (15, .one (.row 2)), (16, .one (.row 3)), (17, I k)], [(0, bRo r), (1, bIn (u.map fun (i : Nat) => (i : Int))), (2, bIn (v.map fun (i : Nat) => (i : Int))), (3, bIn (w.map fun (i : Nat) => (i : Int)))], 4⟩) (fun k => k ≤ u.length) (fun k => u.length - k) [] 0 [] (Nat.zero_le _) ⟨⟨rfl, rfl, rfl, rfl, rfl, rfl, trivial⟩, ⟨rfl, rfl, rfl, rfl, trivial⟩⟩ ?_
  rintro k hk
  have hkk : IntKind.i64.wrap ((k : Int) + 1) = ((k + 1 : Nat) : Int) := by rw [w64] <;> omega
  (conv => whnf)
  refine ask_m (fun h => ?_) (fun h => ?_)
  · have hlt : k < u.length := by simpa using h
    obtain ⟨i, hi⟩ : ∃ i, u[k]? = some i := ⟨_, List.getElem?_eq_getElem hlt⟩
    have hik : (u.map fun (i : Nat) => (i : Int))[k]? = some (i : Int) := by rw [List.getElem?_map, hi]; rfl
    (conv => whnf)
    refine ⟨⟨by omega, by simp; omega⟩, ?_⟩
    (conv => whnf)
    refine idx_map (by rw [Int.toNat_natCast]; exact hik) ?_
    (conv => whnf)
    refine call_i (law8_member (v.map fun (i : Nat) => (i : Int)) i (by rw [List.length_map]; omega)) ?_
    (conv => whnf)
    refine ⟨⟨trivial, trivial⟩, ?_⟩
    (conv => whnf)
    refine ⟨⟨by omega, by simp; omega⟩, ?_⟩
    (conv => whnf)
    refine idx_map (by rw [Int.toNat_natCast]; exact hik) ?_
    (conv => whnf)
    refine call_i (law8_member (w.map fun (i : Nat) => (i : Int)) i (by rw [List.length_map]; omega)) ?_
    (conv => whnf)
    refine ⟨⟨trivial, trivial⟩, ?_⟩
    (conv => whnf)
    refine ask_mf (by simpa using hmb k i hi) ?_
    (conv => whnf)
    exact ⟨k + 1, [], hlt, by omega, ⟨⟨rfl, rfl, rfl, rfl, rfl, eqI hkk, trivial⟩, ⟨rfl, rfl, rfl, rfl, trivial⟩⟩⟩
  · (conv => whnf)
    refine call_i (law8_awake) ?_
    (conv => whnf)
    refine call_i (robot_RigidR r x x (by omega) (by omega)) ?_
    (conv => whnf)
    have hrg : rigidR r x x = true := by
      rw [rigidR, rigid, btw_self]
      simp [hasR, hok, linkOk, x1, x2]
    (conv => whnf)
    refine ret0 ?_
    exact ret_b hrg rfl
end Go.Proofs.YtlfclainmbafiaaDoor

/- ref.numbers, ref.readJoint. -/
namespace Go.Proofs.YtlfclainmbafiaaDoor
open Eng
set_option maxRecDepth 10000
attribute [local irreducible] FnOk loopW idxF retX arrF findF

theorem ref_numbers (ws : List ByteArray) (hl : ws.length ≤ 1000) (hs : ∀ w ∈ ws, w.size ≤ 4611686018427387904) : FnOk Tryd.prog F.ref6_numbers [.one (.dv (.lst 1 (ws.map encA)))] [] 0 (NsR (numsOf numOf ws)) [] 0 := by
  refine fnOk tab mix G.ref6_numbers rfl rfl (by kernel_rfl) rfl rfl ?_
  (conv => whnf)
  refine loop_intro (fun k : Nat => ⟨[(0, .one (.dv (.lst 1 (ws.map encA)))), (2, .one (.nil 1)), (4, .one (.row 0)), (5, I k)], [(0, .rows Y.int64 1 (((ws.take k).map fun w => (numOf w).1).map encI))], 1⟩) (fun k => k ≤ ws.length ∧ ((ws.take k).all fun w => (numOf w).2) = true) (fun k => ws.length - k) [.own 4 Y.int64 1] 0 [] ⟨Nat.zero_le _, rfl⟩ ⟨⟨rfl, rfl, rfl, rfl, trivial⟩, ⟨rfl, trivial⟩⟩ ?_
  rintro k ⟨hk, hall⟩
  have hkk : IntKind.i64.wrap ((k : Int) + 1) = ((k + 1 : Nat) : Int) := by rw [w64] <;> omega
  (conv => whnf)
  refine ask_m (fun h => ?_) (fun h => ?_)
  · have hlt : k < ws.length := by have := of_decide_eq_true h; simp at this; omega
    obtain ⟨w, hw⟩ : ∃ w, ws[k]? = some w := ⟨_, List.getElem?_eq_getElem hlt⟩
    (conv => whnf)
    refine idx_and (by omega) (by simpa using hw) ?_
    (conv => whnf)
    refine call_i (ref_Number w (hs w (List.mem_of_getElem? hw))) ?_
    (conv => whnf)
    cases hb : (numOf w).2 with
    | false =>
      (conv => whnf)
      rw [numsOf_not hw hb]
      (conv => whnf)
      refine retO [.own 2 Y.int64 1, .frz 1] ?_
      (conv => whnf)
      exact ⟨[], ⟨rfl, trivial⟩, trivial⟩
    | true =>
      (conv => whnf)
      refine ⟨⟨by simp; omega, by simp; omega⟩, ?_⟩
      (conv => whnf)
      refine ⟨k + 1, [(0, 2)], ⟨hlt, all_take hall hw hb⟩, by omega, ⟨⟨rfl, rfl, rfl, eqI hkk, trivial⟩, ⟨rows_eq ?_, trivial⟩⟩⟩
      rw [map_take1 _ hw, List.map_append]; rfl
  · have hk : k = ws.length := by have := of_decide_eq_false h; simp at this; omega
    subst hk
    rw [List.take_length] at hall
    rw [numsOf_all hall, List.take_length]
    (conv => whnf)
    (conv => whnf)
    refine retO [.frz 0] ?_
    (conv => whnf)
    exact ⟨[], ⟨rfl, trivial⟩, trivial⟩
def refJ (js : List Joint) (n k p x y z lo hi w : ByteArray) : Joint × Int :=
  if nameOk n = false ∨ 0 ≤ find js n 0 then (⟨n, 0, 0, ⟨0, 0, 0⟩, 0, 0, 0, 65536, 65536, 65536⟩, 802)
  else if kindI k < 0 then (⟨n, kindI k, 0, ⟨0, 0, 0⟩, 0, 0, 0, 65536, 65536, 65536⟩, 803)
  else if p ≠ worldT ∧ find js p 0 < 0 then (⟨n, kindI k, find js p 0, ⟨0, 0, 0⟩, 0, 0, 0, 65536, 65536, 65536⟩, 810)
  else if ¬ (([x, y, z, lo, hi].all fun w => (numOf w).2) = true ∧ (intOf w).2 = true) then (⟨n, kindI k, if p = worldT then -1 else find js p 0, ⟨0, 0, 0⟩, 0, 0, 0, 65536, 65536, 65536⟩, 809)
  else (⟨n, kindI k, if p = worldT then -1 else find js p 0, ⟨(numOf x).1, (numOf y).1, (numOf z).1⟩, (numOf lo).1, (numOf hi).1, (intOf w).1, 65536, 65536, 65536⟩, 0)
theorem refJ_read (js : List Joint) (n k p x y z lo hi w : ByteArray) : (refJ js n k p x y z lo hi w).2 = (readJ js [n, k, p, x, y, z, lo, hi, w]).1 ∧ ((readJ js [n, k, p, x, y, z, lo, hi, w]).1 = 0 → (readJ js [n, k, p, x, y, z, lo, hi, w]).2 = js ++ [(refJ js n k p x y z lo hi w).1]) := by
  unfold refJ readJ
  simp only
  split
  · exact ⟨rfl, fun h => absurd h (by show ¬ (802 : Int) = 0; decide)⟩
  split
  · exact ⟨rfl, fun h => absurd h (by show ¬ (803 : Int) = 0; decide)⟩
  split
  · exact ⟨rfl, fun h => absurd h (by show ¬ (810 : Int) = 0; decide)⟩
  split
  · exact ⟨rfl, fun h => absurd h (by show ¬ (809 : Int) = 0; decide)⟩
  · exact ⟨rfl, fun _ => rfl⟩
theorem neW {p : ByteArray} (h : p ≠ worldT) : (!decide (p = worldT)) = true := by simp [h]
theorem eqW {p : ByteArray} (h : p = worldT) : (!decide (p = worldT)) = false := by simp [h]
abbrev JR (q : Joint × Int) : SV := .tup [(true, (encJ q.1).map CV.dv), (false, [.dv (.int .i64 q.2)])]
theorem ref_readJoint (r : Robot) (n k p x y z lo hi w : ByteArray) (hr : r.joints.length ≤ 1000000000) (hs : ∀ u ∈ [x, y, z, lo, hi], u.size ≤ 4611686018427387904) (hw : w.size ≤ 4611686018427387904) : FnOk Tryd.prog F.ref6_readJoint [Ro r, .one (.dv (dAs [n, k, p, x, y, z, lo, hi, w]))] [] 0 (JR (refJ r.joints n k p x y z lo hi w)) [] 0 := by
  refine fnOk tab mix G.ref6_readJoint rfl rfl (by kernel_rfl) rfl rfl ?_
  (conv => whnf)
  refine idx_and (xs := [n, k, p, x, y, z, lo, hi, w]) (x := n) (by decide) rfl ?_
  (conv => whnf)
  refine idx_and (xs := [n, k, p, x, y, z, lo, hi, w]) (x := n) (by decide) rfl ?_
  (conv => whnf)
  refine call_i (ref_Name n) ?_
  (conv => whnf)
  cases hn : nameOk n with
  | false =>
    (conv => whnf)
    rw [refJ, if_pos (.inl hn)]
    (conv => whnf)
    refine retO [] ?_
    (conv => whnf)
    exact ⟨[], ⟨rfl, trivial⟩, trivial⟩
  | true =>
  (conv => whnf)
  refine idx_and (xs := [n, k, p, x, y, z, lo, hi, w]) (x := n) (by decide) rfl ?_
  (conv => whnf)
  refine call_i (ref_Find r n (by omega)) ?_
  (conv => whnf)
  refine ask_m (fun h => ?_) (fun h => ?_)
  · have h : 0 ≤ find r.joints n 0 := of_decide_eq_true h
    rw [refJ, if_pos (.inr h)]
    (conv => whnf)
    refine retO [] ?_
    (conv => whnf)
    exact ⟨[], ⟨rfl, trivial⟩, trivial⟩
  have h : ¬ 0 ≤ find r.joints n 0 := of_decide_eq_false h
  rw [refJ, if_neg (by rw [hn]; simp; omega)]
  (conv => whnf)
  refine idx_and (xs := [n, k, p, x, y, z, lo, hi, w]) (x := k) (by decide) rfl ?_
  (conv => whnf)
  refine call_i (ref_kindOf k) ?_
  (conv => whnf)
  refine ask_m (fun hk => ?_) (fun hk => ?_)
  · have hk : kindI k < 0 := of_decide_eq_true hk
    rw [if_pos hk]
    (conv => whnf)
    refine retO [] ?_
    (conv => whnf)
    exact ⟨[], ⟨rfl, trivial⟩, trivial⟩
  have hk : ¬ kindI k < 0 := of_decide_eq_false hk
  rw [if_neg hk]
  (conv => whnf)
  refine idx_and (xs := [n, k, p, x, y, z, lo, hi, w]) (x := p) (by decide) rfl ?_
  (conv => whnf)
  by_cases hc : p ≠ worldT ∧ find r.joints p 0 < 0
  · rw [if_pos hc]
    refine ask_mt (neW hc.1) ?_
    (conv => whnf)
    refine idx_and (xs := [n, k, p, x, y, z, lo, hi, w]) (x := p) (by decide) rfl ?_
    (conv => whnf)
    refine call_i (ref_Find r p (by omega)) ?_
    (conv => whnf)
    refine ask_mt (decide_eq_true hc.2) ?_
    (conv => whnf)
    refine retO [] ?_
    (conv => whnf)
    exact ⟨[], ⟨rfl, trivial⟩, trivial⟩
  rw [if_neg hc]
  by_cases hp : p = worldT
  case' pos =>
    refine ask_mf (eqW hp) ?_
    rw [if_pos hp]
  case' neg =>
    refine ask_mt (neW hp) ?_
    (conv => whnf)
    refine idx_and (xs := [n, k, p, x, y, z, lo, hi, w]) (x := p) (by decide) rfl ?_
    (conv => whnf)
    refine call_i (ref_Find r p (by omega)) ?_
    (conv => whnf)
    have h0 : ¬ find r.joints p 0 < 0 := fun h => hc ⟨hp, h⟩
    refine ask_mf (decide_eq_false h0) ?_
    rw [if_neg hp]
  all_goals
    (conv => whnf)
    refine ⟨⟨by decide, by decide, by simp⟩, ?_⟩
    (conv => whnf)
    refine call_i (ref_numbers [x, y, z, lo, hi] (by simp) hs) ?_
    (conv => whnf)
    refine idx_and (xs := [n, k, p, x, y, z, lo, hi, w]) (x := w) (by decide) rfl ?_
    (conv => whnf)
    refine call_i (ref_Integer w hw) ?_
    (conv => whnf)
    cases hall : [x, y, z, lo, hi].all fun w => (numOf w).2 with
    | false =>
      have hno : numsOf numOf [x, y, z, lo, hi] = none := by
        obtain ⟨w, hw, hb⟩ := List.all_eq_false.1 hall
        obtain ⟨k, hk⟩ := List.getElem?_of_mem hw
        exact numsOf_not hk (by simpa using hb)
      rw [hno]
      (conv => whnf)
      rw [if_pos (by simp)]
      (conv => whnf)
      refine retO [] ?_
      (conv => whnf)
      exact ⟨[], ⟨rfl, trivial⟩, trivial⟩
    | true =>
    rw [numsOf_all hall]
    (conv => whnf)
    cases hw2 : (intOf w).2 with
    | false =>
      (conv => whnf)
      rw [if_pos (by simp)]
      (conv => whnf)
      refine retO [] ?_
      (conv => whnf)
      exact ⟨[], ⟨rfl, trivial⟩, trivial⟩
    | true =>
    rw [if_neg (by simp)]
    (conv => whnf)
    refine idx_and (xs := [x, y, z, lo, hi].map fun w => (numOf w).1) (x := (numOf x).1) (by decide) rfl ?_
    (conv => whnf)
    refine idx_and (xs := [x, y, z, lo, hi].map fun w => (numOf w).1) (x := (numOf y).1) (by decide) rfl ?_
    (conv => whnf)
    refine idx_and (xs := [x, y, z, lo, hi].map fun w => (numOf w).1) (x := (numOf z).1) (by decide) rfl ?_
    (conv => whnf)
    refine idx_and (xs := [x, y, z, lo, hi].map fun w => (numOf w).1) (x := (numOf lo).1) (by decide) rfl ?_
    (conv => whnf)
    refine idx_and (xs := [x, y, z, lo, hi].map fun w => (numOf w).1) (x := (numOf hi).1) (by decide) rfl ?_
    (conv => whnf)
    (conv => whnf)
    refine retO [] ?_
    (conv => whnf)
    exact ⟨[], ⟨rfl, trivial⟩, trivial⟩
end Go.Proofs.YtlfclainmbafiaaDoor

/- ref.ReadRobot. -/
namespace Go.Proofs.YtlfclainmbafiaaDoor
open Eng
set_option maxRecDepth 10000
attribute [local irreducible] FnOk loopW idxF retX arrF findF

theorem isLit {w c d : ByteArray} (h : w = c) (e : c = d) : decide (w = d) = true := decide_eq_true (h.trans e)
theorem noLit {w c d : ByteArray} (h : w ≠ c) (e : c = d) : decide (w = d) = false := decide_eq_false (by rw [← e]; exact h)
theorem flJ (q : Joint × Int) : FlatS (JR q) := by
  intro t ht c hc
  simp only [List.mem_cons, List.not_mem_nil, or_false] at ht
  rcases ht with rfl | rfl
  · simp only [encJ, List.map_cons, List.map_nil, List.mem_cons, List.not_mem_nil, or_false] at hc
    rcases hc with rfl | rfl | rfl | rfl | rfl | rfl | rfl | rfl | rfl | rfl | rfl | rfl <;> trivial
  · simp only [List.mem_cons, List.not_mem_nil, or_false] at hc
    subst hc; trivial
set_option maxHeartbeats 2000000 in
theorem ref_ReadRobot (l : List Stmt) (hl : l.length ≤ 10000000) (hs : ∀ s ∈ l, stOk s) : FnOk Tryd.prog F.ref6_ReadRobot [.one (.dv (dSts l))] [] 0 (RdR (readRobot l)) [] 0 := by
  refine fnOk tab mix G.ref6_ReadRobot rfl rfl (by kernel_rfl) rfl rfl ?_
  (conv => whnf)
  refine loop_intro (fun p : Nat × Robot => ⟨[(0, .one (.dv (dSts l))), (2, .one (.vptr 0 0)), (3, .one (.vptr 1 0)), (4, .one (.vptr 2 0)), (5, I p.1)], [(0, .vars Y.Robot [.nil 12, .nil 5]), (1, .vars Y.SourceError [.dv (.int .i64 0), .dv (.int .i64 0)]), (2, .vars Y.Robot [.row 3, .row 4]), (3, .rows Y.Joint 12 (p.2.joints.map encJ)), (4, .rows Y.Mass 5 (p.2.masses.map encM))], 5⟩) (fun p => p.1 ≤ l.length ∧ p.2.joints.length ≤ p.1 ∧ p.2.masses.length ≤ p.1 ∧ readAll p.2 (l.drop p.1) = readAll emptyR l) (fun p => l.length - p.1) [.ownC 2 0 Y.Joint 12, .ownC 2 1 Y.Mass 5] (0, emptyR) [] ⟨Nat.zero_le _, Nat.zero_le _, Nat.zero_le _, rfl⟩ ⟨⟨rfl, rfl, rfl, rfl, rfl, trivial⟩, ⟨rfl, rfl, rfl, rfl, rfl, trivial⟩⟩ ?_
  rintro ⟨k, r⟩ ⟨hk, hj, hm, hall⟩
  simp only at hk hj hm hall
  have hkk : IntKind.i64.wrap ((k : Int) + 1) = ((k + 1 : Nat) : Int) := by rw [w64] <;> omega
  (conv => whnf)
  refine ask_m (fun hlt => ?_) (fun hlt => ?_)
  · have hlt : k < l.length := by simpa using hlt
    obtain ⟨s, hsk⟩ : ∃ s, l[k]? = some s := ⟨_, List.getElem?_eq_getElem hlt⟩
    rw [drop_cons hsk, readAll] at hall
    have hlen := readSt_len r s
    have hso := hs s (List.mem_of_getElem? hsk)
    (conv => whnf)
    refine idx_and (by omega) (by simpa using hsk) ?_
    (conv => whnf)
    by_cases h1 : s.word = wJoint
    · have d1 : decide (s.word = (⟨#[106, 111, 105, 110, 116]⟩ : ByteArray)) = true := isLit h1 rfl
      rw [d1]
      (conv => whnf)
      refine call_i (ref_Arguments s.word ((s.args.map encA).length)) ?_
      (conv => whnf)
      rw [List.length_map]
      cases ha : argsB s.word (s.args.length : Int) with
      | false =>
        have hst : readSt r s = (702, r) := by rw [readSt, if_pos h1, if_pos ha]
        rw [hst] at hall
        simp only at hall
        rw [if_neg (by decide)] at hall
        rw [readRobot, ← hall, if_pos (by show ¬ (702 : Int) = 0; decide)]
        (conv => whnf)
        refine retO [.ownC 0 0 Y.Joint 12, .ownC 0 1 Y.Mass 5, .frz 6, .frz 7] ?_
        (conv => whnf)
        exact ⟨[], ⟨rfl, trivial⟩, trivial⟩
      | true =>
        obtain ⟨n, kk, p, x, y, z, lo, hi, w, e⟩ := len9 (args_joint (by rw [h1] at ha; exact ha))
        have hst : readSt r s = ((readJ r.joints s.args).1, ⟨(readJ r.joints s.args).2, r.masses⟩) := by rw [readSt, if_pos h1, if_neg (by rw [ha]; decide)]
        rw [hst] at hall hlen
        simp only at hall hlen
        rw [e] at hall hlen ⊢
        obtain ⟨q1, q2⟩ := refJ_read r.joints n kk p x y z lo hi w
        have hrj := ref_readJoint r n kk p x y z lo hi w (by omega) (fun w hw => hso w (by rw [e]; simp only [List.mem_cons, List.not_mem_nil, or_false] at hw ⊢; rcases hw with h | h | h | h | h <;> simp [h])) (hso w (by rw [e]; simp))
        generalize refJ r.joints n kk p x y z lo hi w = q at *
        generalize readJ r.joints [n, kk, p, x, y, z, lo, hi, w] = J at *
        (conv => whnf)
        rw [d1]
        (conv => whnf)
        refine call_i (hrj) ?_
        (conv => whnf)
        refine ⟨⟨flJ q, trivial⟩, ?_⟩
        (conv => whnf)
        refine ⟨⟨by simp; omega, by simp; omega⟩, ?_⟩
        (conv => whnf)
        refine ask_m (fun he => ?_) (fun he => ?_)
        · have he : ¬ q.2 = 0 := by simpa using he
          rw [if_neg (by rw [← q1]; exact he)] at hall
          rw [readRobot, ← hall, if_pos (by show ¬ J.1 = 0; rw [← q1]; exact he), ← q1]
          (conv => whnf)
          refine retO [.ownC 0 0 Y.Joint 12, .ownC 0 1 Y.Mass 5, .frz 9, .frz 10] ?_
          (conv => whnf)
          exact ⟨[], ⟨rfl, trivial⟩, trivial⟩
        · have he : q.2 = 0 := by simpa using he
          rw [if_pos (by rw [← q1]; exact he)] at hall
          have q2 := q2 (by rw [← q1]; exact he)
          (conv => whnf)
          exact ⟨(k + 1, ⟨J.2, r.masses⟩), [(3, 8)], ⟨hlt, by simp only; omega, by simp only; omega, hall⟩, by simp only; omega, ⟨⟨rfl, rfl, rfl, rfl, eqI hkk, trivial⟩, ⟨rfl, rfl, rfl, rows_eq (by rw [q2, List.map_append]; rfl), rfl, trivial⟩⟩⟩
    have d1 : decide (s.word = (⟨#[106, 111, 105, 110, 116]⟩ : ByteArray)) = false := noLit h1 rfl
    rw [d1]
    (conv => whnf)
    by_cases h2 : s.word = wLimit
    · have d2 : decide (s.word = (⟨#[108, 105, 109, 105, 116]⟩ : ByteArray)) = true := isLit h2 rfl
      rw [d2]
      (conv => whnf)
      refine call_i (ref_Arguments s.word ((s.args.map encA).length)) ?_
      (conv => whnf)
      rw [List.length_map]
      cases ha : argsB s.word (s.args.length : Int) with
      | false =>
        have hst : readSt r s = (702, r) := by rw [readSt, if_neg h1, if_pos h2, if_pos ha]
        rw [hst] at hall
        simp only at hall
        rw [if_neg (by decide)] at hall
        rw [readRobot, ← hall, if_pos (by show ¬ (702 : Int) = 0; decide)]
        (conv => whnf)
        refine retO [.ownC 0 0 Y.Joint 12, .ownC 0 1 Y.Mass 5, .frz 6, .frz 7] ?_
        (conv => whnf)
        exact ⟨[], ⟨rfl, trivial⟩, trivial⟩
      | true =>
        obtain ⟨n, x, y, z, e⟩ := len4 (args_limit (by rw [h2] at ha; exact ha))
        have hsx := hso x (by rw [e]; simp)
        have hsy := hso y (by rw [e]; simp)
        have hsz := hso z (by rw [e]; simp)
        rw [e]
        (conv => whnf)
        rw [d1]
        (conv => whnf)
        refine idx_and (xs := [n, x, y, z]) (x := n) (by decide) rfl ?_
        (conv => whnf)
        refine call_i (ref_Find r n (by omega)) ?_
        (conv => whnf)
        refine ⟨⟨trivial, trivial⟩, ?_⟩
        (conv => whnf)
        by_cases hfn : find r.joints n 0 < 0
        · refine ask_mt (decide_eq_true hfn) ?_
          have hst : readSt r s = (810, r) := by rw [readSt, if_neg h1, if_pos h2, if_neg (by rw [ha]; decide), e, readL, if_pos hfn]
          rw [hst] at hall
          simp only at hall
          rw [if_neg (by decide)] at hall
          rw [readRobot, ← hall, if_pos (by show ¬ (810 : Int) = 0; decide)]
          (conv => whnf)
          refine retO [.ownC 0 0 Y.Joint 12, .ownC 0 1 Y.Mass 5, .frz 6, .frz 7] ?_
          (conv => whnf)
          exact ⟨[], ⟨rfl, trivial⟩, trivial⟩
        refine ask_mf (decide_eq_false hfn) ?_
        (conv => whnf)
        rw [d2]
        (conv => whnf)
        refine idx_and (xs := [n, x, y, z]) (x := n) (by decide) rfl ?_
        (conv => whnf)
        refine call_i (ref_Find r n (by omega)) ?_
        (conv => whnf)
        refine ⟨⟨trivial, trivial⟩, ?_⟩
        (conv => whnf)
        obtain ⟨i, hi⟩ : ∃ i : Nat, find r.joints n 0 = i := ⟨(find r.joints n 0).toNat, by omega⟩
        have hib : i < r.joints.length := by
          rcases find_bd r.joints n 0 with h | h <;> omega
        obtain ⟨j, hjj⟩ : ∃ j, r.joints[i]? = some j := ⟨_, List.getElem?_eq_getElem hib⟩
        have hmod := modJ_enc (limF x y z) r.joints i j hjj
        have hjr : (r.joints.map encJ)[i]? = some (encJ j) := by rw [List.getElem?_map, hjj]; rfl
        rw [hi]
        refine ⟨⟨by omega, by simp only [List.length_map]; omega⟩, ?_⟩
        (conv => whnf)
        rw [Int.toNat_natCast]
        refine idx_and (xs := [n, x, y, z]) (x := x) (by decide) rfl ?_
        (conv => whnf)
        refine call_i (ref_Integer x hsx) ?_
        (conv => whnf)
        refine idx_and (xs := [n, x, y, z]) (x := y) (by decide) rfl ?_
        (conv => whnf)
        refine call_i (ref_Integer y hsy) ?_
        (conv => whnf)
        refine idx_and (xs := [n, x, y, z]) (x := z) (by decide) rfl ?_
        (conv => whnf)
        refine call_i (ref_Integer z hsz) ?_
        (conv => whnf)
        cases b1 : (intOf x).2 with
        | false =>
          (conv => whnf)
          refine idx_at hjr ?_
          (conv => whnf)
          refine idx_at (List.getElem?_set_self (by rw [List.length_map]; exact hib)) ?_
          (conv => whnf)
          refine idx_at (List.getElem?_set_self (by rw [List.length_set, List.length_map]; exact hib)) ?_
          (conv => whnf)
          have hst : readSt r s = (809, r) := by rw [readSt, if_neg h1, if_pos h2, if_neg (by rw [ha]; decide), e, readL, if_neg hfn, if_pos (by simp [b1])]
          rw [hst] at hall
          simp only at hall
          rw [if_neg (by decide)] at hall
          rw [readRobot, ← hall, if_pos (by show ¬ (809 : Int) = 0; decide)]
          (conv => whnf)
          refine retO [.ownC 0 0 Y.Joint 12, .ownC 0 1 Y.Mass 5, .frz 6, .frz 7] ?_
          (conv => whnf)
          exact ⟨[], ⟨rfl, trivial⟩, trivial⟩
        | true =>
        (conv => whnf)
        cases b2 : (intOf y).2 with
        | false =>
          (conv => whnf)
          refine idx_at hjr ?_
          (conv => whnf)
          refine idx_at (List.getElem?_set_self (by rw [List.length_map]; exact hib)) ?_
          (conv => whnf)
          refine idx_at (List.getElem?_set_self (by rw [List.length_set, List.length_map]; exact hib)) ?_
          (conv => whnf)
          have hst : readSt r s = (809, r) := by rw [readSt, if_neg h1, if_pos h2, if_neg (by rw [ha]; decide), e, readL, if_neg hfn, if_pos (by simp [b2])]
          rw [hst] at hall
          simp only at hall
          rw [if_neg (by decide)] at hall
          rw [readRobot, ← hall, if_pos (by show ¬ (809 : Int) = 0; decide)]
          (conv => whnf)
          refine retO [.ownC 0 0 Y.Joint 12, .ownC 0 1 Y.Mass 5, .frz 6, .frz 7] ?_
          (conv => whnf)
          exact ⟨[], ⟨rfl, trivial⟩, trivial⟩
        | true =>
        (conv => whnf)
        cases b3 : (intOf z).2 with
        | false =>
          (conv => whnf)
          refine idx_at hjr ?_
          (conv => whnf)
          refine idx_at (List.getElem?_set_self (by rw [List.length_map]; exact hib)) ?_
          (conv => whnf)
          refine idx_at (List.getElem?_set_self (by rw [List.length_set, List.length_map]; exact hib)) ?_
          (conv => whnf)
          have hst : readSt r s = (809, r) := by rw [readSt, if_neg h1, if_pos h2, if_neg (by rw [ha]; decide), e, readL, if_neg hfn, if_pos (by simp [b3])]
          rw [hst] at hall
          simp only at hall
          rw [if_neg (by decide)] at hall
          rw [readRobot, ← hall, if_pos (by show ¬ (809 : Int) = 0; decide)]
          (conv => whnf)
          refine retO [.ownC 0 0 Y.Joint 12, .ownC 0 1 Y.Mass 5, .frz 6, .frz 7] ?_
          (conv => whnf)
          exact ⟨[], ⟨rfl, trivial⟩, trivial⟩
        | true =>
          have hst : readSt r s = (0, ⟨modJ r.joints i (limF x y z), r.masses⟩) := by rw [readSt, if_neg h1, if_pos h2, if_neg (by rw [ha]; decide), e, readL, if_neg hfn, if_neg (by simp [b1, b2, b3]), hi, Int.toNat_natCast]
          rw [hst] at hall hlen
          simp only at hall hlen
          rw [if_pos trivial] at hall
          (conv => whnf)
          refine idx_at hjr ?_
          (conv => whnf)
          refine idx_at (List.getElem?_set_self (by rw [List.length_map]; exact hib)) ?_
          (conv => whnf)
          refine idx_at (List.getElem?_set_self (by rw [List.length_set, List.length_map]; exact hib)) ?_
          (conv => whnf)
          refine ⟨(k + 1, ⟨modJ r.joints i (limF x y z), r.masses⟩), [], ⟨hlt, by simp only; omega, by simp only; omega, hall⟩, by simp only; omega, ⟨⟨rfl, rfl, rfl, rfl, eqI hkk, trivial⟩, ⟨rfl, rfl, rfl, rows_eq ?_, rfl, trivial⟩⟩⟩
          rw [List.set_set, List.set_set, hmod]; rfl
    have d2 : decide (s.word = (⟨#[108, 105, 109, 105, 116]⟩ : ByteArray)) = false := noLit h2 rfl
    rw [d2]
    (conv => whnf)
    by_cases h3 : s.word = wMass
    · have d3 : decide (s.word = (⟨#[109, 97, 115, 115]⟩ : ByteArray)) = true := isLit h3 rfl
      rw [d3]
      (conv => whnf)
      refine call_i (ref_Arguments s.word ((s.args.map encA).length)) ?_
      (conv => whnf)
      rw [List.length_map]
      cases ha : argsB s.word (s.args.length : Int) with
      | false =>
        have hst : readSt r s = (702, r) := by rw [readSt, if_neg h1, if_neg h2, if_pos h3, if_pos ha]
        rw [hst] at hall
        simp only at hall
        rw [if_neg (by decide)] at hall
        rw [readRobot, ← hall, if_pos (by show ¬ (702 : Int) = 0; decide)]
        (conv => whnf)
        refine retO [.ownC 0 0 Y.Joint 12, .ownC 0 1 Y.Mass 5, .frz 6, .frz 7] ?_
        (conv => whnf)
        exact ⟨[], ⟨rfl, trivial⟩, trivial⟩
      | true =>
        obtain ⟨n, m, x, y, z, e⟩ := len5 (args_mass (by rw [h3] at ha; exact ha))
        have hss : ∀ w ∈ [m, x, y, z], w.size ≤ 4611686018427387904 := fun w hw => hso w (by rw [e]; exact List.mem_cons_of_mem _ hw)
        rw [e]
        (conv => whnf)
        rw [d1]
        (conv => whnf)
        refine idx_and (xs := [n, m, x, y, z]) (x := n) (by decide) rfl ?_
        (conv => whnf)
        refine call_i (ref_Find r n (by omega)) ?_
        (conv => whnf)
        refine ⟨⟨trivial, trivial⟩, ?_⟩
        (conv => whnf)
        by_cases hfn : find r.joints n 0 < 0
        · refine ask_mt (decide_eq_true hfn) ?_
          have hst : readSt r s = (810, r) := by rw [readSt, if_neg h1, if_neg h2, if_pos h3, if_neg (by rw [ha]; decide), e, readM, if_pos hfn]
          rw [hst] at hall
          simp only at hall
          rw [if_neg (by decide)] at hall
          rw [readRobot, ← hall, if_pos (by show ¬ (810 : Int) = 0; decide)]
          (conv => whnf)
          refine retO [.ownC 0 0 Y.Joint 12, .ownC 0 1 Y.Mass 5, .frz 6, .frz 7] ?_
          (conv => whnf)
          exact ⟨[], ⟨rfl, trivial⟩, trivial⟩
        refine ask_mf (decide_eq_false hfn) ?_
        (conv => whnf)
        rw [d2]
        (conv => whnf)
        refine ⟨⟨by decide, by simp⟩, ?_⟩
        (conv => whnf)
        refine call_i (ref_numbers [m, x, y, z] (by simp) hss) ?_
        (conv => whnf)
        cases hal : [m, x, y, z].all fun w => (numOf w).2 with
        | false =>
          have hno : numsOf numOf [m, x, y, z] = none := by
            obtain ⟨w, hw, hb⟩ := List.all_eq_false.1 hal
            obtain ⟨k, hk⟩ := List.getElem?_of_mem hw
            exact numsOf_not hk (by simpa using hb)
          rw [hno]
          (conv => whnf)
          have hst : readSt r s = (809, r) := by rw [readSt, if_neg h1, if_neg h2, if_pos h3, if_neg (by rw [ha]; decide), e, readM, if_neg hfn, if_pos hal]
          rw [hst] at hall
          simp only at hall
          rw [if_neg (by decide)] at hall
          rw [readRobot, ← hall, if_pos (by show ¬ (809 : Int) = 0; decide)]
          (conv => whnf)
          refine retO [.ownC 0 0 Y.Joint 12, .ownC 0 1 Y.Mass 5, .frz 6, .frz 7] ?_
          (conv => whnf)
          exact ⟨[], ⟨rfl, trivial⟩, trivial⟩
        | true =>
          rw [numsOf_all hal]
          (conv => whnf)
          have hst : readSt r s = (0, ⟨r.joints, r.masses ++ [⟨find r.joints n 0, (numOf m).1, ⟨(numOf x).1, (numOf y).1, (numOf z).1⟩⟩]⟩) := by rw [readSt, if_neg h1, if_neg h2, if_pos h3, if_neg (by rw [ha]; decide), e, readM, if_neg hfn, if_neg (by rw [hal]; decide)]
          rw [hst] at hall hlen
          simp only at hall hlen
          rw [if_pos trivial] at hall
          refine idx_and (xs := [n, m, x, y, z]) (x := n) (by decide) rfl ?_
          (conv => whnf)
          refine call_i (ref_Find r n (by omega)) ?_
          (conv => whnf)
          refine ⟨⟨trivial, trivial⟩, ?_⟩
          (conv => whnf)
          refine idx_and (xs := [m, x, y, z].map fun w => (numOf w).1) (x := (numOf m).1) (by decide) rfl ?_
          (conv => whnf)
          refine idx_and (xs := [m, x, y, z].map fun w => (numOf w).1) (x := (numOf x).1) (by decide) rfl ?_
          (conv => whnf)
          refine idx_and (xs := [m, x, y, z].map fun w => (numOf w).1) (x := (numOf y).1) (by decide) rfl ?_
          (conv => whnf)
          refine idx_and (xs := [m, x, y, z].map fun w => (numOf w).1) (x := (numOf z).1) (by decide) rfl ?_
          (conv => whnf)
          refine ⟨⟨by simp; omega, by simp; omega⟩, ?_⟩
          (conv => whnf)
          exact ⟨(k + 1, ⟨r.joints, r.masses ++ [⟨find r.joints n 0, (numOf m).1, ⟨(numOf x).1, (numOf y).1, (numOf z).1⟩⟩]⟩), [(4, 7)], ⟨hlt, by simp only; omega, by simp only; omega, hall⟩, by simp only; omega, ⟨⟨rfl, rfl, rfl, rfl, eqI hkk, trivial⟩, ⟨rfl, rfl, rfl, rfl, rows_eq (by rw [List.map_append]; rfl), trivial⟩⟩⟩
    have d3 : decide (s.word = (⟨#[109, 97, 115, 115]⟩ : ByteArray)) = false := noLit h3 rfl
    rw [d3]
    (conv => whnf)
    have hst : readSt r s = (0, r) := by rw [readSt, if_neg h1, if_neg h2, if_neg h3]
    rw [hst] at hall hlen
    simp only at hall hlen
    rw [if_pos trivial] at hall
    exact ⟨(k + 1, r), [], ⟨hlt, by simp only; omega, by simp only; omega, hall⟩, by simp only; omega, ⟨⟨rfl, rfl, rfl, rfl, eqI hkk, trivial⟩, ⟨rfl, rfl, rfl, rfl, rfl, trivial⟩⟩⟩
  · have hk : k = l.length := by simp at hlt; omega
    subst hk
    rw [List.drop_length, readAll] at hall
    rw [readRobot, ← hall, if_neg (by simp)]
    (conv => whnf)
    refine call_i (ref_CheckRobot r (by omega) (by omega)) ?_
    (conv => whnf)
    refine ⟨⟨trivial, trivial⟩, ?_⟩
    (conv => whnf)
    refine ask_m (fun he => ?_) (fun he => ?_)
    · have he : ¬ checkRobot r = 0 := by simpa using he
      rw [if_pos he]
      (conv => whnf)
      refine retO [.ownC 0 0 Y.Joint 12, .ownC 0 1 Y.Mass 5, .frz 5, .frz 6] ?_
      (conv => whnf)
      exact ⟨[], ⟨rfl, trivial⟩, trivial⟩
    · have he : checkRobot r = 0 := by simpa using he
      rw [if_neg (by simp [he])]
      (conv => whnf)
      refine retO [.frz 3, .frz 4] ?_
      (conv => whnf)
      exact ⟨[], ⟨rfl, trivial⟩, trivial⟩
end Go.Proofs.YtlfclainmbafiaaDoor

/- The reference's WriteRobot and WriteScene. -/
namespace Go.Proofs.YtlfclainmbafiaaDoor
open Eng
set_option maxRecDepth 10000
attribute [local irreducible] FnOk loopW idxF retX arrF

def jB (js : List Joint) (j : Joint) : List (ByteArray × List ByteArray) := [(wJoint, [j.name, kindN j.kind, linkN js j.parent, fmtT j.off.x, fmtT j.off.y, fmtT j.off.z, fmtT j.lo, fmtT j.hi, decT j.weight.toNat 1]), (wLimit, [j.name, decT j.speed.toNat 1, decT j.accel.toNat 1, decT j.torque.toNat 1])]
def mB (js : List Joint) (m : Mass) : ByteArray × List ByteArray := (wMass, [linkN js m.link, fmtT m.mass, fmtT m.point.x, fmtT m.point.y, fmtT m.point.z])
def ptB (p : Vec) : List ByteArray := [fmtT p.x, fmtT p.y, fmtT p.z]
def shB (js : List Joint) (x : Shape) : ByteArray × List ByteArray := (wShape, linkN js x.link :: fmtT x.radius :: x.points.flatMap ptB)
def skB (js : List Joint) (k : Skip) : ByteArray × List ByteArray := (wSkip, [linkN js k.a, linkN js k.b])
def robB (r : Robot) : List (ByteArray × List ByteArray) := r.joints.flatMap (jB r.joints) ++ r.masses.map (mB r.joints)
def scB (s : Scene) : List (ByteArray × List ByteArray) := (robB s.robot ++ s.shapes.map (shB s.robot.joints)) ++ s.skips.map (skB s.robot.joints)
def writeRobot (r : Robot) : List Stmt := if checkRobot r = 0 then numb 0 (robB r) else []
def writeScene (s : Scene) : List Stmt := if checkScene s = 0 then numb 0 (scB s) else []
theorem jB_len (js l : List Joint) : (l.flatMap (jB js)).length = 2 * l.length := by
  induction l with
  | nil => rfl
  | cons j l ih => rw [List.flatMap_cons, List.length_append, ih, List.length_cons]; show 2 + _ = _; omega
theorem ref_DecimalI (n : Int) (h0 : 0 ≤ n) (h1 : n ≤ 9223372036854775807) : FnOk Tryd.prog F.ref6_Decimal [I n, I 1] [] 0 (Tx (decT n.toNat 1)) [] 0 := by
  obtain ⟨k, rfl⟩ : ∃ k : Nat, n = k := ⟨n.toNat, by omega⟩
  exact ref_DecimalT k 1 (by omega) (by omega)
theorem ref_WriteRobot (r : Robot) (hj : r.joints.length ≤ 4611686018427387904) (hm : r.masses.length ≤ 4611686018427387904) : FnOk Tryd.prog F.ref6_WriteRobot [Ro r] [] 0 (.one (.row 0)) [(0, .rows Y.Statement 3 ((writeRobot r).map encSt))] 1 := by
  refine fnOk tab mix G.ref6_WriteRobot rfl rfl (by kernel_rfl) rfl rfl ?_
  (conv => whnf)
  refine call_i (ref_CheckRobot r hj hm) ?_
  (conv => whnf)
  refine ask_m (fun h => ?_) (fun h => ?_)
  · have h : ¬ checkRobot r = 0 := by simpa using h
    rw [writeRobot, if_neg h]
    (conv => whnf)
    refine retO [.own 2 Y.Statement 3] ?_
    (conv => whnf)
    exact ⟨[(0, 1)], ⟨rfl, trivial⟩, ⟨rfl, trivial⟩⟩
  have h : checkRobot r = 0 := by simpa using h
  obtain ⟨g1, g2, g3, g4⟩ := robot_facts h
  rw [writeRobot, if_pos h]
  (conv => whnf)
  refine loop_intro (fun k : Nat => ⟨[(1, .one (.vptr 0 0)), (3, .one (.row 1)), (4, I k)], [(0, bRo r), (1, .rows Y.Statement 3 ((numb 0 ((r.joints.take k).flatMap (jB r.joints))).map encSt))], 2⟩) (fun k => k ≤ r.joints.length) (fun k => r.joints.length - k) [.own 3 Y.Statement 3] 0 [] (Nat.zero_le _) ⟨⟨rfl, rfl, rfl, trivial⟩, ⟨rfl, rfl, trivial⟩⟩ ?_
  rintro k hk
  have hkk : IntKind.i64.wrap ((k : Int) + 1) = ((k + 1 : Nat) : Int) := by rw [w64] <;> omega
  (conv => whnf)
  refine ask_m (fun hlt => ?_) (fun hlt => ?_)
  · have hlt : k < r.joints.length := by simpa using hlt
    obtain ⟨j, hjk⟩ : ∃ j, r.joints[k]? = some j := ⟨_, List.getElem?_eq_getElem hlt⟩
    obtain ⟨n1, ⟨n2, n3⟩, ⟨n4, n5⟩, n6, n7, n8⟩ := g2 k j hjk
    simp only [Bool.and_eq_true] at n8
    obtain ⟨⟨⟨c1, c2⟩, c3⟩, c4⟩ := n8
    have c1 := from1_bd c1
    have c2 := from1_bd c2
    have c3 := from1_bd c3
    have c4 := from1_bd c4
    have e1 : IntKind.i64.wrap (IntKind.i64.wrap (2 * (k : Int)) + 1) = 2 * (k : Int) + 1 := by rw [w64 (x := 2 * (k : Int)) (by omega) (by omega), w64 (by omega) (by omega)]
    have e2 : IntKind.i64.wrap (IntKind.i64.wrap (2 * (k : Int)) + 2) = 2 * (k : Int) + 2 := by rw [w64 (x := 2 * (k : Int)) (by omega) (by omega), w64 (by omega) (by omega)]
    have hbl : ((r.joints.take k).flatMap (jB r.joints)).length = 2 * k := by rw [jB_len, List.length_take]; omega
    have hnl : ((numb 0 ((r.joints.take k).flatMap (jB r.joints))).map encSt).length = 2 * k := by rw [List.length_map, numb_len, hbl]
    have hfin : (numb 0 ((r.joints.take (k + 1)).flatMap (jB r.joints))).map encSt = ((numb 0 ((r.joints.take k).flatMap (jB r.joints))).map encSt ++ [[.int .i64 (2 * (k : Int) + 1), .str wJoint, .lst 1 ([[.str j.name], [.str (kindN j.kind)], [.str (linkN r.joints j.parent)]] ++ (([j.off.x, j.off.y, j.off.z, j.lo, j.hi].map fmtT).map encA) ++ [[.str (decT j.weight.toNat 1)]])]]) ++ [[.int .i64 (2 * (k : Int) + 2), .str wLimit, .lst 1 [[.str j.name], [.str (decT j.speed.toNat 1)], [.str (decT j.accel.toNat 1)], [.str (decT j.torque.toNat 1)]]]] := by
      rw [flat_take (jB r.joints) hjk, numb_app, List.map_append, Nat.zero_add, hbl, List.append_assoc]
      congr 1
    generalize (numb 0 ((r.joints.take k).flatMap (jB r.joints))).map encSt = rows at hnl hfin ⊢
    (conv => whnf)
    refine idx_and (by omega) (by simpa using hjk) ?_
    (conv => whnf)
    refine call_i (ref_kindName j.kind n2 n3) ?_
    (conv => whnf)
    refine call_i (ref_linkName r j.parent n4 (by omega)) ?_
    (conv => whnf)
    refine ⟨⟨by decide, by decide⟩, ?_⟩
    (conv => whnf)
    refine ⟨⟨by decide, by decide⟩, ?_⟩
    (conv => whnf)
    refine ⟨⟨by decide, by decide⟩, ?_⟩
    (conv => whnf)
    refine call_i (ref_written [j.off.x, j.off.y, j.off.z, j.lo, j.hi] (by simp)) ?_
    (conv => whnf)
    refine ⟨⟨by simp, by simp⟩, ?_⟩
    (conv => whnf)
    refine call_i (ref_DecimalI j.weight (by omega) (by omega)) ?_
    (conv => whnf)
    refine ⟨⟨by simp, by simp⟩, ?_⟩
    (conv => whnf)
    refine ⟨⟨by simp; omega, by simp; omega⟩, ?_⟩
    (conv => whnf)
    refine call_i (ref_DecimalI j.speed (by omega) (by omega)) ?_
    (conv => whnf)
    refine call_i (ref_DecimalI j.accel (by omega) (by omega)) ?_
    (conv => whnf)
    refine call_i (ref_DecimalI j.torque (by omega) (by omega)) ?_
    (conv => whnf)
    refine ⟨⟨by simp; omega, by simp; omega⟩, ?_⟩
    (conv => whnf)
    exact ⟨k + 1, [(1, 12)], hlt, by omega, ⟨⟨rfl, rfl, eqI hkk, trivial⟩, ⟨rfl, rows_eq (by rw [hfin, e1, e2]; rfl), trivial⟩⟩⟩
  · have hk : k = r.joints.length := by simp at hlt; omega
    subst hk
    rw [List.take_length]
    have hbl : (r.joints.flatMap (jB r.joints)).length = 2 * r.joints.length := jB_len _ _
    rw [robB]
    generalize r.joints.flatMap (jB r.joints) = B at *
    (conv => whnf)
    refine loop_intro (fun k : Nat => ⟨[(1, .one (.vptr 0 0)), (3, .one (.row 1)), (7, I k)], [(0, bRo r), (1, .rows Y.Statement 3 ((numb 0 (B ++ (r.masses.take k).map (mB r.joints))).map encSt))], 2⟩) (fun k => k ≤ r.masses.length) (fun k => r.masses.length - k) [] 0 [] (Nat.zero_le _) ⟨⟨rfl, rfl, rfl, trivial⟩, ⟨rfl, rows_eq (by simp), trivial⟩⟩ ?_
    rintro k hk
    have hkk : IntKind.i64.wrap ((k : Int) + 1) = ((k + 1 : Nat) : Int) := by rw [w64] <;> omega
    (conv => whnf)
    refine ask_m (fun hlt => ?_) (fun hlt => ?_)
    · have hlt : k < r.masses.length := by simpa using hlt
      obtain ⟨m, hmk⟩ : ∃ m, r.masses[k]? = some m := ⟨_, List.getElem?_eq_getElem hlt⟩
      have hok := g4 m (List.mem_of_getElem? hmk)
      simp only [massOk, Bool.and_eq_true, decide_eq_true_eq] at hok
      have hfin : (numb 0 (B ++ (r.masses.take (k + 1)).map (mB r.joints))).map encSt = (numb 0 (B ++ (r.masses.take k).map (mB r.joints))).map encSt ++ [[.int .i64 ((2 * r.joints.length + k : Nat) + 1), .str wMass, .lst 1 ([[.str (linkN r.joints m.link)]] ++ (([m.mass, m.point.x, m.point.y, m.point.z].map fmtT).map encA))]] := by
        rw [map_take1 (mB r.joints) hmk, ← List.append_assoc, mB, numb_snoc]
        simp [encA, hbl]; omega
      have hnl : ((numb 0 (B ++ (r.masses.take k).map (mB r.joints))).map encSt).length = 2 * r.joints.length + k := by rw [List.length_map, numb_len, List.length_append, hbl, List.length_map, List.length_take]; omega
      generalize (numb 0 (B ++ (r.masses.take k).map (mB r.joints))).map encSt = rows at hnl hfin ⊢
      have e1 : IntKind.i64.wrap ((rows.length : Int) + 1) = ((2 * r.joints.length + k : Nat) : Int) + 1 := by rw [hnl, w64] <;> omega
      (conv => whnf)
      refine idx_and (by omega) (by simpa using hmk) ?_
      (conv => whnf)
      refine call_i (ref_linkName r m.link (by omega) (by omega)) ?_
      (conv => whnf)
      refine ⟨⟨by decide, by decide⟩, ?_⟩
      (conv => whnf)
      refine ⟨⟨by decide, by decide⟩, ?_⟩
      (conv => whnf)
      refine ⟨⟨by decide, by decide⟩, ?_⟩
      (conv => whnf)
      refine call_i (ref_written [m.mass, m.point.x, m.point.y, m.point.z] (by simp)) ?_
      (conv => whnf)
      refine ⟨⟨by simp, by simp⟩, ?_⟩
      (conv => whnf)
      refine ⟨⟨by simp; omega, by simp; omega⟩, ?_⟩
      (conv => whnf)
      exact ⟨k + 1, [(1, 7)], hlt, by omega, ⟨⟨rfl, rfl, eqI hkk, trivial⟩, ⟨rfl, rows_eq (by rw [hfin, ← e1]; rfl), trivial⟩⟩⟩
    · have hk : k = r.masses.length := by simp at hlt; omega
      subst hk
      rw [List.take_length]
      (conv => whnf)
      refine retO [] ?_
      (conv => whnf)
      exact ⟨[(0, 1)], ⟨rfl, trivial⟩, ⟨rfl, trivial⟩⟩
theorem robB_len (r : Robot) : (robB r).length = 2 * r.joints.length + r.masses.length := by rw [robB, List.length_append, jB_len, List.length_map]
theorem ref_WriteScene (s : Scene) (hs : small s) : FnOk Tryd.prog F.ref6_WriteScene [Sc s] [] 0 (.one (.row 0)) [(0, .rows Y.Statement 3 ((writeScene s).map encSt))] 1 := by
  refine fnOk tab mix G.ref6_WriteScene rfl rfl (by kernel_rfl) rfl rfl ?_
  (conv => whnf)
  refine call_i (ref_CheckScene s hs) ?_
  (conv => whnf)
  refine ask_m (fun h => ?_) (fun h => ?_)
  · have h : ¬ checkScene s = 0 := by simpa using h
    rw [writeScene, if_neg h]
    (conv => whnf)
    refine retO [.own 2 Y.Statement 3] ?_
    (conv => whnf)
    exact ⟨[(0, 1)], ⟨rfl, trivial⟩, ⟨rfl, trivial⟩⟩
  have h : checkScene s = 0 := by simpa using h
  obtain ⟨g0, g1, g2, g3, g4⟩ := scene_facts h
  obtain ⟨f1, _, f3, _⟩ := robot_facts g0
  rw [writeScene, if_pos h]
  (conv => whnf)
  refine call_i (ref_WriteRobot s.robot hs.1 hs.2.1) ?_
  (conv => whnf)
  rw [writeRobot, if_pos g0, scB]
  have hbl := robB_len s.robot
  generalize robB s.robot = B at *
  have hB : (numb 0 B).map encSt = (numb 0 (B ++ (s.shapes.take 0).map (shB s.robot.joints))).map encSt := by simp
  rw [hB]
  refine loop_intro (fun k : Nat => ⟨[(1, .one (.vptr 0 0)), (3, .one (.row 1)), (4, I k)], [(0, bSc s), (1, .rows Y.Statement 3 ((numb 0 (B ++ (s.shapes.take k).map (shB s.robot.joints))).map encSt))], 2⟩) (fun k => k ≤ s.shapes.length) (fun k => s.shapes.length - k) [] 0 [] (Nat.zero_le _) ⟨⟨rfl, rfl, rfl, trivial⟩, ⟨rfl, rfl, trivial⟩⟩ ?_
  rintro k hk
  have hkk : IntKind.i64.wrap ((k : Int) + 1) = ((k + 1 : Nat) : Int) := by rw [w64] <;> omega
  (conv => whnf)
  refine ask_m (fun hlt => ?_) (fun hlt => ?_)
  · have hlt : k < s.shapes.length := by simpa using hlt
    obtain ⟨x, hxk⟩ : ∃ m, s.shapes[k]? = some m := ⟨_, List.getElem?_eq_getElem hlt⟩
    obtain ⟨q1, q2, q3, q4, q5⟩ := g2 x (List.mem_of_getElem? hxk)
    have q1 := link_bd q1
    have hfin : (numb 0 (B ++ (s.shapes.take (k + 1)).map (shB s.robot.joints))).map encSt = (numb 0 (B ++ (s.shapes.take k).map (shB s.robot.joints))).map encSt ++ [[.int .i64 ((B.length + k : Nat) + 1), .str wShape, .lst 1 ((linkN s.robot.joints x.link :: fmtT x.radius :: x.points.flatMap ptB).map encA)]] := by
      rw [map_take1 (shB s.robot.joints) hxk, ← List.append_assoc, shB, numb_snoc]
      simp [encA]; omega
    have hnl : ((numb 0 (B ++ (s.shapes.take k).map (shB s.robot.joints))).map encSt).length = B.length + k := by rw [List.length_map, numb_len, List.length_append, List.length_map, List.length_take]; omega
    generalize (numb 0 (B ++ (s.shapes.take k).map (shB s.robot.joints))).map encSt = rows at hnl hfin ⊢
    have e1 : IntKind.i64.wrap ((rows.length : Int) + 1) = ((B.length + k : Nat) : Int) + 1 := by rw [hnl, w64] <;> omega
    (conv => whnf)
    refine idx_and (by omega) (by simpa using hxk) ?_
    (conv => whnf)
    refine call_i (ref_linkName s.robot x.link (by omega) (by omega)) ?_
    (conv => whnf)
    refine call_i (ref_written [x.radius] (by simp)) ?_
    (conv => whnf)
    refine ⟨⟨by simp, by simp⟩, ?_⟩
    (conv => whnf)
    refine loop_intro (fun i : Nat => ⟨[(1, .one (.vptr 0 0)), (3, .one (.row 1)), (4, I k), (5, .one (.vptr 2 0)), (6, .one (.row 3)), (7, I i)], [(0, bSc s), (1, .rows Y.Statement 3 rows), (2, .vars Y.Shape [.dv (.int .i64 x.link), .dv (.int .i64 x.radius), .dv (dVs x.points)]), (3, .rows Y.string 1 ((linkN s.robot.joints x.link :: fmtT x.radius :: (x.points.take i).flatMap ptB).map encA))], 4⟩) (fun i => i ≤ x.points.length) (fun i => x.points.length - i) [] 0 [(3, 5)] (Nat.zero_le _) ⟨⟨rfl, rfl, rfl, rfl, rfl, rfl, trivial⟩, ⟨rfl, rfl, rfl, rfl, trivial⟩⟩ ?_
    rintro i hi
    have hii : IntKind.i64.wrap ((i : Int) + 1) = ((i + 1 : Nat) : Int) := by rw [w64] <;> omega
    have hal : ∀ n, ((x.points.take n).flatMap ptB).length ≤ 3 * n := by
      intro n
      have : ∀ l : List Vec, (l.flatMap ptB).length = 3 * l.length := by
        intro l
        induction l with
        | nil => rfl
        | cons p l ih => rw [List.flatMap_cons, List.length_append, ih, List.length_cons]; show 3 + _ = _; omega
      rw [this, List.length_take]; omega
    have hali := hal i
    (conv => whnf)
    refine ask_m (fun hilt => ?_) (fun hilt => ?_)
    · have hilt : i < x.points.length := by simpa using hilt
      obtain ⟨p, hpi⟩ : ∃ p, x.points[i]? = some p := ⟨_, List.getElem?_eq_getElem hilt⟩
      (conv => whnf)
      refine idx_and (by omega) (by simpa using hpi) ?_
      (conv => whnf)
      refine ⟨⟨by decide, by decide⟩, ?_⟩
      (conv => whnf)
      refine idx_and (by omega) (by simpa using hpi) ?_
      (conv => whnf)
      refine ⟨⟨by decide, by decide⟩, ?_⟩
      (conv => whnf)
      refine idx_and (by omega) (by simpa using hpi) ?_
      (conv => whnf)
      refine ⟨⟨by decide, by decide⟩, ?_⟩
      (conv => whnf)
      refine call_i (ref_written [p.x, p.y, p.z] (by simp)) ?_
      (conv => whnf)
      refine ⟨⟨by simp only [List.length_append, List.length_map, List.length_cons, List.length_nil]; omega, by simp only [List.length_append, List.length_map, List.length_cons, List.length_nil]; omega⟩, ?_⟩
      (conv => whnf)
      exact ⟨i + 1, [(3, 5)], hilt, by omega, ⟨⟨rfl, rfl, rfl, rfl, rfl, eqI hii, trivial⟩, ⟨rfl, rfl, rfl, rows_eq (by rw [flat_take ptB hpi]; simp [ptB]), trivial⟩⟩⟩
    · have hi : i = x.points.length := by simp at hilt; omega
      subst hi
      rw [List.take_length]
      (conv => whnf)
      refine ⟨⟨by simp; omega, by simp; omega⟩, ?_⟩
      (conv => whnf)
      exact ⟨k + 1, [(1, 5)], hlt, by omega, ⟨⟨rfl, rfl, eqI hkk, trivial⟩, ⟨rfl, rows_eq (by rw [hfin, ← e1]; rfl), trivial⟩⟩⟩
  · have hk : k = s.shapes.length := by simp at hlt; omega
    subst hk
    rw [List.take_length]
    have hcl : (B ++ s.shapes.map (shB s.robot.joints)).length = B.length + s.shapes.length := by simp
    generalize B ++ s.shapes.map (shB s.robot.joints) = C at *
    (conv => whnf)
    refine loop_intro (fun k : Nat => ⟨[(1, .one (.vptr 0 0)), (3, .one (.row 1)), (8, I k)], [(0, bSc s), (1, .rows Y.Statement 3 ((numb 0 (C ++ (s.skips.take k).map (skB s.robot.joints))).map encSt))], 2⟩) (fun k => k ≤ s.skips.length) (fun k => s.skips.length - k) [] 0 [] (Nat.zero_le _) ⟨⟨rfl, rfl, rfl, trivial⟩, ⟨rfl, rows_eq (by simp), trivial⟩⟩ ?_
    rintro k hk
    have hkk : IntKind.i64.wrap ((k : Int) + 1) = ((k + 1 : Nat) : Int) := by rw [w64] <;> omega
    (conv => whnf)
    refine ask_m (fun hlt => ?_) (fun hlt => ?_)
    · have hlt : k < s.skips.length := by simpa using hlt
      obtain ⟨y, hyk⟩ : ∃ m, s.skips[k]? = some m := ⟨_, List.getElem?_eq_getElem hlt⟩
      obtain ⟨q1, q2⟩ := g4 y (List.mem_of_getElem? hyk)
      have q1 := link_bd q1
      have q2 := link_bd q2
      have hfin : (numb 0 (C ++ (s.skips.take (k + 1)).map (skB s.robot.joints))).map encSt = (numb 0 (C ++ (s.skips.take k).map (skB s.robot.joints))).map encSt ++ [[.int .i64 ((C.length + k : Nat) + 1), .str wSkip, .lst 1 ([[.str (linkN s.robot.joints y.a)], [.str (linkN s.robot.joints y.b)]])]] := by
        rw [map_take1 (skB s.robot.joints) hyk, ← List.append_assoc, skB, numb_snoc]
        simp [encA]; omega
      have hnl : ((numb 0 (C ++ (s.skips.take k).map (skB s.robot.joints))).map encSt).length = C.length + k := by rw [List.length_map, numb_len, List.length_append, List.length_map, List.length_take]; omega
      generalize (numb 0 (C ++ (s.skips.take k).map (skB s.robot.joints))).map encSt = rows at hnl hfin ⊢
      have e1 : IntKind.i64.wrap ((rows.length : Int) + 1) = ((C.length + k : Nat) : Int) + 1 := by rw [hnl, w64] <;> omega
      (conv => whnf)
      refine idx_and (by omega) (by simpa using hyk) ?_
      (conv => whnf)
      refine call_i (ref_linkName s.robot y.a (by omega) (by omega)) ?_
      (conv => whnf)
      refine idx_and (by omega) (by simpa using hyk) ?_
      (conv => whnf)
      refine call_i (ref_linkName s.robot y.b (by omega) (by omega)) ?_
      (conv => whnf)
      refine ⟨⟨by simp; omega, by simp; omega⟩, ?_⟩
      (conv => whnf)
      exact ⟨k + 1, [(1, 4)], hlt, by omega, ⟨⟨rfl, rfl, eqI hkk, trivial⟩, ⟨rfl, rows_eq (by rw [hfin, ← e1]; rfl), trivial⟩⟩⟩
    · have hk : k = s.skips.length := by simp at hlt; omega
      subst hk
      rw [List.take_length]
      (conv => whnf)
      refine retO [] ?_
      (conv => whnf)
      exact ⟨[(0, 1)], ⟨rfl, trivial⟩, ⟨rfl, trivial⟩⟩
end Go.Proofs.YtlfclainmbafiaaDoor

/- Words, and the text of a statement (as in co/Fm, where parsing is at hand). -/
namespace Go.Proofs.YtlfclainmbafiaaDoor
open Eng
set_option maxRecDepth 10000

def wordB (c : Int) : Bool := decide (33 ≤ c) && decide (c ≤ 126) && !decide (c = 35)
/- texts one behind the other -/
def catB {α : Type} (f : α → ByteArray) (l : List α) : ByteArray := l.foldl (fun t x => t ++ f x) ByteArray.empty
theorem catB_go {α : Type} (f : α → ByteArray) : ∀ (l : List α) (s : ByteArray), l.foldl (fun t x => t ++ f x) s = s ++ catB f l
  | [], s => by simp [catB]
  | x :: l, s => by
    rw [catB, List.foldl_cons, List.foldl_cons, catB_go f l, catB_go f l (ByteArray.empty ++ f x), ByteArray.append_assoc]
    simp
theorem catB_cons {α : Type} (f : α → ByteArray) (x : α) (l : List α) : catB f (x :: l) = f x ++ catB f l := by
  rw [catB, List.foldl_cons, catB_go]; simp
theorem catB_nil {α : Type} (f : α → ByteArray) : catB f [] = ByteArray.empty := rfl
theorem catB_take {α : Type} (f : α → ByteArray) {l : List α} {k : Nat} {x : α} (h : l[k]? = some x) : catB f (l.take (k + 1)) = catB f (l.take k) ++ f x := by
  rw [List.take_add_one, h, catB, List.foldl_append]; rfl
theorem catB_one {α : Type} (f : α → ByteArray) (x : α) : catB f [x] = f x := by rw [catB_cons, catB_nil]; simp
theorem catB_size {α : Type} {f : α → ByteArray} {c : Nat} : ∀ (l : List α), (∀ x ∈ l, (f x).size ≤ c) → (catB f l).size ≤ l.length * c
  | [], _ => by simp [catB]
  | x :: l, h => by
    have := catB_size l fun y hy => h y (by simp [hy])
    have := h x (by simp)
    rw [catB_cons, ByteArray.size_append, List.length_cons, Nat.succ_mul]; omega
theorem catB_le {α : Type} {f : α → ByteArray} {l : List α} {k : Nat} : (catB f (l.take k)).size ≤ (catB f l).size := by
  have : l = l.take k ++ l.drop k := (List.take_append_drop k l).symm
  conv => rhs; rw [this]
  rw [catB, catB, List.foldl_append, catB_go f (l.drop k), ByteArray.size_append]; exact Nat.le_add_right _ _

/- words -/
def allW (t : ByteArray) : Prop := ∀ i, i < t.size → wordB (byteAt t i) = true
def isW (t : ByteArray) : Prop := 1 ≤ t.size ∧ allW t
instance (t : ByteArray) : Decidable (allW t) := inferInstanceAs (Decidable (∀ i, i < t.size → _))
instance (t : ByteArray) : Decidable (isW t) := inferInstanceAs (Decidable (_ ∧ _))
theorem allW_app {a b : ByteArray} (ha : allW a) (hb : allW b) : allW (a ++ b) := by
  intro i hi
  rw [ByteArray.size_append] at hi
  rw [byteAt_app]
  split
  · rename_i h; exact ha i h
  · exact hb _ (by omega)
theorem isW_app {a b : ByteArray} (ha : allW a) (hb : isW b) : isW (a ++ b) := ⟨by rw [ByteArray.size_append]; have := hb.1; omega, allW_app ha hb.2⟩
theorem isW_app2 {a b : ByteArray} (ha : isW a) (hb : allW b) : isW (a ++ b) := ⟨by rw [ByteArray.size_append]; have := ha.1; omega, allW_app ha.2 hb⟩

theorem txt_eq {s t : ByteArray} (hs : s.size = t.size) (h : ∀ i, i < s.size → byteAt s i = byteAt t i) : s = t := by
  refine ByteArray.ext_getElem hs fun i hi hi' => ?_
  have := h i hi
  rw [byteAt_get hi, byteAt_get hi'] at this
  exact UInt8.toNat_inj.1 (Int.ofNat.inj this)
theorem byteAt_sub {s : ByteArray} {a b i : Nat} (hb : b ≤ s.size) (hi : i < b - a) : byteAt (s.extract a b) i = byteAt s (a + i) := by
  have h1 : i < (s.extract a b).size := by rw [ByteArray.size_extract]; omega
  have h2 : a + i < s.size := by omega
  rw [byteAt_get h1, byteAt_get h2, ByteArray.getElem_extract]
/- a statement's line -/
def spT : ByteArray := ⟨#[32]⟩
def nlT : ByteArray := ⟨#[10]⟩
def argT (xs : List ByteArray) : ByteArray := catB (fun a => spT ++ a) xs
def stT (s : Stmt) : ByteArray := (s.word ++ argT s.args) ++ nlT
def fmtL (l : List Stmt) : ByteArray := catB stT l
def goodS (s : Stmt) : Prop := isW s.word ∧ (∀ a ∈ s.args, isW a) ∧ argsB s.word s.args.length = true
end Go.Proofs.YtlfclainmbafiaaDoor

/- The words of written scenes. No program in sight. -/
namespace Go.Proofs.YtlfclainmbafiaaDoor
open Eng
set_option maxRecDepth 10000

theorem wordB_in {c : Int} (h1 : 33 ≤ c) (h2 : c ≤ 126) (h3 : c ≠ 35) : wordB c = true := by simp [wordB]; omega
theorem decB_allW (k n : Nat) : allW (decB k n) := by
  intro i hi
  rw [decB_size] at hi
  rw [decB_byte n k i hi]
  exact wordB_in (by omega) (by omega) (by omega)
theorem decT_isW {n k : Nat} (hn : n ≤ 9223372036854775807) (hk : k ≤ 20) (h1 : 1 ≤ k) : isW (decT n k) ∧ (decT n k).size ≤ 20 := by
  have := decT_size hn hk
  exact ⟨⟨by omega, decB_allW _ _⟩, this.1⟩
theorem ext_allW {t : ByteArray} {k : Nat} (h : allW t) (hk : k ≤ t.size) : allW (t.extract 0 k) := by
  intro i hi
  have hs : (t.extract 0 k).size = k := by simp; omega
  rw [ext_byte hk (by omega)]
  exact h i (by omega)
theorem fracT_allW (f : Nat) : allW (fracT f) := ext_allW (decB_allW _ _) (trimN_le _ _)
theorem fracT_size {f : Nat} (hf : f < 65536) : (fracT f).size ≤ 20 := by
  have := decT_size (n := (2 * f * 100000 + 65536) / 131072) (k := 5) (by omega) (by omega)
  rw [fracT]
  simp; omega
theorem fmtT_isW (n : Int) : isW (fmtT n) ∧ (fmtT n).size ≤ 42 := by
  have hc : (clampI n).natAbs ≤ 2147483648 := by unfold clampI; omega
  have hs : allW (if clampI n < 0 then minusT else ByteArray.empty) ∧ (if clampI n < 0 then minusT else ByteArray.empty).size ≤ 1 := by
    split <;> decide
  rw [fmtT]
  generalize (if clampI n < 0 then minusT else ByteArray.empty) = s at *
  generalize (clampI n).natAbs = a at *
  obtain ⟨d1, d2⟩ := decT_isW (n := a / 65536) (k := 1) (by omega) (by omega) (by omega)
  unfold fmtS
  split
  · exact ⟨isW_app hs.1 d1, by rw [ByteArray.size_append]; omega⟩
  · have f2 := fracT_size (f := a % 65536) (by omega)
    refine ⟨isW_app2 (isW_app2 (isW_app hs.1 d1) (by decide)) (fracT_allW _), ?_⟩
    rw [ByteArray.size_append, ByteArray.size_append, ByteArray.size_append]
    show s.size + _ + 1 + _ ≤ _
    omega
theorem name_isW {s : ByteArray} (h : nameOk s = true) : isW s ∧ s.size ≤ 16 := by
  simp only [nameOk, Bool.and_eq_true, decide_eq_true_eq] at h
  obtain ⟨⟨⟨h1, h2⟩, _⟩, h4⟩ := h
  refine ⟨⟨h1, fun i hi => ?_⟩, h2⟩
  have := List.all_eq_true.1 h4 i (List.mem_range.2 hi)
  simp [nameB, letterB, digitB] at this
  exact wordB_in (by omega) (by omega) (by omega)
theorem kindN_isW {k : Int} (h0 : 0 ≤ k) (h6 : k ≤ 6) : isW (kindN k) ∧ (kindN k).size ≤ 42 := by
  have h : ∀ i, i < 7 → isW (kindTab.getD i ByteArray.empty) ∧ (kindTab.getD i ByteArray.empty).size ≤ 42 := by decide
  exact h _ (by omega)
theorem linkN_isW {js : List Joint} {k : Int} (hn : ∀ j ∈ js, nameOk j.name = true) (h0 : -1 ≤ k) (h1 : k < js.length) : isW (linkN js k) ∧ (linkN js k).size ≤ 42 := by
  unfold linkN
  split
  · decide
  · obtain ⟨j, hj⟩ : ∃ j, js[k.toNat]? = some j := ⟨_, List.getElem?_eq_getElem (by omega)⟩
    rw [hj]
    have := name_isW (hn j (List.mem_of_getElem? hj))
    exact ⟨this.1, by simp only; omega⟩
/-- a written statement: its word, its arguments, how many -/
structure WB (m : Nat) (p : ByteArray × List ByteArray) : Prop where
  word : isW p.1
  short : p.1.size ≤ 5
  args : ∀ a ∈ p.2, isW a ∧ a.size ≤ 42
  cnt : argsB p.1 p.2.length = true
  len : p.2.length ≤ m
theorem WB.st {m : Nat} {p : ByteArray × List ByteArray} (h : WB m p) (ln : Int) : goodS ⟨ln, p.1, p.2⟩ ∧ (stT ⟨ln, p.1, p.2⟩).size ≤ 6 + m * 43 := by
  refine ⟨⟨h.word, fun a ha => (h.args a ha).1, h.cnt⟩, ?_⟩
  have h1 := catB_size (f := fun a => spT ++ a) (c := 43) p.2 fun a ha => by
    have := (h.args a ha).2
    rw [ByteArray.size_append]; show 1 + _ ≤ _; omega
  have h2 := Nat.mul_le_mul_right 43 h.len
  have h3 := h.short
  rw [stT, argT, ByteArray.size_append, ByteArray.size_append]
  show p.1.size + _ + 1 ≤ _
  simp only; omega
theorem numb_mem : ∀ {l : List (ByteArray × List ByteArray)} {n : Nat} {s : Stmt}, s ∈ numb n l → ∃ p ∈ l, ∃ ln, s = ⟨ln, p.1, p.2⟩
  | [], _, _, h => by cases h
  | p :: l, n, s, h => by
    rw [numb] at h
    rcases List.mem_cons.1 h with rfl | h
    · exact ⟨p, by simp, _, rfl⟩
    · obtain ⟨q, hq, ln, e⟩ := numb_mem h
      exact ⟨q, by simp [hq], ln, e⟩
theorem shape_cnt {k : Nat} (h1 : 1 ≤ k) (h8 : k ≤ 8) : argsB wShape (2 + 3 * k : Nat) = true := by
  have : ∀ k, k < 9 → 1 ≤ k → argsB wShape (2 + 3 * k : Nat) = true := by decide
  exact this k (by omega) h1
theorem pts_len : ∀ l : List Vec, (l.flatMap ptB).length = 3 * l.length
  | [] => rfl
  | p :: l => by rw [List.flatMap_cons, List.length_append, pts_len l, List.length_cons]; show 3 + _ = _; omega
theorem scB_good {s : Scene} (h : checkScene s = 0) {m : Nat} (hm : 9 ≤ m) (hp : ∀ x ∈ s.shapes, 2 + 3 * x.points.length ≤ m) : ∀ p ∈ scB s, WB m p := by
  obtain ⟨g0, g1, g2, g3, g4⟩ := scene_facts h
  obtain ⟨f1, f2, f3, f4⟩ := robot_facts g0
  have hn : ∀ j ∈ s.robot.joints, nameOk j.name = true := fun j hj => by
    obtain ⟨i, hi⟩ := List.getElem?_of_mem hj
    exact (f2 i j hi).1
  have one : ∀ {P : ByteArray → Prop} {a : ByteArray} {l : List ByteArray}, P a → (∀ x ∈ l, P x) → ∀ x ∈ a :: l, P x := by
    intro P a l h1 h2 x hx
    rcases List.mem_cons.1 hx with rfl | hx
    · exact h1
    · exact h2 x hx
  have dec : ∀ {n m : Int}, 1 ≤ n ∧ n ≤ m → m ≤ 9223372036854775807 → isW (decT n.toNat 1) ∧ (decT n.toNat 1).size ≤ 42 := by
    intro n m hn hm
    have := decT_isW (n := n.toNat) (k := 1) (by omega) (by omega) (by omega)
    exact ⟨this.1, by omega⟩
  intro p hp'
  rw [scB, robB] at hp'
  rcases List.mem_append.1 hp' with hp' | hp'
  · rcases List.mem_append.1 hp' with hp' | hp'
    · rcases List.mem_append.1 hp' with hp' | hp'
      · obtain ⟨j, hj, hp'⟩ := List.mem_flatMap.1 hp'
        obtain ⟨i, hi⟩ := List.getElem?_of_mem hj
        obtain ⟨n1, ⟨n2, n3⟩, ⟨n4, n5⟩, n6, n7, n8⟩ := f2 i j hi
        have hil : i < s.robot.joints.length := (List.getElem?_eq_some_iff.1 hi).1
        simp only [Bool.and_eq_true] at n8
        obtain ⟨⟨⟨c1, c2⟩, c3⟩, c4⟩ := n8
        have nm := name_isW n1
        have nm' : isW j.name ∧ j.name.size ≤ 42 := ⟨nm.1, by omega⟩
        simp only [jB, List.mem_cons, List.not_mem_nil, or_false] at hp'
        rcases hp' with rfl | rfl
        · exact ⟨by show isW wJoint; decide, by show wJoint.size ≤ 5; decide, one nm' (one (kindN_isW n2 n3) (one (linkN_isW hn n4 (by omega)) (one (fmtT_isW _) (one (fmtT_isW _) (one (fmtT_isW _) (one (fmtT_isW _) (one (fmtT_isW _) (one (dec (from1_bd c1) (by decide)) (by simp))))))))), by simp only [List.length_cons, List.length_nil]; decide, by simp only [List.length_cons, List.length_nil]; omega⟩
        · exact ⟨by show isW wLimit; decide, by show wLimit.size ≤ 5; decide, one nm' (one (dec (from1_bd c2) (by decide)) (one (dec (from1_bd c3) (by decide)) (one (dec (from1_bd c4) (by decide)) (by simp)))), by simp only [List.length_cons, List.length_nil]; decide, by simp only [List.length_cons, List.length_nil]; omega⟩
      · obtain ⟨x, hx, rfl⟩ := List.mem_map.1 hp'
        have hok := f4 x hx
        simp only [massOk, Bool.and_eq_true, decide_eq_true_eq] at hok
        exact ⟨by show isW wMass; decide, by show wMass.size ≤ 5; decide, one (linkN_isW hn (by omega) (by omega)) (one (fmtT_isW _) (one (fmtT_isW _) (one (fmtT_isW _) (one (fmtT_isW _) (by simp))))), by simp only [mB, List.length_cons, List.length_nil]; decide, by simp only [mB, List.length_cons, List.length_nil]; omega⟩
    · obtain ⟨x, hx, rfl⟩ := List.mem_map.1 hp'
      obtain ⟨q1, q2, q3, q4, q5⟩ := g2 x hx
      have q1 := link_bd q1
      have hl : (shB s.robot.joints x).2.length = 2 + 3 * x.points.length := by simp only [shB, List.length_cons, pts_len]; omega
      refine ⟨by show isW wShape; decide, by show wShape.size ≤ 5; decide, one (linkN_isW hn (by omega) (by omega)) (one (fmtT_isW _) ?_), ?_, ?_⟩
      · intro a ha
        obtain ⟨v, _, ha⟩ := List.mem_flatMap.1 ha
        exact one (P := fun a => isW a ∧ a.size ≤ 42) (fmtT_isW v.x) (one (fmtT_isW v.y) (one (fmtT_isW v.z) (by simp))) a ha
      · rw [hl]; exact shape_cnt q2 q3
      · rw [hl]; exact hp x hx
  · obtain ⟨x, hx, rfl⟩ := List.mem_map.1 hp'
    obtain ⟨q1, q2⟩ := g4 x hx
    have q1 := link_bd q1
    have q2 := link_bd q2
    exact ⟨by show isW wSkip; decide, by show wSkip.size ≤ 5; decide, one (linkN_isW hn (by omega) (by omega)) (one (linkN_isW hn (by omega) (by omega)) (by simp)), by simp only [skB, List.length_cons, List.length_nil]; decide, by simp only [skB, List.length_cons, List.length_nil]; omega⟩
theorem scB_len (s : Scene) : (scB s).length = 2 * s.robot.joints.length + s.robot.masses.length + s.shapes.length + s.skips.length := by
  rw [scB, List.length_append, List.length_append, robB_len, List.length_map, List.length_map]
theorem mkScene_pts (l : List Int) : ∀ x ∈ (mkScene l).shapes, x.points.length ≤ 4 := by
  intro x hx
  rcases List.mem_append.1 hx with hx | hx
  · obtain ⟨i, _, hx⟩ := List.mem_flatMap.1 hx
    rw [shOf] at hx
    split at hx
    · simp only [List.mem_singleton] at hx; subst hx; exact (mkPts_len _ _ _).2
    · cases hx
  · obtain ⟨i, _, rfl⟩ := List.mem_map.1 hx
    exact (mkPts_len _ _ _).2
/-- the statements of a made scene -/
theorem made_good (l : List Int) : (writeScene (mkScene l)).length ≤ 15 ∧ (∀ s ∈ writeScene (mkScene l), goodS s ∧ (stT s).size ≤ 608) ∧ (∀ s ∈ writeScene (mkScene l), s.args.length ≤ 14) ∧ 1 ≤ (writeScene (mkScene l)).length := by
  have hok := mkScene_ok l
  rw [writeScene, if_pos hok]
  have h1 := mkScene_len l
  have h2 := joints_len l 0
  have h3 : (mkScene l).robot.joints.length = (mkRobot l 0).joints.length := rfl
  have hg := scB_good hok (m := 14) (by omega) fun x hx => by have := mkScene_pts l x hx; omega
  refine ⟨by rw [numb_len, scB_len]; omega, fun s hs => ?_, fun s hs => ?_, by rw [numb_len, scB_len]; omega⟩
  · obtain ⟨p, hp, ln, rfl⟩ := numb_mem hs
    exact (hg p hp).st ln
  · obtain ⟨p, hp, ln, rfl⟩ := numb_mem hs
    exact (hg p hp).len
end Go.Proofs.YtlfclainmbafiaaDoor

/- Data of the types of robots and scenes. -/
namespace Go.Proofs.YtlfclainmbafiaaDoor
open Eng
set_option maxRecDepth 10000

theorem tz_i64 {n : Nat} {ds : List DV} (h : Typed T (n + 1) Y.int64 ds) : ∃ a, ds = [.int .i64 a] := by
  obtain ⟨a, h, _⟩ := h
  exact ⟨a, h⟩
theorem tz_int {n : Nat} {ds : List DV} (h : Typed T (n + 1) Y.int ds) : ∃ a, ds = [.int .i64 a] := by
  obtain ⟨a, h, _⟩ := h
  exact ⟨a, h⟩
theorem tz_str {n : Nat} {ds : List DV} (h : Typed T (n + 1) Y.string ds) : ∃ a, ds = [.str a] := by
  obtain ⟨a, h, _⟩ := h
  exact ⟨a, h⟩
theorem tz_Vec {n : Nat} {ds : List DV} (h : Typed T (n + 2) Y.Vec ds) : ∃ v, ds = encV v := by
  obtain ⟨ps, h1, h2, rfl⟩ := h
  match ps, h1 with
  | [a, b, c], _ =>
    obtain ⟨x, rfl⟩ := tz_i64 (h2 a (by simp))
    obtain ⟨y, rfl⟩ := tz_i64 (h2 b (by simp))
    obtain ⟨z, rfl⟩ := tz_i64 (h2 c (by simp))
    exact ⟨⟨x, y, z⟩, rfl⟩
theorem tz_Joint {n : Nat} {ds : List DV} (h : Typed T (n + 3) Y.Joint ds) : ∃ j, ds = encJ j := by
  obtain ⟨ps, h, rfl⟩ := h
  replace h := all2_cons h
  obtain ⟨d, q, rfl, h1, h⟩ := h
  obtain ⟨a1, rfl⟩ := tz_str h1
  replace h := all2_cons h
  obtain ⟨d, q, rfl, h1, h⟩ := h
  obtain ⟨a2, rfl⟩ := tz_int h1
  replace h := all2_cons h
  obtain ⟨d, q, rfl, h1, h⟩ := h
  obtain ⟨a3, rfl⟩ := tz_int h1
  replace h := all2_cons h
  obtain ⟨d, q, rfl, h1, h⟩ := h
  obtain ⟨a4, rfl⟩ := tz_Vec h1
  replace h := all2_cons h
  obtain ⟨d, q, rfl, h1, h⟩ := h
  obtain ⟨a5, rfl⟩ := tz_i64 h1
  replace h := all2_cons h
  obtain ⟨d, q, rfl, h1, h⟩ := h
  obtain ⟨a6, rfl⟩ := tz_i64 h1
  replace h := all2_cons h
  obtain ⟨d, q, rfl, h1, h⟩ := h
  obtain ⟨a7, rfl⟩ := tz_i64 h1
  replace h := all2_cons h
  obtain ⟨d, q, rfl, h1, h⟩ := h
  obtain ⟨a8, rfl⟩ := tz_i64 h1
  replace h := all2_cons h
  obtain ⟨d, q, rfl, h1, h⟩ := h
  obtain ⟨a9, rfl⟩ := tz_i64 h1
  replace h := all2_cons h
  obtain ⟨d, q, rfl, h1, h⟩ := h
  obtain ⟨a10, rfl⟩ := tz_i64 h1
  obtain rfl := all2_nil h
  exact ⟨⟨a1, a2, a3, a4, a5, a6, a7, a8, a9, a10⟩, rfl⟩
theorem tz_Mass {n : Nat} {ds : List DV} (h : Typed T (n + 3) Y.Mass ds) : ∃ j, ds = encM j := by
  obtain ⟨ps, h, rfl⟩ := h
  replace h := all2_cons h
  obtain ⟨d, q, rfl, h1, h⟩ := h
  obtain ⟨a1, rfl⟩ := tz_int h1
  replace h := all2_cons h
  obtain ⟨d, q, rfl, h1, h⟩ := h
  obtain ⟨a2, rfl⟩ := tz_i64 h1
  replace h := all2_cons h
  obtain ⟨d, q, rfl, h1, h⟩ := h
  obtain ⟨a3, rfl⟩ := tz_Vec h1
  obtain rfl := all2_nil h
  exact ⟨⟨a1, a2, a3⟩, rfl⟩
theorem tz_Skip {n : Nat} {ds : List DV} (h : Typed T (n + 2) Y.Skip ds) : ∃ j, ds = encSk j := by
  obtain ⟨ps, h, rfl⟩ := h
  replace h := all2_cons h
  obtain ⟨d, q, rfl, h1, h⟩ := h
  obtain ⟨a1, rfl⟩ := tz_int h1
  replace h := all2_cons h
  obtain ⟨d, q, rfl, h1, h⟩ := h
  obtain ⟨a2, rfl⟩ := tz_int h1
  obtain rfl := all2_nil h
  exact ⟨⟨a1, a2⟩, rfl⟩
theorem tz_sVec {n : Nat} {ds : List DV} (h : Typed T (n + 3) Y.s_Vec ds) : ∃ l : List Vec, ds = [dVs l] ∧ l.length ≤ 140737488351232 := by
  obtain ⟨rs, h1, h2, _, h3⟩ := h
  obtain ⟨l, rfl⟩ := map_of (enc := encV) fun r hr => tz_Vec (h3 r hr)
  refine ⟨l, h1, ?_⟩
  have : l.length * 24 ≤ reachBytes := by simpa using h2
  unfold reachBytes at this; omega
theorem tz_Shape {n : Nat} {ds : List DV} (h : Typed T (n + 4) Y.Shape ds) : ∃ j, ds = encSh j ∧ j.points.length ≤ 140737488351232 := by
  obtain ⟨ps, h, rfl⟩ := h
  replace h := all2_cons h
  obtain ⟨d, q, rfl, h1, h⟩ := h
  obtain ⟨a1, rfl⟩ := tz_int h1
  replace h := all2_cons h
  obtain ⟨d, q, rfl, h1, h⟩ := h
  obtain ⟨a2, rfl⟩ := tz_i64 h1
  replace h := all2_cons h
  obtain ⟨d, q, rfl, h1, h⟩ := h
  obtain ⟨a3, rfl, h3⟩ := tz_sVec h1
  obtain rfl := all2_nil h
  exact ⟨⟨a1, a2, a3⟩, rfl, h3⟩
theorem map_of' {α : Type} {enc : α → List DV} {Q : α → Prop} : ∀ {rs : List (List DV)}, (∀ r ∈ rs, ∃ a, r = enc a ∧ Q a) → ∃ xs : List α, rs = xs.map enc ∧ ∀ x ∈ xs, Q x
  | [], _ => ⟨[], rfl, by simp⟩
  | r :: rs, h => by
    obtain ⟨a, ha, qa⟩ := h r (by simp)
    obtain ⟨xs, hx, qx⟩ := map_of' (rs := rs) fun r hr => h r (by simp [hr])
    exact ⟨a :: xs, by rw [ha, hx]; rfl, fun x hx' => by
      rcases List.mem_cons.1 hx' with rfl | hx'
      · exact qa
      · exact qx x hx'⟩
theorem tz_Robot {n : Nat} {ds : List DV} (h : Typed T (n + 5) Y.Robot ds) : ∃ r : Robot, ds = [dJs r.joints, dMs r.masses] ∧ r.joints.length ≤ 140737488351232 ∧ r.masses.length ≤ 140737488351232 := by
  obtain ⟨ps, h, rfl⟩ := h
  replace h := all2_cons h
  obtain ⟨d, q, rfl, h1, h⟩ := h
  obtain ⟨rs, e1, b1, _, g1⟩ := h1
  obtain ⟨js, rfl⟩ := map_of (enc := encJ) fun r hr => tz_Joint (g1 r hr)
  replace h := all2_cons h
  obtain ⟨d2, q, rfl, h2, h⟩ := h
  obtain ⟨rs, e2, b2, _, g2⟩ := h2
  obtain ⟨ms, rfl⟩ := map_of (enc := encM) fun r hr => tz_Mass (g2 r hr)
  obtain rfl := all2_nil h
  refine ⟨⟨js, ms⟩, by rw [e1, e2]; rfl, ?_, ?_⟩
  · have : js.length * 104 ≤ reachBytes := by simpa using b1
    unfold reachBytes at this; simp only; omega
  · have : ms.length * 40 ≤ reachBytes := by simpa using b2
    unfold reachBytes at this; simp only; omega
theorem tyB_Robot {n : Nat} {ds : List DV} (h : Typed T (n + 5) Y.Robot ds) : ∃ r : Robot, ds = [dJs r.joints, dMs r.masses] ∧ (r.joints.length ≤ 140737488351232 ∧ r.masses.length ≤ 140737488351232) := tz_Robot h
theorem tyB_Scene {n : Nat} {ds : List DV} (h : Typed T (n + 6) Y.Scene ds) : ∃ s : Scene, ds = [dJs s.robot.joints, dMs s.robot.masses, dShs s.shapes, dSks s.skips] ∧ small s := by
  obtain ⟨ps, h, rfl⟩ := h
  replace h := all2_cons h
  obtain ⟨d, q, rfl, h1, h⟩ := h
  obtain ⟨r, rfl, r1, r2⟩ := tz_Robot h1
  replace h := all2_cons h
  obtain ⟨d, q, rfl, h1, h⟩ := h
  obtain ⟨rs, e1, b1, _, g1⟩ := h1
  obtain ⟨shs, rfl, gs⟩ := map_of' (enc := encSh) (Q := fun x => x.points.length ≤ 140737488351232) fun r hr => tz_Shape (g1 r hr)
  replace h := all2_cons h
  obtain ⟨d2, q, rfl, h2, h⟩ := h
  obtain ⟨rs, e2, b2, _, g2⟩ := h2
  obtain ⟨sks, rfl⟩ := map_of (enc := encSk) fun r hr => tz_Skip (g2 r hr)
  obtain rfl := all2_nil h
  refine ⟨⟨r, shs, sks⟩, by rw [e1, e2]; rfl, ?_⟩
  have a1 : shs.length * 40 ≤ reachBytes := by simpa using b1
  have a2 : sks.length * 16 ≤ reachBytes := by simpa using b2
  unfold reachBytes at a1 a2
  exact ⟨by simp only; omega, by simp only; omega, by simp only; omega, by simp only; omega, fun x hx => by have := gs x hx; omega⟩
end Go.Proofs.YtlfclainmbafiaaDoor

/- law8: changed, RobotChecks. -/
namespace Go.Proofs.YtlfclainmbafiaaDoor
open Eng
set_option maxRecDepth 10000
attribute [local irreducible] FnOk loopW idxF retX arrF findF

def nearT : List Int := [-1, 0, 1, 4194304, 4194305, -4194305, 524288, 524289, 1099511627776]
theorem near_at (n : Nat) (h : n < 9) : ∃ (tl : List CV), (nearT.map fun x => CV.dv (.int .i64 x)).drop (0 + n * 1) = CV.dv (.int .i64 (nearT.getD n 0)) :: tl := by
  match n, h with
  | 0, _ | 1, _ | 2, _ | 3, _ | 4, _ | 5, _ | 6, _ | 7, _ | 8, _ => exact ⟨_, rfl⟩
def costT8 : List Int := [0, 1, 1024, 1025, -1]
def speedT8 : List Int := [0, 1, 1048576, 1048577]
def torqT8 : List Int := [0, 1, 1099511627776, 1099511627777]
def massT8 : List Int := [0, 1, 65536, 65537]
def nameT8 : List ByteArray := [⟨#[]⟩, ⟨#[97]⟩, worldT, ⟨#[65]⟩, ⟨#[97, 98, 99, 100, 101, 102, 103, 104, 105, 106, 97, 98, 99, 100, 101, 102, 103]⟩, ⟨#[122, 95, 57]⟩]
theorem arr_int8 {te : TI} {tb : List Int} {i : Nat} {x : Int} {k : SV → Prop} (ha : te.kind.agg = false) (hs : te.size = 1) (hc : tb[i]? = some x) (h : k (I x)) : arrF te (tb.map fun x => CV.dv (.int .i64 x)) i k :=
  arr_at ha hs (by rw [List.getElem?_map, hc]; rfl) h
theorem arr_str8 {te : TI} {tb : List ByteArray} {i : Nat} {x : ByteArray} {k : SV → Prop} (ha : te.kind.agg = false) (hs : te.size = 1) (hc : tb[i]? = some x) (h : k (Tx x)) : arrF te (tb.map fun x => CV.dv (.str x)) i k :=
  arr_at ha hs (by rw [List.getElem?_map, hc]; rfl) h
theorem tab_at8 {α : Type} {tb : List α} (d : α) {v : Int} {n : Nat} (hn : tb.length = n) (h0 : 0 ≤ v) (h1 : v < n) : tb[v.toNat]? = some (tb.getD v.toNat d) := by
  have h : v.toNat < tb.length := by omega
  rw [List.getD_eq_getElem?_getD, List.getElem?_eq_getElem h]; rfl
theorem setJ {js : List Joint} {k : Nat} {y : Joint} {r : List DV} (h : r = encJ y) : (js.map encJ).set k r = (js.set k y).map encJ := by rw [h, List.map_set]
theorem roJ {ms : List Mass} {a b : List (List DV)} (h : a = b) : SV.agg [.dv (.lst 12 a), .dv (dMs ms)] = SV.agg [.dv (.lst 12 b), .dv (dMs ms)] := by rw [h]
theorem roM {js : List Joint} {a b : List (List DV)} (h : a = b) : SV.agg [.dv (dJs js), .dv (.lst 5 a)] = SV.agg [.dv (dJs js), .dv (.lst 5 b)] := by rw [h]
theorem ldC_is {ti : TI} {cs : List CV} {x : Int} {tl : List CV} {K : SV → Prop} (h : cs = CV.dv (.int .i64 x) :: tl) (hK : ldC ti (CV.dv (.int .i64 x) :: tl) K) : ldC ti cs K := by rw [h]; exact hK
def moreJ1 (n i : Nat) : Joint := ⟨⟨#[113]⟩ ++ decT (n + i) 1, 0, -1, ⟨0, 0, 0⟩, 0, 0, 1, 1, 1, 1⟩
def moreJ (n : Nat) (m : Nat) : List Joint := (List.range m).map (moreJ1 n)
theorem moreJ_len (n m : Nat) : (moreJ n m).length = m := by rw [moreJ, List.length_map, List.length_range]
theorem moreJ_succ (n m : Nat) : moreJ n (m + 1) = moreJ n m ++ [moreJ1 n m] := by rw [moreJ, List.range_succ, List.map_append]; rfl
def j80 : Joint := ⟨ByteArray.empty, 0, 0, ⟨0, 0, 0⟩, 0, 0, 0, 0, 0, 0⟩
def kJ (r : Robot) (at_ : Int) : Nat := (at_ % (r.joints.length : Int)).toNat
def upJ (r : Robot) (at_ : Int) (f : Joint → Joint) : Robot := ⟨r.joints.set (kJ r at_) (f (r.joints.getD (kJ r at_) j80)), r.masses⟩
def set3 (o : Vec) (d x : Int) : Vec := if d = 0 then ⟨x, o.y, o.z⟩ else if d = 1 then ⟨o.x, x, o.z⟩ else ⟨o.x, o.y, x⟩
def nearX (v : Int) : Int := nearT.getD (v % 9).toNat 0
def chg8 (r : Robot) (how at_ v : Int) : Robot :=
  if how % 12 = 0 then upJ r at_ fun j => { j with name := nameT8.getD (v % 6).toNat ByteArray.empty }
  else if how % 12 = 1 then upJ r at_ fun j => { j with kind := v % 9 - 1 }
  else if how % 12 = 2 then upJ r at_ fun j => { j with parent := v % 6 - 2 }
  else if how % 12 = 3 then upJ r at_ fun j => { j with off := set3 j.off (at_ % 3) (nearX v) }
  else if how % 12 = 4 then upJ r at_ fun j => { j with lo := nearX v }
  else if how % 12 = 5 then upJ r at_ fun j => { j with hi := nearX v }
  else if how % 12 = 6 then upJ r at_ fun j => { j with weight := costT8.getD (v % 5).toNat 0 }
  else if how % 12 = 7 then upJ r at_ fun j => { j with speed := speedT8.getD (v % 4).toNat 0, accel := speedT8.getD (at_ % 4).toNat 0 }
  else if how % 12 = 8 then upJ r at_ fun j => { j with torque := torqT8.getD (v % 4).toNat 0 }
  else if how % 12 = 9 then ⟨r.joints, r.masses ++ [⟨v % 6 - 1, massT8.getD (at_ % 4).toNat 0, ⟨nearX v, 0, 0⟩⟩]⟩
  else if how % 12 = 10 then ⟨r.joints ++ moreJ r.joints.length ((10 + v % 2).toNat - r.joints.length), r.masses⟩
  else ⟨r.joints, r.masses ++ List.replicate ((32 + v % 2).toNat - r.masses.length) ⟨0, 1, ⟨0, 0, 0⟩⟩⟩
theorem upJ_len (r : Robot) (at_ : Int) (f : Joint → Joint) : (upJ r at_ f).joints.length = r.joints.length ∧ (upJ r at_ f).masses = r.masses := by
  rw [upJ]; exact ⟨by simp, rfl⟩
theorem ite_P {c : Prop} [Decidable c] {a b : Robot} (ha : a.joints.length ≤ 11 ∧ a.masses.length ≤ 33) (hb : b.joints.length ≤ 11 ∧ b.masses.length ≤ 33) : (if c then a else b).joints.length ≤ 11 ∧ (if c then a else b).masses.length ≤ 33 := by
  split <;> assumption
theorem chg8_len (r : Robot) (how at_ v : Int) (j2 : r.joints.length ≤ 10) (m2 : r.masses.length ≤ 32) : (chg8 r how at_ v).joints.length ≤ 11 ∧ (chg8 r how at_ v).masses.length ≤ 33 := by
  have up : ∀ f, (upJ r at_ f).joints.length ≤ 11 ∧ (upJ r at_ f).masses.length ≤ 33 := fun f => by
    have h := upJ_len r at_ f
    rw [h.1, h.2]; omega
  unfold chg8
  refine ite_P (up _) (ite_P (up _) (ite_P (up _) (ite_P (up _) (ite_P (up _) (ite_P (up _) (ite_P (up _) (ite_P (up _) (ite_P (up _) (ite_P ?_ (ite_P ?_ ?_))))))))))
  · simp; omega
  · simp [moreJ_len]; omega
  · simp; omega
set_option maxHeartbeats 8000000 in
theorem law8_changed (r : Robot) (how at_ v : Int) (j1 : 1 ≤ r.joints.length) (j2 : r.joints.length ≤ 10) (m2 : r.masses.length ≤ 32) : FnOk Tryd.prog F.law8_changed [Ro r, I how, I at_, I v] [] 0 (Ro (chg8 r how at_ v)) [] 0 := by
  have hk0 := Int.emod_nonneg at_ (b := (r.joints.length : Int)) (by omega)
  have hk1 := Int.emod_lt_of_pos at_ (b := (r.joints.length : Int)) (by omega)
  obtain ⟨k, hk⟩ : ∃ k : Nat, at_ % (r.joints.length : Int) = k := ⟨(at_ % (r.joints.length : Int)).toNat, by omega⟩
  have hks : k < r.joints.length := by omega
  obtain ⟨j, hj⟩ : ∃ j, r.joints[k]? = some j := ⟨_, List.getElem?_eq_getElem hks⟩
  have hjr : (r.joints.map encJ)[k]? = some (encJ j) := by rw [List.getElem?_map, hj]; rfl
  have hkJ : kJ r at_ = k := by rw [kJ, hk, Int.toNat_natCast]
  have hup : ∀ f, upJ r at_ f = ⟨r.joints.set k (f j), r.masses⟩ := fun f => by
    rw [upJ, hkJ, List.getD_eq_getElem?_getD, hj]; rfl
  obtain ⟨tl, hx⟩ := near_at (v % 9).toNat (by omega)
  have hxe : nearT.getD (v % 9).toNat 0 = nearX v := rfl
  rw [hxe] at hx
  have h0 := Int.emod_nonneg how (b := (12 : Int)) (by decide)
  have h12 := Int.emod_lt_of_pos how (b := (12 : Int)) (by decide)
  refine fnOk tab mix G.law8_changed rfl rfl (by kernel_rfl) rfl rfl ?_
  (conv => whnf)
  refine ⟨⟨by simp; omega, by simp; omega⟩, ?_⟩
  (conv => whnf)
  refine ⟨⟨by simp; omega, by simp; omega⟩, ?_⟩
  (conv => whnf)
  rw [List.length_map]
  refine call_i (mk_Round at_ r.joints.length (by omega) (by omega)) ?_
  (conv => whnf)
  rw [hk]
  refine ⟨⟨by omega, by simp; omega⟩, ?_⟩
  (conv => whnf)
  rw [Int.toNat_natCast]
  refine call_i (mk_Round v 9 (by decide) (by decide)) ?_
  (conv => whnf)
  refine ⟨⟨by omega, by omega⟩, ?_⟩
  (conv => whnf)
  split
  case h_2 heq => cases heq.symm.trans hx
  rename_i heq
  have e := heq.symm.trans hx
  injection e with e1 e2
  subst e1
  clear heq e2
  (conv => whnf)
  refine call_i (mk_Round how 12 (by decide) (by decide)) ?_
  (conv => whnf)
  rcases (show how % 12 = 0 ∨ how % 12 = 1 ∨ how % 12 = 2 ∨ how % 12 = 3 ∨ how % 12 = 4 ∨ how % 12 = 5 ∨ how % 12 = 6 ∨ how % 12 = 7 ∨ how % 12 = 8 ∨ how % 12 = 9 ∨ how % 12 = 10 ∨ how % 12 = 11 by omega) with e | e | e | e | e | e | e | e | e | e | e | e
  · have hc : chg8 r how at_ v = upJ r at_ fun j => { j with name := nameT8.getD (v % 6).toNat ByteArray.empty } := by simp [chg8, e]
    rw [hc, hup, e]
    (conv => whnf)
    refine call_i (mk_Round v 6 (by decide) (by decide)) ?_
    (conv => whnf)
    refine ⟨⟨by omega, by show _ < (6 : Int); omega⟩, ?_⟩
    refine arr_str8 (tb := nameT8) rfl rfl (tab_at8 ByteArray.empty (n := 6) rfl (by omega) (by omega)) ?_
    (conv => whnf)
    refine idx_at hjr ?_
    (conv => whnf)
    (conv => whnf)
    refine retO [.frz 2, .frz 3] ?_
    (conv => whnf)
    exact ⟨[], ⟨roJ (setJ (y := { j with name := nameT8.getD (v % 6).toNat ByteArray.empty }) rfl), trivial⟩, trivial⟩
  · have hc : chg8 r how at_ v = upJ r at_ fun j => { j with kind := v % 9 - 1 } := by simp [chg8, e]
    rw [hc, hup, e]
    (conv => whnf)
    refine call_i (mk_Round v 9 (by decide) (by decide)) ?_
    (conv => whnf)
    rw [w64 (x := v % 9 - 1) (by omega) (by omega)]
    refine idx_at hjr ?_
    (conv => whnf)
    (conv => whnf)
    refine retO [.frz 2, .frz 3] ?_
    (conv => whnf)
    exact ⟨[], ⟨roJ (setJ (y := { j with kind := v % 9 - 1 }) rfl), trivial⟩, trivial⟩
  · have hc : chg8 r how at_ v = upJ r at_ fun j => { j with parent := v % 6 - 2 } := by simp [chg8, e]
    rw [hc, hup, e]
    (conv => whnf)
    refine call_i (mk_Round v 6 (by decide) (by decide)) ?_
    (conv => whnf)
    rw [w64 (x := v % 6 - 2) (by omega) (by omega)]
    refine idx_at hjr ?_
    (conv => whnf)
    (conv => whnf)
    refine retO [.frz 2, .frz 3] ?_
    (conv => whnf)
    exact ⟨[], ⟨roJ (setJ (y := { j with parent := v % 6 - 2 }) rfl), trivial⟩, trivial⟩
  · have hc : chg8 r how at_ v = upJ r at_ fun j => { j with off := set3 j.off (at_ % 3) (nearX v) } := by simp [chg8, e]
    rw [hc, hup, e]
    (conv => whnf)
    refine call_i (mk_Round at_ 3 (by decide) (by decide)) ?_
    (conv => whnf)
    rcases (show at_ % 3 = 0 ∨ at_ % 3 = 1 ∨ at_ % 3 = 2 by omega) with e3 | e3 | e3
    · rw [e3]
      refine ⟨⟨by decide, by decide⟩, ?_⟩
      (conv => whnf)
      refine idx_at hjr ?_
      (conv => whnf)
      (conv => whnf)
      refine retO [.frz 2, .frz 3] ?_
      (conv => whnf)
      exact ⟨[], ⟨roJ (setJ (y := { j with off := set3 j.off 0 (nearX v) }) rfl), trivial⟩, trivial⟩
    · rw [e3]
      refine ⟨⟨by decide, by decide⟩, ?_⟩
      (conv => whnf)
      refine idx_at hjr ?_
      (conv => whnf)
      (conv => whnf)
      refine retO [.frz 2, .frz 3] ?_
      (conv => whnf)
      exact ⟨[], ⟨roJ (setJ (y := { j with off := set3 j.off 1 (nearX v) }) rfl), trivial⟩, trivial⟩
    · rw [e3]
      refine ⟨⟨by decide, by decide⟩, ?_⟩
      (conv => whnf)
      refine idx_at hjr ?_
      (conv => whnf)
      (conv => whnf)
      refine retO [.frz 2, .frz 3] ?_
      (conv => whnf)
      exact ⟨[], ⟨roJ (setJ (y := { j with off := set3 j.off 2 (nearX v) }) rfl), trivial⟩, trivial⟩
  · have hc : chg8 r how at_ v = upJ r at_ fun j => { j with lo := nearX v } := by simp [chg8, e]
    rw [hc, hup, e]
    (conv => whnf)
    refine idx_at hjr ?_
    (conv => whnf)
    (conv => whnf)
    refine retO [.frz 2, .frz 3] ?_
    (conv => whnf)
    exact ⟨[], ⟨roJ (setJ (y := { j with lo := nearX v }) rfl), trivial⟩, trivial⟩
  · have hc : chg8 r how at_ v = upJ r at_ fun j => { j with hi := nearX v } := by simp [chg8, e]
    rw [hc, hup, e]
    (conv => whnf)
    refine idx_at hjr ?_
    (conv => whnf)
    (conv => whnf)
    refine retO [.frz 2, .frz 3] ?_
    (conv => whnf)
    exact ⟨[], ⟨roJ (setJ (y := { j with hi := nearX v }) rfl), trivial⟩, trivial⟩
  · have hc : chg8 r how at_ v = upJ r at_ fun j => { j with weight := costT8.getD (v % 5).toNat 0 } := by simp [chg8, e]
    rw [hc, hup, e]
    (conv => whnf)
    refine call_i (mk_Round v 5 (by decide) (by decide)) ?_
    (conv => whnf)
    refine ⟨⟨by omega, by show _ < (5 : Int); omega⟩, ?_⟩
    refine arr_int8 (tb := costT8) rfl rfl (tab_at8 0 (n := 5) rfl (by omega) (by omega)) ?_
    (conv => whnf)
    refine idx_at hjr ?_
    (conv => whnf)
    (conv => whnf)
    refine retO [.frz 2, .frz 3] ?_
    (conv => whnf)
    exact ⟨[], ⟨roJ (setJ (y := { j with weight := costT8.getD (v % 5).toNat 0 }) rfl), trivial⟩, trivial⟩
  · have hc : chg8 r how at_ v = upJ r at_ fun j => { j with speed := speedT8.getD (v % 4).toNat 0, accel := speedT8.getD (at_ % 4).toNat 0 } := by simp [chg8, e]
    rw [hc, hup, e]
    (conv => whnf)
    refine call_i (mk_Round v 4 (by decide) (by decide)) ?_
    (conv => whnf)
    refine ⟨⟨by omega, by show _ < (4 : Int); omega⟩, ?_⟩
    refine arr_int8 (tb := speedT8) rfl rfl (tab_at8 0 (n := 4) rfl (by omega) (by omega)) ?_
    (conv => whnf)
    refine call_i (mk_Round at_ 4 (by decide) (by decide)) ?_
    (conv => whnf)
    refine ⟨⟨by omega, by show _ < (4 : Int); omega⟩, ?_⟩
    refine arr_int8 (tb := speedT8) rfl rfl (tab_at8 0 (n := 4) rfl (by omega) (by omega)) ?_
    (conv => whnf)
    refine idx_at hjr ?_
    (conv => whnf)
    refine idx_at (List.getElem?_set_self (by rw [List.length_map]; exact hks)) ?_
    (conv => whnf)
    (conv => whnf)
    refine retO [.frz 2, .frz 3] ?_
    (conv => whnf)
    refine ⟨[], ⟨roJ ?_, trivial⟩, trivial⟩
    rw [List.set_set]
    exact setJ (y := { j with speed := speedT8.getD (v % 4).toNat 0, accel := speedT8.getD (at_ % 4).toNat 0 }) rfl
  · have hc : chg8 r how at_ v = upJ r at_ fun j => { j with torque := torqT8.getD (v % 4).toNat 0 } := by simp [chg8, e]
    rw [hc, hup, e]
    (conv => whnf)
    refine call_i (mk_Round v 4 (by decide) (by decide)) ?_
    (conv => whnf)
    refine ⟨⟨by omega, by show _ < (4 : Int); omega⟩, ?_⟩
    refine arr_int8 (tb := torqT8) rfl rfl (tab_at8 0 (n := 4) rfl (by omega) (by omega)) ?_
    (conv => whnf)
    refine idx_at hjr ?_
    (conv => whnf)
    (conv => whnf)
    refine retO [.frz 2, .frz 3] ?_
    (conv => whnf)
    exact ⟨[], ⟨roJ (setJ (y := { j with torque := torqT8.getD (v % 4).toNat 0 }) rfl), trivial⟩, trivial⟩
  · have hc : chg8 r how at_ v = ⟨r.joints, r.masses ++ [⟨v % 6 - 1, massT8.getD (at_ % 4).toNat 0, ⟨nearX v, 0, 0⟩⟩]⟩ := by simp [chg8, e]
    rw [hc, e]
    (conv => whnf)
    refine call_i (mk_Round v 6 (by decide) (by decide)) ?_
    (conv => whnf)
    refine call_i (mk_Round at_ 4 (by decide) (by decide)) ?_
    (conv => whnf)
    refine ⟨⟨by omega, by show _ < (4 : Int); omega⟩, ?_⟩
    refine arr_int8 (tb := massT8) rfl rfl (tab_at8 0 (n := 4) rfl (by omega) (by omega)) ?_
    (conv => whnf)
    refine ⟨⟨by simp; omega, by simp; omega⟩, ?_⟩
    (conv => whnf)
    rw [w64 (x := v % 6 - 1) (by omega) (by omega)]
    (conv => whnf)
    refine retO [.frz 2, .frz 7] ?_
    (conv => whnf)
    exact ⟨[], ⟨roM (by rw [List.map_append]; rfl), trivial⟩, trivial⟩
  · have hc : chg8 r how at_ v = ⟨r.joints ++ moreJ r.joints.length ((10 + v % 2).toNat - r.joints.length), r.masses⟩ := by simp [chg8, e]
    rw [hc, e]
    (conv => whnf)
    refine loop_intro (fun m : Nat => ⟨[(3, I v), (8, .one (.vptr 1 0)), (9, .one (.vptr 4 0))], [(1, .vars Y.Robot [.nil 12, .nil 5]), (2, .rows Y.Joint 12 ((r.joints ++ moreJ r.joints.length m).map encJ)), (3, .rows Y.Mass 5 (r.masses.map encM)), (4, .vars Y.Robot [.row 2, .row 3])], 6⟩) (fun m => m ≤ (10 + v % 2).toNat - r.joints.length) (fun m => (10 + v % 2).toNat - r.joints.length - m) [] 0 [] (Nat.zero_le _) ⟨⟨rfl, rfl, rfl, trivial⟩, ⟨rfl, rows_eq (by rw [show moreJ r.joints.length 0 = [] from rfl, List.append_nil]), rfl, rfl, trivial⟩⟩ ?_
    rintro m hm
    have hl : ((r.joints ++ moreJ r.joints.length m).map encJ).length = r.joints.length + m := by rw [List.length_map, List.length_append, moreJ_len]
    (conv => whnf)
    refine call_i (mk_Round v 2 (by decide) (by decide)) ?_
    (conv => whnf)
    rw [w64 (x := 10 + v % 2) (by omega) (by omega), hl]
    refine ask_m (fun h => ?_) (fun h => ?_)
    · have hlt : m < (10 + v % 2).toNat - r.joints.length := by have := of_decide_eq_true h; omega
      (conv => whnf)
      rw [hl]
      refine call_i (ref_DecimalT (r.joints.length + m) 1 (by omega) (by omega)) ?_
      (conv => whnf)
      have hz := decT_size (n := r.joints.length + m) (k := 1) (by omega) (by omega)
      refine ⟨(Nat.le_trans (Nat.add_le_add_left hz.1 _) (by decide)), ?_⟩
      (conv => whnf)
      refine ⟨⟨by rw [List.length_append, hl]; simp; omega, by rw [List.length_append, hl]; simp; omega⟩, ?_⟩
      (conv => whnf)
      refine ⟨m + 1, [(2, 7)], hlt, by omega, ⟨⟨rfl, rfl, rfl, trivial⟩, ⟨rfl, rows_eq ?_, rfl, rfl, trivial⟩⟩⟩
      rw [moreJ_succ, ← List.append_assoc, List.map_append (l₁ := r.joints ++ moreJ r.joints.length m)]; rfl
    · have hm : m = (10 + v % 2).toNat - r.joints.length := by have := of_decide_eq_false h; omega
      subst hm
      (conv => whnf)
      refine retO [.frz 2, .frz 3] ?_
      (conv => whnf)
      exact ⟨[], ⟨rfl, trivial⟩, trivial⟩
  · have hc : chg8 r how at_ v = ⟨r.joints, r.masses ++ List.replicate ((32 + v % 2).toNat - r.masses.length) ⟨0, 1, ⟨0, 0, 0⟩⟩⟩ := by simp [chg8, e]
    rw [hc, e]
    (conv => whnf)
    refine loop_intro (fun m : Nat => ⟨[(3, I v), (8, .one (.vptr 1 0)), (9, .one (.vptr 4 0))], [(1, .vars Y.Robot [.nil 12, .nil 5]), (2, .rows Y.Joint 12 (r.joints.map encJ)), (3, .rows Y.Mass 5 ((r.masses ++ List.replicate m (⟨0, 1, ⟨0, 0, 0⟩⟩ : Mass)).map encM)), (4, .vars Y.Robot [.row 2, .row 3])], 6⟩) (fun m => m ≤ (32 + v % 2).toNat - r.masses.length) (fun m => (32 + v % 2).toNat - r.masses.length - m) [] 0 [] (Nat.zero_le _) ⟨⟨rfl, rfl, rfl, trivial⟩, ⟨rfl, rfl, rows_eq (by rw [List.replicate_zero, List.append_nil]), rfl, trivial⟩⟩ ?_
    rintro m hm
    have hl : ((r.masses ++ List.replicate m (⟨0, 1, ⟨0, 0, 0⟩⟩ : Mass)).map encM).length = r.masses.length + m := by rw [List.length_map, List.length_append, List.length_replicate]
    (conv => whnf)
    refine call_i (mk_Round v 2 (by decide) (by decide)) ?_
    (conv => whnf)
    rw [w64 (x := 32 + v % 2) (by omega) (by omega), hl]
    refine ask_m (fun h => ?_) (fun h => ?_)
    · have hlt : m < (32 + v % 2).toNat - r.masses.length := by have := of_decide_eq_true h; omega
      (conv => whnf)
      refine ⟨⟨by rw [List.length_append, hl]; simp; omega, by rw [List.length_append, hl]; simp; omega⟩, ?_⟩
      (conv => whnf)
      refine ⟨m + 1, [(3, 7)], hlt, by omega, ⟨⟨rfl, rfl, rfl, trivial⟩, ⟨rfl, rfl, rows_eq ?_, rfl, trivial⟩⟩⟩
      rw [List.replicate_succ', ← List.append_assoc, List.map_append (l₁ := r.masses ++ List.replicate m _)]; rfl
    · have hm : m = (32 + v % 2).toNat - r.masses.length := by have := of_decide_eq_false h; omega
      subst hm
      (conv => whnf)
      refine retO [.frz 2, .frz 3] ?_
      (conv => whnf)
      exact ⟨[], ⟨rfl, trivial⟩, trivial⟩
theorem law8_Checks (raw : Robot) (l : List Int) (how at_ v : Int) (hr : raw.joints.length ≤ 140737488351232 ∧ raw.masses.length ≤ 140737488351232) (hl : l.length ≤ 17592186044416) (h1 : True) (h2 : True) (h3 : True) : FnOk Tryd.prog F.law8_RobotChecks [Ro raw, Li l, I how, I at_, I v] [] 0 (Bo true) [] 0 := by
  refine fnOk tab mix G.law8_RobotChecks rfl rfl (by kernel_rfl) rfl rfl ?_
  (conv => whnf)
  refine call_i (mk_Robot l (by omega)) ?_
  (conv => whnf)
  have hok := mkRobot_ok l 0
  obtain ⟨g1, _, g3, _⟩ := robot_facts hok
  obtain ⟨_, g2, _⟩ := robot_good hok
  generalize mkRobot l 0 = r at *
  refine call_i (law8_changed r how at_ v (by omega) (by omega) (by omega)) ?_
  (conv => whnf)
  have hc := chg8_len r how at_ v (by omega) (by omega)
  generalize chg8 r how at_ v = x at *
  refine call_i (law8_awake) ?_
  (conv => whnf)
  refine call_i (robot_Check r (by omega) (by omega)) ?_
  (conv => whnf)
  refine ask_mt (by simp [hok]) ?_
  (conv => whnf)
  refine call_i (robot_Check raw (by omega) (by omega)) ?_
  (conv => whnf)
  refine call_i (ref_CheckRobot raw (by omega) (by omega)) ?_
  (conv => whnf)
  refine ask_mt (by simp) ?_
  (conv => whnf)
  refine call_i (robot_Check x (by omega) (by omega)) ?_
  (conv => whnf)
  refine call_i (ref_CheckRobot x (by omega) (by omega)) ?_
  (conv => whnf)
  (conv => whnf)
  refine ret0 ?_
  exact ret_b (by simp) rfl
end Go.Proofs.YtlfclainmbafiaaDoor

/- law8: reads, RobotReads. -/
namespace Go.Proofs.YtlfclainmbafiaaDoor
open Eng
set_option maxRecDepth 10000
attribute [local irreducible] FnOk loopW idxF retX arrF findF

theorem cmpSE8 : cmpB Tryd.prog 8 Y.SourceError = true ∧ Tryd.prog.eqGuardType Tryd.prog.depth Y.SourceError = false := ⟨by kernel_rfl, by kernel_rfl⟩
theorem readAll_len : ∀ (l : List Stmt) (r : Robot), (readAll r l).1.joints.length ≤ r.joints.length + l.length ∧ (readAll r l).1.masses.length ≤ r.masses.length + l.length
  | [], r => ⟨Nat.le_refl _, Nat.le_refl _⟩
  | s :: l, r => by
    rw [readAll]
    split
    · obtain ⟨h1, h2⟩ := readAll_len l (readSt r s).2
      obtain ⟨h3, h4⟩ := readSt_len r s
      rw [List.length_cons]; omega
    · exact ⟨Nat.zero_le _, Nat.zero_le _⟩
theorem readRobot_len (l : List Stmt) : (readRobot l).1.joints.length ≤ l.length ∧ (readRobot l).1.masses.length ≤ l.length := by
  have h := readAll_len l emptyR
  rw [readRobot]
  split
  · exact ⟨by have := h.1; simp [emptyR] at this; simpa [emptyR] using this, by have := h.2; simp [emptyR] at this; simpa [emptyR] using this⟩
  · split
    · exact ⟨Nat.zero_le _, Nat.zero_le _⟩
    · exact ⟨by have := h.1; simp [emptyR] at this; simpa [emptyR] using this, by have := h.2; simp [emptyR] at this; simpa [emptyR] using this⟩
theorem law8_reads (l : List Stmt) (hl : l.length ≤ 10000000) (hs : ∀ s ∈ l, stOk s) : FnOk Tryd.prog F.law8_reads [.one (.dv (dSts l))] [] 0 (Bo true) [] 0 := by
  have h1 := robot_Read l hl hs
  have h2 := ref_ReadRobot l hl hs
  obtain ⟨g1, g2⟩ := readRobot_len l
  generalize readRobot l = R at *
  obtain ⟨R, c, n⟩ := R
  simp only at g1 g2
  have e : decide (R = R) = true := by simp
  refine fnOk tab mix G.law8_reads rfl rfl (by kernel_rfl) rfl rfl ?_
  (conv => whnf)
  refine call_i (h1) ?_
  (conv => whnf)
  refine call_i (h2) ?_
  (conv => whnf)
  refine call_i (mk_SameRobot R R ⟨by omega, by omega⟩ ⟨by omega, by omega⟩) ?_
  (conv => whnf)
  rw [e]
  (conv => whnf)
  refine ⟨cmpSE8, ?_⟩
  (conv => whnf)
  (conv => whnf)
  refine ret0 ?_
  exact ret_b (by simp) rfl
theorem args_some {w : ByteArray} {n : Nat} (h : argsB w n = true) : 1 ≤ n := by
  unfold argsB at h
  cases hc : countsOf w with
  | none => rw [hc] at h; cases h
  | some c =>
    rw [hc] at h
    simp only [allowB, Bool.and_eq_true, decide_eq_true_eq] at h
    have hm : 1 ≤ c.least := by
      unfold countsOf at hc
      repeat' split at hc
      all_goals first
        | (injection hc with hc; subst hc; decide)
        | cases hc
    omega
theorem arg_size {s : Stmt} {w : ByteArray} (h : w ∈ s.args) : w.size ≤ (stT s).size := by
  have : ∀ (l : List ByteArray), w ∈ l → w.size ≤ (argT l).size := fun l => by
    induction l with
    | nil => intro h; cases h
    | cons x l ih =>
      intro h
      rw [argT, catB_cons, ByteArray.size_append, ByteArray.size_append]
      rcases List.mem_cons.1 h with rfl | h
      · omega
      · have := ih h
        rw [argT] at this
        omega
  have := this s.args h
  rw [stT, ByteArray.size_append, ByteArray.size_append]
  omega
theorem readsR (X : List Stmt) (S : List (List DV)) (hS : S = X.map encSt) (hl : X.length ≤ 10000000) (hs : ∀ s ∈ X, stOk s) : FnOk Tryd.prog F.law8_reads [.one (.dv (.lst 3 S))] [] 0 (Bo true) [] 0 := by
  subst hS; exact law8_reads X hl hs
def wordTab8 : List ByteArray := [⟨#[97]⟩, ⟨#[98]⟩, ⟨#[119, 111, 114, 108, 100]⟩, ⟨#[116, 117, 114, 110, 120]⟩, ⟨#[115, 108, 105, 100, 101, 122]⟩, ⟨#[49]⟩, ⟨#[45, 49]⟩, ⟨#[48, 46, 53]⟩, ⟨#[49, 46, 50, 46, 51]⟩, ⟨#[57, 57, 57, 57, 57]⟩, ⟨#[49, 48, 50, 53]⟩, ⟨#[65]⟩]
set_option maxHeartbeats 2000000 in
theorem law8_RobotReads (l : List Stmt) (x : List Int) (a w v : Int) (hs : ∀ s ∈ l, stOk s) (hx : x.length ≤ 17592186044416) (_ _ _ : True) (hBk : bulkRs [[dSts l], [.lst 1 (x.map encI)], [.int .i64 a], [.int .i64 w], [.int .i64 v]] ≤ 1048576) : FnOk Tryd.prog F.law8_RobotReads [.one (.dv (dSts l)), Li x, I a, I w, I v] [] 0 (Bo true) [] 0 := by
  have hl : l.length ≤ 1048576 := by
    have hb : bulkRs (l.map encSt) ≤ 1048576 := by simp [bulkRs, bulkDs, bulkD] at hBk; omega
    have : ∀ l : List Stmt, l.length ≤ bulkRs (l.map encSt) := fun l => by
      induction l with
      | nil => exact Nat.le_refl _
      | cons s l ih => rw [List.map_cons, bulkRs, List.length_cons]; simp [encSt, bulkDs, bulkD]; omega
    exact Nat.le_trans (this l) hb
  clear hBk
  obtain ⟨m1, m2, m3, m4⟩ := made_good x
  refine fnOkG [(2, [.frz 0]), (7, [.ask]), (8, [.ask])] tab mix G.law8_RobotReads rfl rfl (by kernel_rfl) rfl rfl ?_
  (conv => whnf)
  refine call_i (mk_Scene x (by omega)) ?_
  (conv => whnf)
  refine call_i (ref_WriteScene (mkScene x) (mkScene_small x)) ?_
  (conv => whnf)
  generalize writeScene (mkScene x) = V at *
  refine ⟨⟨by rw [List.length_map]; omega, by show _ * 48 ≤ _; rw [List.length_map]; omega⟩, ?_⟩
  (conv => whnf)
  refine call_i (mk_Round a ((V.map encSt).length : Int) (by rw [List.length_map]; omega) (by rw [List.length_map]; omega)) ?_
  (conv => whnf)
  have a1 := Int.emod_nonneg a (b := ((V.map encSt).length : Int)) (by rw [List.length_map]; omega)
  have a2 := Int.emod_lt_of_pos a (b := ((V.map encSt).length : Int)) (by rw [List.length_map]; omega)
  obtain ⟨i, hi⟩ : ∃ i : Nat, a % ((V.map encSt).length : Int) = i := ⟨_, (Int.toNat_of_nonneg a1).symm⟩
  rw [hi] at a2 ⊢
  have hiV : i < V.length := by rw [List.length_map] at a2; omega
  obtain ⟨st, hst⟩ : ∃ s, V[i]? = some s := ⟨_, List.getElem?_eq_getElem hiV⟩
  have m5 := m3 st (List.mem_of_getElem? hst)
  obtain ⟨m6, _⟩ := m2 st (List.mem_of_getElem? hst)
  have m7 := args_some m6.2.2
  have hsr : (V.map encSt)[i]? = some (encSt st) := by rw [List.getElem?_map, hst]; rfl
  refine ⟨⟨by omega, by omega⟩, ?_⟩
  (conv => whnf)
  rw [Int.toNat_natCast]
  refine idx_at hsr ?_
  (conv => whnf)
  refine ⟨⟨by rw [List.length_map]; omega, by show _ * 16 ≤ _; rw [List.length_map]; omega⟩, ?_⟩
  (conv => whnf)
  refine call_i (mk_Round w ((st.args.map encA).length : Int) (by rw [List.length_map]; omega) (by rw [List.length_map]; omega)) ?_
  (conv => whnf)
  have b1 := Int.emod_nonneg w (b := ((st.args.map encA).length : Int)) (by rw [List.length_map]; omega)
  have b2 := Int.emod_lt_of_pos w (b := ((st.args.map encA).length : Int)) (by rw [List.length_map]; omega)
  obtain ⟨j, hj⟩ : ∃ i : Nat, w % ((st.args.map encA).length : Int) = i := ⟨_, (Int.toNat_of_nonneg b1).symm⟩
  rw [hj] at b2 ⊢
  have hjA : j < st.args.length := by rw [List.length_map] at b2; omega
  refine call_i (mk_Round v 12 (by decide) (by decide)) ?_
  (conv => whnf)
  have c1 := Int.emod_nonneg v (b := 12) (by decide)
  have c2 := Int.emod_lt_of_pos v (b := 12) (by decide)
  generalize v % 12 = u at *
  refine ⟨⟨by omega, by show _ < (12 : Int); omega⟩, ?_⟩
  refine arr_str8 (tb := wordTab8) rfl rfl (tab_at8 ByteArray.empty (n := 12) rfl c1 c2) ?_
  (conv => whnf)
  refine ⟨⟨by omega, by omega⟩, ?_⟩
  (conv => whnf)
  rw [Int.toNat_natCast]
  have har : (st.args.map encA)[j]? = some (encA (st.args[j]'hjA)) := by rw [List.getElem?_map, List.getElem?_eq_getElem hjA]; rfl
  refine idx_at har ?_
  (conv => whnf)
  have hex : ∃ nw : ByteArray, wordTab8.getD u.toNat ByteArray.empty = nw ∧ nw.size ≤ 6 := ⟨_, rfl, by
    have : ∀ n : Nat, n < 12 → (wordTab8.getD n ByteArray.empty).size ≤ 6 := by decide
    exact this u.toNat (by omega)⟩
  obtain ⟨nw, hnw, hns⟩ := hex
  rw [hnw]
  refine ⟨(by decide : (12 : Int) ≠ 0), ?_⟩
  (conv => whnf)
  generalize IntKind.i64.wrap (v.tdiv 12) = z
  refine call_i (mk_Round z 7 (by decide) (by decide)) ?_
  (conv => whnf)
  have hVok : ∀ s ∈ V, stOk s := fun s hs w hw => by
    have h1 := (m2 s hs).2
    have h2 := arg_size hw
    omega
  have setOk : ∀ {A : List ByteArray}, (∀ u ∈ A, u.size ≤ 4611686018427387904) → ∀ s ∈ V.set i ⟨st.line, st.word, A⟩, stOk s := fun {A} hA s hs => by
    rcases List.mem_or_eq_of_mem_set hs with h | rfl
    · exact hVok s h
    · exact hA
  have hA1 : ∀ u ∈ st.args.set j nw, u.size ≤ 4611686018427387904 := fun u hu => by
    rcases List.mem_or_eq_of_mem_set hu with h | rfl
    · exact hVok st (List.mem_of_getElem? hst) u h
    · omega
  have eset : (st.args.map encA).set j [DV.str nw] = (st.args.set j nw).map encA := by rw [List.map_set]; rfl
  rw [eset]
  have hAl : (st.args.set j nw).length = st.args.length := List.length_set
  generalize st.args.set j nw = A at *
  refine ask_m (fun h => ?_) (fun h => ?_)
  · (conv => whnf)
    refine ⟨[.frz 2], ?_⟩
    (conv => whnf)
    have e1 : IntKind.i64.wrap ((((A.map encA).length : Nat) : Int) - 1) = ((A.length - 1 : Nat) : Int) := by rw [List.length_map, w64] <;> omega
    rw [e1]
    refine ⟨⟨by omega, by simp only [List.length_map]; omega⟩, ?_⟩
    (conv => whnf)
    have e2 : List.drop 0 (List.take ((A.length - 1 : Nat) : Int).toNat (A.map encA)) = (A.take (A.length - 1)).map encA := by rw [Int.toNat_natCast, List.map_take]; rfl
    rw [e2]
    have hA2 : ∀ u ∈ A.take (A.length - 1), u.size ≤ 4611686018427387904 := fun u hu => hA1 u (List.mem_of_mem_take hu)
    (conv => whnf)
    refine ⟨[], ?_⟩
    (conv => whnf)
    refine ⟨⟨by omega, by omega⟩, ?_⟩
    (conv => whnf)
    rw [Int.toNat_natCast]
    refine idx_at hsr ?_
    (conv => whnf)
    refine call_i (law8_awake) ?_
    (conv => whnf)
    refine call_i (law8_reads l (by omega) hs) ?_
    (conv => whnf)
    refine call_i (law8_reads V (by omega) hVok) ?_
    (conv => whnf)
    refine call_i (readsR (V.set i ⟨st.line, st.word, A.take (A.length - 1)⟩) _ (by rw [List.map_set]; rfl) (by rw [List.length_set]; omega) (setOk hA2)) ?_
    (conv => whnf)
    refine ⟨⟨trivial, trivial⟩, ?_⟩
    (conv => whnf)
    refine call_i (mk_Round w ((V.map encSt).length : Int) (by rw [List.length_map]; omega) (by rw [List.length_map]; omega)) ?_
    (conv => whnf)
    have d1 := Int.emod_nonneg w (b := ((V.map encSt).length : Int)) (by rw [List.length_map]; omega)
    have d2 := Int.emod_lt_of_pos w (b := ((V.map encSt).length : Int)) (by rw [List.length_map]; omega)
    obtain ⟨q, hq⟩ : ∃ i : Nat, w % ((V.map encSt).length : Int) = i := ⟨_, (Int.toNat_of_nonneg d1).symm⟩
    rw [hq] at d2 ⊢
    have hqV : q < V.length := by rw [List.length_map] at d2; omega
    obtain ⟨sq, hsq⟩ : ∃ s, V[q]? = some s := ⟨_, List.getElem?_eq_getElem hqV⟩
    refine idx_and (by omega) (by simpa using hsq) ?_
    (conv => whnf)
    refine ⟨⟨by simp; omega, by simp; omega⟩, ?_⟩
    (conv => whnf)
    refine call_i (readsR (V.set i ⟨st.line, st.word, A.take (A.length - 1)⟩ ++ [sq]) _ (by rw [List.map_append, List.map_set]; rfl) (by rw [List.length_append, List.length_set]; simp; omega) (fun s hs => by rcases List.mem_append.1 hs with h | h; exact setOk hA2 s h; simp only [List.mem_singleton] at h; subst h; exact hVok _ (List.mem_of_getElem? hsq))) ?_
    (conv => whnf)
    refine ⟨⟨trivial, trivial⟩, ?_⟩
    (conv => whnf)
    (conv => whnf)
    refine ret0 ?_
    exact ret_b rfl rfl
  · skip
    (conv => whnf)
    refine ⟨[.frz 2], ?_⟩
    (conv => whnf)
    refine ⟨⟨by omega, by omega⟩, ?_⟩
    (conv => whnf)
    rw [Int.toNat_natCast]
    refine idx_at hsr ?_
    (conv => whnf)
    refine call_i (law8_awake) ?_
    (conv => whnf)
    refine call_i (law8_reads l (by omega) hs) ?_
    (conv => whnf)
    refine call_i (law8_reads V (by omega) hVok) ?_
    (conv => whnf)
    refine call_i (readsR (V.set i ⟨st.line, st.word, A⟩) _ (by rw [List.map_set]; rfl) (by rw [List.length_set]; omega) (setOk hA1)) ?_
    (conv => whnf)
    refine ⟨⟨trivial, trivial⟩, ?_⟩
    (conv => whnf)
    refine call_i (mk_Round w ((V.map encSt).length : Int) (by rw [List.length_map]; omega) (by rw [List.length_map]; omega)) ?_
    (conv => whnf)
    have d1 := Int.emod_nonneg w (b := ((V.map encSt).length : Int)) (by rw [List.length_map]; omega)
    have d2 := Int.emod_lt_of_pos w (b := ((V.map encSt).length : Int)) (by rw [List.length_map]; omega)
    obtain ⟨q, hq⟩ : ∃ i : Nat, w % ((V.map encSt).length : Int) = i := ⟨_, (Int.toNat_of_nonneg d1).symm⟩
    rw [hq] at d2 ⊢
    have hqV : q < V.length := by rw [List.length_map] at d2; omega
    obtain ⟨sq, hsq⟩ : ∃ s, V[q]? = some s := ⟨_, List.getElem?_eq_getElem hqV⟩
    refine idx_and (by omega) (by simpa using hsq) ?_
    (conv => whnf)
    refine ⟨⟨by simp; omega, by simp; omega⟩, ?_⟩
    (conv => whnf)
    refine call_i (readsR (V.set i ⟨st.line, st.word, A⟩ ++ [sq]) _ (by rw [List.map_append, List.map_set]; rfl) (by rw [List.length_append, List.length_set]; simp; omega) (fun s hs => by rcases List.mem_append.1 hs with h | h; exact setOk hA1 s h; simp only [List.mem_singleton] at h; subst h; exact hVok _ (List.mem_of_getElem? hsq))) ?_
    (conv => whnf)
    refine ⟨⟨trivial, trivial⟩, ?_⟩
    (conv => whnf)
    (conv => whnf)
    refine ret0 ?_
    exact ret_b rfl rfl
theorem tz_Stmt8 {n : Nat} {ds : List DV} (h : Typed T (n + 3) Y.Statement ds) : ∃ s : Stmt, ds = encSt s ∧ stOk s := by
  obtain ⟨ps, h1, h2⟩ := h
  obtain ⟨a, r, rfl, ha, h1⟩ := all2_cons h1
  obtain ⟨b, r, rfl, hb, h1⟩ := all2_cons h1
  obtain ⟨c, r, rfl, hc, h1⟩ := all2_cons h1
  obtain rfl := all2_nil h1
  obtain ⟨a, rfl⟩ := tz_int ha
  obtain ⟨b, rfl⟩ := tz_str hb
  obtain ⟨rs, rfl, _, _, h3⟩ := hc
  obtain ⟨l, rfl, hl⟩ := map_of' (enc := encA) (Q := fun s => s.size ≤ 140737488351232) fun r hr => tyB_string (h3 r hr)
  exact ⟨⟨a, b, l⟩, h2, fun w hw => by have := hl w hw; omega⟩
theorem tyB_s_Statement {n : Nat} {ds : List DV} (h : Typed T (n + 4) Y.s_Statement ds) : ∃ l : List Stmt, ds = [dSts l] ∧ ∀ s ∈ l, stOk s := by
  obtain ⟨rs, h1, _, _, h3⟩ := h
  obtain ⟨l, rfl, hl⟩ := map_of' (enc := encSt) (Q := stOk) fun r hr => tz_Stmt8 (h3 r hr)
  exact ⟨l, h1, hl⟩
end Go.Proofs.YtlfclainmbafiaaDoor

/- Decimal texts as numbers. -/
namespace Go.Proofs.YtlfclainmbafiaaDoor
open Eng
set_option maxRecDepth 10000

theorem decB_dig (k n : Nat) : allDig (decB k n) k = true := by
  rw [allDig_iff]
  intro i hi
  rw [decB_byte n k i hi]
  have h : ∀ d, d < 10 → digitB (48 + (d : Nat)) = true := by decide
  exact h _ (Nat.mod_lt _ (by decide))
theorem decB_val (k n : Nat) : ∀ i, i ≤ k → dval (decB k n) i = (n / 10 ^ (k - i) % 10 ^ i : Nat)
  | 0, _ => by simp [dval, Nat.mod_one]
  | i + 1, h => by
    rw [dval, decB_val k n i (by omega), decB_byte n k i (by omega)]
    have e1 : n / 10 ^ (k - i) = n / 10 ^ (k - (i + 1)) / 10 := by
      rw [Nat.div_div_eq_div_mul, ← Nat.pow_succ, show (k - (i + 1)).succ = k - i by omega]
    rw [e1, show k - 1 - i = k - (i + 1) by omega]
    generalize n / 10 ^ (k - (i + 1)) = A
    have h1 : A % 10 ^ (i + 1) = (A / 10 % 10 ^ i) * 10 + A % 10 := by
      rw [Nat.pow_succ, Nat.mul_comm (10 ^ i) 10, Nat.mod_mul]; omega
    rw [h1]; omega
theorem dlen_ex {n k m : Nat} (hn : n < 10 ^ m) (hk : k ≤ m) : ∃ j, j ≤ m ∧ n / 10 ^ j = 0 ∧ k ≤ j ∧ ∀ i, i < j → ¬ (n / 10 ^ i = 0 ∧ k ≤ i) := by
  have key : ∀ d j, m - j = d → j ≤ m → (∀ i, i < j → ¬ (n / 10 ^ i = 0 ∧ k ≤ i)) → ∃ j, j ≤ m ∧ n / 10 ^ j = 0 ∧ k ≤ j ∧ ∀ i, i < j → ¬ (n / 10 ^ i = 0 ∧ k ≤ i) := by
    intro d
    induction d with
    | zero =>
      intro j h1 h2 h3
      obtain rfl : j = m := by omega
      exact ⟨j, Nat.le_refl _, Nat.div_eq_of_lt hn, hk, h3⟩
    | succ d ih =>
      intro j h1 h2 h3
      by_cases h : n / 10 ^ j = 0 ∧ k ≤ j
      · exact ⟨j, h2, h.1, h.2, h3⟩
      · exact ih (j + 1) (by omega) (by omega) fun i hi => by
          rcases Nat.lt_or_ge i j with h' | h'
          · exact h3 i h'
          · obtain rfl : i = j := by omega
            exact h
  exact key _ 0 rfl (Nat.zero_le _) fun i hi => by omega
theorem lt_of_div {n j : Nat} (h : n / 10 ^ j = 0) : n < 10 ^ j := by
  rcases Nat.lt_or_ge n (10 ^ j) with h' | h'
  · exact h'
  · have := Nat.div_pos h' (Nat.pow_pos (by decide)); omega
/-- the number of a decimal text with a point -/
theorem numOf_point {j n w f : Nat} (hj1 : 1 ≤ j) (hj5 : j ≤ 5) (hw : w / 10 ^ j = 0) (hn1 : 1 ≤ n) (hn6 : n ≤ 6) (hf : f < 10 ^ n) :
    numOf ((decB j w ++ ⟨#[46]⟩) ++ decB n f) = if 2147483648 < ((w * 1000000 + f * 10 ^ (6 - n)) * 65536 + 500000 : Int) / 1000000 then (0, false) else (((w * 1000000 + f * 10 ^ (6 - n)) * 65536 + 500000 : Int) / 1000000, true) := by
  have hw' := lt_of_div hw
  have s1 : (decB j w).size = j := decB_size j w
  have s2 : (decB n f).size = n := decB_size n f
  have s3 : (decB j w ++ ⟨#[46]⟩).size = j + 1 := by rw [ByteArray.size_append, s1]; rfl
  have s4 : ((decB j w ++ ⟨#[46]⟩) ++ decB n f).size = j + 1 + n := by rw [ByteArray.size_append, s3, s2]
  have b1 : ∀ i, i < j → byteAt ((decB j w ++ ⟨#[46]⟩) ++ decB n f) i = byteAt (decB j w) i := fun i hi => by
    rw [byteAt_app, if_pos (by omega), byteAt_app, if_pos (by omega)]
  have b2 : byteAt ((decB j w ++ ⟨#[46]⟩) ++ decB n f) j = 46 := by
    rw [byteAt_app, if_pos (by omega), byteAt_app, if_neg (by omega), s1, Nat.sub_self]; rfl
  have e : ((decB j w ++ ⟨#[46]⟩) ++ decB n f).extract (j + 1) ((decB j w ++ ⟨#[46]⟩) ++ decB n f).size = decB n f := by
    refine ByteArray.ext_getElem (by rw [ByteArray.size_extract, s4, s2]; omega) fun i hi hi' => ?_
    rw [ByteArray.getElem_extract, ByteArray.getElem_append_right (by omega)]
    congr 1; omega
  generalize (decB j w ++ ⟨#[46]⟩) ++ decB n f = t at *
  have d1 : allDig t j = true := by
    rw [allDig_iff]
    intro i hi
    rw [b1 i hi]; exact allDig_iff.1 (decB_dig j w) i hi
  have v1 : dval t j = w := by
    have : ∀ i, i ≤ j → dval t i = dval (decB j w) i := by
      intro i
      induction i with
      | zero => intro _; rfl
      | succ i ih => intro h; rw [dval, dval, ih (by omega), b1 i (by omega)]
    rw [this j (Nat.le_refl _), decB_val j w j (Nat.le_refl _), Nat.sub_self, Nat.pow_zero, Nat.div_one, Nat.mod_eq_of_lt hw']
  have v2 : dval (decB n f) n = f := by rw [decB_val n f n (Nat.le_refl _), Nat.sub_self, Nat.pow_zero, Nat.div_one, Nat.mod_eq_of_lt hf]
  have hh : headB t 45 = false := by
    have := digit_bd (allDig_iff.1 d1 0 (by omega))
    simp only [headB, Bool.and_eq_false_iff, decide_eq_false_iff_not]
    right
    show ¬ byteAt t 0 = 45
    omega
  have hp := numN_point (t := t) (j := j) (by omega) d1 b2 hj1 hj5
  rw [e, s2, v1, v2, if_neg (by rw [digOk_mk (by omega) (by omega) (by rw [s2]; exact decB_dig n f)]; simp)] at hp
  rw [numOf, tailB, hh, if_neg (by simp), hp]
  simp
end Go.Proofs.YtlfclainmbafiaaDoor

/- Numerals. No program in sight. -/
namespace Go.Proofs.YtlfclainmbafiaaDoor
open Eng
set_option maxRecDepth 100000

/- numerals -/
theorem nd_dl : ∀ f u, u < 10 ^ (f + 1) → dl (f + 1) u 1 = Lib.nDigits u
  | 0, u, h => by
    have : u < 10 := by simpa using h
    rw [Lib.nDigits, dif_pos this, dl, if_neg (by omega)]; rfl
  | f + 1, u, h => by
    rw [Lib.nDigits, dl, if_neg (by omega)]
    split
    · rename_i h10
      rw [Nat.div_eq_of_lt h10, dl, if_pos (by omega)]
    · rename_i h10
      have ih := nd_dl f (u / 10) (by rw [Nat.pow_succ] at h; omega)
      rw [← ih, dl, dl, if_neg (by omega), if_neg (by omega)]
theorem nd_dl20 {u : Nat} (h : u ≤ 9223372036854775807) : dl 20 u 1 = Lib.nDigits u := nd_dl 19 u (Nat.lt_of_le_of_lt h (by decide))
theorem txt_eq' {s t : ByteArray} (hs : s.size = t.size) (h : ∀ i, i < s.size → byteAt s i = byteAt t i) : s = t := by
  refine ByteArray.ext_getElem hs fun i hi hi' => ?_
  have := h i hi
  rw [byteAt_get hi, byteAt_get hi'] at this
  exact UInt8.toNat_inj.1 (Int.ofNat.inj this)
def itT (n : Int) : ByteArray := ⟨(Lib.itoa n).toArray⟩
theorem itT_dec {u : Nat} (h : u ≤ 9223372036854775807) : itT (u : Int) = decT u 1 := by
  have hd : (decT u 1).size = Lib.nDigits u := by rw [decT, decB_size, nd_dl20 h]
  have hs : (itT (u : Int)).size = Lib.nDigits u := by
    rw [itT, Lib.itoa_nonneg]
    show (Lib.decDigits u).toArray.size = _
    rw [List.size_toArray, Lib.decDigits_length]
  refine txt_eq' (hs.trans hd.symm) fun i hi => ?_
  rw [hs] at hi
  have e1 : byteAt (decT u 1) i = 48 + ((u / 10 ^ (Lib.nDigits u - 1 - i) % 10 : Nat) : Int) := by rw [decT, nd_dl20 h, decB_byte _ _ _ hi]
  rw [e1, byteAt_get (by omega)]
  have e2 : (itT (u : Int))[i]'(by omega) = Lib.dg u (Lib.nDigits u - 1 - i) := by
    have : (Lib.decDigits u)[i]'(by rw [Lib.decDigits_length]; exact hi) = Lib.dg u (Lib.nDigits u - 1 - i) := by
      simp [Lib.decDigits_eq]
    rw [← this]
    simp only [itT, Lib.itoa_nonneg]
    rfl
  rw [e2, Lib.dg]
  have : u / 10 ^ (Lib.nDigits u - 1 - i) % 10 < 10 := Nat.mod_lt _ (by decide)
  simp only [UInt8.toNat_ofNat']
  omega
theorem dl_at {n k j : Nat} (hn : n ≤ 9223372036854775807) (hk : k ≤ 20) (h0 : n / 10 ^ j = 0) (h1 : k ≤ j) (h2 : ∀ i, i < j → ¬ (n / 10 ^ i = 0 ∧ k ≤ i)) : dl 20 n k = j := by
  obtain ⟨a, b, c, d⟩ := dl20 hn hk
  rcases Nat.lt_trichotomy (dl 20 n k) j with h | h | h
  · exact absurd ⟨a, b⟩ (h2 _ h)
  · exact h
  · exact absurd ⟨h0, h1⟩ (d j h)
theorem dec5 {v : Nat} (h : v ≤ 99999) : decT v 5 = decB 5 v := by
  rw [decT, dl_at (j := 5) (by omega) (by decide) (Nat.div_eq_of_lt (by show v < 100000; omega)) (by decide) (fun i hi h => by omega)]
theorem dec6 {v : Nat} (h : v ≤ 99999) : decT (100000 + v) 1 = dig 1 ++ decB 5 v := by
  have e : dl 20 (100000 + v) 1 = 6 := dl_at (by omega) (by decide) (Nat.div_eq_of_lt (by show _ < 1000000; omega)) (by decide) fun i hi hh => by
    have : i = 1 ∨ i = 2 ∨ i = 3 ∨ i = 4 ∨ i = 5 := by omega
    obtain ⟨h1, _⟩ := hh
    rcases this with rfl | rfl | rfl | rfl | rfl
    · have : (100000 + v) / 10 = 0 := h1
      omega
    · have : (100000 + v) / 100 = 0 := h1
      omega
    · have : (100000 + v) / 1000 = 0 := h1
      omega
    · have : (100000 + v) / 10000 = 0 := h1
      omega
    · have : (100000 + v) / 100000 = 0 := h1
      omega
  have d5 : (100000 + v) / 10 ^ 5 % 10 = 1 := by show (100000 + v) / 100000 % 10 = 1; omega
  have d4 : (100000 + v) / 10 ^ 4 % 10 = v / 10 ^ 4 % 10 := by show (100000 + v) / 10000 % 10 = v / 10000 % 10; omega
  have d3 : (100000 + v) / 10 ^ 3 % 10 = v / 10 ^ 3 % 10 := by show (100000 + v) / 1000 % 10 = v / 1000 % 10; omega
  have d2 : (100000 + v) / 10 ^ 2 % 10 = v / 10 ^ 2 % 10 := by show (100000 + v) / 100 % 10 = v / 100 % 10; omega
  have d1 : (100000 + v) / 10 ^ 1 % 10 = v / 10 ^ 1 % 10 := by show (100000 + v) / 10 % 10 = v / 10 % 10; omega
  have d0 : (100000 + v) / 10 ^ 0 % 10 = v / 10 ^ 0 % 10 := by show (100000 + v) / 1 % 10 = v / 1 % 10; omega
  rw [decT, e]
  simp only [decB, d5, d4, d3, d2, d1, d0]
theorem tail6 {v : Nat} (h : v ≤ 99999) : (decT (100000 + v) 1).extract 1 (decT (100000 + v) 1).size = decT v 5 := by
  rw [dec5 h, dec6 h]
  have s1 : (dig 1).size = 1 := by decide
  have s2 : (decB 5 v).size = 5 := decB_size 5 v
  refine ByteArray.ext_getElem (by rw [ByteArray.size_extract, ByteArray.size_append]; omega) fun i hi hi' => ?_
  rw [ByteArray.getElem_extract, ByteArray.getElem_append_right (by omega)]
  congr 1; omega

end Go.Proofs.YtlfclainmbafiaaDoor

/- The number of a formatted text. No program in sight. -/
namespace Go.Proofs.YtlfclainmbafiaaDoor
open Eng
set_option maxRecDepth 10000

theorem dec_ext (k v m : Nat) (h : m ≤ k) : (decB k v).extract 0 m = decB m (v / 10 ^ (k - m)) := by
  have s1 : (decB k v).size = k := decB_size k v
  have s2 : ((decB k v).extract 0 m).size = m := by rw [ByteArray.size_extract]; omega
  refine txt_eq' (s2.trans (decB_size m _).symm) fun i hi => ?_
  rw [s2] at hi
  rw [ext_byte (by omega) hi, decB_byte v k i (by omega), decB_byte _ m i hi, Nat.div_div_eq_div_mul, ← Nat.pow_add, show k - m + (m - 1 - i) = k - 1 - i by omega]
theorem trimN_zero (t : ByteArray) : ∀ n i, trimN t n ≤ i → i < n → byteAt t i = 48
  | 0, i, _, h => by omega
  | n + 1, i, h1, h2 => by
    rw [trimN] at h1
    split at h1
    · rename_i h
      rcases Nat.lt_or_ge i n with h3 | h3
      · exact trimN_zero t n i h1 h3
      · have : i = n := by omega
        subst this; exact h
    · omega
theorem frac_dec {v : Nat} (h1 : 1 ≤ v) (h2 : v ≤ 99999) : ∃ m u, 1 ≤ m ∧ m ≤ 5 ∧ (decT v 5).extract 0 (trimN (decT v 5) (decT v 5).size) = decB m u ∧ u * 10 ^ (5 - m) = v := by
  rw [dec5 h2, decB_size]
  have hm := trimN_le (decB 5 v) 5
  have hz := trimN_zero (decB 5 v) 5
  generalize trimN (decB 5 v) 5 = m at *
  have hq : v % 10 ^ (5 - m) = 0 := digs_zero v _ fun i hi => by
    have := hz (4 - i) (by omega) (by omega)
    rw [decB_byte v 5 _ (by omega), show 5 - 1 - (4 - i) = i by omega] at this
    omega
  refine ⟨m, v / 10 ^ (5 - m), ?_, hm, dec_ext 5 v m hm, ?_⟩
  · rcases Nat.eq_zero_or_pos m with rfl | h
    · have : v % 100000 = 0 := hq
      omega
    · exact h
  · exact Nat.div_mul_cancel (Nat.dvd_of_mod_eq_zero hq)
theorem num_fmtS {a : Nat} (ha : a ≤ 2147483648) : numOf (fmtS ByteArray.empty a) = ((a : Int), true) ∧ headB (fmtS ByteArray.empty a) 45 = false := by
  obtain ⟨b1, b2, b3, b4⟩ := dl20 (n := a / 65536) (k := 1) (by omega) (by omega)
  have hj5 : dl 20 (a / 65536) 1 ≤ 5 := by
    rcases Nat.lt_or_ge 5 (dl 20 (a / 65536) 1) with h | h
    · exact absurd ⟨Nat.div_eq_of_lt (by show _ < 100000; omega), by decide⟩ (b4 5 h)
    · exact h
  have hd : decT (a / 65536) 1 = decB (dl 20 (a / 65536) 1) (a / 65536) := rfl
  unfold fmtS
  rw [hd]
  generalize dl 20 (a / 65536) 1 = j at *
  have hhead : ∀ t : ByteArray, byteAt t 0 = byteAt (decB j (a / 65536)) 0 → headB t 45 = false := fun t ht => by
    rw [decB_byte _ j 0 (by omega)] at ht
    simp only [headB, Bool.and_eq_false_iff, decide_eq_false_iff_not]
    right
    show ¬ byteAt t 0 = 45
    omega
  split
  · rename_i h0
    rw [ByteArray.empty_append]
    have hall := decB_dig j (a / 65536)
    have hn := numN_whole (t := decB j (a / 65536)) (by rw [decB_size]; exact hall) (by rw [decB_size]; omega) (by rw [decB_size]; omega)
    rw [decB_size, decB_val j (a / 65536) j (Nat.le_refl _), Nat.sub_self, Nat.pow_zero, Nat.div_one, Nat.mod_eq_of_lt (lt_of_div b1)] at hn
    have hh := hhead _ rfl
    refine ⟨?_, hh⟩
    rw [numOf, tailB, hh, if_neg (by simp), hn]
    simp only
    rw [if_neg (by omega)]
    simp; omega
  · rename_i h0
    obtain ⟨m, u, m1, m5, e, hu⟩ := frac_dec (v := (2 * (a % 65536) * 100000 + 65536) / 131072) (by omega) (by omega)
    rw [fracT, e, ByteArray.empty_append]
    have hlt : u < 10 ^ m := by
      have h5 : (10 : Nat) ^ m * 10 ^ (5 - m) = 100000 := by rw [← Nat.pow_add, show m + (5 - m) = 5 by omega]
      have hp : 0 < (10 : Nat) ^ (5 - m) := Nat.pow_pos (by decide)
      refine Nat.lt_of_mul_lt_mul_right (a := 10 ^ (5 - m)) ?_
      rw [h5, hu]; omega
    have hp := numOf_point (j := j) (n := m) (w := a / 65536) (f := u) b2 hj5 b1 m1 (by omega) hlt
    have h6 : u * 10 ^ (6 - m) = (2 * (a % 65536) * 100000 + 65536) / 131072 * 10 := by rw [show 6 - m = (5 - m) + 1 by omega, Nat.pow_succ, ← Nat.mul_assoc, hu]
    have h7 : ((u : Int) * 10 ^ (6 - m)) = (((2 * (a % 65536) * 100000 + 65536) / 131072 * 10 : Nat) : Int) := by exact_mod_cast h6
    have hr : ((((a / 65536 : Nat) : Int) * 1000000 + (u : Int) * 10 ^ (6 - m)) * 65536 + 500000) / 1000000 = (a : Int) := by
      rw [h7]; omega
    rw [hr, if_neg (by omega)] at hp
    refine ⟨hp, hhead _ ?_⟩
    rw [byteAt_app, if_pos (by rw [ByteArray.size_append, decB_size]; omega), byteAt_app, if_pos (by rw [decB_size]; omega)]
theorem fmtS_app (s : ByteArray) (a : Nat) : fmtS s a = s ++ fmtS ByteArray.empty a := by
  unfold fmtS
  split
  · rw [ByteArray.empty_append]
  · rw [ByteArray.empty_append, ByteArray.append_assoc, ByteArray.append_assoc, ByteArray.append_assoc]
theorem num_neg {t : ByteArray} {v : Int} (h : numOf t = (v, true)) (hh : headB t 45 = false) : numOf (minusT ++ t) = (-v, true) := by
  have hb : headB (minusT ++ t) 45 = true := by
    simp only [headB, Bool.and_eq_true, decide_eq_true_eq]
    refine ⟨by rw [ByteArray.size_append]; show 1 ≤ 1 + _; omega, ?_⟩
    rw [byteAt_app, if_pos (by decide)]; rfl
  have ht : tailB (minusT ++ t) 45 = t := by
    rw [tailB, hb, if_pos rfl]
    refine ByteArray.ext_getElem (by rw [ByteArray.size_extract, ByteArray.size_append]; have : minusT.size = 1 := rfl; omega) fun i hi hi' => ?_
    rw [ByteArray.getElem_extract, ByteArray.getElem_append_right (by show 1 ≤ _; omega)]
    congr 1
    show 1 + i - 1 = i
    omega
  have hn : numN t = some v ∧ ¬ 2147483648 < v := by
    rw [numOf, tailB, hh, if_neg (by simp)] at h
    cases hq : numN t with
    | none => rw [hq] at h; cases h
    | some u =>
      rw [hq] at h
      simp only at h
      split at h
      · cases h
      · rename_i hu
        simp at h
        subst h
        exact ⟨rfl, hu⟩
  rw [numOf, ht, hn.1, hb]
  simp only
  rw [if_neg hn.2]; simp
/-- what is formatted is read again -/
theorem num_fmt (n : Int) : numOf (fmtT n) = (clampI n, true) := by
  have hb : -2147483648 ≤ clampI n ∧ clampI n ≤ 2147483648 := by unfold clampI; omega
  rw [fmtT]
  generalize clampI n = x at *
  obtain ⟨h1, h2⟩ := num_fmtS (a := x.natAbs) (by omega)
  split
  · rename_i h
    rw [fmtS_app, num_neg h1 h2]
    congr 1; omega
  · rename_i h
    rw [h1]
    congr 1; omega
end Go.Proofs.YtlfclainmbafiaaDoor
