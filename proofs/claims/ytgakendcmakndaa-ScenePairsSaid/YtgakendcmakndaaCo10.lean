/- The makers: robots. -/
import Derived.Test.YtgakendcmakndaaCo9
namespace Go.Proofs.Ytgakendcmakndaa
open Eng
set_option maxRecDepth 10000
attribute [local irreducible] FnOk loopW idxF retX arrF

def jPos (l : List Int) (p : Nat) : Nat → Nat
  | 0 => p
  | k + 1 => mkJointAt l (jPos l p k) k
def mkJoints (l : List Int) (p k : Nat) : List Joint := (List.range k).map fun i => mkJoint l (jPos l p i) i
theorem mkJoints_succ (l : List Int) (p k : Nat) : mkJoints l p (k + 1) = mkJoints l p k ++ [mkJoint l (jPos l p k) k] := by
  simp [mkJoints, List.range_succ]
def mkMass (l : List Int) (n : Nat) (q : Nat) : Mass := ⟨nxt l q n, 1 + nxt l (q + 1) 9000, ⟨(nxt l (q + 2) 7 - 3) * 32768, 0, (nxt l (q + 3) 5 - 2) * 32768⟩⟩
def mkMasses (l : List Int) (n q k : Nat) : List Mass := (List.range k).map fun i => mkMass l n (q + 1 + 4 * i)
theorem mkMasses_succ (l : List Int) (n q k : Nat) : mkMasses l n q (k + 1) = mkMasses l n q k ++ [mkMass l n (q + 1 + 4 * k)] := by
  simp [mkMasses, List.range_succ]
def nJ (l : List Int) (p : Nat) : Nat := 1 + (nxt l p 3).toNat
def qM (l : List Int) (p : Nat) : Nat := jPos l (p + 1) (nJ l p)
def nM (l : List Int) (p : Nat) : Nat := (nxt l (qM l p) 3).toNat
def mkRobot (l : List Int) (p : Nat) : Robot := ⟨mkJoints l (p + 1) (nJ l p), mkMasses l (nJ l p) (qM l p) (nM l p)⟩
def mkRobotAt (l : List Int) (p : Nat) : Nat := qM l p + 1 + 4 * nM l p
theorem mk_robot (l : List Int) (p : Nat) (hl : l.length ≤ 4611686018427387904) : FnOk Try.prog F.mk_robot [.one (.vptr 0 0)] [(0, SrcJ l p)] 1 (Ro (mkRobot l p)) [(0, SrcJ l (mkRobotAt l p))] 1 := by
  refine fnOk tab mix G.mk_robot rfl rfl (by kernel_rfl) rfl rfl ?_
  have n0 := nxt_bd (l := l) (j := p) (m := 3) (by omega)
  have hn : IntKind.i64.wrap (1 + nxt l p 3) = (nJ l p : Nat) := by
    rw [w64 (by omega) (by omega)]; unfold nJ; omega
  have hn2 : nJ l p ≤ 3 := by unfold nJ; omega
  have hn1 : 1 ≤ nJ l p := by unfold nJ; omega
  rw [mkRobotAt, mkRobot, nM, qM]
  (conv => whnf)
  refine call_i (mk_Next l p 3 (by omega) (by omega) hl) ?_
  (conv => whnf)
  rw [hn]
  generalize nJ l p = n at *
  refine loop_intro (fun k : Nat => ⟨[(0, .one (.vptr 0 0)), (2, .one (.vptr 1 0)), (3, .one (.vptr 2 0)), (4, I n), (5, I k)], [(0, SrcJ l (jPos l (p + 1) k)), (1, .vars Y.Robot [.nil 12, .nil 5]), (2, .vars Y.Robot [.row 3, .nil 5]), (3, .rows Y.Joint 12 ((mkJoints l (p + 1) k).map encJ))], 4⟩) (fun k => k ≤ n) (fun k => n - k) [.ownC 2 0 Y.Joint 12] 0 [] (Nat.zero_le _) ⟨⟨rfl, rfl, rfl, rfl, rfl, trivial⟩, ⟨rfl, rfl, rfl, rfl, trivial⟩⟩ ?_
  rintro k hk
  (conv => whnf)
  refine ask_m (fun h => ?_) (fun h => ?_)
  · have hlt : k < n := by have := of_decide_eq_true h; omega
    (conv => whnf)
    refine call_i (mk_joint l (jPos l (p + 1) k) k hl (by omega)) ?_
    (conv => whnf)
    have hlen : (mkJoints l (p + 1) k).length = k := by simp [mkJoints]
    have hkk : IntKind.i64.wrap ((k : Int) + 1) = ((k + 1 : Nat) : Int) := by rw [w64] <;> omega
    refine ⟨⟨by simp; omega, by simp; omega⟩, ?_⟩
    (conv => whnf)
    refine ⟨k + 1, [(3, 5)], hlt, by omega, ⟨⟨rfl, rfl, rfl, rfl, eqI hkk, trivial⟩, ⟨rfl, rfl, rfl, ?_, trivial⟩⟩⟩
    rw [mkJoints_succ, List.map_append]; rfl
  · have hk : k = n := by have := of_decide_eq_false h; omega
    subst hk
    (conv => whnf)
    refine call_i (mk_Next l (jPos l (p + 1) k) 3 (by omega) (by omega) hl) ?_
    (conv => whnf)
    generalize hq : jPos l (p + 1) k = q
    have c0 := nxt_bd (l := l) (j := q) (m := 3) (by omega)
    obtain ⟨c, hc⟩ : ∃ c : Nat, nxt l q 3 = c := ⟨(nxt l q 3).toNat, by omega⟩
    rw [hc, Int.toNat_natCast]
    refine loop_intro (fun i : Nat => ⟨[(0, .one (.vptr 0 0)), (2, .one (.vptr 1 0)), (3, .one (.vptr 2 0)), (4, I k), (6, I ((c : Int) - i))], [(0, SrcJ l (q + 1 + 4 * i)), (1, .vars Y.Robot [.nil 12, .nil 5]), (2, .vars Y.Robot [.row 3, .row 4]), (3, .rows Y.Joint 12 ((mkJoints l (p + 1) k).map encJ)), (4, .rows Y.Mass 5 ((mkMasses l k q i).map encM))], 5⟩) (fun i => i ≤ c) (fun i => c - i) [.ownC 2 1 Y.Mass 5] 0 [] (Nat.zero_le _) ⟨⟨rfl, rfl, rfl, rfl, eqI (by simp), trivial⟩, ⟨rfl, rfl, rfl, rfl, rfl, trivial⟩⟩ ?_
    rintro i hi
    (conv => whnf)
    refine ask_m (fun h => ?_) (fun h => ?_)
    · have hlt : i < c := by have := of_decide_eq_true h; omega
      (conv => whnf)
      refine call_i (mk_Next l (q + 1 + 4 * i) k (by omega) (by omega) hl) ?_
      (conv => whnf)
      refine call_i (mk_Next l (q + 1 + 4 * i + 1) 9000 (by omega) (by omega) hl) ?_
      (conv => whnf)
      refine call_i (mk_Signed l (q + 1 + 4 * i + 2) 3 7 (by omega) (by omega) (by omega) hl) ?_
      (conv => whnf)
      refine call_i (mk_Signed l (q + 1 + 4 * i + 3) 2 5 (by omega) (by omega) (by omega) hl) ?_
      (conv => whnf)
      have hlen : (mkMasses l k q i).length = i := by simp [mkMasses]
      refine ⟨⟨by simp; omega, by simp; omega⟩, ?_⟩
      (conv => whnf)
      have s1 := nxt_bd (l := l) (j := q + 1 + 4 * i + 1) (m := 9000) (by omega)
      have s2 := nxt_bd (l := l) (j := q + 1 + 4 * i + 2) (m := 7) (by omega)
      have s3 := nxt_bd (l := l) (j := q + 1 + 4 * i + 3) (m := 5) (by omega)
      refine ⟨i + 1, [(4, 6)], hlt, by omega, ⟨⟨rfl, rfl, rfl, rfl, eqI ?_, trivial⟩, ⟨?_, rfl, rfl, rfl, ?_, trivial⟩⟩⟩
      · rw [w64] <;> omega
      · rw [show q + 1 + 4 * (i + 1) = q + 1 + 4 * i + 4 by omega]; rfl
      · rw [mkMasses_succ, List.map_append, show IntKind.i64.wrap (1 + nxt l (q + 1 + 4 * i + 1) 9000) = 1 + nxt l (q + 1 + 4 * i + 1) 9000 by rw [w64] <;> omega, show IntKind.i64.wrap ((nxt l (q + 1 + 4 * i + 2) 7 - 3) * 32768) = (nxt l (q + 1 + 4 * i + 2) 7 - 3) * 32768 by rw [w64] <;> omega, show IntKind.i64.wrap ((nxt l (q + 1 + 4 * i + 3) 5 - 2) * 32768) = (nxt l (q + 1 + 4 * i + 3) 5 - 2) * 32768 by rw [w64] <;> omega]
        rfl
    · have hi : i = c := by have := of_decide_eq_false h; omega
      subst hi
      (conv => whnf)
      refine retO [.frz 3, .frz 4] ?_
      (conv => whnf)
      exact ⟨[], ⟨rfl, trivial⟩, ⟨rfl, trivial⟩⟩
end Go.Proofs.Ytgakendcmakndaa
