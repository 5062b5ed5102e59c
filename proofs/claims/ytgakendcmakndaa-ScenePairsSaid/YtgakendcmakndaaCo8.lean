/- The makers: pairs alike, letters, joints, robots, scenes. -/
import Derived.Test.YtgakendcmakndaaCo7
import Derived.Test.YtgakendcmakndaaCo1
namespace Go.Proofs.Ytgakendcmakndaa
open Eng
set_option maxRecDepth 10000
attribute [local irreducible] FnOk loopW idxF retX arrF

deriving instance DecidableEq for Pair
abbrev dPas (l : List Pair) : DV := .lst 2 (l.map encPa)
theorem cmpPair : cmpB Try.prog 8 Y.Pair = true ∧ Try.prog.eqGuardType Try.prog.depth Y.Pair = false := ⟨by kernel_rfl, by kernel_rfl⟩
theorem mk_Same_Pair (a b : List Pair) (ha : a.length ≤ 4611686018427387904) (hb : b.length ≤ 4611686018427387904) : FnOk Try.prog F.mk_Same_api_Pair [.one (.dv (dPas a)), .one (.dv (dPas b))] [] 0 (Bo (decide (a = b))) [] 0 := by
  refine fnOk tab mix G.mk_Same_api_Pair rfl rfl (by kernel_rfl) rfl rfl ?_
  (conv => whnf)
  refine ask_m (fun h => ?_) (fun h => ?_)
  · (conv => whnf)
    refine ret0 ?_
    refine ret_b (Eq.symm (decide_eq_false ?_)) rfl
    rintro rfl
    simp at h
  have hl : a.length = b.length := by simp at h; omega
  (conv => whnf)
  refine loop_intro (fun k : Nat => ⟨[(0, .one (.dv (dPas a))), (1, .one (.dv (dPas b))), (5, I k)], [], 0⟩) (fun k => k ≤ a.length ∧ a.take k = b.take k) (fun k => a.length - k) [] 0 [] ⟨Nat.zero_le _, rfl⟩ ⟨⟨rfl, rfl, rfl, trivial⟩, trivial⟩ ?_
  rintro k ⟨hk, hall⟩
  (conv => whnf)
  refine ask_m (fun h => ?_) (fun h => ?_)
  · have hlt : k < a.length := by simpa using h
    obtain ⟨x, hx⟩ : ∃ j, a[k]? = some j := ⟨_, List.getElem?_eq_getElem hlt⟩
    obtain ⟨y, hy⟩ : ∃ j, b[k]? = some j := ⟨_, List.getElem?_eq_getElem (by omega)⟩
    have hkk : IntKind.i64.wrap ((k : Int) + 1) = ((k + 1 : Nat) : Int) := by rw [w64] <;> omega
    (conv => whnf)
    refine idx_and (by omega) (by simpa using hx) ?_
    (conv => whnf)
    refine idx_and (by omega) (by simpa using hy) ?_
    (conv => whnf)
    refine ⟨cmpPair, ?_⟩
    (conv => whnf)
    refine ask_m (fun h => ?_) (fun h => ?_)
    · (conv => whnf)
      refine ret0 ?_
      refine ret_b (Eq.symm (decide_eq_false (ne_at hx hy ?_))) rfl
      rintro rfl
      simp at h
    · have e : x = y := by
        cases x; cases y; simp at h; simp [h]
      subst e
      (conv => whnf)
      exact ⟨k + 1, [], ⟨hlt, take_same hall hx hy⟩, by omega, ⟨⟨rfl, rfl, eqI hkk, trivial⟩, trivial⟩⟩
  · have hk : k = a.length := by simp at h; omega
    subst hk
    rw [List.take_length, hl, List.take_length] at hall
    (conv => whnf)
    refine ret0 ?_
    exact ret_b (decide_eq_true hall).symm rfl
def letter (k : Nat) : ByteArray := ⟨#[(97 + k).toUInt8]⟩
theorem letter_cut (k : Nat) (hk : k < 10) : (ByteArray.mk #[97, 98, 99, 100, 101, 102, 103, 104, 105, 106]).extract k (k + 1) = letter k := by
  have h : ∀ k, k < 10 → (ByteArray.mk #[97, 98, 99, 100, 101, 102, 103, 104, 105, 106]).extract k (k + 1) = letter k := by decide
  exact h k hk
theorem mk_letter (k : Nat) (hk : k < 10) : FnOk Try.prog F.mk_letter [I k] [] 0 (Tx (letter k)) [] 0 := by
  refine fnOk tab mix G.mk_letter rfl rfl (by kernel_rfl) rfl rfl ?_
  (conv => whnf)
  have hkk : IntKind.i64.wrap ((k : Int) + 1) = ((k + 1 : Nat) : Int) := by rw [w64] <;> omega
  rw [hkk]
  refine ⟨⟨by omega, by omega, by show _ ≤ (10 : Int); omega⟩, ?_⟩
  (conv => whnf)
  refine ret0 ?_
  rw [Int.toNat_natCast, Int.toNat_natCast]
  exact ret_dv (congrArg DV.str (letter_cut k hk)) rfl
def kindOf (n : Int) : Int := [3, 3, 1, 2, 4, 5, 3, 0].getD n.toNat 0
def jParent (l : List Int) (p i : Nat) : Int := if nxt l (p + 3) 4 = 1 then -1 else (i : Int) - 1
def jOff (l : List Int) (p i : Nat) : Vec := if 0 < i then ⟨131072, (nxt l (p + 4) 5 - 2) * 32768, (nxt l (p + 5) 3 - 1) * 32768⟩ else ⟨0, 0, 0⟩
def jAt (p i : Nat) : Nat := if 0 < i then p + 6 else p + 4
def jSpan (l : List Int) (q : Nat) (kd : Int) : Int × Int × Nat :=
  if kd = 0 then (0, 0, q)
  else if kd = 4 ∨ kd = 5 then ((0 - nxt l q 3) * 65536, nxt l (q + 1) 4 * 32768, q + 2)
  else ((0 - nxt l q 5) * 8192, (1 + nxt l (q + 1) 4) * 8192 + nxt l (q + 2) 3, q + 3)
def jKind (l : List Int) (p : Nat) : Int := kindOf (nxt l (p + 2) 8)
def mkJoint (l : List Int) (p i : Nat) : Joint :=
  ⟨letter i, jKind l p, jParent l p i, jOff l p i, (jSpan l (jAt p i) (jKind l p)).1, (jSpan l (jAt p i) (jKind l p)).2.1, 1 + nxt l p 4, 65536, 65536 + nxt l (p + 1) 3, 327680⟩
def mkJointAt (l : List Int) (p i : Nat) : Nat := (jSpan l (jAt p i) (jKind l p)).2.2
theorem kind_at {n : Int} (h0 : 0 ≤ n) (h8 : n < 8) : [CV.dv (.int .i64 3), .dv (.int .i64 3), .dv (.int .i64 1), .dv (.int .i64 2), .dv (.int .i64 4), .dv (.int .i64 5), .dv (.int .i64 3), .dv (.int .i64 0)][n.toNat]? = some (.dv (.int .i64 (kindOf n))) := by
  obtain ⟨k, rfl⟩ : ∃ k : Nat, n = k := ⟨n.toNat, by omega⟩
  rw [kindOf, Int.toNat_natCast]
  match k, h8 with
  | 0, _ | 1, _ | 2, _ | 3, _ | 4, _ | 5, _ | 6, _ | 7, _ => rfl
  | k + 8, h => omega
abbrev Jo (j : Joint) : SV := .agg [.dv (.str j.name), .dv (.int .i64 j.kind), .dv (.int .i64 j.parent), .dv (.int .i64 j.off.x), .dv (.int .i64 j.off.y), .dv (.int .i64 j.off.z), .dv (.int .i64 j.lo), .dv (.int .i64 j.hi), .dv (.int .i64 j.weight), .dv (.int .i64 j.speed), .dv (.int .i64 j.accel), .dv (.int .i64 j.torque)]
theorem w_lo {a : Int} (h0 : 0 ≤ a) (h1 : a < 5) : IntKind.i64.wrap ((IntKind.i64.wrap (IntKind.i64.wrap (0 - a) * 65536)).tdiv 8) = (0 - a) * 8192 := by
  rw [w64 (x := 0 - a) (by omega) (by omega), w64 (x := (0 - a) * 65536) (by omega) (by omega), show (0 - a) * 65536 = ((0 - a) * 8192) * 8 by omega, Int.mul_tdiv_cancel _ (by decide), w64] <;> omega
theorem w_hi {a b : Int} (h0 : 0 ≤ a) (h1 : a < 4) (h2 : 0 ≤ b) (h3 : b < 3) : IntKind.i64.wrap (IntKind.i64.wrap ((IntKind.i64.wrap (IntKind.i64.wrap (1 + a) * 65536)).tdiv 8) + b) = (1 + a) * 8192 + b := by
  rw [w64 (x := 1 + a) (by omega) (by omega), w64 (x := (1 + a) * 65536) (by omega) (by omega), show (1 + a) * 65536 = ((1 + a) * 8192) * 8 by omega, Int.mul_tdiv_cancel _ (by decide), w64 (x := (1 + a) * 8192) (by omega) (by omega), w64] <;> omega
theorem mk_joint (l : List Int) (p i : Nat) (hl : l.length ≤ 4611686018427387904) (hi : i < 10) : FnOk Try.prog F.mk_joint [.one (.vptr 0 0), I i] [(0, SrcJ l p)] 1 (Jo (mkJoint l p i)) [(0, SrcJ l (mkJointAt l p i))] 1 := by
  refine fnOk tab mix G.mk_joint rfl rfl (by kernel_rfl) rfl rfl ?_
  (conv => whnf)
  refine call_i (mk_letter i hi) ?_
  (conv => whnf)
  refine call_i (mk_Next l p 4 (by omega) (by omega) hl) ?_
  (conv => whnf)
  refine call_i (mk_Next l (p + 1) 3 (by omega) (by omega) hl) ?_
  (conv => whnf)
  refine call_i (mk_Next l (p + 2) 8 (by omega) (by omega) hl) ?_
  (conv => whnf)
  have n0 := nxt_bd (l := l) (j := p) (m := 4) (by omega)
  have n1 := nxt_bd (l := l) (j := p + 1) (m := 3) (by omega)
  have n2 := nxt_bd (l := l) (j := p + 2) (m := 8) (by omega)
  refine ⟨⟨n2.1, by simpa using n2.2⟩, ?_⟩
  have hkd := kind_at n2.1 n2.2
  rw [show kindOf (nxt l (p + 2) 8) = jKind l p from rfl] at hkd
  refine arr_at rfl rfl hkd ?_
  clear hkd
  (conv => whnf)
  refine call_i (mk_Next l (p + 3) 4 (by omega) (by omega) hl) ?_
  (conv => whnf)
  have w0 : IntKind.i64.wrap (1 + nxt l p 4) = 1 + nxt l p 4 := by rw [w64] <;> omega
  have w1 : IntKind.i64.wrap (65536 + nxt l (p + 1) 3) = 65536 + nxt l (p + 1) 3 := by rw [w64] <;> omega
  have wi : IntKind.i64.wrap ((i : Int) - 1) = (i : Int) - 1 := by rw [w64] <;> omega
  rw [w0, w1, wi]
  have hJ : mkJoint l p i = ⟨letter i, jKind l p, jParent l p i, jOff l p i, (jSpan l (jAt p i) (jKind l p)).1, (jSpan l (jAt p i) (jKind l p)).2.1, 1 + nxt l p 4, 65536, 65536 + nxt l (p + 1) 3, 327680⟩ := rfl
  rw [hJ, mkJointAt]
  generalize jKind l p = kd
  refine ask_m (fun h => ?_) (fun h => ?_)
  · have hp : jParent l p i = -1 := by unfold jParent; rw [if_pos (by simpa using h)]
    rw [hp]
    (conv => whnf)
    refine ask_m (fun h => ?_) (fun h => ?_)
    · have h : 0 < i := by have := of_decide_eq_true h; omega
      have ho : jOff l p i = ⟨131072, (nxt l (p + 4) 5 - 2) * 32768, (nxt l (p + 5) 3 - 1) * 32768⟩ := by unfold jOff; rw [if_pos h]
      have hq : jAt p i = p + 6 := by unfold jAt; rw [if_pos h]
      rw [ho, hq]
      (conv => whnf)
      refine call_i (mk_Signed l (p + 4) 2 5 (by omega) (by omega) (by omega) hl) ?_
      (conv => whnf)
      refine call_i (mk_Signed l (p + 5) 1 3 (by omega) (by omega) (by omega) hl) ?_
      (conv => whnf)
      have s4 := nxt_bd (l := l) (j := p + 4) (m := 5) (by omega)
      have s5 := nxt_bd (l := l) (j := p + 5) (m := 3) (by omega)
      rw [show IntKind.i64.wrap ((nxt l (p + 4) 5 - 2) * 32768) = (nxt l (p + 4) 5 - 2) * 32768 by rw [w64] <;> omega, show IntKind.i64.wrap ((nxt l (p + 5) 3 - 1) * 32768) = (nxt l (p + 5) 3 - 1) * 32768 by rw [w64] <;> omega]
      refine ask_m (fun h => ?_) (fun h => ?_)
      · have e : jSpan l (p + 6) kd = (0, 0, p + 6) := by unfold jSpan; rw [if_pos (by simpa using h)]
        rw [e]
        (conv => whnf)
        refine ret0 ?_
        exact ⟨[], ⟨rfl, trivial⟩, ⟨rfl, trivial⟩⟩
      have k0 : ¬ kd = 0 := by simpa using h
      (conv => whnf)
      refine ask_m (fun h => ?_) (fun h => ?_)
      · have e : jSpan l (p + 6) kd = ((0 - nxt l (p + 6) 3) * 65536, nxt l (p + 6 + 1) 4 * 32768, p + 6 + 2) := by unfold jSpan; rw [if_neg k0, if_pos (by simp_all)]
        have a0 := nxt_bd (l := l) (j := p + 6) (m := 3) (by omega)
        have a1 := nxt_bd (l := l) (j := p + 6 + 1) (m := 4) (by omega)
        rw [e]
        (conv => whnf)
        refine ask_mt h ?_
        (conv => whnf)
        refine call_i (mk_Next l (p + 6) 3 (by omega) (by omega) hl) ?_
        (conv => whnf)
        refine call_i (mk_Next l (p + 6 + 1) 4 (by omega) (by omega) hl) ?_
        (conv => whnf)
        refine ret0 ?_
        rw [show IntKind.i64.wrap (0 - nxt l (p + 6) 3) = 0 - nxt l (p + 6) 3 by rw [w64] <;> omega, show IntKind.i64.wrap ((0 - nxt l (p + 6) 3) * 65536) = (0 - nxt l (p + 6) 3) * 65536 by rw [w64] <;> omega, show IntKind.i64.wrap (nxt l (p + 6 + 1) 4 * 32768) = nxt l (p + 6 + 1) 4 * 32768 by rw [w64] <;> omega]
        exact ⟨[], ⟨rfl, trivial⟩, ⟨rfl, trivial⟩⟩
      (conv => whnf)
      refine ask_m (fun h => ?_) (fun h => ?_)
      · have e : jSpan l (p + 6) kd = ((0 - nxt l (p + 6) 3) * 65536, nxt l (p + 6 + 1) 4 * 32768, p + 6 + 2) := by unfold jSpan; rw [if_neg k0, if_pos (by simp_all)]
        have a0 := nxt_bd (l := l) (j := p + 6) (m := 3) (by omega)
        have a1 := nxt_bd (l := l) (j := p + 6 + 1) (m := 4) (by omega)
        rw [e]
        (conv => whnf)
        refine call_i (mk_Next l (p + 6) 3 (by omega) (by omega) hl) ?_
        (conv => whnf)
        refine call_i (mk_Next l (p + 6 + 1) 4 (by omega) (by omega) hl) ?_
        (conv => whnf)
        refine ret0 ?_
        rw [show IntKind.i64.wrap (0 - nxt l (p + 6) 3) = 0 - nxt l (p + 6) 3 by rw [w64] <;> omega, show IntKind.i64.wrap ((0 - nxt l (p + 6) 3) * 65536) = (0 - nxt l (p + 6) 3) * 65536 by rw [w64] <;> omega, show IntKind.i64.wrap (nxt l (p + 6 + 1) 4 * 32768) = nxt l (p + 6 + 1) 4 * 32768 by rw [w64] <;> omega]
        exact ⟨[], ⟨rfl, trivial⟩, ⟨rfl, trivial⟩⟩
      · have e : jSpan l (p + 6) kd = ((0 - nxt l (p + 6) 5) * 8192, (1 + nxt l (p + 6 + 1) 4) * 8192 + nxt l (p + 6 + 2) 3, p + 6 + 3) := by unfold jSpan; rw [if_neg k0, if_neg (by simp_all)]
        rw [e]
        have a0 := nxt_bd (l := l) (j := p + 6) (m := 5) (by omega)
        have a1 := nxt_bd (l := l) (j := p + 6 + 1) (m := 4) (by omega)
        have a2 := nxt_bd (l := l) (j := p + 6 + 2) (m := 3) (by omega)
        (conv => whnf)
        refine call_i (mk_Next l (p + 6) 5 (by omega) (by omega) hl) ?_
        (conv => whnf)
        refine ⟨by omega, ?_⟩
        (conv => whnf)
        refine call_i (mk_Next l (p + 6 + 1) 4 (by omega) (by omega) hl) ?_
        (conv => whnf)
        refine ⟨by omega, ?_⟩
        (conv => whnf)
        refine call_i (mk_Next l (p + 6 + 2) 3 (by omega) (by omega) hl) ?_
        (conv => whnf)
        refine ret0 ?_
        rw [w_lo a0.1 a0.2, w_hi a1.1 a1.2 a2.1 a2.2]
        exact ⟨[], ⟨rfl, trivial⟩, ⟨rfl, trivial⟩⟩
    · have h : ¬ 0 < i := by have := of_decide_eq_false h; omega
      have ho : jOff l p i = ⟨0, 0, 0⟩ := by unfold jOff; rw [if_neg h]
      have hq : jAt p i = p + 4 := by unfold jAt; rw [if_neg h]
      rw [ho, hq]
      (conv => whnf)
      refine ask_m (fun h => ?_) (fun h => ?_)
      · have e : jSpan l (p + 4) kd = (0, 0, p + 4) := by unfold jSpan; rw [if_pos (by simpa using h)]
        rw [e]
        (conv => whnf)
        refine ret0 ?_
        exact ⟨[], ⟨rfl, trivial⟩, ⟨rfl, trivial⟩⟩
      have k0 : ¬ kd = 0 := by simpa using h
      (conv => whnf)
      refine ask_m (fun h => ?_) (fun h => ?_)
      · have e : jSpan l (p + 4) kd = ((0 - nxt l (p + 4) 3) * 65536, nxt l (p + 4 + 1) 4 * 32768, p + 4 + 2) := by unfold jSpan; rw [if_neg k0, if_pos (by simp_all)]
        have a0 := nxt_bd (l := l) (j := p + 4) (m := 3) (by omega)
        have a1 := nxt_bd (l := l) (j := p + 4 + 1) (m := 4) (by omega)
        rw [e]
        (conv => whnf)
        refine ask_mt h ?_
        (conv => whnf)
        refine call_i (mk_Next l (p + 4) 3 (by omega) (by omega) hl) ?_
        (conv => whnf)
        refine call_i (mk_Next l (p + 4 + 1) 4 (by omega) (by omega) hl) ?_
        (conv => whnf)
        refine ret0 ?_
        rw [show IntKind.i64.wrap (0 - nxt l (p + 4) 3) = 0 - nxt l (p + 4) 3 by rw [w64] <;> omega, show IntKind.i64.wrap ((0 - nxt l (p + 4) 3) * 65536) = (0 - nxt l (p + 4) 3) * 65536 by rw [w64] <;> omega, show IntKind.i64.wrap (nxt l (p + 4 + 1) 4 * 32768) = nxt l (p + 4 + 1) 4 * 32768 by rw [w64] <;> omega]
        exact ⟨[], ⟨rfl, trivial⟩, ⟨rfl, trivial⟩⟩
      (conv => whnf)
      refine ask_m (fun h => ?_) (fun h => ?_)
      · have e : jSpan l (p + 4) kd = ((0 - nxt l (p + 4) 3) * 65536, nxt l (p + 4 + 1) 4 * 32768, p + 4 + 2) := by unfold jSpan; rw [if_neg k0, if_pos (by simp_all)]
        have a0 := nxt_bd (l := l) (j := p + 4) (m := 3) (by omega)
        have a1 := nxt_bd (l := l) (j := p + 4 + 1) (m := 4) (by omega)
        rw [e]
        (conv => whnf)
        refine call_i (mk_Next l (p + 4) 3 (by omega) (by omega) hl) ?_
        (conv => whnf)
        refine call_i (mk_Next l (p + 4 + 1) 4 (by omega) (by omega) hl) ?_
        (conv => whnf)
        refine ret0 ?_
        rw [show IntKind.i64.wrap (0 - nxt l (p + 4) 3) = 0 - nxt l (p + 4) 3 by rw [w64] <;> omega, show IntKind.i64.wrap ((0 - nxt l (p + 4) 3) * 65536) = (0 - nxt l (p + 4) 3) * 65536 by rw [w64] <;> omega, show IntKind.i64.wrap (nxt l (p + 4 + 1) 4 * 32768) = nxt l (p + 4 + 1) 4 * 32768 by rw [w64] <;> omega]
        exact ⟨[], ⟨rfl, trivial⟩, ⟨rfl, trivial⟩⟩
      · have e : jSpan l (p + 4) kd = ((0 - nxt l (p + 4) 5) * 8192, (1 + nxt l (p + 4 + 1) 4) * 8192 + nxt l (p + 4 + 2) 3, p + 4 + 3) := by unfold jSpan; rw [if_neg k0, if_neg (by simp_all)]
        rw [e]
        have a0 := nxt_bd (l := l) (j := p + 4) (m := 5) (by omega)
        have a1 := nxt_bd (l := l) (j := p + 4 + 1) (m := 4) (by omega)
        have a2 := nxt_bd (l := l) (j := p + 4 + 2) (m := 3) (by omega)
        (conv => whnf)
        refine call_i (mk_Next l (p + 4) 5 (by omega) (by omega) hl) ?_
        (conv => whnf)
        refine ⟨by omega, ?_⟩
        (conv => whnf)
        refine call_i (mk_Next l (p + 4 + 1) 4 (by omega) (by omega) hl) ?_
        (conv => whnf)
        refine ⟨by omega, ?_⟩
        (conv => whnf)
        refine call_i (mk_Next l (p + 4 + 2) 3 (by omega) (by omega) hl) ?_
        (conv => whnf)
        refine ret0 ?_
        rw [w_lo a0.1 a0.2, w_hi a1.1 a1.2 a2.1 a2.2]
        exact ⟨[], ⟨rfl, trivial⟩, ⟨rfl, trivial⟩⟩
  · have hp : jParent l p i = (i : Int) - 1 := by unfold jParent; rw [if_neg (by simpa using h)]
    rw [hp]
    (conv => whnf)
    refine ask_m (fun h => ?_) (fun h => ?_)
    · have h : 0 < i := by have := of_decide_eq_true h; omega
      have ho : jOff l p i = ⟨131072, (nxt l (p + 4) 5 - 2) * 32768, (nxt l (p + 5) 3 - 1) * 32768⟩ := by unfold jOff; rw [if_pos h]
      have hq : jAt p i = p + 6 := by unfold jAt; rw [if_pos h]
      rw [ho, hq]
      (conv => whnf)
      refine call_i (mk_Signed l (p + 4) 2 5 (by omega) (by omega) (by omega) hl) ?_
      (conv => whnf)
      refine call_i (mk_Signed l (p + 5) 1 3 (by omega) (by omega) (by omega) hl) ?_
      (conv => whnf)
      have s4 := nxt_bd (l := l) (j := p + 4) (m := 5) (by omega)
      have s5 := nxt_bd (l := l) (j := p + 5) (m := 3) (by omega)
      rw [show IntKind.i64.wrap ((nxt l (p + 4) 5 - 2) * 32768) = (nxt l (p + 4) 5 - 2) * 32768 by rw [w64] <;> omega, show IntKind.i64.wrap ((nxt l (p + 5) 3 - 1) * 32768) = (nxt l (p + 5) 3 - 1) * 32768 by rw [w64] <;> omega]
      refine ask_m (fun h => ?_) (fun h => ?_)
      · have e : jSpan l (p + 6) kd = (0, 0, p + 6) := by unfold jSpan; rw [if_pos (by simpa using h)]
        rw [e]
        (conv => whnf)
        refine ret0 ?_
        exact ⟨[], ⟨rfl, trivial⟩, ⟨rfl, trivial⟩⟩
      have k0 : ¬ kd = 0 := by simpa using h
      (conv => whnf)
      refine ask_m (fun h => ?_) (fun h => ?_)
      · have e : jSpan l (p + 6) kd = ((0 - nxt l (p + 6) 3) * 65536, nxt l (p + 6 + 1) 4 * 32768, p + 6 + 2) := by unfold jSpan; rw [if_neg k0, if_pos (by simp_all)]
        have a0 := nxt_bd (l := l) (j := p + 6) (m := 3) (by omega)
        have a1 := nxt_bd (l := l) (j := p + 6 + 1) (m := 4) (by omega)
        rw [e]
        (conv => whnf)
        refine ask_mt h ?_
        (conv => whnf)
        refine call_i (mk_Next l (p + 6) 3 (by omega) (by omega) hl) ?_
        (conv => whnf)
        refine call_i (mk_Next l (p + 6 + 1) 4 (by omega) (by omega) hl) ?_
        (conv => whnf)
        refine ret0 ?_
        rw [show IntKind.i64.wrap (0 - nxt l (p + 6) 3) = 0 - nxt l (p + 6) 3 by rw [w64] <;> omega, show IntKind.i64.wrap ((0 - nxt l (p + 6) 3) * 65536) = (0 - nxt l (p + 6) 3) * 65536 by rw [w64] <;> omega, show IntKind.i64.wrap (nxt l (p + 6 + 1) 4 * 32768) = nxt l (p + 6 + 1) 4 * 32768 by rw [w64] <;> omega]
        exact ⟨[], ⟨rfl, trivial⟩, ⟨rfl, trivial⟩⟩
      (conv => whnf)
      refine ask_m (fun h => ?_) (fun h => ?_)
      · have e : jSpan l (p + 6) kd = ((0 - nxt l (p + 6) 3) * 65536, nxt l (p + 6 + 1) 4 * 32768, p + 6 + 2) := by unfold jSpan; rw [if_neg k0, if_pos (by simp_all)]
        have a0 := nxt_bd (l := l) (j := p + 6) (m := 3) (by omega)
        have a1 := nxt_bd (l := l) (j := p + 6 + 1) (m := 4) (by omega)
        rw [e]
        (conv => whnf)
        refine call_i (mk_Next l (p + 6) 3 (by omega) (by omega) hl) ?_
        (conv => whnf)
        refine call_i (mk_Next l (p + 6 + 1) 4 (by omega) (by omega) hl) ?_
        (conv => whnf)
        refine ret0 ?_
        rw [show IntKind.i64.wrap (0 - nxt l (p + 6) 3) = 0 - nxt l (p + 6) 3 by rw [w64] <;> omega, show IntKind.i64.wrap ((0 - nxt l (p + 6) 3) * 65536) = (0 - nxt l (p + 6) 3) * 65536 by rw [w64] <;> omega, show IntKind.i64.wrap (nxt l (p + 6 + 1) 4 * 32768) = nxt l (p + 6 + 1) 4 * 32768 by rw [w64] <;> omega]
        exact ⟨[], ⟨rfl, trivial⟩, ⟨rfl, trivial⟩⟩
      · have e : jSpan l (p + 6) kd = ((0 - nxt l (p + 6) 5) * 8192, (1 + nxt l (p + 6 + 1) 4) * 8192 + nxt l (p + 6 + 2) 3, p + 6 + 3) := by unfold jSpan; rw [if_neg k0, if_neg (by simp_all)]
        rw [e]
        have a0 := nxt_bd (l := l) (j := p + 6) (m := 5) (by omega)
        have a1 := nxt_bd (l := l) (j := p + 6 + 1) (m := 4) (by omega)
        have a2 := nxt_bd (l := l) (j := p + 6 + 2) (m := 3) (by omega)
        (conv => whnf)
        refine call_i (mk_Next l (p + 6) 5 (by omega) (by omega) hl) ?_
        (conv => whnf)
        refine ⟨by omega, ?_⟩
        (conv => whnf)
        refine call_i (mk_Next l (p + 6 + 1) 4 (by omega) (by omega) hl) ?_
        (conv => whnf)
        refine ⟨by omega, ?_⟩
        (conv => whnf)
        refine call_i (mk_Next l (p + 6 + 2) 3 (by omega) (by omega) hl) ?_
        (conv => whnf)
        refine ret0 ?_
        rw [w_lo a0.1 a0.2, w_hi a1.1 a1.2 a2.1 a2.2]
        exact ⟨[], ⟨rfl, trivial⟩, ⟨rfl, trivial⟩⟩
    · have h : ¬ 0 < i := by have := of_decide_eq_false h; omega
      have ho : jOff l p i = ⟨0, 0, 0⟩ := by unfold jOff; rw [if_neg h]
      have hq : jAt p i = p + 4 := by unfold jAt; rw [if_neg h]
      rw [ho, hq]
      (conv => whnf)
      refine ask_m (fun h => ?_) (fun h => ?_)
      · have e : jSpan l (p + 4) kd = (0, 0, p + 4) := by unfold jSpan; rw [if_pos (by simpa using h)]
        rw [e]
        (conv => whnf)
        refine ret0 ?_
        exact ⟨[], ⟨rfl, trivial⟩, ⟨rfl, trivial⟩⟩
      have k0 : ¬ kd = 0 := by simpa using h
      (conv => whnf)
      refine ask_m (fun h => ?_) (fun h => ?_)
      · have e : jSpan l (p + 4) kd = ((0 - nxt l (p + 4) 3) * 65536, nxt l (p + 4 + 1) 4 * 32768, p + 4 + 2) := by unfold jSpan; rw [if_neg k0, if_pos (by simp_all)]
        have a0 := nxt_bd (l := l) (j := p + 4) (m := 3) (by omega)
        have a1 := nxt_bd (l := l) (j := p + 4 + 1) (m := 4) (by omega)
        rw [e]
        (conv => whnf)
        refine ask_mt h ?_
        (conv => whnf)
        refine call_i (mk_Next l (p + 4) 3 (by omega) (by omega) hl) ?_
        (conv => whnf)
        refine call_i (mk_Next l (p + 4 + 1) 4 (by omega) (by omega) hl) ?_
        (conv => whnf)
        refine ret0 ?_
        rw [show IntKind.i64.wrap (0 - nxt l (p + 4) 3) = 0 - nxt l (p + 4) 3 by rw [w64] <;> omega, show IntKind.i64.wrap ((0 - nxt l (p + 4) 3) * 65536) = (0 - nxt l (p + 4) 3) * 65536 by rw [w64] <;> omega, show IntKind.i64.wrap (nxt l (p + 4 + 1) 4 * 32768) = nxt l (p + 4 + 1) 4 * 32768 by rw [w64] <;> omega]
        exact ⟨[], ⟨rfl, trivial⟩, ⟨rfl, trivial⟩⟩
      (conv => whnf)
      refine ask_m (fun h => ?_) (fun h => ?_)
      · have e : jSpan l (p + 4) kd = ((0 - nxt l (p + 4) 3) * 65536, nxt l (p + 4 + 1) 4 * 32768, p + 4 + 2) := by unfold jSpan; rw [if_neg k0, if_pos (by simp_all)]
        have a0 := nxt_bd (l := l) (j := p + 4) (m := 3) (by omega)
        have a1 := nxt_bd (l := l) (j := p + 4 + 1) (m := 4) (by omega)
        rw [e]
        (conv => whnf)
        refine call_i (mk_Next l (p + 4) 3 (by omega) (by omega) hl) ?_
        (conv => whnf)
        refine call_i (mk_Next l (p + 4 + 1) 4 (by omega) (by omega) hl) ?_
        (conv => whnf)
        refine ret0 ?_
        rw [show IntKind.i64.wrap (0 - nxt l (p + 4) 3) = 0 - nxt l (p + 4) 3 by rw [w64] <;> omega, show IntKind.i64.wrap ((0 - nxt l (p + 4) 3) * 65536) = (0 - nxt l (p + 4) 3) * 65536 by rw [w64] <;> omega, show IntKind.i64.wrap (nxt l (p + 4 + 1) 4 * 32768) = nxt l (p + 4 + 1) 4 * 32768 by rw [w64] <;> omega]
        exact ⟨[], ⟨rfl, trivial⟩, ⟨rfl, trivial⟩⟩
      · have e : jSpan l (p + 4) kd = ((0 - nxt l (p + 4) 5) * 8192, (1 + nxt l (p + 4 + 1) 4) * 8192 + nxt l (p + 4 + 2) 3, p + 4 + 3) := by unfold jSpan; rw [if_neg k0, if_neg (by simp_all)]
        rw [e]
        have a0 := nxt_bd (l := l) (j := p + 4) (m := 5) (by omega)
        have a1 := nxt_bd (l := l) (j := p + 4 + 1) (m := 4) (by omega)
        have a2 := nxt_bd (l := l) (j := p + 4 + 2) (m := 3) (by omega)
        (conv => whnf)
        refine call_i (mk_Next l (p + 4) 5 (by omega) (by omega) hl) ?_
        (conv => whnf)
        refine ⟨by omega, ?_⟩
        (conv => whnf)
        refine call_i (mk_Next l (p + 4 + 1) 4 (by omega) (by omega) hl) ?_
        (conv => whnf)
        refine ⟨by omega, ?_⟩
        (conv => whnf)
        refine call_i (mk_Next l (p + 4 + 2) 3 (by omega) (by omega) hl) ?_
        (conv => whnf)
        refine ret0 ?_
        rw [w_lo a0.1 a0.2, w_hi a1.1 a1.2 a2.1 a2.2]
        exact ⟨[], ⟨rfl, trivial⟩, ⟨rfl, trivial⟩⟩
end Go.Proofs.Ytgakendcmakndaa
