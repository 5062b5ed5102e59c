/- Robots: the parts of their check. -/
import Derived.Test.YtgakendcmakndaaCo3
import Derived.Test.YtgakendcmakndaaCo2b
namespace Go.Proofs.Ytgakendcmakndaa
open Eng
set_option maxRecDepth 10000
attribute [local irreducible] FnOk loopW idxF retX arrF

theorem robot_Find (r : Robot) (nm : ByteArray) (hl : r.joints.length ≤ 4611686018427387904) : FnOk Try.prog F.robot_Find [Ro r, Tx nm] [] 0 (I (find r.joints nm 0)) [] 0 := by
  refine fnOk tab mix G.robot_Find rfl rfl (by kernel_rfl) rfl rfl ?_
  (conv => whnf)
  refine loop_intro (fun k : Nat => ⟨[(1, Tx nm), (2, .one (.vptr 0 0)), (8, I r.joints.length), (9, I k)], [(0, bRo r)], 1⟩) (fun k => k ≤ r.joints.length ∧ find (r.joints.drop k) nm k = find r.joints nm 0) (fun k => r.joints.length - k) [] 0 [] ⟨Nat.zero_le _, rfl⟩ ⟨⟨rfl, rfl, eqI (by simp), rfl, trivial⟩, ⟨rfl, trivial⟩⟩ ?_
  rintro k ⟨hk, hf⟩
  (conv => whnf)
  refine ask_m (fun h => ?_) (fun h => ?_)
  · have hlt : k < r.joints.length := by simpa using h
    obtain ⟨j, hj⟩ : ∃ j, r.joints[k]? = some j := ⟨_, List.getElem?_eq_getElem hlt⟩
    have hkk : IntKind.i64.wrap ((k : Int) + 1) = ((k + 1 : Nat) : Int) := by rw [w64] <;> omega
    rw [drop_cons hj, find] at hf
    (conv => whnf)
    refine idx_and (by omega) (by simpa using hj) ?_
    (conv => whnf)
    refine ask_m (fun h => ?_) (fun h => ?_)
    · have h : j.name = nm := of_decide_eq_true h
      rw [if_pos h] at hf
      (conv => whnf)
      refine ret0 ?_
      exact ret_i hf rfl
    · have h : ¬ j.name = nm := of_decide_eq_false h
      rw [if_neg h] at hf
      (conv => whnf)
      exact ⟨k + 1, [], ⟨hlt, hf⟩, by omega, ⟨⟨rfl, rfl, rfl, eqI hkk, trivial⟩, ⟨rfl, trivial⟩⟩⟩
  · have hk : k = r.joints.length := by simp at h; omega
    subst hk
    rw [List.drop_length, find] at hf
    (conv => whnf)
    refine ret0 ?_
    exact ret_i hf rfl
theorem robot_from1 (x m : Int) : FnOk Try.prog F.robot_from1 [I x, I m] [] 0 (Bo (from1 x m)) [] 0 := by
  refine fnOk tab mix G.robot_from1 rfl rfl (by kernel_rfl) rfl rfl ?_
  repeat' ((conv => whnf); first | refine ask_m (fun h => ?_) (fun h => ?_) | refine ret0 ?_)
  all_goals exact ret_b (by first | (simp_all [from1]; done) | (simp_all [from1]; omega)) rfl
theorem robot_limit (k : Int) : FnOk Try.prog F.robot_limit [I k] [] 0 (I (reach k)) [] 0 := by
  refine fnOk tab mix G.robot_limit rfl rfl (by kernel_rfl) rfl rfl ?_
  repeat' ((conv => whnf); first | refine ask_m (fun h => ?_) (fun h => ?_) | refine ret0 ?_)
  all_goals exact ret_i (by simp_all [reach]) rfl
def inC (x : Int) : Bool := decide (-4194304 ≤ x) && decide (x ≤ 4194304)
def vAt (v : Vec) : Nat → Int
  | 0 => v.x
  | 1 => v.y
  | _ => v.z
theorem inV_at {v : Vec} {k : Nat} (hk : k < 3) (h : inC (vAt v k) = false) : inV v 4194304 = false := by
  obtain rfl | rfl | rfl : k = 0 ∨ k = 1 ∨ k = 2 := by omega
  all_goals (simp only [vAt, inC] at h; unfold inV; rw [h]; simp)
theorem inV_all {v : Vec} (h : ∀ k, k < 3 → inC (vAt v k) = true) : inV v 4194304 = true := by
  have h0 := h 0 (by omega)
  have h1 := h 1 (by omega)
  have h2 := h 2 (by omega)
  simp only [vAt, inC] at h0 h1 h2
  unfold inV; rw [h0, h1, h2]; rfl
theorem arr_vec {te : TI} {v : Vec} {k : Nat} {K : SV → Prop} (ha : te.kind.agg = false) (hs : te.size = 1) (hk : k < 3) (h : K (I (vAt v k))) : arrF te [.dv (.int .i64 v.x), .dv (.int .i64 v.y), .dv (.int .i64 v.z)] k K := by
  obtain rfl | rfl | rfl : k = 0 ∨ k = 1 ∨ k = 2 := by omega
  · exact arr_at ha hs (c := .dv (.int .i64 v.x)) rfl h
  · exact arr_at ha hs (c := .dv (.int .i64 v.y)) rfl h
  · exact arr_at ha hs (c := .dv (.int .i64 v.z)) rfl h
theorem robot_beyond (v : Vec) : FnOk Try.prog F.robot_beyond [Ve v] [] 0 (Bo (!inV v 4194304)) [] 0 := by
  refine fnOk tab mix G.robot_beyond rfl rfl (by kernel_rfl) rfl rfl ?_
  (conv => whnf)
  refine loop_intro (fun k : Nat => ⟨[(5, Ve v), (6, I k)], [], 0⟩) (fun k => k ≤ 3 ∧ ∀ i, i < k → inC (vAt v i) = true) (fun k => 3 - k) [] 0 [] ⟨Nat.zero_le _, fun i hi => by omega⟩ ⟨⟨rfl, rfl, trivial⟩, trivial⟩ ?_
  rintro k ⟨hk, hall⟩
  (conv => whnf)
  refine ask_m (fun h => ?_) (fun h => ?_)
  · have hlt : k < 3 := by have := of_decide_eq_true h; omega
    have hkk : IntKind.i64.wrap ((k : Int) + 1) = ((k + 1 : Nat) : Int) := by rw [w64] <;> omega
    (conv => whnf)
    refine ⟨⟨by omega, by omega⟩, ?_⟩
    (conv => whnf)
    rw [Int.toNat_natCast]
    refine arr_vec rfl rfl hlt ?_
    have bad : inC (vAt v k) = false → (!inV v 4194304) = true := fun h => by rw [inV_at hlt h]; rfl
    generalize hx : vAt v k = x at *
    (conv => whnf)
    refine ask_m (fun h => ?_) (fun h => ?_)
    · have h := of_decide_eq_true h
      (conv => whnf)
      refine ret0 ?_
      exact ret_b (bad (by simp only [inC, Bool.and_eq_false_iff, decide_eq_false_iff_not]; omega)).symm rfl
    · have h := of_decide_eq_false h
      (conv => whnf)
      refine ask_m (fun h => ?_) (fun h => ?_)
      · have h := of_decide_eq_true h
        (conv => whnf)
        refine ret0 ?_
        exact ret_b (bad (by simp only [inC, Bool.and_eq_false_iff, decide_eq_false_iff_not]; omega)).symm rfl
      · have h2 := of_decide_eq_false h
        (conv => whnf)
        refine ⟨k + 1, [], ⟨hlt, fun i hi => ?_⟩, by omega, ⟨⟨rfl, eqI hkk, trivial⟩, trivial⟩⟩
        by_cases e : i = k
        · subst e; rw [hx]; simp only [inC, Bool.and_eq_true, decide_eq_true_eq]; omega
        · exact hall i (by omega)
  · have hk : k = 3 := by have := of_decide_eq_false h; omega
    subst hk
    (conv => whnf)
    refine ret0 ?_
    exact ret_b (by rw [inV_all hall]; rfl) rfl
end Go.Proofs.Ytgakendcmakndaa
