/- Robots: chains, the joints between two links, rigidity: the walks. -/
import Derived.Test.YtgakendcmakndaaCh1
namespace Go.Proofs.Ytgakendcmakndaa
open Eng
set_option maxRecDepth 10000
attribute [local irreducible] FnOk loopW idxF retX arrF

abbrev bIs (l : List Int) : Box := .rows 3 1 (l.map encI)
theorem robot_chain (r : Robot) (k0 : Int) (hl : r.joints.length ≤ 10) (hd : downOk r.joints) (h1 : -1 ≤ k0) (h2 : k0 < r.joints.length) : FnOk Try.prog F.robot_chain [Ro r, I k0] [] 0 (.one (.row 0)) [(0, bIs (chain r.joints k0))] 1 := by
  refine fnOk tab mix G.robot_chain rfl rfl (by kernel_rfl) rfl rfl ?_
  (conv => whnf)
  refine loop_intro (fun p : Int × List Int => ⟨[(1, I p.1), (2, .one (.vptr 0 0)), (5, .one (.row 1))], [(0, bRo r), (1, bIs p.2)], 2⟩) (fun p => -1 ≤ p.1 ∧ p.1 < r.joints.length ∧ chain r.joints k0 = chain r.joints p.1 ++ p.2) (fun p => (p.1 + 1).toNat) [.own 5 3 1] (k0, []) [] ⟨h1, h2, by simp⟩ ⟨⟨rfl, rfl, rfl, trivial⟩, ⟨rfl, rfl, trivial⟩⟩ ?_
  rintro ⟨k, acc⟩ ⟨hk1, hk2, hc⟩
  have hcl := (chain_in hd k0 h1 h2).2.2
  have hlen : (chain r.joints k0).length = (chain r.joints k).length + acc.length := by rw [hc, List.length_append]
  (conv => whnf)
  refine ask_m (fun h => ?_) (fun h => ?_)
  · have hk : k ≠ -1 := by simpa using h
    obtain ⟨i, rfl⟩ : ∃ i : Nat, k = i := ⟨k.toNat, by simp only at hk1; omega⟩
    simp only at hk1 hk2 hc
    obtain ⟨j, hj⟩ : ∃ j, r.joints[i]? = some j := ⟨_, List.getElem?_eq_getElem (by omega)⟩
    have hp := hd i j hj
    have hw : IntKind.i64.wrap ((acc.length : Int) + 1) = ((acc.length + 1 : Nat) : Int) := by rw [w64] <;> omega
    (conv => whnf)
    rw [List.length_map, hw]
    refine ⟨⟨by omega, by omega, by show (8 : Int) * _ ≤ _; omega, by omega⟩, ?_⟩
    (conv => whnf)
    rw [Int.toNat_natCast, List.replicate_succ]
    (conv => whnf)
    refine ⟨⟨by omega, by simp⟩, ?_⟩
    (conv => whnf)
    refine idx_at (r := [.int .i64 0]) rfl ?_
    (conv => whnf)
    refine ⟨⟨by omega, by simp; omega⟩, ?_⟩
    (conv => whnf)
    refine ⟨⟨by simp, by simp⟩, ?_⟩
    (conv => whnf)
    refine idx_and (by omega) (by simpa using hj) ?_
    (conv => whnf)
    refine ⟨(j.parent, (i : Int) :: acc), [(1, 2)], ⟨hp.1, by simp only; omega, ?_⟩, by simp only; omega, ⟨⟨rfl, rfl, rfl, trivial⟩, ⟨rfl, ?_, trivial⟩⟩⟩
    · rw [hc, chain_step hd hj, List.append_assoc]; rfl
    · show Box.rows 3 1 _ = Box.rows 3 1 _
      refine congrArg _ ?_
      have hdr : List.drop (1 + acc.length) ([DV.int IntKind.i64 (i : Int)] :: List.replicate acc.length [DV.int IntKind.i64 0]) = [] := List.drop_eq_nil_of_le (by simp; omega)
      have htk : List.take acc.length (List.map encI acc) = List.map encI acc := List.take_of_length_le (by simp)
      simp [copied, hdr, htk]
      rfl
  · have hk : k = -1 := by simpa using h
    subst hk
    have hc : chain r.joints k0 = acc := by rw [hc, chain_neg r.joints (k := ((-1 : Int), acc).1) (by simp)]; rfl
    rw [hc]
    (conv => whnf)
    refine ret0 ?_
    exact ⟨[(0, 1)], ⟨rfl, trivial⟩, ⟨rfl, trivial⟩⟩
/-- the robot is valid and has the links -/
def hasB (r : Robot) (ks : List Int) : Bool := ks.all (linkOk r.joints.length) && decide (checkRobot r = 0)
theorem robot_has (r : Robot) (ks : List Int) (hj : r.joints.length ≤ 4611686018427387904) (hm : r.masses.length ≤ 4611686018427387904) (hk : ks.length ≤ 4611686018427387904) : FnOk Try.prog F.robot_has [Ro r, Li ks] [] 0 (Bo (hasB r ks)) [] 0 := by
  refine fnOk tab mix G.robot_has rfl rfl (by kernel_rfl) rfl rfl ?_
  (conv => whnf)
  refine loop_intro (fun k : Nat => ⟨[(2, .one (.vptr 0 0)), (7, Li ks), (8, I ks.length), (9, I k)], [(0, bRo r)], 1⟩) (fun k => k ≤ ks.length ∧ (ks.take k).all (linkOk r.joints.length) = true) (fun k => ks.length - k) [] 0 [] ⟨Nat.zero_le _, rfl⟩ ⟨⟨rfl, rfl, eqI (by simp), rfl, trivial⟩, ⟨rfl, trivial⟩⟩ ?_
  rintro k ⟨hk', hall⟩
  (conv => whnf)
  refine ask_m (fun h => ?_) (fun h => ?_)
  · have hlt : k < ks.length := by simpa using h
    obtain ⟨x, hx⟩ : ∃ x, ks[k]? = some x := ⟨_, List.getElem?_eq_getElem hlt⟩
    have hkk : IntKind.i64.wrap ((k : Int) + 1) = ((k + 1 : Nat) : Int) := by rw [w64] <;> omega
    have bad : linkOk r.joints.length x = false → hasB r ks = false := fun h => by rw [hasB, all_not hx h]; rfl
    (conv => whnf)
    refine idx_and (by omega) (by simpa using hx) ?_
    (conv => whnf)
    refine ask_m (fun h => ?_) (fun h => ?_)
    · (conv => whnf)
      refine ret0 ?_
      exact ret_b (bad (by have := of_decide_eq_true h; simp [linkOk]; omega)).symm rfl
    have g1 := of_decide_eq_false h
    (conv => whnf)
    refine ask_m (fun h => ?_) (fun h => ?_)
    · (conv => whnf)
      refine ret0 ?_
      exact ret_b (bad (by have := of_decide_eq_true h; simp only [List.length_map] at this; simp [linkOk]; omega)).symm rfl
    have g2 := of_decide_eq_false h
    simp only [List.length_map] at g2
    (conv => whnf)
    exact ⟨k + 1, [], ⟨hlt, all_take hall hx (by simp [linkOk]; omega)⟩, by omega, ⟨⟨rfl, rfl, rfl, eqI hkk, trivial⟩, ⟨rfl, trivial⟩⟩⟩
  · have hk : k = ks.length := by simp at h; omega
    subst hk
    rw [List.take_length] at hall
    (conv => whnf)
    refine call_i (robot_Check r hj hm) ?_
    (conv => whnf)
    (conv => whnf)
    refine ret0 ?_
    exact ret_b (by rw [hasB, hall, Bool.true_and]; rfl) rfl

/- the count of each joint in the chains -/
def cnt (l : List Int) (i : Nat) : Int := ((l.count (i : Int) : Nat) : Int)
theorem cnt_bd (l : List Int) (i : Nat) : 0 ≤ cnt l i ∧ cnt l i ≤ l.length := by
  have := List.count_le_length (a := (i : Int)) (l := l)
  unfold cnt; omega
abbrev arr10 (c : Nat → Int) : List CV := [.dv (.int .i64 (c 0)), .dv (.int .i64 (c 1)), .dv (.int .i64 (c 2)), .dv (.int .i64 (c 3)), .dv (.int .i64 (c 4)), .dv (.int .i64 (c 5)), .dv (.int .i64 (c 6)), .dv (.int .i64 (c 7)), .dv (.int .i64 (c 8)), .dv (.int .i64 (c 9))]
theorem lt10 {k : Nat} (h : k < 10) : k = 0 ∨ k = 1 ∨ k = 2 ∨ k = 3 ∨ k = 4 ∨ k = 5 ∨ k = 6 ∨ k = 7 ∨ k = 8 ∨ k = 9 := by omega
theorem cnt_snoc {l : List Int} {k i : Nat} (h : l[k]? = some (i : Int)) (j : Nat) : cnt (l.take (k + 1)) j = cnt (l.take k) j + if j = i then 1 else 0 := by
  unfold cnt
  rw [List.take_add_one, h, Option.toList_some, List.count_append, List.count_singleton]
  by_cases h : j = i
  · subst h; simp
  · have : ¬ (i : Int) = (j : Int) := by omega
    simp [h, this]
theorem cnt_app (l l' : List Int) (j : Nat) : cnt (l ++ l') j = cnt l j + cnt l' j := by unfold cnt; rw [List.count_append]; omega
theorem arr10_at (c : Nat → Int) {k : Nat} (h : k < 10) : (arr10 c)[k]? = some (.dv (.int .i64 (c k))) := by
  rcases lt10 h with rfl | rfl | rfl | rfl | rfl | rfl | rfl | rfl | rfl | rfl <;> rfl
theorem robot_between (r : Robot) (a b : Int) (hl : r.joints.length ≤ 10) (hd : downOk r.joints) (a1 : -1 ≤ a) (a2 : a < r.joints.length) (b1 : -1 ≤ b) (b2 : b < r.joints.length) : FnOk Try.prog F.robot_between [Ro r, I a, I b] [] 0 (.one (.row 0)) [(0, bIs ((btw r.joints a b).map fun (i : Nat) => (i : Int)))] 1 := by
  refine fnOk tab mix G.robot_between rfl rfl (by kernel_rfl) rfl rfl ?_
  (conv => whnf)
  refine call_i (robot_chain r a hl hd a1 a2) ?_
  (conv => whnf)
  obtain ⟨ca1, ca2, ca3⟩ := chain_in hd a a1 a2
  obtain ⟨cb1, cb2, cb3⟩ := chain_in hd b b1 b2
  have hb : btw r.joints a b = (List.range 10).filter fun i => decide (cnt (chain r.joints a) i + cnt (chain r.joints b) i = 1) := by
    unfold btw cnt
    congr 1; funext i
    rw [decide_eq_decide]; omega
  have hrc := robot_chain r b hl hd b1 b2
  rw [hb]
  generalize chain r.joints a = ca at *
  generalize chain r.joints b = cb at *
  refine loop_intro (fun k : Nat => ⟨[(2, I b), (3, .one (.vptr 0 0)), (7, .one (.vptr 1 0)), (17, .one (.row 2)), (18, I ca.length), (19, I k)], [(0, bRo r), (1, .vars 87 (arr10 (cnt (ca.take k)))), (2, bIs ca)], 3⟩) (fun k => k ≤ ca.length) (fun k => ca.length - k) [] 0 [] (Nat.zero_le _) ⟨⟨rfl, rfl, rfl, rfl, eqI (by simp), rfl, trivial⟩, ⟨rfl, rfl, rfl, trivial⟩⟩ ?_
  rintro k hk
  (conv => whnf)
  refine ask_m (fun h => ?_) (fun h => ?_)
  · have hlt : k < ca.length := by simpa using h
    obtain ⟨x, hx⟩ : ∃ x, ca[k]? = some x := ⟨_, List.getElem?_eq_getElem hlt⟩
    have hkk : IntKind.i64.wrap ((k : Int) + 1) = ((k + 1 : Nat) : Int) := by rw [w64] <;> omega
    have hx1 := ca1 x (List.mem_of_getElem? hx)
    obtain ⟨i, rfl⟩ : ∃ i : Nat, x = i := ⟨x.toNat, by omega⟩
    (conv => whnf)
    refine ⟨⟨by omega, by simp; omega⟩, ?_⟩
    (conv => whnf)
    refine idx_map (by simpa using hx) ?_
    (conv => whnf)
    have hcnt := cnt_snoc hx
    have hww : ∀ j : Nat, IntKind.i64.wrap (cnt (ca.take k) j + 1) = cnt (ca.take k) j + 1 := fun j => by
      have := cnt_bd (ca.take k) j
      simp only [List.length_take] at this
      rw [w64] <;> omega
    rcases lt10 (show i < 10 by omega) with rfl | rfl | rfl | rfl | rfl | rfl | rfl | rfl | rfl | rfl
    all_goals
      (conv => whnf)
      refine ⟨⟨by omega, by omega⟩, ?_⟩
      (conv => whnf)
      refine ⟨⟨by omega, by omega⟩, ?_⟩
      (conv => whnf)
      refine ⟨k + 1, [], hlt, by omega, ⟨⟨rfl, rfl, rfl, rfl, rfl, eqI hkk, trivial⟩, ⟨rfl, ?_, rfl, trivial⟩⟩⟩
      show Box.vars 87 (_ : List CV) = Box.vars 87 _
      refine congrArg _ ?_
      simp [hcnt, hww, renC]
  have hk : k = ca.length := by simp at h; omega
  subst hk
  (conv => whnf)
  refine call_i (hrc) ?_
  (conv => whnf)
  rw [List.take_length]
  refine loop_intro (fun k : Nat => ⟨[(7, .one (.vptr 0 0)), (31, .one (.row 1)), (32, I cb.length), (33, I k)], [(0, .vars 87 (arr10 (cnt (ca ++ cb.take k)))), (1, bIs cb)], 2⟩) (fun k => k ≤ cb.length) (fun k => cb.length - k) [] 0 [(0, 1), (1, 3)] (Nat.zero_le _) ⟨⟨rfl, rfl, eqI (by simp), rfl, trivial⟩, ⟨?_, rfl, trivial⟩⟩ ?_
  · show Box.vars 87 (_ : List CV) = Box.vars 87 _
    rw [List.take_zero, List.append_nil]; rfl
  rintro k hk
  (conv => whnf)
  refine ask_m (fun h => ?_) (fun h => ?_)
  · have hlt : k < cb.length := by simpa using h
    obtain ⟨x, hx⟩ : ∃ x, cb[k]? = some x := ⟨_, List.getElem?_eq_getElem hlt⟩
    have hkk : IntKind.i64.wrap ((k : Int) + 1) = ((k + 1 : Nat) : Int) := by rw [w64] <;> omega
    have hx1 := cb1 x (List.mem_of_getElem? hx)
    obtain ⟨i, rfl⟩ : ∃ i : Nat, x = i := ⟨x.toNat, by omega⟩
    (conv => whnf)
    refine ⟨⟨by omega, by simp; omega⟩, ?_⟩
    (conv => whnf)
    refine idx_map (by simpa using hx) ?_
    (conv => whnf)
    have hcnt : ∀ j, cnt (ca ++ cb.take (k + 1)) j = cnt (ca ++ cb.take k) j + if j = i then 1 else 0 := fun j => by
      rw [cnt_app, cnt_app, cnt_snoc hx]; omega
    have hww : ∀ j : Nat, IntKind.i64.wrap (cnt (ca ++ cb.take k) j + 1) = cnt (ca ++ cb.take k) j + 1 := fun j => by
      have := cnt_bd (ca ++ cb.take k) j
      simp only [List.length_append, List.length_take] at this
      rw [w64] <;> omega
    rcases lt10 (show i < 10 by omega) with rfl | rfl | rfl | rfl | rfl | rfl | rfl | rfl | rfl | rfl
    all_goals
      (conv => whnf)
      refine ⟨⟨by omega, by omega⟩, ?_⟩
      (conv => whnf)
      refine ⟨⟨by omega, by omega⟩, ?_⟩
      (conv => whnf)
      refine ⟨k + 1, [], hlt, by omega, ⟨⟨rfl, rfl, rfl, eqI hkk, trivial⟩, ⟨?_, rfl, trivial⟩⟩⟩
      show Box.vars 87 (_ : List CV) = Box.vars 87 _
      refine congrArg _ ?_
      simp [hcnt, hww, renC]
  have hk : k = cb.length := by simp at h; omega
  subst hk
  rw [List.take_length]
  (conv => whnf)
  refine loop_intro (fun k : Nat => ⟨[(12, .one (.row 0)), (43, .agg (arr10 (cnt (ca ++ cb)))), (44, I k)], [(0, bIs (((List.range k).filter fun i => decide (cnt ca i + cnt cb i = 1)).map fun (i : Nat) => (i : Int)))], 1⟩) (fun k => k ≤ 10) (fun k => 10 - k) [.own 12 3 1] 0 [(0, 2)] (Nat.zero_le _) ⟨⟨rfl, rfl, rfl, trivial⟩, ⟨rfl, trivial⟩⟩ ?_
  rintro k hk
  (conv => whnf)
  refine ask_m (fun h => ?_) (fun h => ?_)
  · have hlt : k < 10 := by have := of_decide_eq_true h; omega
    have hkk : IntKind.i64.wrap ((k : Int) + 1) = ((k + 1 : Nat) : Int) := by rw [w64] <;> omega
    have hlen : ((List.range k).filter fun i => decide (cnt ca i + cnt cb i = 1)).length ≤ k := Nat.le_trans (List.length_filter_le _ _) (by simp)
    (conv => whnf)
    refine ⟨⟨by omega, by omega⟩, ?_⟩
    (conv => whnf)
    rw [Int.toNat_natCast]
    refine arr_at rfl rfl (arr10_at _ hlt) ?_
    (conv => whnf)
    refine ask_m (fun h => ?_) (fun h => ?_)
    · have h : cnt (ca ++ cb) k = 1 := by simpa using h
      rw [cnt_app] at h
      (conv => whnf)
      refine ⟨⟨by simp; omega, by simp; omega⟩, ?_⟩
      (conv => whnf)
      refine ⟨k + 1, [(0, 2)], hlt, by omega, ⟨⟨rfl, rfl, eqI hkk, trivial⟩, ⟨?_, trivial⟩⟩⟩
      show Box.rows 3 1 _ = Box.rows 3 1 _
      refine congrArg _ ?_
      rw [List.range_succ, List.filter_append, List.map_append, List.map_append]
      simp [h, encI]
    · have h : ¬ cnt (ca ++ cb) k = 1 := by simpa using h
      rw [cnt_app] at h
      (conv => whnf)
      refine ⟨k + 1, [], hlt, by omega, ⟨⟨rfl, rfl, eqI hkk, trivial⟩, ⟨?_, trivial⟩⟩⟩
      show Box.rows 3 1 _ = Box.rows 3 1 _
      refine congrArg _ ?_
      rw [List.range_succ, List.filter_append]
      simp [h]
  · have hk : k = 10 := by have := of_decide_eq_false h; omega
    subst hk
    (conv => whnf)
    refine ret0 ?_
    exact ⟨[(0, 0)], ⟨rfl, trivial⟩, ⟨rfl, trivial⟩⟩
abbrev Fn2 : SV := .one (.fn F.robot_Rigid_1 [(0, 0)])
theorem robot_Rigid_1 (r : Robot) (k : Nat) (hk : k < r.joints.length) : FnOk Try.prog F.robot_Rigid_1 [I k, .one (.vptr 0 0)] [(0, bRo r)] 1 (Bo (mov r.joints k)) [(0, bRo r)] 1 := by
  obtain ⟨j, hj⟩ : ∃ j, r.joints[k]? = some j := ⟨_, List.getElem?_eq_getElem hk⟩
  refine fnOk tab mix G.robot_Rigid_1 rfl rfl (by kernel_rfl) rfl rfl ?_
  (conv => whnf)
  refine idx_and (by omega) (by simpa using hj) ?_
  (conv => whnf)
  refine idx_and (by omega) (by simpa using hj) ?_
  (conv => whnf)
  refine ret0 ?_
  rw [mov_at hj]
  exact ⟨[], ⟨eqB (by by_cases h : j.lo = j.hi <;> simp [h]), trivial⟩, ⟨rfl, trivial⟩⟩
/-- the first joint that can move -/
def movAt (js : List Joint) : List Nat → Nat → Int
  | [], _ => -1
  | x :: xs, k => if mov js x then k else movAt js xs (k + 1)
theorem movAt_any (js : List Joint) : ∀ (xs : List Nat) (k : Nat), decide (0 ≤ movAt js xs k) = xs.any fun i => mov js i
  | [], k => by simp [movAt]
  | x :: xs, k => by
    unfold movAt
    split
    · rename_i h; simp [h]
    · rename_i h; rw [movAt_any js xs (k + 1)]; simp [h]
def encN (n : Nat) : List DV := [.int .i64 (n : Int)]
abbrev Ln (xs : List Nat) : SV := .one (.dv (.lst 1 (xs.map encN)))
theorem ints_IndexFunc (r : Robot) (ms : List Nat) (hl : ms.length ≤ 4611686018427387904) (hm : ∀ x ∈ ms, x < r.joints.length) : FnOk Try.prog F.slices_IndexFunc_sint_int [Ln ms, Fn2] [(0, bRo r)] 1 (I (movAt r.joints ms 0)) [(0, bRo r)] 1 := by
  refine fnOk tab mix G.slices_IndexFunc_sint_int rfl rfl (by kernel_rfl) rfl rfl ?_
  (conv => whnf)
  refine loop_intro (fun k : Nat => ⟨[(0, Ln ms), (1, Fn2), (7, I ms.length), (8, I k)], [(0, bRo r)], 1⟩) (fun k => k ≤ ms.length ∧ movAt r.joints (ms.drop k) k = movAt r.joints ms 0) (fun k => ms.length - k) [] 0 [] ⟨Nat.zero_le _, rfl⟩ ⟨⟨rfl, rfl, eqI (by simp), rfl, trivial⟩, ⟨rfl, trivial⟩⟩ ?_
  rintro k ⟨hk, hf⟩
  (conv => whnf)
  refine ask_m (fun h => ?_) (fun h => ?_)
  · have hlt : k < ms.length := by simpa using h
    obtain ⟨m, hm'⟩ : ∃ j, ms[k]? = some j := ⟨_, List.getElem?_eq_getElem hlt⟩
    have hkk : IntKind.i64.wrap ((k : Int) + 1) = ((k + 1 : Nat) : Int) := by rw [w64] <;> omega
    rw [drop_cons hm', movAt] at hf
    (conv => whnf)
    refine idx_and (by omega) (by simpa using hm') ?_
    (conv => whnf)
    refine call_i (robot_Rigid_1 r m (hm m (List.mem_of_getElem? hm'))) ?_
    (conv => whnf)
    refine ask_m (fun h => ?_) (fun h => ?_)
    · rw [if_pos h] at hf
      rw [← hf]
      (conv => whnf)
      refine ret0 ?_
      exact ⟨[], ⟨rfl, trivial⟩, ⟨rfl, trivial⟩⟩
    · rw [if_neg (by rw [h]; simp)] at hf
      (conv => whnf)
      exact ⟨k + 1, [], ⟨hlt, hf⟩, by omega, ⟨⟨rfl, rfl, rfl, eqI hkk, trivial⟩, ⟨rfl, trivial⟩⟩⟩
  · have hk : k = ms.length := by simp at h; omega
    subst hk
    rw [List.drop_length, movAt] at hf
    rw [← hf]
    (conv => whnf)
    refine ret0 ?_
    exact ⟨[], ⟨rfl, trivial⟩, ⟨rfl, trivial⟩⟩
theorem ints_ContainsFunc (r : Robot) (ms : List Nat) (hl : ms.length ≤ 4611686018427387904) (hm : ∀ x ∈ ms, x < r.joints.length) : FnOk Try.prog F.slices_ContainsFunc_sint_int [Ln ms, Fn2] [(0, bRo r)] 1 (Bo (ms.any fun i => mov r.joints i)) [(0, bRo r)] 1 := by
  rw [← movAt_any r.joints ms 0]
  refine fnOk tab mix G.slices_ContainsFunc_sint_int rfl rfl (by kernel_rfl) rfl rfl ?_
  (conv => whnf)
  refine call_i (ints_IndexFunc r ms hl hm) ?_
  (conv => whnf)
  (conv => whnf)
  refine ret0 ?_
  exact ⟨[], ⟨rfl, trivial⟩, ⟨rfl, trivial⟩⟩
theorem robot_Rigid (r : Robot) (a b : Int) (hok : checkRobot r = 0) (hm : r.masses.length ≤ 4611686018427387904) (a1 : -1 ≤ a) (a2 : a < r.joints.length) (b1 : -1 ≤ b) (b2 : b < r.joints.length) : FnOk Try.prog F.robot_Rigid [Ro r, I a, I b] [] 0 (Bo (decide (car r.joints a = car r.joints b))) [] 0 := by
  obtain ⟨g1, g2, g3⟩ := robot_good hok
  rw [← rigid_iff g1 g3 a1 a2 b1 b2]
  refine fnOkG [(1000018, [.frz 2])] tab mix G.robot_Rigid rfl rfl (by kernel_rfl) rfl rfl ?_
  (conv => whnf)
  refine call_i (robot_has r [a, b] (by omega) hm (by simp)) ?_
  (conv => whnf)
  refine ⟨⟨trivial, trivial⟩, ?_⟩
  (conv => whnf)
  have hh : hasB r [a, b] = true := by simp [hasB, hok, linkOk, a1, a2, b1, b2]
  rw [hh]
  (conv => whnf)
  refine call_i (robot_between r a b g1 g3 a1 a2 b1 b2) ?_
  (conv => whnf)
  rw [List.map_map]
  have hbt : ∀ x ∈ btw r.joints a b, x < r.joints.length := by
    intro x hx
    simp only [btw, List.mem_filter, List.mem_range, decide_eq_true_eq] at hx
    by_cases h1 : (x : Int) ∈ chain r.joints a
    · have := (chain_in g3 a a1 a2).1 _ h1; omega
    · by_cases h2 : (x : Int) ∈ chain r.joints b
      · have := (chain_in g3 b b1 b2).1 _ h2; omega
      · rw [List.count_eq_zero.2 h1, List.count_eq_zero.2 h2] at hx; omega
  refine call_i (ints_ContainsFunc r (btw r.joints a b) (Nat.le_trans (List.length_filter_le _ _) (by simp)) hbt) ?_
  (conv => whnf)
  (conv => whnf)
  refine ret0 ?_
  exact ret_b rfl rfl
end Go.Proofs.Ytgakendcmakndaa
