import Derived.Test.YthdbdokhncaijaaGreatM2
/- Nearest points: the walks of placed points, support values and margins. -/
namespace Go.Proofs.YthdbdokhncaijaaGreat
open Eng
set_option maxRecDepth 10000
attribute [local irreducible] FnOk loopW idxF retX arrF

theorem inI_ok {v : Ival} {M : Int} (h : inI v M) (hM : M ≤ 2147483648) : okI v = true := okI_iff.2 (inI_mono h hM)
theorem ref10_reached (v : IV) (h : inV3 v 268435456) : FnOk Tryz.prog F.ref10_reached [IvV v] [] 0 (Bo true) [] 0 := by
  obtain ⟨hx, hy, hz⟩ := h
  unfold inI at hx hy hz
  refine fnOk tab mix G.ref10_reached rfl rfl (by kernel_rfl) rfl rfl ?_
  (conv => whnf)
  refine loop_intro (fun k : Nat => ⟨[(1, .one (.vptr 0 0)), (3, I k)], [(0, .vars Y.IVec (c6 v))], 1⟩) (fun k => k ≤ 3) (fun k => 3 - k) [] 0 [] (by decide) ⟨⟨rfl, rfl, trivial⟩, ⟨rfl, trivial⟩⟩ ?_
  rintro k hk
  obtain rfl | rfl | rfl | rfl : k = 0 ∨ k = 1 ∨ k = 2 ∨ k = 3 := by omega
  · (conv => whnf)
    refine ⟨⟨by decide, by decide⟩, ?_⟩
    (conv => whnf)
    refine ask_mf (show decide (v.x.lo < -268435456) = false from decide_eq_false (by omega)) ?_
    (conv => whnf)
    refine ⟨⟨by decide, by decide⟩, ?_⟩
    (conv => whnf)
    refine ⟨⟨by decide, by decide⟩, ?_⟩
    (conv => whnf)
    refine ask_mf (show decide (v.x.hi < v.x.lo) = false from decide_eq_false (by omega)) ?_
    (conv => whnf)
    refine ⟨⟨by decide, by decide⟩, ?_⟩
    (conv => whnf)
    refine ask_mf (show decide (268435456 < v.x.hi) = false from decide_eq_false (by omega)) ?_
    (conv => whnf)
    exact ⟨1, [], by decide, by decide, ⟨⟨rfl, eqI (by decide), trivial⟩, ⟨rfl, trivial⟩⟩⟩
  · (conv => whnf)
    refine ⟨⟨by decide, by decide⟩, ?_⟩
    (conv => whnf)
    refine ask_mf (show decide (v.y.lo < -268435456) = false from decide_eq_false (by omega)) ?_
    (conv => whnf)
    refine ⟨⟨by decide, by decide⟩, ?_⟩
    (conv => whnf)
    refine ⟨⟨by decide, by decide⟩, ?_⟩
    (conv => whnf)
    refine ask_mf (show decide (v.y.hi < v.y.lo) = false from decide_eq_false (by omega)) ?_
    (conv => whnf)
    refine ⟨⟨by decide, by decide⟩, ?_⟩
    (conv => whnf)
    refine ask_mf (show decide (268435456 < v.y.hi) = false from decide_eq_false (by omega)) ?_
    (conv => whnf)
    exact ⟨2, [], by decide, by decide, ⟨⟨rfl, eqI (by decide), trivial⟩, ⟨rfl, trivial⟩⟩⟩
  · (conv => whnf)
    refine ⟨⟨by decide, by decide⟩, ?_⟩
    (conv => whnf)
    refine ask_mf (show decide (v.z.lo < -268435456) = false from decide_eq_false (by omega)) ?_
    (conv => whnf)
    refine ⟨⟨by decide, by decide⟩, ?_⟩
    (conv => whnf)
    refine ⟨⟨by decide, by decide⟩, ?_⟩
    (conv => whnf)
    refine ask_mf (show decide (v.z.hi < v.z.lo) = false from decide_eq_false (by omega)) ?_
    (conv => whnf)
    refine ⟨⟨by decide, by decide⟩, ?_⟩
    (conv => whnf)
    refine ask_mf (show decide (268435456 < v.z.hi) = false from decide_eq_false (by omega)) ?_
    (conv => whnf)
    exact ⟨3, [], by decide, by decide, ⟨⟨rfl, eqI (by decide), trivial⟩, ⟨rfl, trivial⟩⟩⟩
  · (conv => whnf)
    (conv => whnf)
    refine ret0 ?_
    exact ret_b rfl rfl
theorem ref10_Placed (l : List IV) (h : Plc l) : FnOk Tryz.prog F.ref10_Placed [.one (.dv (dIVs l))] [] 0 (Bo true) [] 0 := by
  obtain ⟨h1, h8, hn⟩ := h
  refine fnOk tab mix G.ref10_Placed rfl rfl (by kernel_rfl) rfl rfl ?_
  (conv => whnf)
  refine loop_intro (fun k : Nat => ⟨[(0, .one (.dv (dIVs l))), (3, I k)], [], 0⟩) (fun k => k ≤ l.length) (fun k => l.length - k) [] 0 [] (Nat.zero_le _) ⟨⟨rfl, rfl, trivial⟩, trivial⟩ ?_
  rintro k hk
  have hkk : IntKind.i64.wrap ((k : Int) + 1) = ((k + 1 : Nat) : Int) := by rw [w64] <;> omega
  rcases Nat.lt_or_ge k l.length with hlt | hge
  · obtain ⟨v, hv⟩ : ∃ v, l[k]? = some v := ⟨_, List.getElem?_eq_getElem hlt⟩
    (conv => whnf)
    refine ask_mt (decide_eq_true (by rw [List.length_map]; omega)) ?_
    (conv => whnf)
    refine ask_mt (decide_eq_true (by omega)) ?_
    (conv => whnf)
    refine idx_and (by omega) (by simpa using hv) ?_
    (conv => whnf)
    refine call_i (ref10_reached v (hn v (List.mem_of_getElem? hv))) ?_
    (conv => whnf)
    exact ⟨k + 1, [], hlt, by omega, ⟨⟨rfl, eqI hkk, trivial⟩, trivial⟩⟩
  · (conv => whnf)
    refine ask_mf (decide_eq_false (by rw [List.length_map]; omega)) ?_
    (conv => whnf)
    refine ask_mt (decide_eq_true (by rw [List.length_map]; omega)) ?_
    (conv => whnf)
    refine ret0 ?_
    exact ret_b (decide_eq_true (by rw [List.length_map]; omega)) rfl
def centers (l : List IV) : List Vec := l.map midV
theorem ref10_Centers (l : List IV) (h : Plc l) : FnOk Tryz.prog F.ref10_Centers [.one (.dv (dIVs l))] [] 0 (.one (.dv (dVs (centers l)))) [] 0 := by
  have hn := h.near
  have h8 := h.few
  refine fnOk tab mix G.ref10_Centers rfl rfl (by kernel_rfl) rfl rfl ?_
  (conv => whnf)
  refine call_i (ref10_Placed l h) ?_
  (conv => whnf)
  refine loop_intro (fun k : Nat => ⟨[(0, .one (.dv (dIVs l))), (3, .one (.row 0)), (4, I k)], [(0, .rows Y.Vec 3 (((l.take k).map midV).map encV))], 1⟩) (fun k => k ≤ l.length) (fun k => l.length - k) [.own 3 Y.Vec 3] 0 [] (Nat.zero_le _) ⟨⟨rfl, rfl, rfl, trivial⟩, ⟨rfl, trivial⟩⟩ ?_
  rintro k hk
  have hkk : IntKind.i64.wrap ((k : Int) + 1) = ((k + 1 : Nat) : Int) := by rw [w64] <;> omega
  (conv => whnf)
  refine ask_m (fun hlt => ?_) (fun hlt => ?_)
  · have hlt : k < l.length := by simpa using hlt
    obtain ⟨v, hv⟩ : ∃ v, l[k]? = some v := ⟨_, List.getElem?_eq_getElem hlt⟩
    obtain ⟨vx, vy, vz⟩ := hn v (List.mem_of_getElem? hv)
    have hs : (l.take (k + 1)).map midV = (l.take k).map midV ++ [midV v] := map_take1 _ hv
    (conv => whnf)
    refine idx_and (by omega) (by simpa using hv) ?_
    (conv => whnf)
    refine ⟨⟨by decide, by decide⟩, ?_⟩
    (conv => whnf)
    refine call_i (ref1_Mid v.x (inI_ok vx (by decide))) ?_
    (conv => whnf)
    refine idx_and (by omega) (by simpa using hv) ?_
    (conv => whnf)
    refine ⟨⟨by decide, by decide⟩, ?_⟩
    (conv => whnf)
    refine call_i (ref1_Mid v.y (inI_ok vy (by decide))) ?_
    (conv => whnf)
    refine idx_and (by omega) (by simpa using hv) ?_
    (conv => whnf)
    refine ⟨⟨by decide, by decide⟩, ?_⟩
    (conv => whnf)
    refine call_i (ref1_Mid v.z (inI_ok vz (by decide))) ?_
    (conv => whnf)
    refine ⟨⟨by simp; omega, by simp; omega⟩, ?_⟩
    (conv => whnf)
    exact ⟨k + 1, [(0, 2)], hlt, by omega, ⟨⟨rfl, rfl, eqI hkk, trivial⟩, ⟨rows_eq (by rw [hs, List.map_append]; rfl), trivial⟩⟩⟩
  · have hk : k = l.length := by simp at hlt; omega
    subst hk
    rw [List.take_length]
    (conv => whnf)
    refine retO [.frz 0] ?_
    (conv => whnf)
    exact ⟨[], ⟨rfl, trivial⟩, trivial⟩
theorem usable_near {n : Vec} (h : usable n = true) : nrV n 16384 := by
  unfold usable at h; simp only [Bool.and_eq_true] at h; exact inV_iff.1 h.2
theorem supp {n : Int} {v : Ival} (hn : -16384 ≤ n ∧ n ≤ 16384) (hv : inI v 268435456) : ww (n * v.lo) = n * v.lo ∧ ww (n * v.hi) = n * v.hi ∧ (-4398046511104 ≤ lo1 n v ∧ lo1 n v ≤ 4398046511104) ∧ (-4398046511104 ≤ hi1 n v ∧ hi1 n v ≤ 4398046511104) := by
  unfold inI at hv
  have h1 := mul_abs (x := n) (y := v.lo) (A := 16384) (B := 268435456) hn (by omega)
  have h2 := mul_abs (x := n) (y := v.hi) (A := 16384) (B := 268435456) hn (by omega)
  unfold lo1 hi1
  refine ⟨ww_id (by unfold rg; omega), ww_id (by unfold rg; omega), by omega, by omega⟩
def dLo (n : Vec) (v : IV) : Nat → Int
  | 0 => 0
  | 1 => lo1 n.x v.x
  | 2 => lo1 n.x v.x + lo1 n.y v.y
  | _ => dotLo n v
def dHi (n : Vec) (v : IV) : Nat → Int
  | 0 => 0
  | 1 => hi1 n.x v.x
  | 2 => hi1 n.x v.x + hi1 n.y v.y
  | _ => dotHi n v
theorem ref10_Dot (n : Vec) (v : IV) (hu : usable n = true) (hv : inV3 v 268435456) : FnOk Tryz.prog F.ref10_Dot [Ve n, IvV v] [] 0 (.tup [(false, [.dv (.int .i64 (dotLo n v))]), (false, [.dv (.int .i64 (dotHi n v))])]) [] 0 := by
  obtain ⟨nx, ny, nz⟩ := usable_near hu
  obtain ⟨x1, x2, x3, x4⟩ := supp nx hv.1
  obtain ⟨y1, y2, y3, y4⟩ := supp ny hv.2.1
  obtain ⟨z1, z2, z3, z4⟩ := supp nz hv.2.2
  refine fnOk tab mix G.ref10_Dot rfl rfl (by kernel_rfl) rfl rfl ?_
  (conv => whnf)
  refine call_i (ref10_Usable n) ?_
  (conv => whnf)
  rw [hu]
  (conv => whnf)
  refine call_i (ref10_reached v hv) ?_
  (conv => whnf)
  refine loop_intro (fun k : Nat => ⟨[(2, .one (.vptr 0 0)), (3, .one (.vptr 1 0)), (6, I (dLo n v k)), (7, I (dHi n v k)), (8, I k)], [(0, .vars Y.Vec [.dv (.int .i64 n.x), .dv (.int .i64 n.y), .dv (.int .i64 n.z)]), (1, .vars Y.IVec (c6 v))], 2⟩) (fun k => k ≤ 3) (fun k => 3 - k) [] 0 [] (by decide) ⟨⟨rfl, rfl, rfl, rfl, rfl, trivial⟩, ⟨rfl, rfl, trivial⟩⟩ ?_
  rintro k hk
  obtain rfl | rfl | rfl | rfl : k = 0 ∨ k = 1 ∨ k = 2 ∨ k = 3 := by omega
  · have e1 : ww (0 + min (ww (n.x * v.x.lo)) (ww (n.x * v.x.hi))) = lo1 n.x v.x := by
      rw [x1, x2]; show ww (0 + lo1 n.x v.x) = _
      rw [ww_id (by unfold rg; omega)]; omega
    have e2 : ww (0 + max (ww (n.x * v.x.lo)) (ww (n.x * v.x.hi))) = hi1 n.x v.x := by
      rw [x1, x2]; show ww (0 + hi1 n.x v.x) = _
      rw [ww_id (by unfold rg; omega)]; omega
    (conv => whnf)
    refine ⟨⟨by decide, by decide⟩, ?_⟩
    (conv => whnf)
    refine ⟨⟨by decide, by decide⟩, ?_⟩
    (conv => whnf)
    refine ⟨⟨by decide, by decide⟩, ?_⟩
    (conv => whnf)
    refine ⟨⟨by decide, by decide⟩, ?_⟩
    (conv => whnf)
    exact ⟨1, [], by decide, by decide, ⟨⟨rfl, rfl, eqI e1, eqI e2, eqI (by decide), trivial⟩, ⟨rfl, rfl, trivial⟩⟩⟩
  · have e1 : ww (lo1 n.x v.x + min (ww (n.y * v.y.lo)) (ww (n.y * v.y.hi))) = lo1 n.x v.x + lo1 n.y v.y := by
      rw [y1, y2]; show ww (lo1 n.x v.x + lo1 n.y v.y) = _
      rw [ww_id (by unfold rg; omega)]
    have e2 : ww (hi1 n.x v.x + max (ww (n.y * v.y.lo)) (ww (n.y * v.y.hi))) = hi1 n.x v.x + hi1 n.y v.y := by
      rw [y1, y2]; show ww (hi1 n.x v.x + hi1 n.y v.y) = _
      rw [ww_id (by unfold rg; omega)]
    (conv => whnf)
    refine ⟨⟨by decide, by decide⟩, ?_⟩
    (conv => whnf)
    refine ⟨⟨by decide, by decide⟩, ?_⟩
    (conv => whnf)
    refine ⟨⟨by decide, by decide⟩, ?_⟩
    (conv => whnf)
    refine ⟨⟨by decide, by decide⟩, ?_⟩
    (conv => whnf)
    exact ⟨2, [], by decide, by decide, ⟨⟨rfl, rfl, eqI e1, eqI e2, eqI (by decide), trivial⟩, ⟨rfl, rfl, trivial⟩⟩⟩
  · have e1 : ww (lo1 n.x v.x + lo1 n.y v.y + min (ww (n.z * v.z.lo)) (ww (n.z * v.z.hi))) = dotLo n v := by
      rw [z1, z2]; show ww (lo1 n.x v.x + lo1 n.y v.y + lo1 n.z v.z) = _
      unfold dotLo; rw [ww_id (by unfold rg; omega)]
    have e2 : ww (hi1 n.x v.x + hi1 n.y v.y + max (ww (n.z * v.z.lo)) (ww (n.z * v.z.hi))) = dotHi n v := by
      rw [z1, z2]; show ww (hi1 n.x v.x + hi1 n.y v.y + hi1 n.z v.z) = _
      unfold dotHi; rw [ww_id (by unfold rg; omega)]
    (conv => whnf)
    refine ⟨⟨by decide, by decide⟩, ?_⟩
    (conv => whnf)
    refine ⟨⟨by decide, by decide⟩, ?_⟩
    (conv => whnf)
    refine ⟨⟨by decide, by decide⟩, ?_⟩
    (conv => whnf)
    refine ⟨⟨by decide, by decide⟩, ?_⟩
    (conv => whnf)
    exact ⟨3, [], by decide, by decide, ⟨⟨rfl, rfl, eqI e1, eqI e2, eqI (by decide), trivial⟩, ⟨rfl, rfl, trivial⟩⟩⟩
  · (conv => whnf)
    (conv => whnf)
    refine ret0 ?_
    exact ⟨[], ⟨rfl, trivial⟩, trivial⟩
theorem ref10_Least (n : Vec) (l : List IV) (h : Plc l) : FnOk Tryz.prog F.ref10_Least [Ve n, .one (.dv (dIVs l))] [] 0 (.tup [(false, [.dv (.int .i64 (if usable n = true then (leastTo n l l.length).1 else 0))]), (false, [.dv (.int .i64 (if usable n = true then (leastTo n l l.length).2 else 0))]), (false, [.dv (.bool (usable n))])]) [] 0 := by
  have hn := h.near
  have h8 := h.few
  cases hu : usable n with
  | false =>
    rw [if_neg (by decide), if_neg (by decide)]
    refine fnOk tab mix G.ref10_Least rfl rfl (by kernel_rfl) rfl rfl ?_
    (conv => whnf)
    refine call_i (ref10_Usable n) ?_
    (conv => whnf)
    rw [hu]
    (conv => whnf)
    (conv => whnf)
    refine ret0 ?_
    exact ⟨[], ⟨rfl, trivial⟩, trivial⟩
  | true =>
  rw [if_pos rfl, if_pos rfl]
  refine fnOk tab mix G.ref10_Least rfl rfl (by kernel_rfl) rfl rfl ?_
  (conv => whnf)
  refine call_i (ref10_Usable n) ?_
  (conv => whnf)
  rw [hu]
  (conv => whnf)
  refine call_i (ref10_Placed l h) ?_
  (conv => whnf)
  refine loop_intro (fun k : Nat => ⟨[(1, .one (.dv (dIVs l))), (2, .one (.vptr 0 0)), (7, I (leastTo n l k).1), (8, I (leastTo n l k).2), (9, I k)], [(0, .vars Y.Vec [.dv (.int .i64 n.x), .dv (.int .i64 n.y), .dv (.int .i64 n.z)])], 1⟩) (fun k => k ≤ l.length) (fun k => l.length - k) [] 0 [] (Nat.zero_le _) ⟨⟨rfl, rfl, rfl, rfl, rfl, trivial⟩, ⟨rfl, trivial⟩⟩ ?_
  rintro k hk
  have hkk : IntKind.i64.wrap ((k : Int) + 1) = ((k + 1 : Nat) : Int) := by rw [w64] <;> omega
  (conv => whnf)
  refine ask_m (fun hlt => ?_) (fun hlt => ?_)
  · have hlt : k < l.length := by simpa using hlt
    obtain ⟨v, hv⟩ : ∃ v, l[k]? = some v := ⟨_, List.getElem?_eq_getElem hlt⟩
    have hs : leastTo n l (k + 1) = if k = 0 ∨ dotLo n v < (leastTo n l k).1 then (dotLo n v, (k : Int)) else leastTo n l k := by rw [leastTo, getD_at hv]
    (conv => whnf)
    refine idx_and (by omega) (by simpa using hv) ?_
    (conv => whnf)
    refine call_i (ref10_Dot n v hu (hn v (List.mem_of_getElem? hv))) ?_
    (conv => whnf)
    rcases Nat.eq_zero_or_pos k with h0 | h0
    · rw [if_pos (.inl h0)] at hs
      refine ask_mt (show ((k : Int) == 0) = true by simp [h0]) ?_
      (conv => whnf)
      exact ⟨k + 1, [], hlt, by omega, ⟨⟨rfl, rfl, eqI (by rw [hs]), eqI (by rw [hs]), eqI hkk, trivial⟩, ⟨rfl, trivial⟩⟩⟩
    · refine ask_mf (show ((k : Int) == 0) = false by simp; omega) ?_
      (conv => whnf)
      refine ask_m (fun hc => ?_) (fun hc => ?_)
      · have hc : dotLo n v < (leastTo n l k).1 := of_decide_eq_true hc
        rw [if_pos (.inr hc)] at hs
        (conv => whnf)
        exact ⟨k + 1, [], hlt, by omega, ⟨⟨rfl, rfl, eqI (by rw [hs]), eqI (by rw [hs]), eqI hkk, trivial⟩, ⟨rfl, trivial⟩⟩⟩
      · have hc : ¬ dotLo n v < (leastTo n l k).1 := of_decide_eq_false hc
        rw [if_neg (by omega)] at hs
        (conv => whnf)
        exact ⟨k + 1, [], hlt, by omega, ⟨⟨rfl, rfl, eqI (by rw [hs]), eqI (by rw [hs]), eqI hkk, trivial⟩, ⟨rfl, trivial⟩⟩⟩
  · have hk : k = l.length := by simp at hlt; omega
    subst hk
    (conv => whnf)
    refine ret0 ?_
    exact ⟨[], ⟨rfl, trivial⟩, trivial⟩
theorem ref10_Greatest (n : Vec) (l : List IV) (h : Plc l) : FnOk Tryz.prog F.ref10_Greatest [Ve n, .one (.dv (dIVs l))] [] 0 (.tup [(false, [.dv (.int .i64 (if usable n = true then (mostTo n l l.length).1 else 0))]), (false, [.dv (.int .i64 (if usable n = true then (mostTo n l l.length).2 else 0))]), (false, [.dv (.bool (usable n))])]) [] 0 := by
  have hn := h.near
  have h8 := h.few
  cases hu : usable n with
  | false =>
    rw [if_neg (by decide), if_neg (by decide)]
    refine fnOk tab mix G.ref10_Greatest rfl rfl (by kernel_rfl) rfl rfl ?_
    (conv => whnf)
    refine call_i (ref10_Usable n) ?_
    (conv => whnf)
    rw [hu]
    (conv => whnf)
    (conv => whnf)
    refine ret0 ?_
    exact ⟨[], ⟨rfl, trivial⟩, trivial⟩
  | true =>
  rw [if_pos rfl, if_pos rfl]
  refine fnOk tab mix G.ref10_Greatest rfl rfl (by kernel_rfl) rfl rfl ?_
  (conv => whnf)
  refine call_i (ref10_Usable n) ?_
  (conv => whnf)
  rw [hu]
  (conv => whnf)
  refine call_i (ref10_Placed l h) ?_
  (conv => whnf)
  refine loop_intro (fun k : Nat => ⟨[(1, .one (.dv (dIVs l))), (2, .one (.vptr 0 0)), (7, I (mostTo n l k).1), (8, I (mostTo n l k).2), (9, I k)], [(0, .vars Y.Vec [.dv (.int .i64 n.x), .dv (.int .i64 n.y), .dv (.int .i64 n.z)])], 1⟩) (fun k => k ≤ l.length) (fun k => l.length - k) [] 0 [] (Nat.zero_le _) ⟨⟨rfl, rfl, rfl, rfl, rfl, trivial⟩, ⟨rfl, trivial⟩⟩ ?_
  rintro k hk
  have hkk : IntKind.i64.wrap ((k : Int) + 1) = ((k + 1 : Nat) : Int) := by rw [w64] <;> omega
  (conv => whnf)
  refine ask_m (fun hlt => ?_) (fun hlt => ?_)
  · have hlt : k < l.length := by simpa using hlt
    obtain ⟨v, hv⟩ : ∃ v, l[k]? = some v := ⟨_, List.getElem?_eq_getElem hlt⟩
    have hs : mostTo n l (k + 1) = if k = 0 ∨ (mostTo n l k).1 < dotHi n v then (dotHi n v, (k : Int)) else mostTo n l k := by rw [mostTo, getD_at hv]
    (conv => whnf)
    refine idx_and (by omega) (by simpa using hv) ?_
    (conv => whnf)
    refine call_i (ref10_Dot n v hu (hn v (List.mem_of_getElem? hv))) ?_
    (conv => whnf)
    rcases Nat.eq_zero_or_pos k with h0 | h0
    · rw [if_pos (.inl h0)] at hs
      refine ask_mt (show ((k : Int) == 0) = true by simp [h0]) ?_
      (conv => whnf)
      exact ⟨k + 1, [], hlt, by omega, ⟨⟨rfl, rfl, eqI (by rw [hs]), eqI (by rw [hs]), eqI hkk, trivial⟩, ⟨rfl, trivial⟩⟩⟩
    · refine ask_mf (show ((k : Int) == 0) = false by simp; omega) ?_
      (conv => whnf)
      refine ask_m (fun hc => ?_) (fun hc => ?_)
      · have hc : (mostTo n l k).1 < dotHi n v := of_decide_eq_true hc
        rw [if_pos (.inr hc)] at hs
        (conv => whnf)
        exact ⟨k + 1, [], hlt, by omega, ⟨⟨rfl, rfl, eqI (by rw [hs]), eqI (by rw [hs]), eqI hkk, trivial⟩, ⟨rfl, trivial⟩⟩⟩
      · have hc : ¬ (mostTo n l k).1 < dotHi n v := of_decide_eq_false hc
        rw [if_neg (by omega)] at hs
        (conv => whnf)
        exact ⟨k + 1, [], hlt, by omega, ⟨⟨rfl, rfl, eqI (by rw [hs]), eqI (by rw [hs]), eqI hkk, trivial⟩, ⟨rfl, trivial⟩⟩⟩
  · have hk : k = l.length := by simp at hlt; omega
    subst hk
    (conv => whnf)
    refine ret0 ?_
    exact ⟨[], ⟨rfl, trivial⟩, trivial⟩
theorem ref14_Margin (n : Vec) (a : List IV) (ra : Int) (b : List IV) (rb : Int) (ha : Plc a) (hra : radB ra) (hb : Plc b) (hrb : radB rb) : FnOk Tryz.prog F.ref14_Margin [Ve n, .one (.dv (dIVs a)), I ra, .one (.dv (dIVs b)), I rb] [] 0 (.tup [(false, [.dv (.int .i64 (margin n a ra b rb).1)]), (false, [.dv (.bool (margin n a ra b rb).2)])]) [] 0 := by
  have hL := ref10_Least n a ha
  have hG := ref10_Greatest n b hb
  unfold margin
  cases hu : usable n with
  | false =>
    rw [hu] at hL hG
    rw [if_neg (by decide)]
    refine fnOk tab mix G.ref14_Margin rfl rfl (by kernel_rfl) rfl rfl ?_
    (conv => whnf)
    refine call_i (hL) ?_
    (conv => whnf)
    refine call_i (hG) ?_
    (conv => whnf)
    (conv => whnf)
    refine ret0 ?_
    exact ⟨[], ⟨rfl, trivial⟩, trivial⟩
  | true =>
    rw [hu, if_pos rfl, if_pos rfl] at hL hG
    rw [if_pos rfl]
    refine fnOk tab mix G.ref14_Margin rfl rfl (by kernel_rfl) rfl rfl ?_
    (conv => whnf)
    refine call_i (hL) ?_
    (conv => whnf)
    refine call_i (hG) ?_
    (conv => whnf)
    refine call_i (ref14_radius ra hra) ?_
    (conv => whnf)
    refine call_i (ref14_radius rb hrb) ?_
    (conv => whnf)
    refine call_i (ref10_Norm n) ?_
    (conv => whnf)
    (conv => whnf)
    refine ret0 ?_
    exact ⟨[], ⟨rfl, trivial⟩, trivial⟩
theorem ref14_Separates (n : Vec) (a : List IV) (ra : Int) (b : List IV) (rb : Int) (ha : Plc a) (hra : radB ra) (hb : Plc b) (hrb : radB rb) : FnOk Tryz.prog F.ref14_Separates [Ve n, .one (.dv (dIVs a)), I ra, .one (.dv (dIVs b)), I rb] [] 0 (Bo (sepB n a ra b rb)) [] 0 := by
  unfold sepB
  refine fnOk tab mix G.ref14_Separates rfl rfl (by kernel_rfl) rfl rfl ?_
  (conv => whnf)
  refine call_i (ref14_Margin n a ra b rb ha hra hb hrb) ?_
  (conv => whnf)
  cases h : (margin n a ra b rb).2 with
  | false =>
    (conv => whnf)
    (conv => whnf)
    refine ret0 ?_
    exact ret_b rfl rfl
  | true =>
    (conv => whnf)
    (conv => whnf)
    refine ret0 ?_
    exact ret_b (by simp) rfl
theorem ref14_First (l : List Vec) (a : List IV) (ra : Int) (b : List IV) (rb : Int) (hl : l.length ≤ 1000) (ha : Plc a) (hra : radB ra) (hb : Plc b) (hrb : radB rb) : FnOk Tryz.prog F.ref14_First [.one (.dv (dVs l)), .one (.dv (dIVs a)), I ra, .one (.dv (dIVs b)), I rb] [] 0 (.tup [(false, [.dv (.int .i64 (firstM l a ra b rb l.length 0).1)]), (false, [.dv (.bool (firstM l a ra b rb l.length 0).2)])]) [] 0 := by
  refine fnOk tab mix G.ref14_First rfl rfl (by kernel_rfl) rfl rfl ?_
  (conv => whnf)
  refine loop_intro (fun k : Nat => ⟨[(0, .one (.dv (dVs l))), (1, .one (.dv (dIVs a))), (2, I ra), (3, .one (.dv (dIVs b))), (4, I rb), (12, I k)], [], 0⟩) (fun k => k ≤ l.length ∧ firstM l a ra b rb (l.length - k) k = firstM l a ra b rb l.length 0) (fun k => l.length - k) [] 0 [] ⟨Nat.zero_le _, rfl⟩ ⟨⟨rfl, rfl, rfl, rfl, rfl, rfl, trivial⟩, trivial⟩ ?_
  rintro k ⟨hk, e⟩
  have hkk : IntKind.i64.wrap ((k : Int) + 1) = ((k + 1 : Nat) : Int) := by rw [w64] <;> omega
  (conv => whnf)
  refine ask_m (fun hlt => ?_) (fun hlt => ?_)
  · have hlt : k < l.length := by simpa using hlt
    obtain ⟨v, hv⟩ : ∃ v, l[k]? = some v := ⟨_, List.getElem?_eq_getElem hlt⟩
    rw [show l.length - k = (l.length - (k + 1)) + 1 by omega, firstM, getD_at hv] at e
    (conv => whnf)
    refine idx_and (by omega) (by simpa using hv) ?_
    (conv => whnf)
    refine call_i (ref14_Separates v a ra b rb ha hra hb hrb) ?_
    (conv => whnf)
    refine ask_m (fun hs => ?_) (fun hs => ?_)
    · have hs : sepB v a ra b rb = true := hs
      rw [if_pos hs] at e
      rw [← e]
      (conv => whnf)
      refine ret0 ?_
      exact ⟨[], ⟨rfl, trivial⟩, trivial⟩
    · have hs : sepB v a ra b rb = false := hs
      rw [if_neg (by rw [hs]; decide)] at e
      (conv => whnf)
      exact ⟨k + 1, [], ⟨hlt, e⟩, by omega, ⟨⟨rfl, rfl, rfl, rfl, rfl, eqI hkk, trivial⟩, trivial⟩⟩
  · have hk : k = l.length := by simp at hlt; omega
    subst hk
    rw [Nat.sub_self] at e
    rw [← e]
    (conv => whnf)
    refine ret0 ?_
    exact ⟨[], ⟨rfl, trivial⟩, trivial⟩
end Go.Proofs.YthdbdokhncaijaaGreat

/- Nearest points: the walks of the reference's normals and of the parts of the search. -/
namespace Go.Proofs.YthdbdokhncaijaaGreat
open Eng
set_option maxRecDepth 10000
attribute [local irreducible] FnOk loopW idxF retX arrF

/- normals -/
def rgV (v : Vec) : Prop := rg v.x ∧ rg v.y ∧ rg v.z
theorem div_small {x : Int} (h : rg x) : -16384 ≤ ww (x.tdiv 562949953421312) ∧ ww (x.tdiv 562949953421312) ≤ 16384 := by
  have h1 : (x.tdiv 562949953421312).natAbs = x.natAbs / (562949953421312 : Int).natAbs := Int.natAbs_tdiv x _
  have h2 : x.natAbs / (562949953421312 : Int).natAbs = x.natAbs / 562949953421312 := rfl
  rw [h2] at h1
  unfold rg at h
  have h3 : (x.tdiv 562949953421312).natAbs ≤ 16384 := by rw [h1]; omega
  rw [ww_id (by unfold rg; omega)]; omega
theorem hv_small {v : Vec} (h : rgV v) : inV (hv 562949953421312 v) 16384 = true := by
  obtain ⟨h1, h2, h3⟩ := h
  exact inV_iff.2 ⟨div_small h1, div_small h2, div_small h3⟩
theorem ref10_Normal (v : Vec) (hr : rgV v) : FnOk Tryz.prog F.ref10_Normal [Ve v] [] 0 (.tup [(true, [.dv (.int .i64 (nrmM v).1.x), .dv (.int .i64 (nrmM v).1.y), .dv (.int .i64 (nrmM v).1.z)]), (false, [.dv (.bool (nrmM v).2)])]) [] 0 := by
  unfold nrmM
  refine fnOk tab mix G.ref10_Normal rfl rfl (by kernel_rfl) rfl rfl ?_
  (conv => whnf)
  refine ⟨cmp_Vec, ?_⟩
  (conv => whnf)
  refine ask_m (fun h => ?_) (fun h => ?_)
  · have h : v = z3 := by cases v; simp at h; simp [z3, h]
    rw [if_pos h]
    (conv => whnf)
    refine ret0 ?_
    exact ⟨[], ⟨rfl, trivial⟩, trivial⟩
  have h : ¬ v = z3 := by rintro rfl; simp [z3] at h
  rw [if_neg h]
  (conv => whnf)
  refine loop_intro (fun p : Nat × Int => ⟨[(1, .one (.vptr 0 0)), (2, .one (.vptr 1 0)), (4, I p.2)], [(0, .vars Y.Vec [.dv (.int .i64 v.x), .dv (.int .i64 v.y), .dv (.int .i64 v.z)]), (1, .vars Y.Vec [.dv (.int .i64 0), .dv (.int .i64 0), .dv (.int .i64 0)])], 2⟩) (fun p => nrmGo v (p.1 + 1) p.2 = nrmGo v 50 1 ∧ 1 ≤ p.2 ∧ p.2 * 2 ^ p.1 = 562949953421312) (fun p => p.1) [] (49, 1) [] ⟨rfl, by decide, by decide⟩ ⟨⟨rfl, rfl, rfl, trivial⟩, ⟨rfl, rfl, trivial⟩⟩ ?_
  rintro ⟨f, s⟩ ⟨e, b1, b2⟩
  simp only at e b1 b2
  rw [nrmGo] at e
  (conv => whnf)
  refine ⟨⟨by decide, by decide⟩, ?_⟩
  (conv => whnf)
  refine ⟨by omega, ?_⟩
  (conv => whnf)
  refine ⟨⟨by decide, by decide⟩, ?_⟩
  (conv => whnf)
  refine ⟨by omega, ?_⟩
  (conv => whnf)
  refine ⟨⟨by decide, by decide⟩, ?_⟩
  (conv => whnf)
  refine ⟨by omega, ?_⟩
  (conv => whnf)
  refine call_i (ref_Near (hv s v) 16384 (by decide) (by decide)) ?_
  (conv => whnf)
  refine ask_m (fun hc => ?_) (fun hc => ?_)
  · have hc : inV (hv s v) 16384 = true := hc
    rw [if_pos hc] at e
    rw [← e]
    (conv => whnf)
    refine ret0 ?_
    exact ⟨[], ⟨rfl, trivial⟩, trivial⟩
  · have hc : inV (hv s v) 16384 = false := hc
    rw [if_neg (by rw [hc]; decide)] at e
    cases f with
    | zero =>
      rw [Int.pow_zero, Int.mul_one] at b2
      rw [b2, hv_small hr] at hc; cases hc
    | succ f =>
      rw [Int.pow_succ, Int.mul_comm (2 ^ f) 2, ← Int.mul_assoc] at b2
      have hp : (1 : Int) ≤ 2 ^ f := by have := Int.pow_pos (n := 2) (m := f) (by decide); omega
      have hle : s * 2 * 1 ≤ s * 2 * 2 ^ f := Int.mul_le_mul_of_nonneg_left hp (by omega)
      have e1 : ww (s * 2) = s * 2 := ww_id (by unfold rg; omega)
      (conv => whnf)
      exact ⟨(f, s * 2), [], ⟨e, by simp only; omega, b2⟩, Nat.lt_succ_self f, ⟨⟨rfl, rfl, eqI e1, trivial⟩, ⟨rfl, rfl, trivial⟩⟩⟩
def axes : List Vec := [⟨1, 0, 0⟩, ⟨-1, 0, 0⟩, ⟨0, 1, 0⟩, ⟨0, -1, 0⟩, ⟨0, 0, 1⟩, ⟨0, 0, -1⟩]
theorem ref14_Axes : FnOk Tryz.prog F.ref14_Axes [] [] 0 (.one (.dv (dVs axes))) [] 0 := by
  refine fnOk tab mix G.ref14_Axes rfl rfl (by kernel_rfl) rfl rfl ?_
  (conv => whnf)
  (conv => whnf)
  refine retO [.frz 0] ?_
  (conv => whnf)
  exact ⟨[], ⟨rfl, trivial⟩, trivial⟩
/- weighted sums -/
def rdV (v : Vec) : Nat → Int
  | 0 => v.x
  | 1 => v.y
  | _ => v.z
def accV (s : Vec) (w : Int) (v : Vec) (k : Nat) : Vec := ⟨bif Nat.blt 0 k then ww (s.x + ww (w * v.x)) else s.x, bif Nat.blt 1 k then ww (s.y + ww (w * v.y)) else s.y, bif Nat.blt 2 k then ww (s.z + ww (w * v.z)) else s.z⟩
def sumTo (l : List Vec) (ws : List Int) : Nat → Vec
  | 0 => z3
  | k + 1 => accV (sumTo l ws k) (ws.getD k 0) (l.getD k z3) 3
set_option maxHeartbeats 1000000 in
theorem ref14_Sum (l : List Vec) (ws : List Int) (hl : l.length ≤ 1000) (hw : ws.length = l.length) : FnOk Tryz.prog F.ref14_Sum [.one (.dv (dVs l)), Li ws] [] 0 (Ve (sumTo l ws l.length)) [] 0 := by
  refine fnOk tab mix G.ref14_Sum rfl rfl (by kernel_rfl) rfl rfl ?_
  (conv => whnf)
  refine loop_intro (fun k : Nat => ⟨[(0, .one (.dv (dVs l))), (1, Li ws), (4, .one (.vptr 0 0)), (5, .one (.vptr 1 0)), (6, I k)], [(0, bV z3), (1, bV (sumTo l ws k))], 2⟩) (fun k => k ≤ l.length) (fun k => l.length - k) [] 0 [] (Nat.zero_le _) ⟨⟨rfl, rfl, rfl, rfl, rfl, trivial⟩, ⟨rfl, rfl, trivial⟩⟩ ?_
  rintro k hk
  have hkk : IntKind.i64.wrap ((k : Int) + 1) = ((k + 1 : Nat) : Int) := by rw [w64] <;> omega
  (conv => whnf)
  refine ask_m (fun hlt => ?_) (fun hlt => ?_)
  · have hlt : k < l.length := by simpa using hlt
    obtain ⟨v, hv⟩ : ∃ v, l[k]? = some v := ⟨_, List.getElem?_eq_getElem hlt⟩
    obtain ⟨w, hw'⟩ : ∃ v, ws[k]? = some v := ⟨_, List.getElem?_eq_getElem (by omega)⟩
    have hs : sumTo l ws (k + 1) = accV (sumTo l ws k) w v 3 := by rw [sumTo, getD_at hv, getD_at hw']
    generalize sumTo l ws k = S at *
    (conv => whnf)
    refine loop_intro (fun j : Nat => ⟨[(0, .one (.dv (dVs l))), (1, Li ws), (4, .one (.vptr 0 0)), (5, .one (.vptr 1 0)), (6, I k), (7, I j)], [(0, bV z3), (1, bV (accV S w v j))], 2⟩) (fun j => j ≤ 3) (fun j => 3 - j) [] 0 [] (by decide) ⟨⟨rfl, rfl, rfl, rfl, rfl, rfl, trivial⟩, ⟨rfl, rfl, trivial⟩⟩ ?_
    rintro j hj
    obtain rfl | rfl | rfl | rfl : j = 0 ∨ j = 1 ∨ j = 2 ∨ j = 3 := by omega
    · (conv => whnf)
      refine ⟨⟨by decide, by decide⟩, ?_⟩
      (conv => whnf)
      refine idx_and (by omega) (by simpa using hw') ?_
      (conv => whnf)
      refine idx_and (by omega) (by simpa using hv) ?_
      (conv => whnf)
      refine ⟨⟨by decide, by decide⟩, ?_⟩
      (conv => whnf)
      refine ⟨⟨by decide, by decide⟩, ?_⟩
      (conv => whnf)
      exact ⟨1, [], by decide, by decide, ⟨⟨rfl, rfl, rfl, rfl, rfl, eqI (by decide), trivial⟩, ⟨rfl, rfl, trivial⟩⟩⟩
    · (conv => whnf)
      refine ⟨⟨by decide, by decide⟩, ?_⟩
      (conv => whnf)
      refine idx_and (by omega) (by simpa using hw') ?_
      (conv => whnf)
      refine idx_and (by omega) (by simpa using hv) ?_
      (conv => whnf)
      refine ⟨⟨by decide, by decide⟩, ?_⟩
      (conv => whnf)
      refine ⟨⟨by decide, by decide⟩, ?_⟩
      (conv => whnf)
      exact ⟨2, [], by decide, by decide, ⟨⟨rfl, rfl, rfl, rfl, rfl, eqI (by decide), trivial⟩, ⟨rfl, rfl, trivial⟩⟩⟩
    · (conv => whnf)
      refine ⟨⟨by decide, by decide⟩, ?_⟩
      (conv => whnf)
      refine idx_and (by omega) (by simpa using hw') ?_
      (conv => whnf)
      refine idx_and (by omega) (by simpa using hv) ?_
      (conv => whnf)
      refine ⟨⟨by decide, by decide⟩, ?_⟩
      (conv => whnf)
      refine ⟨⟨by decide, by decide⟩, ?_⟩
      (conv => whnf)
      exact ⟨3, [], by decide, by decide, ⟨⟨rfl, rfl, rfl, rfl, rfl, eqI (by decide), trivial⟩, ⟨rfl, rfl, trivial⟩⟩⟩
    · (conv => whnf)
      exact ⟨k + 1, [], hlt, by omega, ⟨⟨rfl, rfl, rfl, rfl, eqI hkk, trivial⟩, ⟨rfl, by rw [hs]; rfl, trivial⟩⟩⟩
  · have hk : k = l.length := by simp at hlt; omega
    subst hk
    (conv => whnf)
    refine ret0 ?_
    exact ⟨[], ⟨rfl, trivial⟩, trivial⟩
/- whether a difference is short -/
def m16 (x : Int) : Int := cel (max x (ww (0 - x))) 65536
def nearTo (x : Vec) : Nat → Int
  | 0 => 0
  | 1 => ww (0 + ww (m16 x.x * m16 x.x))
  | 2 => ww (ww (0 + ww (m16 x.x * m16 x.x)) + ww (m16 x.y * m16 x.y))
  | _ => ww (ww (ww (0 + ww (m16 x.x * m16 x.x)) + ww (m16 x.y * m16 x.y)) + ww (m16 x.z * m16 x.z))
def nearM (x : Vec) (r : Int) : Bool := decide (nearTo x 3 ≤ ww (r * r))
theorem max_rg {x : Int} (h : rg x) : rg (max x (ww (0 - x))) := by
  have := ww_rg (0 - x); unfold rg at *; omega
theorem ref14_near (x : Vec) (r : Int) (hx : rgV x) : FnOk Tryz.prog F.ref14_near [Ve x, I r] [] 0 (Bo (nearM x r)) [] 0 := by
  obtain ⟨h1, h2, h3⟩ := hx
  refine fnOk tab mix G.ref14_near rfl rfl (by kernel_rfl) rfl rfl ?_
  (conv => whnf)
  refine loop_intro (fun k : Nat => ⟨[(1, I r), (2, .one (.vptr 0 0)), (5, I (nearTo x k)), (6, I k)], [(0, bV x)], 1⟩) (fun k => k ≤ 3) (fun k => 3 - k) [] 0 [] (by decide) ⟨⟨rfl, rfl, rfl, rfl, trivial⟩, ⟨rfl, trivial⟩⟩ ?_
  rintro k hk
  obtain rfl | rfl | rfl | rfl : k = 0 ∨ k = 1 ∨ k = 2 ∨ k = 3 := by omega
  · (conv => whnf)
    refine ⟨⟨by decide, by decide⟩, ?_⟩
    (conv => whnf)
    refine ⟨⟨by decide, by decide⟩, ?_⟩
    (conv => whnf)
    refine call_i (ref1_Ceil (max x.x (ww (0 - x.x))) 65536 (max_rg h1) (by decide)) ?_
    (conv => whnf)
    exact ⟨1, [], by decide, by decide, ⟨⟨rfl, rfl, rfl, eqI (by decide), trivial⟩, ⟨rfl, trivial⟩⟩⟩
  · (conv => whnf)
    refine ⟨⟨by decide, by decide⟩, ?_⟩
    (conv => whnf)
    refine ⟨⟨by decide, by decide⟩, ?_⟩
    (conv => whnf)
    refine call_i (ref1_Ceil (max x.y (ww (0 - x.y))) 65536 (max_rg h2) (by decide)) ?_
    (conv => whnf)
    exact ⟨2, [], by decide, by decide, ⟨⟨rfl, rfl, rfl, eqI (by decide), trivial⟩, ⟨rfl, trivial⟩⟩⟩
  · (conv => whnf)
    refine ⟨⟨by decide, by decide⟩, ?_⟩
    (conv => whnf)
    refine ⟨⟨by decide, by decide⟩, ?_⟩
    (conv => whnf)
    refine call_i (ref1_Ceil (max x.z (ww (0 - x.z))) 65536 (max_rg h3) (by decide)) ?_
    (conv => whnf)
    exact ⟨3, [], by decide, by decide, ⟨⟨rfl, rfl, rfl, eqI (by decide), trivial⟩, ⟨rfl, trivial⟩⟩⟩
  · (conv => whnf)
    (conv => whnf)
    refine ret0 ?_
    exact ret_b rfl rfl
/- extreme points -/
def exTo (n : Vec) (l : List Vec) (g : Int) : Nat → Nat
  | 0 => 0
  | k + 1 => if 0 < k ∧ ww (g * dot3 n (l.getD k z3)) < ww (g * dot3 n (l.getD (exTo n l g k) z3)) then k else exTo n l g k
theorem exTo_lt (n : Vec) (l : List Vec) (g : Int) : ∀ k, 0 < l.length → k ≤ l.length → exTo n l g k < l.length
  | 0, h, _ => h
  | k + 1, h, hk => by
    have := exTo_lt n l g k h (by omega)
    rw [exTo]; split <;> omega
theorem ref14_Extreme (n : Vec) (l : List Vec) (g : Int) (h1 : 0 < l.length) (hl : l.length ≤ 1000) : FnOk Tryz.prog F.ref14_Extreme [Ve n, .one (.dv (dVs l)), I g] [] 0 (I (exTo n l g l.length)) [] 0 := by
  refine fnOk tab mix G.ref14_Extreme rfl rfl (by kernel_rfl) rfl rfl ?_
  (conv => whnf)
  refine loop_intro (fun k : Nat => ⟨[(1, .one (.dv (dVs l))), (2, I g), (3, .one (.vptr 0 0)), (7, I (exTo n l g k)), (8, I k)], [(0, bV n)], 1⟩) (fun k => 1 ≤ k ∧ k ≤ l.length) (fun k => l.length - k) [] 1 [] ⟨Nat.le_refl _, h1⟩ ⟨⟨rfl, rfl, rfl, rfl, rfl, trivial⟩, ⟨rfl, trivial⟩⟩ ?_
  rintro k ⟨hk0, hk⟩
  have hkk : IntKind.i64.wrap ((k : Int) + 1) = ((k + 1 : Nat) : Int) := by rw [w64] <;> omega
  have hx := exTo_lt n l g k h1 hk
  (conv => whnf)
  refine ask_m (fun hlt => ?_) (fun hlt => ?_)
  · have hlt : k < l.length := by simpa using hlt
    obtain ⟨v, hv⟩ : ∃ v, l[k]? = some v := ⟨_, List.getElem?_eq_getElem hlt⟩
    obtain ⟨u, hu⟩ : ∃ v, l[exTo n l g k]? = some v := ⟨_, List.getElem?_eq_getElem hx⟩
    have hs : exTo n l g (k + 1) = if 0 < k ∧ ww (g * dot3 n v) < ww (g * dot3 n u) then k else exTo n l g k := by rw [exTo, getD_at hv, getD_at hu]
    (conv => whnf)
    refine idx_and (by omega) (by simpa using hv) ?_
    (conv => whnf)
    refine call_i (ref14_dot n v) ?_
    (conv => whnf)
    refine idx_and (by omega) (by simpa using hu) ?_
    (conv => whnf)
    refine call_i (ref14_dot n u) ?_
    (conv => whnf)
    refine ask_m (fun hc => ?_) (fun hc => ?_)
    · have hc : ww (g * dot3 n v) < ww (g * dot3 n u) := of_decide_eq_true hc
      rw [if_pos ⟨hk0, hc⟩] at hs
      (conv => whnf)
      exact ⟨k + 1, [], ⟨by omega, hlt⟩, by omega, ⟨⟨rfl, rfl, rfl, eqI (by rw [hs]), eqI hkk, trivial⟩, ⟨rfl, trivial⟩⟩⟩
    · have hc : ¬ ww (g * dot3 n v) < ww (g * dot3 n u) := of_decide_eq_false hc
      rw [if_neg (fun q => hc q.2)] at hs
      (conv => whnf)
      exact ⟨k + 1, [], ⟨by omega, hlt⟩, by omega, ⟨⟨rfl, rfl, rfl, eqI (by rw [hs]), eqI hkk, trivial⟩, ⟨rfl, trivial⟩⟩⟩
  · have hk : k = l.length := by simp at hlt; omega
    subst hk
    (conv => whnf)
    refine ret0 ?_
    exact ret_i rfl rfl
end Go.Proofs.YthdbdokhncaijaaGreat

/- Nearest points: the walks of the reference's weights, means and overlaps. -/
namespace Go.Proofs.YthdbdokhncaijaaGreat
open Eng
set_option maxRecDepth 10000
attribute [local irreducible] FnOk loopW idxF retX arrF

/- weights that move -/
def mvd (t w : Int) : Int := ww ((ww (w * t)).tdiv 256)
def mvAt (ws : List Int) (t : Int) (k : Nat) : List Int := (ws.take k).map (fun w => ww (w - mvd t w)) ++ ws.drop k
def lostTo (ws : List Int) (t : Int) : Nat → Int
  | 0 => 0
  | k + 1 => ww (lostTo ws t k + mvd t (ws.getD k 0))
def movedM (ws : List Int) (t : Int) (to : Nat) : List Int := (ws.map fun w => ww (w - mvd t w)).set to (ww ((ws.map fun w => ww (w - mvd t w)).getD to 0 + lostTo ws t ws.length))
theorem movedM_len (ws : List Int) (t : Int) (to : Nat) : (movedM ws t to).length = ws.length := by simp [movedM]
theorem ref14_Moved (ws : List Int) (t : Int) (to : Nat) (hw : ws.length ≤ 1000) (hto : to < ws.length) : FnOk Tryz.prog F.ref14_Moved [Li ws, I t, I to] [] 0 (Li (movedM ws t to)) [] 0 := by
  refine fnOk tab mix G.ref14_Moved rfl rfl (by kernel_rfl) rfl rfl ?_
  (conv => whnf)
  refine ⟨⟨by simp; omega, by simp; omega⟩, ?_⟩
  (conv => whnf)
  refine loop_intro (fun k : Nat => ⟨[(1, I t), (2, I to), (7, .one (.row 0)), (8, I (lostTo ws t k)), (9, I k)], [(0, .rows Y.int64 1 ((mvAt ws t k).map encI))], 1⟩) (fun k => k ≤ ws.length) (fun k => ws.length - k) [] 0 [] (Nat.zero_le _) ⟨⟨rfl, rfl, rfl, rfl, rfl, trivial⟩, ⟨rfl, trivial⟩⟩ ?_
  rintro k hk
  have hkk : IntKind.i64.wrap ((k : Int) + 1) = ((k + 1 : Nat) : Int) := by rw [w64] <;> omega
  have hlen : (mvAt ws t k).length = ws.length := by simp [mvAt]; omega
  (conv => whnf)
  refine ask_m (fun hlt => ?_) (fun hlt => ?_)
  · have hlt : k < ws.length := by simp [hlen] at hlt; omega
    obtain ⟨w, hw'⟩ : ∃ v, ws[k]? = some v := ⟨_, List.getElem?_eq_getElem hlt⟩
    have hm : mvAt ws t k = (ws.take k).map (fun w => ww (w - mvd t w)) ++ w :: ws.drop (k + 1) := by rw [mvAt, drop_cons hw']
    have hm' : mvAt ws t (k + 1) = (ws.take k).map (fun w => ww (w - mvd t w)) ++ ww (w - mvd t w) :: ws.drop (k + 1) := by
      rw [mvAt, map_take1 _ hw', List.append_assoc]; rfl
    have hc : ((ws.take k).map (fun w => ww (w - mvd t w))).length = k := by simp; omega
    have hat : (mvAt ws t k)[k]? = some w := by rw [hm, List.getElem?_append_right (by omega), hc, Nat.sub_self]; rfl
    have hs : ((mvAt ws t k).map encI).set k (encI (ww (w - mvd t w))) = (mvAt ws t (k + 1)).map encI := by rw [hm, hm']; exact row_set hc
    have hl : lostTo ws t (k + 1) = ww (lostTo ws t k + mvd t w) := by rw [lostTo, getD_at hw']
    (conv => whnf)
    refine ⟨⟨by omega, by rw [List.length_map]; omega⟩, ?_⟩
    (conv => whnf)
    refine idx_map (x := w) (by rw [Int.toNat_natCast]; exact hat) ?_
    (conv => whnf)
    refine ⟨by decide, ?_⟩
    (conv => whnf)
    refine ⟨⟨by omega, by rw [List.length_map]; omega⟩, ?_⟩
    (conv => whnf)
    refine idx_map (x := w) (by rw [Int.toNat_natCast]; exact hat) ?_
    (conv => whnf)
    refine ⟨⟨by omega, by rw [List.length_map]; omega⟩, ?_⟩
    (conv => whnf)
    refine idx_map (x := w) (by rw [Int.toNat_natCast]; exact hat) ?_
    (conv => whnf)
    exact ⟨k + 1, [], hlt, by omega, ⟨⟨rfl, rfl, rfl, eqI hl.symm, eqI hkk, trivial⟩, ⟨rows_eq hs, trivial⟩⟩⟩
  · have hk : k = ws.length := by simp [hlen] at hlt; omega
    subst hk
    have hfin : mvAt ws t ws.length = ws.map fun w => ww (w - mvd t w) := by rw [mvAt, List.take_length, List.drop_length, List.append_nil]
    rw [hfin]
    obtain ⟨o, ho⟩ : ∃ o, (ws.map fun w => ww (w - mvd t w))[to]? = some o := ⟨_, List.getElem?_eq_getElem (by simp; omega)⟩
    have he : movedM ws t to = (ws.map fun w => ww (w - mvd t w)).set to (ww (o + lostTo ws t ws.length)) := by rw [movedM, getD_at ho]
    rw [he]
    have hL : (ws.map fun w => ww (w - mvd t w)).length = ws.length := by simp
    generalize (ws.map fun w => ww (w - mvd t w)) = M at *
    have hset : (M.map encI).set to (encI (ww (o + lostTo ws t ws.length))) = (M.set to (ww (o + lostTo ws t ws.length))).map encI := (List.map_set ..).symm
    (conv => whnf)
    refine ⟨⟨by omega, by rw [List.length_map]; omega⟩, ?_⟩
    (conv => whnf)
    refine idx_map (x := o) (by rw [Int.toNat_natCast]; exact ho) ?_
    (conv => whnf)
    refine ⟨⟨by omega, by rw [List.length_map]; omega⟩, ?_⟩
    (conv => whnf)
    refine idx_map (x := o) (by rw [Int.toNat_natCast]; exact ho) ?_
    (conv => whnf)
    (conv => whnf)
    refine retO [.frz 0] ?_
    (conv => whnf)
    exact ⟨[], ⟨by first | exact congrArg (fun r => SV.one (CV.dv (DV.lst 1 r))) hset | exact congrArg (fun r => SV.one (CV.dv (DV.lst 1 r))) hset.symm, trivial⟩, trivial⟩
/- few points -/
structure Few (l : List Vec) : Prop where
  one : 1 ≤ l.length
  few : l.length ≤ 8
  near : ∀ v ∈ l, inV v 268435456 = true
theorem mid_in {v : Ival} (h : inI v 268435456) : -268435456 ≤ mid v ∧ mid v ≤ 268435456 := by
  unfold inI at h; unfold mid flr; omega
theorem centers_few {l : List IV} (h : Plc l) : Few (centers l) := ⟨by rw [centers, List.length_map]; exact h.one, by rw [centers, List.length_map]; exact h.few, fun v hv => by
  obtain ⟨u, hu, rfl⟩ := List.mem_map.1 hv
  obtain ⟨h1, h2, h3⟩ := h.near u hu
  exact inV_iff.2 ⟨mid_in h1, mid_in h2, mid_in h3⟩⟩
theorem ref14_few (l : List Vec) (h : Few l) : FnOk Tryz.prog F.ref14_few [.one (.dv (dVs l))] [] 0 (Bo true) [] 0 := by
  obtain ⟨h1, h8, hn⟩ := h
  refine fnOk tab mix G.ref14_few rfl rfl (by kernel_rfl) rfl rfl ?_
  (conv => whnf)
  refine loop_intro (fun k : Nat => ⟨[(0, .one (.dv (dVs l))), (3, I k)], [], 0⟩) (fun k => k ≤ l.length) (fun k => l.length - k) [] 0 [] (Nat.zero_le _) ⟨⟨rfl, rfl, trivial⟩, trivial⟩ ?_
  rintro k hk
  have hkk : IntKind.i64.wrap ((k : Int) + 1) = ((k + 1 : Nat) : Int) := by rw [w64] <;> omega
  rcases Nat.lt_or_ge k l.length with hlt | hge
  · obtain ⟨v, hv⟩ : ∃ v, l[k]? = some v := ⟨_, List.getElem?_eq_getElem hlt⟩
    (conv => whnf)
    refine ask_mt (decide_eq_true (by rw [List.length_map]; omega)) ?_
    (conv => whnf)
    refine ask_mt (decide_eq_true (by omega)) ?_
    (conv => whnf)
    refine idx_and (by omega) (by simpa using hv) ?_
    (conv => whnf)
    refine call_i (ref_Near v 268435456 (by decide) (by decide)) ?_
    (conv => whnf)
    rw [hn v (List.mem_of_getElem? hv)]
    (conv => whnf)
    exact ⟨k + 1, [], hlt, by omega, ⟨⟨rfl, eqI hkk, trivial⟩, trivial⟩⟩
  · (conv => whnf)
    refine ask_mf (decide_eq_false (by rw [List.length_map]; omega)) ?_
    (conv => whnf)
    refine ask_mt (decide_eq_true (by rw [List.length_map]; omega)) ?_
    (conv => whnf)
    refine ret0 ?_
    exact ret_b (decide_eq_true (by rw [List.length_map]; omega)) rfl
/- means -/
def goA (f : Vec → Int) (l : List Vec) (n : Int) : Nat → Int
  | 0 => 0
  | k + 1 => ww (goA f l n k + ww (f (l.getD k z3) * n))
def goB (f : Vec → Int) (l : List Vec) (n s : Int) : Nat → Int
  | 0 => s
  | k + 1 => ww (goB f l n s k - ww (f (l.getD k z3) * n))
def meanK (f : Vec → Int) (x y : List Vec) : Int := goB f y x.length (goA f x y.length x.length) y.length
theorem goA_rg (f : Vec → Int) (l : List Vec) (n : Int) : ∀ k, rg (goA f l n k)
  | 0 => by rw [goA]; unfold rg; omega
  | k + 1 => ww_rg _
theorem goB_rg (f : Vec → Int) (l : List Vec) (n : Int) {s : Int} (h : rg s) : ∀ k, rg (goB f l n s k)
  | 0 => h
  | k + 1 => ww_rg _
def meanV (x y : List Vec) : Vec := ⟨meanK Vec.x x y, meanK Vec.y x y, meanK Vec.z x y⟩
theorem meanV_rg (x y : List Vec) : rgV (meanV x y) := ⟨goB_rg _ _ _ (goA_rg _ _ _ _) _, goB_rg _ _ _ (goA_rg _ _ _ _) _, goB_rg _ _ _ (goA_rg _ _ _ _) _⟩
def meanS (x y : List Vec) (k : Nat) : Vec := ⟨bif Nat.blt 0 k then meanK Vec.x x y else 0, bif Nat.blt 1 k then meanK Vec.y x y else 0, bif Nat.blt 2 k then meanK Vec.z x y else 0⟩
abbrev VeB (r : Vec × Bool) : SV := .tup [(true, [.dv (.int .i64 r.1.x), .dv (.int .i64 r.1.y), .dv (.int .i64 r.1.z)]), (false, [.dv (.bool r.2)])]
set_option maxHeartbeats 2000000 in
theorem ref14_Mean (a b : List IV) (ha : Plc a) (hb : Plc b) : FnOk Tryz.prog F.ref14_Mean [.one (.dv (dIVs a)), .one (.dv (dIVs b))] [] 0 (VeB (nrmM (meanV (centers a) (centers b)))) [] 0 := by
  refine fnOk tab mix G.ref14_Mean rfl rfl (by kernel_rfl) rfl rfl ?_
  (conv => whnf)
  refine call_i (ref10_Placed a ha) ?_
  (conv => whnf)
  refine call_i (ref10_Placed b hb) ?_
  (conv => whnf)
  refine call_i (ref10_Centers a ha) ?_
  (conv => whnf)
  refine call_i (ref10_Centers b hb) ?_
  (conv => whnf)
  have hx := (centers_few ha).few
  have hy := (centers_few hb).few
  generalize centers a = x at *
  generalize centers b = y at *
  refine loop_intro (fun k : Nat => ⟨[(4, .one (.vptr 0 0)), (6, .one (.vptr 1 0)), (7, .one (.dv (dVs x))), (8, .one (.dv (dVs y))), (9, I k)], [(0, bV z3), (1, bV (meanS x y k))], 2⟩) (fun k => k ≤ 3) (fun k => 3 - k) [] 0 [] (by decide) ⟨⟨rfl, rfl, rfl, rfl, rfl, trivial⟩, ⟨rfl, rfl, trivial⟩⟩ ?_
  rintro k hk
  obtain rfl | rfl | rfl | rfl : k = 0 ∨ k = 1 ∨ k = 2 ∨ k = 3 := by omega
  · (conv => whnf)
    refine loop_intro (fun i : Nat => ⟨[(4, .one (.vptr 0 0)), (6, .one (.vptr 1 0)), (7, .one (.dv (dVs x))), (8, .one (.dv (dVs y))), (9, I 0), (10, I i)], [(0, bV z3), (1, bV ⟨goA Vec.x x y.length i, 0, 0⟩)], 2⟩) (fun i => i ≤ x.length) (fun i => x.length - i) [] 0 [] (Nat.zero_le _) ⟨⟨rfl, rfl, rfl, rfl, rfl, rfl, trivial⟩, ⟨rfl, rfl, trivial⟩⟩ ?_
    rintro i hi
    have hii : IntKind.i64.wrap ((i : Int) + 1) = ((i + 1 : Nat) : Int) := by rw [w64] <;> omega
    (conv => whnf)
    refine ask_m (fun hlt => ?_) (fun hlt => ?_)
    · have hlt : i < x.length := by simpa using hlt
      obtain ⟨v, hv⟩ : ∃ v, x[i]? = some v := ⟨_, List.getElem?_eq_getElem hlt⟩
      have hs : goA Vec.x x y.length (i + 1) = ww (goA Vec.x x y.length i + ww (v.x * ((y.map encV).length : Int))) := by rw [goA, getD_at hv, List.length_map]
      (conv => whnf)
      refine ⟨⟨by decide, by decide⟩, ?_⟩
      (conv => whnf)
      refine idx_and (by omega) (by simpa using hv) ?_
      (conv => whnf)
      refine ⟨⟨by decide, by decide⟩, ?_⟩
      (conv => whnf)
      refine ⟨⟨by decide, by decide⟩, ?_⟩
      (conv => whnf)
      exact ⟨i + 1, [], hlt, by omega, ⟨⟨rfl, rfl, rfl, rfl, rfl, eqI hii, trivial⟩, ⟨rfl, by rw [hs]; rfl, trivial⟩⟩⟩
    have hi : i = x.length := by simp at hlt; omega
    subst hi
    (conv => whnf)
    refine loop_intro (fun i : Nat => ⟨[(4, .one (.vptr 0 0)), (6, .one (.vptr 1 0)), (7, .one (.dv (dVs x))), (8, .one (.dv (dVs y))), (9, I 0), (11, I i)], [(0, bV z3), (1, bV ⟨goB Vec.x y x.length (goA Vec.x x y.length x.length) i, 0, 0⟩)], 2⟩) (fun i => i ≤ y.length) (fun i => y.length - i) [] 0 [] (Nat.zero_le _) ⟨⟨rfl, rfl, rfl, rfl, rfl, rfl, trivial⟩, ⟨rfl, rfl, trivial⟩⟩ ?_
    rintro i hi
    have hii : IntKind.i64.wrap ((i : Int) + 1) = ((i + 1 : Nat) : Int) := by rw [w64] <;> omega
    (conv => whnf)
    refine ask_m (fun hlt => ?_) (fun hlt => ?_)
    · have hlt : i < y.length := by simpa using hlt
      obtain ⟨v, hv⟩ : ∃ v, y[i]? = some v := ⟨_, List.getElem?_eq_getElem hlt⟩
      have hs : goB Vec.x y x.length (goA Vec.x x y.length x.length) (i + 1) = ww (goB Vec.x y x.length (goA Vec.x x y.length x.length) i - ww (v.x * ((x.map encV).length : Int))) := by rw [goB, getD_at hv, List.length_map]
      (conv => whnf)
      refine ⟨⟨by decide, by decide⟩, ?_⟩
      (conv => whnf)
      refine idx_and (by omega) (by simpa using hv) ?_
      (conv => whnf)
      refine ⟨⟨by decide, by decide⟩, ?_⟩
      (conv => whnf)
      refine ⟨⟨by decide, by decide⟩, ?_⟩
      (conv => whnf)
      exact ⟨i + 1, [], hlt, by omega, ⟨⟨rfl, rfl, rfl, rfl, rfl, eqI hii, trivial⟩, ⟨rfl, by rw [hs]; rfl, trivial⟩⟩⟩
    have hi : i = y.length := by simp at hlt; omega
    subst hi
    (conv => whnf)
    exact ⟨1, [], by decide, by decide, ⟨⟨rfl, rfl, rfl, rfl, eqI (by decide), trivial⟩, ⟨rfl, rfl, trivial⟩⟩⟩
  · (conv => whnf)
    refine loop_intro (fun i : Nat => ⟨[(4, .one (.vptr 0 0)), (6, .one (.vptr 1 0)), (7, .one (.dv (dVs x))), (8, .one (.dv (dVs y))), (9, I 1), (10, I i)], [(0, bV z3), (1, bV ⟨meanK Vec.x x y, goA Vec.y x y.length i, 0⟩)], 2⟩) (fun i => i ≤ x.length) (fun i => x.length - i) [] 0 [] (Nat.zero_le _) ⟨⟨rfl, rfl, rfl, rfl, rfl, rfl, trivial⟩, ⟨rfl, rfl, trivial⟩⟩ ?_
    rintro i hi
    have hii : IntKind.i64.wrap ((i : Int) + 1) = ((i + 1 : Nat) : Int) := by rw [w64] <;> omega
    (conv => whnf)
    refine ask_m (fun hlt => ?_) (fun hlt => ?_)
    · have hlt : i < x.length := by simpa using hlt
      obtain ⟨v, hv⟩ : ∃ v, x[i]? = some v := ⟨_, List.getElem?_eq_getElem hlt⟩
      have hs : goA Vec.y x y.length (i + 1) = ww (goA Vec.y x y.length i + ww (v.y * ((y.map encV).length : Int))) := by rw [goA, getD_at hv, List.length_map]
      (conv => whnf)
      refine ⟨⟨by decide, by decide⟩, ?_⟩
      (conv => whnf)
      refine idx_and (by omega) (by simpa using hv) ?_
      (conv => whnf)
      refine ⟨⟨by decide, by decide⟩, ?_⟩
      (conv => whnf)
      refine ⟨⟨by decide, by decide⟩, ?_⟩
      (conv => whnf)
      exact ⟨i + 1, [], hlt, by omega, ⟨⟨rfl, rfl, rfl, rfl, rfl, eqI hii, trivial⟩, ⟨rfl, by rw [hs]; rfl, trivial⟩⟩⟩
    have hi : i = x.length := by simp at hlt; omega
    subst hi
    (conv => whnf)
    refine loop_intro (fun i : Nat => ⟨[(4, .one (.vptr 0 0)), (6, .one (.vptr 1 0)), (7, .one (.dv (dVs x))), (8, .one (.dv (dVs y))), (9, I 1), (11, I i)], [(0, bV z3), (1, bV ⟨meanK Vec.x x y, goB Vec.y y x.length (goA Vec.y x y.length x.length) i, 0⟩)], 2⟩) (fun i => i ≤ y.length) (fun i => y.length - i) [] 0 [] (Nat.zero_le _) ⟨⟨rfl, rfl, rfl, rfl, rfl, rfl, trivial⟩, ⟨rfl, rfl, trivial⟩⟩ ?_
    rintro i hi
    have hii : IntKind.i64.wrap ((i : Int) + 1) = ((i + 1 : Nat) : Int) := by rw [w64] <;> omega
    (conv => whnf)
    refine ask_m (fun hlt => ?_) (fun hlt => ?_)
    · have hlt : i < y.length := by simpa using hlt
      obtain ⟨v, hv⟩ : ∃ v, y[i]? = some v := ⟨_, List.getElem?_eq_getElem hlt⟩
      have hs : goB Vec.y y x.length (goA Vec.y x y.length x.length) (i + 1) = ww (goB Vec.y y x.length (goA Vec.y x y.length x.length) i - ww (v.y * ((x.map encV).length : Int))) := by rw [goB, getD_at hv, List.length_map]
      (conv => whnf)
      refine ⟨⟨by decide, by decide⟩, ?_⟩
      (conv => whnf)
      refine idx_and (by omega) (by simpa using hv) ?_
      (conv => whnf)
      refine ⟨⟨by decide, by decide⟩, ?_⟩
      (conv => whnf)
      refine ⟨⟨by decide, by decide⟩, ?_⟩
      (conv => whnf)
      exact ⟨i + 1, [], hlt, by omega, ⟨⟨rfl, rfl, rfl, rfl, rfl, eqI hii, trivial⟩, ⟨rfl, by rw [hs]; rfl, trivial⟩⟩⟩
    have hi : i = y.length := by simp at hlt; omega
    subst hi
    (conv => whnf)
    exact ⟨2, [], by decide, by decide, ⟨⟨rfl, rfl, rfl, rfl, eqI (by decide), trivial⟩, ⟨rfl, rfl, trivial⟩⟩⟩
  · (conv => whnf)
    refine loop_intro (fun i : Nat => ⟨[(4, .one (.vptr 0 0)), (6, .one (.vptr 1 0)), (7, .one (.dv (dVs x))), (8, .one (.dv (dVs y))), (9, I 2), (10, I i)], [(0, bV z3), (1, bV ⟨meanK Vec.x x y, meanK Vec.y x y, goA Vec.z x y.length i⟩)], 2⟩) (fun i => i ≤ x.length) (fun i => x.length - i) [] 0 [] (Nat.zero_le _) ⟨⟨rfl, rfl, rfl, rfl, rfl, rfl, trivial⟩, ⟨rfl, rfl, trivial⟩⟩ ?_
    rintro i hi
    have hii : IntKind.i64.wrap ((i : Int) + 1) = ((i + 1 : Nat) : Int) := by rw [w64] <;> omega
    (conv => whnf)
    refine ask_m (fun hlt => ?_) (fun hlt => ?_)
    · have hlt : i < x.length := by simpa using hlt
      obtain ⟨v, hv⟩ : ∃ v, x[i]? = some v := ⟨_, List.getElem?_eq_getElem hlt⟩
      have hs : goA Vec.z x y.length (i + 1) = ww (goA Vec.z x y.length i + ww (v.z * ((y.map encV).length : Int))) := by rw [goA, getD_at hv, List.length_map]
      (conv => whnf)
      refine ⟨⟨by decide, by decide⟩, ?_⟩
      (conv => whnf)
      refine idx_and (by omega) (by simpa using hv) ?_
      (conv => whnf)
      refine ⟨⟨by decide, by decide⟩, ?_⟩
      (conv => whnf)
      refine ⟨⟨by decide, by decide⟩, ?_⟩
      (conv => whnf)
      exact ⟨i + 1, [], hlt, by omega, ⟨⟨rfl, rfl, rfl, rfl, rfl, eqI hii, trivial⟩, ⟨rfl, by rw [hs]; rfl, trivial⟩⟩⟩
    have hi : i = x.length := by simp at hlt; omega
    subst hi
    (conv => whnf)
    refine loop_intro (fun i : Nat => ⟨[(4, .one (.vptr 0 0)), (6, .one (.vptr 1 0)), (7, .one (.dv (dVs x))), (8, .one (.dv (dVs y))), (9, I 2), (11, I i)], [(0, bV z3), (1, bV ⟨meanK Vec.x x y, meanK Vec.y x y, goB Vec.z y x.length (goA Vec.z x y.length x.length) i⟩)], 2⟩) (fun i => i ≤ y.length) (fun i => y.length - i) [] 0 [] (Nat.zero_le _) ⟨⟨rfl, rfl, rfl, rfl, rfl, rfl, trivial⟩, ⟨rfl, rfl, trivial⟩⟩ ?_
    rintro i hi
    have hii : IntKind.i64.wrap ((i : Int) + 1) = ((i + 1 : Nat) : Int) := by rw [w64] <;> omega
    (conv => whnf)
    refine ask_m (fun hlt => ?_) (fun hlt => ?_)
    · have hlt : i < y.length := by simpa using hlt
      obtain ⟨v, hv⟩ : ∃ v, y[i]? = some v := ⟨_, List.getElem?_eq_getElem hlt⟩
      have hs : goB Vec.z y x.length (goA Vec.z x y.length x.length) (i + 1) = ww (goB Vec.z y x.length (goA Vec.z x y.length x.length) i - ww (v.z * ((x.map encV).length : Int))) := by rw [goB, getD_at hv, List.length_map]
      (conv => whnf)
      refine ⟨⟨by decide, by decide⟩, ?_⟩
      (conv => whnf)
      refine idx_and (by omega) (by simpa using hv) ?_
      (conv => whnf)
      refine ⟨⟨by decide, by decide⟩, ?_⟩
      (conv => whnf)
      refine ⟨⟨by decide, by decide⟩, ?_⟩
      (conv => whnf)
      exact ⟨i + 1, [], hlt, by omega, ⟨⟨rfl, rfl, rfl, rfl, rfl, eqI hii, trivial⟩, ⟨rfl, by rw [hs]; rfl, trivial⟩⟩⟩
    have hi : i = y.length := by simp at hlt; omega
    subst hi
    (conv => whnf)
    exact ⟨3, [], by decide, by decide, ⟨⟨rfl, rfl, rfl, rfl, eqI (by decide), trivial⟩, ⟨rfl, rfl, trivial⟩⟩⟩
  · (conv => whnf)
    refine call_i (ref10_Normal (meanV x y) (meanV_rg x y)) ?_
    (conv => whnf)
    (conv => whnf)
    refine ret0 ?_
    exact ⟨[], ⟨rfl, trivial⟩, trivial⟩
end Go.Proofs.YthdbdokhncaijaaGreat

/- Nearest points: the walks of the reference's combinations and overlaps. -/
namespace Go.Proofs.YthdbdokhncaijaaGreat
open Eng
set_option maxRecDepth 10000
attribute [local irreducible] FnOk loopW idxF retX arrF

def sumW (ws : List Int) : Nat → Int
  | 0 => 0
  | k + 1 => ww (sumW ws k + ws.getD k 0)
def okW (ws : List Int) : Nat → Bool
  | 0 => true
  | k + 1 => okW ws k && !decide (ws.getD k 0 < 0) && !decide (ww (65536 - sumW ws k) < ws.getD k 0)
theorem okW_mono (ws : List Int) {k : Nat} (h : okW ws k = false) : ∀ d, okW ws (k + d) = false
  | 0 => h
  | d + 1 => by rw [← Nat.add_assoc, okW, okW_mono ws h d]; rfl
theorem okW_bad {ws : List Int} {k : Nat} (hk : k < ws.length) (h : okW ws (k + 1) = false) : okW ws ws.length = false := by
  have := okW_mono ws h (ws.length - (k + 1))
  rwa [show k + 1 + (ws.length - (k + 1)) = ws.length by omega] at this
theorem sumW_rg (ws : List Int) : ∀ k, rg (sumW ws k)
  | 0 => by rw [sumW]; unfold rg; omega
  | k + 1 => ww_rg _
def cacc (s : IV) (w : Int) (v : IV) (j : Nat) : IV := ⟨⟨bif Nat.blt 0 j then ww (s.x.lo + ww (w * v.x.lo)) else s.x.lo, bif Nat.blt 0 j then ww (s.x.hi + ww (w * v.x.hi)) else s.x.hi⟩, ⟨bif Nat.blt 1 j then ww (s.y.lo + ww (w * v.y.lo)) else s.y.lo, bif Nat.blt 1 j then ww (s.y.hi + ww (w * v.y.hi)) else s.y.hi⟩, ⟨bif Nat.blt 2 j then ww (s.z.lo + ww (w * v.z.lo)) else s.z.lo, bif Nat.blt 2 j then ww (s.z.hi + ww (w * v.z.hi)) else s.z.hi⟩⟩
def combTo (l : List IV) (ws : List Int) : Nat → IV
  | 0 => v0
  | k + 1 => cacc (combTo l ws k) (ws.getD k 0) (l.getD k v0) 3
def combineM (l : List IV) (ws : List Int) : IV × Int × Bool := if okW ws ws.length = true ∧ 1 ≤ sumW ws ws.length then (combTo l ws l.length, sumW ws ws.length, true) else (v0, 0, false)
abbrev CoR (r : IV × Int × Bool) : SV := .tup [(true, c6 r.1), (false, [.dv (.int .i64 r.2.1)]), (false, [.dv (.bool r.2.2)])]
set_option maxHeartbeats 2000000 in
theorem ref10_Combine (l : List IV) (ws : List Int) (h : Plc l) (hw : ws.length = l.length) : FnOk Tryz.prog F.ref10_Combine [.one (.dv (dIVs l)), Li ws] [] 0 (CoR (combineM l ws)) [] 0 := by
  have h8 := h.few
  refine fnOk tab mix G.ref10_Combine rfl rfl (by kernel_rfl) rfl rfl ?_
  (conv => whnf)
  refine call_i (ref10_Placed l h) ?_
  (conv => whnf)
  refine ask_mf (by simp [hw]) ?_
  (conv => whnf)
  refine loop_intro (fun k : Nat => ⟨[(0, .one (.dv (dIVs l))), (1, Li ws), (4, .one (.vptr 0 0)), (7, I (sumW ws k)), (8, I k)], [(0, .vars Y.IVec z6)], 1⟩) (fun k => k ≤ ws.length ∧ okW ws k = true) (fun k => ws.length - k) [] 0 [] ⟨Nat.zero_le _, rfl⟩ ⟨⟨rfl, rfl, rfl, rfl, rfl, trivial⟩, ⟨rfl, trivial⟩⟩ ?_
  rintro k ⟨hk, hok⟩
  have hkk : IntKind.i64.wrap ((k : Int) + 1) = ((k + 1 : Nat) : Int) := by rw [w64] <;> omega
  (conv => whnf)
  refine ask_m (fun hlt => ?_) (fun hlt => ?_)
  · have hlt : k < ws.length := by simpa using hlt
    obtain ⟨w, hv⟩ : ∃ v, ws[k]? = some v := ⟨_, List.getElem?_eq_getElem hlt⟩
    have ho : okW ws (k + 1) = (!decide (w < 0) && !decide (ww (65536 - sumW ws k) < w)) := by rw [okW, hok, getD_at hv]; simp
    have hs : sumW ws (k + 1) = ww (sumW ws k + w) := by rw [sumW, getD_at hv]
    have bad : okW ws (k + 1) = false → combineM l ws = (v0, 0, false) := fun hb => by rw [combineM, if_neg (by rw [okW_bad hlt hb]; simp)]
    (conv => whnf)
    refine idx_and (by omega) (by simpa using hv) ?_
    (conv => whnf)
    cases h1 : decide (w < 0) with
    | true =>
      rw [bad (by rw [ho, h1]; rfl)]
      (conv => whnf)
      (conv => whnf)
      refine ret0 ?_
      exact ⟨[], ⟨rfl, trivial⟩, trivial⟩
    | false =>
    (conv => whnf)
    refine idx_and (by omega) (by simpa using hv) ?_
    (conv => whnf)
    refine ask_m (fun h2 => ?_) (fun h2 => ?_)
    · have h2 : decide (ww (65536 - sumW ws k) < w) = true := h2
      rw [bad (by rw [ho, h1, h2]; rfl)]
      (conv => whnf)
      (conv => whnf)
      refine ret0 ?_
      exact ⟨[], ⟨rfl, trivial⟩, trivial⟩
    · have h2 : decide (ww (65536 - sumW ws k) < w) = false := h2
      (conv => whnf)
      refine idx_and (by omega) (by simpa using hv) ?_
      (conv => whnf)
      exact ⟨k + 1, [], ⟨hlt, by rw [ho, h1, h2]; rfl⟩, by omega, ⟨⟨rfl, rfl, rfl, eqI hs.symm, eqI hkk, trivial⟩, ⟨rfl, trivial⟩⟩⟩
  have hk : k = ws.length := by simp at hlt; omega
  subst hk
  (conv => whnf)
  refine ask_m (fun hsum => ?_) (fun hsum => ?_)
  · have hsum : sumW ws ws.length < 1 := of_decide_eq_true hsum
    have e : combineM l ws = (v0, 0, false) := by rw [combineM, if_neg (by omega)]
    rw [e]
    (conv => whnf)
    refine ret0 ?_
    exact ⟨[], ⟨rfl, trivial⟩, trivial⟩
  have hsum : ¬ sumW ws ws.length < 1 := of_decide_eq_false hsum
  have e : combineM l ws = (combTo l ws l.length, sumW ws ws.length, true) := by rw [combineM, if_pos ⟨hok, by omega⟩]
  rw [e]
  generalize sumW ws ws.length = SW at *
  (conv => whnf)
  refine loop_intro (fun k : Nat => ⟨[(0, .one (.dv (dIVs l))), (1, Li ws), (4, .one (.vptr 0 0)), (7, I SW), (9, .one (.vptr 1 0)), (10, I k)], [(0, .vars Y.IVec z6), (1, .vars Y.IVec (c6 (combTo l ws k)))], 2⟩) (fun k => k ≤ l.length) (fun k => l.length - k) [] 0 [] (Nat.zero_le _) ⟨⟨rfl, rfl, rfl, rfl, rfl, rfl, trivial⟩, ⟨rfl, rfl, trivial⟩⟩ ?_
  rintro k hk
  have hkk : IntKind.i64.wrap ((k : Int) + 1) = ((k + 1 : Nat) : Int) := by rw [w64] <;> omega
  (conv => whnf)
  refine ask_m (fun hlt => ?_) (fun hlt => ?_)
  · have hlt : k < l.length := by simpa using hlt
    obtain ⟨v, hv⟩ : ∃ v, l[k]? = some v := ⟨_, List.getElem?_eq_getElem hlt⟩
    obtain ⟨w, hw'⟩ : ∃ v, ws[k]? = some v := ⟨_, List.getElem?_eq_getElem (by omega)⟩
    have hs : combTo l ws (k + 1) = cacc (combTo l ws k) w v 3 := by rw [combTo, getD_at hv, getD_at hw']
    generalize combTo l ws k = S at *
    (conv => whnf)
    refine loop_intro (fun j : Nat => ⟨[(0, .one (.dv (dIVs l))), (1, Li ws), (4, .one (.vptr 0 0)), (7, I SW), (9, .one (.vptr 1 0)), (10, I k), (11, I j)], [(0, .vars Y.IVec z6), (1, .vars Y.IVec (c6 (cacc S w v j)))], 2⟩) (fun j => j ≤ 3) (fun j => 3 - j) [] 0 [] (by decide) ⟨⟨rfl, rfl, rfl, rfl, rfl, rfl, rfl, trivial⟩, ⟨rfl, rfl, trivial⟩⟩ ?_
    rintro j hj
    obtain rfl | rfl | rfl | rfl : j = 0 ∨ j = 1 ∨ j = 2 ∨ j = 3 := by omega
    · (conv => whnf)
      refine ⟨⟨by decide, by decide⟩, ?_⟩
      (conv => whnf)
      refine idx_and (by omega) (by simpa using hw') ?_
      (conv => whnf)
      refine idx_and (by omega) (by simpa using hv) ?_
      (conv => whnf)
      refine ⟨⟨by decide, by decide⟩, ?_⟩
      (conv => whnf)
      refine ⟨⟨by decide, by decide⟩, ?_⟩
      (conv => whnf)
      refine ⟨⟨by decide, by decide⟩, ?_⟩
      (conv => whnf)
      refine idx_and (by omega) (by simpa using hw') ?_
      (conv => whnf)
      refine idx_and (by omega) (by simpa using hv) ?_
      (conv => whnf)
      refine ⟨⟨by decide, by decide⟩, ?_⟩
      (conv => whnf)
      refine ⟨⟨by decide, by decide⟩, ?_⟩
      (conv => whnf)
      exact ⟨1, [], by decide, by decide, ⟨⟨rfl, rfl, rfl, rfl, rfl, rfl, eqI (by decide), trivial⟩, ⟨rfl, rfl, trivial⟩⟩⟩
    · (conv => whnf)
      refine ⟨⟨by decide, by decide⟩, ?_⟩
      (conv => whnf)
      refine idx_and (by omega) (by simpa using hw') ?_
      (conv => whnf)
      refine idx_and (by omega) (by simpa using hv) ?_
      (conv => whnf)
      refine ⟨⟨by decide, by decide⟩, ?_⟩
      (conv => whnf)
      refine ⟨⟨by decide, by decide⟩, ?_⟩
      (conv => whnf)
      refine ⟨⟨by decide, by decide⟩, ?_⟩
      (conv => whnf)
      refine idx_and (by omega) (by simpa using hw') ?_
      (conv => whnf)
      refine idx_and (by omega) (by simpa using hv) ?_
      (conv => whnf)
      refine ⟨⟨by decide, by decide⟩, ?_⟩
      (conv => whnf)
      refine ⟨⟨by decide, by decide⟩, ?_⟩
      (conv => whnf)
      exact ⟨2, [], by decide, by decide, ⟨⟨rfl, rfl, rfl, rfl, rfl, rfl, eqI (by decide), trivial⟩, ⟨rfl, rfl, trivial⟩⟩⟩
    · (conv => whnf)
      refine ⟨⟨by decide, by decide⟩, ?_⟩
      (conv => whnf)
      refine idx_and (by omega) (by simpa using hw') ?_
      (conv => whnf)
      refine idx_and (by omega) (by simpa using hv) ?_
      (conv => whnf)
      refine ⟨⟨by decide, by decide⟩, ?_⟩
      (conv => whnf)
      refine ⟨⟨by decide, by decide⟩, ?_⟩
      (conv => whnf)
      refine ⟨⟨by decide, by decide⟩, ?_⟩
      (conv => whnf)
      refine idx_and (by omega) (by simpa using hw') ?_
      (conv => whnf)
      refine idx_and (by omega) (by simpa using hv) ?_
      (conv => whnf)
      refine ⟨⟨by decide, by decide⟩, ?_⟩
      (conv => whnf)
      refine ⟨⟨by decide, by decide⟩, ?_⟩
      (conv => whnf)
      exact ⟨3, [], by decide, by decide, ⟨⟨rfl, rfl, rfl, rfl, rfl, rfl, eqI (by decide), trivial⟩, ⟨rfl, rfl, trivial⟩⟩⟩
    · (conv => whnf)
      exact ⟨k + 1, [], hlt, by omega, ⟨⟨rfl, rfl, rfl, rfl, rfl, eqI hkk, trivial⟩, ⟨rfl, by rw [hs]; rfl, trivial⟩⟩⟩
  · have hk : k = l.length := by simp at hlt; omega
    subst hk
    (conv => whnf)
    refine ret0 ?_
    exact ⟨[], ⟨rfl, trivial⟩, trivial⟩
theorem combineM_sum {l : List IV} {ws : List Int} (h : (combineM l ws).2.2 = true) : 1 ≤ (combineM l ws).2.1 := by
  unfold combineM at h ⊢
  split
  · rename_i c; exact c.2
  · rename_i c; rw [if_neg c] at h; cases h
/- overlaps -/
theorem ceil_pos (a b : Int) (ha : rg a) (hb : 1 ≤ b) : FnOk Tryz.prog F.ref1_Ceil [I a, I b] [] 0 (I (cel a b)) [] 0 := by
  by_cases h : b = 1
  · subst h
    have e : cel a 1 = a := by unfold cel; rw [Int.ediv_one]; omega
    rw [e]
    refine fnOk tab mix G.ref1_Ceil rfl rfl (by kernel_rfl) rfl rfl ?_
    (conv => whnf)
    refine ⟨by decide, ?_⟩
    (conv => whnf)
    refine ⟨by decide, ?_⟩
    (conv => whnf)
    refine ask_mf (by rw [Int.tmod_one]; decide) ?_
    (conv => whnf)
    refine ret0 ?_
    exact ret_i (by rw [Int.tdiv_one]; exact ww_id ha) rfl
  · exact ref1_Ceil a b ha (by omega)
def sz (x : Int) : Int := max x (ww (0 - x))
def mK (u v : Ival) (w : Int) : Int := cel (max (sz (ww (u.lo - v.hi))) (sz (ww (u.hi - v.lo)))) w
def exL (R : Int) : List Int → Int → Int × Bool
  | [], o => (o, true)
  | m :: ms, o => if R < m then (-1, true) else exL R ms (ww (o - ww (m * m)))
def oS (m0 m1 m2 o : Int) : Nat → Int
  | 0 => o
  | 1 => ww (o - ww (m0 * m0))
  | 2 => ww (ww (o - ww (m0 * m0)) - ww (m1 * m1))
  | _ => ww (ww (ww (o - ww (m0 * m0)) - ww (m1 * m1)) - ww (m2 * m2))
abbrev ExR (r : Int × Bool) : SV := .tup [(false, [.dv (.int .i64 r.1)]), (false, [.dv (.bool r.2)])]
set_option maxHeartbeats 2000000 in
theorem ref14_Excess (p q : List Int) (a : List IV) (ra : Int) (b : List IV) (rb : Int) (ha : Plc a) (hra : radB ra) (hb : Plc b) (hrb : radB rb) (hp : p.length = a.length) (hq : q.length = b.length) :
    ∃ r, FnOk Tryz.prog F.ref14_Excess [Li p, Li q, .one (.dv (dIVs a)), I ra, .one (.dv (dIVs b)), I rb] [] 0 (ExR r) [] 0 := by
  have hA := ref10_Combine a p ha hp
  have hB := ref10_Combine b q hb hq
  have sA := combineM_sum (l := a) (ws := p)
  generalize combineM a p = u at *
  generalize combineM b q = v at *
  obtain ⟨u, su, ku⟩ := u
  obtain ⟨v, sv, kv⟩ := v
  simp only at sA
  cases ku with
  | false =>
    refine ⟨(0, false), ?_⟩
    refine fnOk tab mix G.ref14_Excess rfl rfl (by kernel_rfl) rfl rfl ?_
    (conv => whnf)
    refine call_i (hA) ?_
    (conv => whnf)
    refine call_i (hB) ?_
    (conv => whnf)
    (conv => whnf)
    refine ret0 ?_
    exact ⟨[], ⟨rfl, trivial⟩, trivial⟩
  | true =>
  have sA := sA rfl
  cases kv with
  | false =>
    refine ⟨(0, false), ?_⟩
    refine fnOk tab mix G.ref14_Excess rfl rfl (by kernel_rfl) rfl rfl ?_
    (conv => whnf)
    refine call_i (hA) ?_
    (conv => whnf)
    refine call_i (hB) ?_
    (conv => whnf)
    (conv => whnf)
    refine ret0 ?_
    exact ⟨[], ⟨rfl, trivial⟩, trivial⟩
  | true =>
  by_cases hs : su = sv
  · subst hs
    obtain ⟨r, hr⟩ : ∃ r, exL (ww (ra + rb)) [mK u.x v.x su, mK u.y v.y su, mK u.z v.z su] (ww (ww (ra + rb) * ww (ra + rb))) = r := ⟨_, rfl⟩
    refine ⟨r, ?_⟩
    have rr : ∀ x y : Int, rg (max (sz (ww x)) (sz (ww y))) := fun x y => by
      have h1 := max_rg (ww_rg x); have h2 := max_rg (ww_rg y); unfold rg sz at *; omega
    refine fnOk tab mix G.ref14_Excess rfl rfl (by kernel_rfl) rfl rfl ?_
    (conv => whnf)
    refine call_i (hA) ?_
    (conv => whnf)
    refine call_i (hB) ?_
    (conv => whnf)
    refine ask_mf (by simp) ?_
    (conv => whnf)
    refine call_i (ref14_radius ra hra) ?_
    (conv => whnf)
    refine call_i (ref14_radius rb hrb) ?_
    (conv => whnf)
    refine loop_intro (fun k : Nat => ⟨[(3, I ra), (5, I rb), (14, .one (.vptr 0 0)), (15, I su), (17, .one (.vptr 1 0)), (20, I (oS (mK u.x v.x su) (mK u.y v.y su) (mK u.z v.z su) (ww (ww (ra + rb) * ww (ra + rb))) k)), (21, I k)], [(0, .vars Y.IVec (c6 u)), (1, .vars Y.IVec (c6 v))], 2⟩) (fun k => k ≤ 3 ∧ exL (ww (ra + rb)) ([mK u.x v.x su, mK u.y v.y su, mK u.z v.z su].drop k) (oS (mK u.x v.x su) (mK u.y v.y su) (mK u.z v.z su) (ww (ww (ra + rb) * ww (ra + rb))) k) = r) (fun k => 3 - k) [] 0 [] ⟨by decide, hr⟩ ⟨⟨rfl, rfl, rfl, rfl, rfl, rfl, rfl, trivial⟩, ⟨rfl, rfl, trivial⟩⟩ ?_
    rintro k ⟨hk, hr⟩
    obtain rfl | rfl | rfl | rfl : k = 0 ∨ k = 1 ∨ k = 2 ∨ k = 3 := by omega
    · (conv => whnf)
      refine ⟨⟨by decide, by decide⟩, ?_⟩
      (conv => whnf)
      refine ⟨⟨by decide, by decide⟩, ?_⟩
      (conv => whnf)
      refine call_i (ref14_size (ww (u.x.lo - v.x.hi))) ?_
      (conv => whnf)
      refine ⟨⟨by decide, by decide⟩, ?_⟩
      (conv => whnf)
      refine ⟨⟨by decide, by decide⟩, ?_⟩
      (conv => whnf)
      refine call_i (ref14_size (ww (u.x.hi - v.x.lo))) ?_
      (conv => whnf)
      refine call_i (ceil_pos (max (sz (ww (u.x.lo - v.x.hi))) (sz (ww (u.x.hi - v.x.lo)))) su (rr _ _) sA) ?_
      (conv => whnf)
      refine ask_m (fun hc => ?_) (fun hc => ?_)
      · have hc : ww (ra + rb) < mK u.x v.x su := of_decide_eq_true hc
        have hr : (-1, true) = r := by rw [← hr]; exact (if_pos hc).symm
        rw [← hr]
        (conv => whnf)
        refine ret0 ?_
        exact ⟨[], ⟨rfl, trivial⟩, trivial⟩
      · have hc : ¬ ww (ra + rb) < mK u.x v.x su := of_decide_eq_false hc
        have hr : exL (ww (ra + rb)) [mK u.y v.y su, mK u.z v.z su] (oS (mK u.x v.x su) (mK u.y v.y su) (mK u.z v.z su) (ww (ww (ra + rb) * ww (ra + rb))) 1) = r := by rw [← hr]; exact (if_neg hc).symm
        (conv => whnf)
        exact ⟨1, [], ⟨by decide, hr⟩, by decide, ⟨⟨rfl, rfl, rfl, rfl, rfl, rfl, eqI (by decide), trivial⟩, ⟨rfl, rfl, trivial⟩⟩⟩
    · (conv => whnf)
      refine ⟨⟨by decide, by decide⟩, ?_⟩
      (conv => whnf)
      refine ⟨⟨by decide, by decide⟩, ?_⟩
      (conv => whnf)
      refine call_i (ref14_size (ww (u.y.lo - v.y.hi))) ?_
      (conv => whnf)
      refine ⟨⟨by decide, by decide⟩, ?_⟩
      (conv => whnf)
      refine ⟨⟨by decide, by decide⟩, ?_⟩
      (conv => whnf)
      refine call_i (ref14_size (ww (u.y.hi - v.y.lo))) ?_
      (conv => whnf)
      refine call_i (ceil_pos (max (sz (ww (u.y.lo - v.y.hi))) (sz (ww (u.y.hi - v.y.lo)))) su (rr _ _) sA) ?_
      (conv => whnf)
      refine ask_m (fun hc => ?_) (fun hc => ?_)
      · have hc : ww (ra + rb) < mK u.y v.y su := of_decide_eq_true hc
        have hr : (-1, true) = r := by rw [← hr]; exact (if_pos hc).symm
        rw [← hr]
        (conv => whnf)
        refine ret0 ?_
        exact ⟨[], ⟨rfl, trivial⟩, trivial⟩
      · have hc : ¬ ww (ra + rb) < mK u.y v.y su := of_decide_eq_false hc
        have hr : exL (ww (ra + rb)) [mK u.z v.z su] (oS (mK u.x v.x su) (mK u.y v.y su) (mK u.z v.z su) (ww (ww (ra + rb) * ww (ra + rb))) 2) = r := by rw [← hr]; exact (if_neg hc).symm
        (conv => whnf)
        exact ⟨2, [], ⟨by decide, hr⟩, by decide, ⟨⟨rfl, rfl, rfl, rfl, rfl, rfl, eqI (by decide), trivial⟩, ⟨rfl, rfl, trivial⟩⟩⟩
    · (conv => whnf)
      refine ⟨⟨by decide, by decide⟩, ?_⟩
      (conv => whnf)
      refine ⟨⟨by decide, by decide⟩, ?_⟩
      (conv => whnf)
      refine call_i (ref14_size (ww (u.z.lo - v.z.hi))) ?_
      (conv => whnf)
      refine ⟨⟨by decide, by decide⟩, ?_⟩
      (conv => whnf)
      refine ⟨⟨by decide, by decide⟩, ?_⟩
      (conv => whnf)
      refine call_i (ref14_size (ww (u.z.hi - v.z.lo))) ?_
      (conv => whnf)
      refine call_i (ceil_pos (max (sz (ww (u.z.lo - v.z.hi))) (sz (ww (u.z.hi - v.z.lo)))) su (rr _ _) sA) ?_
      (conv => whnf)
      refine ask_m (fun hc => ?_) (fun hc => ?_)
      · have hc : ww (ra + rb) < mK u.z v.z su := of_decide_eq_true hc
        have hr : (-1, true) = r := by rw [← hr]; exact (if_pos hc).symm
        rw [← hr]
        (conv => whnf)
        refine ret0 ?_
        exact ⟨[], ⟨rfl, trivial⟩, trivial⟩
      · have hc : ¬ ww (ra + rb) < mK u.z v.z su := of_decide_eq_false hc
        have hr : exL (ww (ra + rb)) [] (oS (mK u.x v.x su) (mK u.y v.y su) (mK u.z v.z su) (ww (ww (ra + rb) * ww (ra + rb))) 3) = r := by rw [← hr]; exact (if_neg hc).symm
        (conv => whnf)
        exact ⟨3, [], ⟨by decide, hr⟩, by decide, ⟨⟨rfl, rfl, rfl, rfl, rfl, rfl, eqI (by decide), trivial⟩, ⟨rfl, rfl, trivial⟩⟩⟩
    · (conv => whnf)
      have hr : (oS (mK u.x v.x su) (mK u.y v.y su) (mK u.z v.z su) (ww (ww (ra + rb) * ww (ra + rb))) 3, true) = r := hr
      rw [← hr]
      (conv => whnf)
      refine ret0 ?_
      exact ⟨[], ⟨rfl, trivial⟩, trivial⟩
  · refine ⟨(0, false), ?_⟩
    refine fnOk tab mix G.ref14_Excess rfl rfl (by kernel_rfl) rfl rfl ?_
    (conv => whnf)
    refine call_i (hA) ?_
    (conv => whnf)
    refine call_i (hB) ?_
    (conv => whnf)
    refine ask_mt (by simp [hs]) ?_
    (conv => whnf)
    refine ret0 ?_
    exact ⟨[], ⟨rfl, trivial⟩, trivial⟩
theorem ref14_Overlaps (p q : List Int) (a : List IV) (ra : Int) (b : List IV) (rb : Int) (ha : Plc a) (hra : radB ra) (hb : Plc b) (hrb : radB rb) (hp : p.length = a.length) (hq : q.length = b.length) :
    ∃ r, FnOk Tryz.prog F.ref14_Overlaps [Li p, Li q, .one (.dv (dIVs a)), I ra, .one (.dv (dIVs b)), I rb] [] 0 (Bo r) [] 0 := by
  obtain ⟨⟨x, ok⟩, h⟩ := ref14_Excess p q a ra b rb ha hra hb hrb hp hq
  cases ok with
  | false =>
    refine ⟨false, ?_⟩
    refine fnOk tab mix G.ref14_Overlaps rfl rfl (by kernel_rfl) rfl rfl ?_
    (conv => whnf)
    refine call_i (h) ?_
    (conv => whnf)
    (conv => whnf)
    refine ret0 ?_
    exact ret_b rfl rfl
  | true =>
    refine ⟨decide (0 ≤ x), ?_⟩
    refine fnOk tab mix G.ref14_Overlaps rfl rfl (by kernel_rfl) rfl rfl ?_
    (conv => whnf)
    refine call_i (h) ?_
    (conv => whnf)
    (conv => whnf)
    refine ret0 ?_
    exact ret_b rfl rfl
end Go.Proofs.YthdbdokhncaijaaGreat

/- Nearest points: the walk of the reference's search. -/
namespace Go.Proofs.YthdbdokhncaijaaGreat
open Eng
set_option maxRecDepth 10000
attribute [local irreducible] FnOk loopW idxF retX arrF

structure Ne where
  kind : Int
  nrm : Vec
  left : List Int
  right : List Int
  steps : Int
abbrev NeC (r : Ne) : List CV := [.dv (.int .i64 r.kind), .dv (.int .i64 r.nrm.x), .dv (.int .i64 r.nrm.y), .dv (.int .i64 r.nrm.z), .dv (.lst 1 (r.left.map encI)), .dv (.lst 1 (r.right.map encI)), .dv (.int .i64 r.steps)]
structure Se where
  n : Vec
  L : List Int
  R : List Int
  k : Nat
def wOf (a b : List Vec) (s : Se) : Vec := minusM (sumTo a s.L a.length) (sumTo b s.R b.length)
def xOf (w : Vec) : Vec := ⟨ww (w.x.tdiv 65536), ww (w.y.tdiv 65536), ww (w.z.tdiv 65536)⟩
def iA (n : Vec) (a : List Vec) : Nat := exTo n a 1 a.length
def iB (n : Vec) (b : List Vec) : Nat := exTo n b (-1) b.length
def eOf (x p q : Vec) : Vec := minusM x (minusM p q)
def tOf (x e : Vec) : Int := min 256 (ww ((dot3 x e).tdiv (max 1 (ww ((dot3 e e).tdiv 256)))))
def stepM (a b : List Vec) (rho : Int) (s : Se) : Ne ⊕ Se :=
  if nearM (wOf a b s) rho = true then .inl ⟨2, s.n, s.L, s.R, s.k⟩
  else match nrmM (xOf (wOf a b s)) with
    | (n, false) => .inl ⟨0, n, s.L, s.R, s.k⟩
    | (n, true) =>
      if ww (normM n * rho) < ww (dot3 n (a.getD (iA n a) z3) - dot3 n (b.getD (iB n b) z3)) then .inl ⟨1, n, s.L, s.R, s.k⟩
      else if 64 ≤ s.k ∨ dot3 (xOf (wOf a b s)) (eOf (xOf (wOf a b s)) (a.getD (iA n a) z3) (b.getD (iB n b) z3)) ≤ 0 then .inl ⟨0, n, s.L, s.R, s.k⟩
      else if tOf (xOf (wOf a b s)) (eOf (xOf (wOf a b s)) (a.getD (iA n a) z3) (b.getD (iB n b) z3)) = 0 then .inl ⟨0, n, s.L, s.R, s.k⟩
      else .inr ⟨n, movedM s.L (tOf (xOf (wOf a b s)) (eOf (xOf (wOf a b s)) (a.getD (iA n a) z3) (b.getD (iB n b) z3))) (iA n a), movedM s.R (tOf (xOf (wOf a b s)) (eOf (xOf (wOf a b s)) (a.getD (iA n a) z3) (b.getD (iB n b) z3))) (iB n b), s.k + 1⟩
def srch (a b : List Vec) (rho : Int) : Nat → Se → Ne
  | 0, s => ⟨0, s.n, s.L, s.R, s.k⟩
  | f + 1, s => match stepM a b rho s with
    | .inl r => r
    | .inr s' => srch a b rho f s'
theorem step_len {a b : List Vec} {rho : Int} {s : Se} : (∀ r, stepM a b rho s = .inl r → r.left.length = s.L.length ∧ r.right.length = s.R.length) ∧ (∀ s', stepM a b rho s = .inr s' → s'.L.length = s.L.length ∧ s'.R.length = s.R.length) := by
  unfold stepM
  constructor
  · intro r h
    split at h
    · injection h with h; subst h; exact ⟨rfl, rfl⟩
    · split at h
      · injection h with h; subst h; exact ⟨rfl, rfl⟩
      · split at h
        · injection h with h; subst h; exact ⟨rfl, rfl⟩
        · split at h
          · injection h with h; subst h; exact ⟨rfl, rfl⟩
          · split at h
            · injection h with h; subst h; exact ⟨rfl, rfl⟩
            · cases h
  · intro r h
    split at h
    · cases h
    · split at h
      · cases h
      · split at h
        · cases h
        · split at h
          · cases h
          · split at h
            · cases h
            · injection h with h; subst h; exact ⟨movedM_len _ _ _, movedM_len _ _ _⟩
theorem srch_len {a b : List Vec} {rho : Int} : ∀ (f : Nat) (s : Se), (srch a b rho f s).left.length = s.L.length ∧ (srch a b rho f s).right.length = s.R.length
  | 0, s => ⟨rfl, rfl⟩
  | f + 1, s => by
    obtain ⟨h1, h2⟩ := step_len (a := a) (b := b) (rho := rho) (s := s)
    rw [srch]
    cases h : stepM a b rho s with
    | inl r => exact h1 r h
    | inr s' =>
      obtain ⟨e1, e2⟩ := h2 s' h
      obtain ⟨g1, g2⟩ := srch_len f s'
      exact ⟨g1.trans e1, g2.trans e2⟩
def ini (n : Nat) : List Int := (List.replicate n 0).set 0 65536
def searchM (a b : List Vec) (rho : Int) : Ne := srch a b rho 65 ⟨z3, ini a.length, ini b.length, 0⟩
theorem searchM_len (a b : List Vec) (rho : Int) : (searchM a b rho).left.length = a.length ∧ (searchM a b rho).right.length = b.length := by
  obtain ⟨h1, h2⟩ := srch_len (a := a) (b := b) (rho := rho) 65 ⟨z3, ini a.length, ini b.length, 0⟩
  exact ⟨h1.trans (by simp [ini]), h2.trans (by simp [ini])⟩
set_option maxHeartbeats 4000000 in
theorem ref14_Search (a b : List Vec) (rho : Int) (ha : Few a) (hb : Few b) (hr : 0 ≤ rho ∧ rho ≤ 2097152) : FnOk Tryz.prog F.ref14_Search [.one (.dv (dVs a)), .one (.dv (dVs b)), I rho, I 64] [] 0 (.agg (NeC (searchM a b rho))) [] 0 := by
  have a1 := ha.one
  have a8 := ha.few
  have b1 := hb.one
  have b8 := hb.few
  refine fnOk tab mix G.ref14_Search rfl rfl (by kernel_rfl) rfl rfl ?_
  (conv => whnf)
  refine call_i (ref14_few a ha) ?_
  (conv => whnf)
  refine call_i (ref14_few b hb) ?_
  (conv => whnf)
  refine ask_mf (show decide (rho < 0) = false from decide_eq_false (by omega)) ?_
  (conv => whnf)
  refine ask_mf (show decide (2097152 < rho) = false from decide_eq_false (by omega)) ?_
  (conv => whnf)
  refine ⟨⟨by simp, by simp, by simp; omega, by simp; omega⟩, ?_⟩
  (conv => whnf)
  refine ⟨⟨by simp, by simp, by simp; omega, by simp; omega⟩, ?_⟩
  (conv => whnf)
  refine ⟨⟨by decide, by simp; omega⟩, ?_⟩
  (conv => whnf)
  refine idx_at (r := [.int .i64 0]) (by rw [List.getElem?_replicate, if_pos (by simp; omega)]) ?_
  (conv => whnf)
  refine ⟨⟨by decide, by simp; omega⟩, ?_⟩
  (conv => whnf)
  refine idx_at (r := [.int .i64 0]) (by rw [List.getElem?_replicate, if_pos (by simp; omega)]) ?_
  (conv => whnf)
  have hini : ∀ l : List Vec, ((List.replicate (((l.map encV).length : Nat) : Int).toNat [DV.int .i64 0]).set (Int.toNat 0) [.int .i64 65536]) = (ini l.length).map encI := fun l => by
    rw [ini, List.map_set, List.map_replicate]; simp [encI]
  obtain ⟨l1, l2⟩ := searchM_len a b rho
  obtain ⟨r, hres⟩ : ∃ r, searchM a b rho = r := ⟨_, rfl⟩
  rw [hres]
  refine loop_intro (fun s : Se => ⟨[(0, .one (.dv (dVs a))), (1, .one (.dv (dVs b))), (2, I rho), (3, I 64), (8, .one (.vptr 0 0)), (9, .one (.vptr 3 0))], [(0, .vars Y.Nearest [.dv (.int .i64 0), .dv (.int .i64 0), .dv (.int .i64 0), .dv (.int .i64 0), .nil 1, .nil 1, .dv (.int .i64 0)]), (3, .vars Y.Nearest [.dv (.int .i64 0), .dv (.int .i64 s.n.x), .dv (.int .i64 s.n.y), .dv (.int .i64 s.n.z), .dv (.lst 1 (s.L.map encI)), .dv (.lst 1 (s.R.map encI)), .dv (.int .i64 s.k)])], 4⟩) (fun s => s.k ≤ 64 ∧ s.L.length = a.length ∧ s.R.length = b.length ∧ srch a b rho (65 - s.k) s = r) (fun s => 64 - s.k) [.frz 1, .frz 2] ⟨z3, ini a.length, ini b.length, 0⟩ [] ⟨Nat.zero_le _, by simp [ini], by simp [ini], hres⟩ ⟨⟨rfl, rfl, rfl, rfl, rfl, rfl, trivial⟩, ⟨rfl, ?_, trivial⟩⟩ ?_
  · rw [← hini a, ← hini b]; rfl
  rintro s ⟨hk, hL, hR, e⟩
  have hkk : IntKind.i64.wrap ((s.k : Int) + 1) = ((s.k + 1 : Nat) : Int) := by rw [w64] <;> omega
  rw [show 65 - s.k = (64 - s.k) + 1 by omega, srch] at e
  have hwr : rgV (wOf a b s) := ⟨ww_rg _, ww_rg _, ww_rg _⟩
  have hxr : rgV (xOf (wOf a b s)) := ⟨ww_rg _, ww_rg _, ww_rg _⟩
  have hst : stepM a b rho s = stepM a b rho s := rfl
  conv at hst => rhs; unfold stepM
  (conv => whnf)
  refine call_i (ref14_Sum a s.L (by omega) hL) ?_
  (conv => whnf)
  refine call_i (ref14_Sum b s.R (by omega) hR) ?_
  (conv => whnf)
  refine call_i (ref14_minus (sumTo a s.L a.length) (sumTo b s.R b.length)) ?_
  (conv => whnf)
  refine call_i (ref14_near (wOf a b s) rho hwr) ?_
  (conv => whnf)
  refine ask_m (fun hn => ?_) (fun hn => ?_)
  · have hn : nearM (wOf a b s) rho = true := hn
    rw [if_pos hn] at hst
    rw [hst] at e
    have e : (⟨2, s.n, s.L, s.R, s.k⟩ : Ne) = r := e
    rw [← e]
    (conv => whnf)
    refine ret0 ?_
    exact ⟨[], ⟨rfl, trivial⟩, trivial⟩
  have hn : ¬ nearM (wOf a b s) rho = true := by rw [show nearM (wOf a b s) rho = false from hn]; decide
  rw [if_neg hn] at hst
  (conv => whnf)
  refine ⟨⟨by decide, by decide⟩, ?_⟩
  (conv => whnf)
  refine ⟨by decide, ?_⟩
  (conv => whnf)
  refine ⟨⟨by decide, by decide⟩, ?_⟩
  (conv => whnf)
  refine ⟨by decide, ?_⟩
  (conv => whnf)
  refine ⟨⟨by decide, by decide⟩, ?_⟩
  (conv => whnf)
  refine ⟨by decide, ?_⟩
  (conv => whnf)
  have hN := ref10_Normal (xOf (wOf a b s)) hxr
  obtain ⟨⟨n, ok⟩, hnr⟩ : ∃ p, nrmM (xOf (wOf a b s)) = p := ⟨_, rfl⟩
  rw [hnr] at hN hst
  refine call_i (hN) ?_
  (conv => whnf)
  cases ok with
  | false =>
    simp only at hst
    rw [hst] at e
    have e : (⟨0, n, s.L, s.R, s.k⟩ : Ne) = r := e
    rw [← e]
    (conv => whnf)
    (conv => whnf)
    refine ret0 ?_
    exact ⟨[], ⟨rfl, trivial⟩, trivial⟩
  | true =>
  simp only at hst
  have hA := exTo_lt n a 1 a.length (by omega) (Nat.le_refl _)
  have hB := exTo_lt n b (-1) b.length (by omega) (Nat.le_refl _)
  obtain ⟨pa, hpa⟩ : ∃ v, a[iA n a]? = some v := ⟨_, List.getElem?_eq_getElem hA⟩
  obtain ⟨pb, hpb⟩ : ∃ v, b[iB n b]? = some v := ⟨_, List.getElem?_eq_getElem hB⟩
  rw [getD_at hpa, getD_at hpb] at hst
  (conv => whnf)
  refine call_i (ref14_Extreme n a 1 (by omega) (by omega)) ?_
  (conv => whnf)
  refine call_i (ref14_Extreme n b (-1) (by omega) (by omega)) ?_
  (conv => whnf)
  refine idx_and (by omega) (x := pa) (by rw [Int.toNat_natCast]; exact hpa) ?_
  (conv => whnf)
  refine call_i (ref14_dot n pa) ?_
  (conv => whnf)
  refine idx_and (by omega) (x := pb) (by rw [Int.toNat_natCast]; exact hpb) ?_
  (conv => whnf)
  refine call_i (ref14_dot n pb) ?_
  (conv => whnf)
  refine call_i (ref10_Norm n) ?_
  (conv => whnf)
  refine ask_m (fun h1 => ?_) (fun h1 => ?_)
  · have h1 : ww (normM n * rho) < ww (dot3 n pa - dot3 n pb) := of_decide_eq_true h1
    rw [if_pos h1] at hst
    rw [hst] at e
    have e : (⟨1, n, s.L, s.R, s.k⟩ : Ne) = r := e
    rw [← e]
    (conv => whnf)
    refine ret0 ?_
    exact ⟨[], ⟨rfl, trivial⟩, trivial⟩
  have h1 : ¬ ww (normM n * rho) < ww (dot3 n pa - dot3 n pb) := of_decide_eq_false h1
  rw [if_neg h1] at hst
  (conv => whnf)
  refine idx_and (by omega) (x := pa) (by rw [Int.toNat_natCast]; exact hpa) ?_
  (conv => whnf)
  refine idx_and (by omega) (x := pb) (by rw [Int.toNat_natCast]; exact hpb) ?_
  (conv => whnf)
  refine call_i (ref14_minus pa pb) ?_
  (conv => whnf)
  refine call_i (ref14_minus (xOf (wOf a b s)) (minusM pa pb)) ?_
  (conv => whnf)
  refine call_i (ref14_dot (xOf (wOf a b s)) (eOf (xOf (wOf a b s)) pa pb)) ?_
  (conv => whnf)
  refine call_i (ref14_dot (eOf (xOf (wOf a b s)) pa pb) (eOf (xOf (wOf a b s)) pa pb)) ?_
  (conv => whnf)
  cases h2 : decide ((64 : Int) ≤ (s.k : Int)) with
  | true =>
    have h2' : 64 ≤ s.k := by have := of_decide_eq_true h2; omega
    rw [if_pos (.inl h2')] at hst
    rw [hst] at e
    have e : (⟨0, n, s.L, s.R, s.k⟩ : Ne) = r := e
    rw [← e]
    (conv => whnf)
    (conv => whnf)
    refine ret0 ?_
    exact ⟨[], ⟨rfl, trivial⟩, trivial⟩
  | false =>
  have h2' : ¬ 64 ≤ s.k := by have := of_decide_eq_false h2; omega
  (conv => whnf)
  refine ask_m (fun h3 => ?_) (fun h3 => ?_)
  · have h3 : dot3 (xOf (wOf a b s)) (eOf (xOf (wOf a b s)) pa pb) ≤ 0 := of_decide_eq_true h3
    rw [if_pos (.inr h3)] at hst
    rw [hst] at e
    have e : (⟨0, n, s.L, s.R, s.k⟩ : Ne) = r := e
    rw [← e]
    (conv => whnf)
    refine ret0 ?_
    exact ⟨[], ⟨rfl, trivial⟩, trivial⟩
  have h3 : ¬ dot3 (xOf (wOf a b s)) (eOf (xOf (wOf a b s)) pa pb) ≤ 0 := of_decide_eq_false h3
  rw [if_neg (fun q => q.elim h2' h3)] at hst
  (conv => whnf)
  refine ⟨by decide, ?_⟩
  (conv => whnf)
  refine ⟨(show max 1 (ww ((dot3 (eOf (xOf (wOf a b s)) pa pb) (eOf (xOf (wOf a b s)) pa pb)).tdiv 256)) ≠ 0 by omega), ?_⟩
  (conv => whnf)
  refine ask_m (fun h4 => ?_) (fun h4 => ?_)
  · have h4 : tOf (xOf (wOf a b s)) (eOf (xOf (wOf a b s)) pa pb) = 0 := by
      have h4 : (tOf (xOf (wOf a b s)) (eOf (xOf (wOf a b s)) pa pb) == 0) = true := h4
      simpa using h4
    rw [if_pos h4] at hst
    rw [hst] at e
    have e : (⟨0, n, s.L, s.R, s.k⟩ : Ne) = r := e
    rw [← e]
    (conv => whnf)
    refine ret0 ?_
    exact ⟨[], ⟨rfl, trivial⟩, trivial⟩
  have h4 : ¬ tOf (xOf (wOf a b s)) (eOf (xOf (wOf a b s)) pa pb) = 0 := by
    have h4 : (tOf (xOf (wOf a b s)) (eOf (xOf (wOf a b s)) pa pb) == 0) = false := h4
    simpa using h4
  rw [if_neg h4] at hst
  rw [hst] at e
  have e : srch a b rho (64 - s.k) ⟨n, movedM s.L (tOf (xOf (wOf a b s)) (eOf (xOf (wOf a b s)) pa pb)) (iA n a), movedM s.R (tOf (xOf (wOf a b s)) (eOf (xOf (wOf a b s)) pa pb)) (iB n b), s.k + 1⟩ = r := e
  (conv => whnf)
  refine call_i (ref14_Moved s.L (tOf (xOf (wOf a b s)) (eOf (xOf (wOf a b s)) pa pb)) (iA n a) (by omega) (by unfold iA; omega)) ?_
  (conv => whnf)
  refine call_i (ref14_Moved s.R (tOf (xOf (wOf a b s)) (eOf (xOf (wOf a b s)) pa pb)) (iB n b) (by omega) (by unfold iB; omega)) ?_
  (conv => whnf)
  exact ⟨⟨n, movedM s.L (tOf (xOf (wOf a b s)) (eOf (xOf (wOf a b s)) pa pb)) (iA n a), movedM s.R (tOf (xOf (wOf a b s)) (eOf (xOf (wOf a b s)) pa pb)) (iB n b), s.k + 1⟩, [], ⟨by simp only; omega, by rw [movedM_len]; exact hL, by rw [movedM_len]; exact hR, by rw [show 65 - (s.k + 1) = 64 - s.k by omega]; exact e⟩, by simp only; omega, ⟨⟨rfl, rfl, rfl, rfl, rfl, rfl, trivial⟩, ⟨rfl, by rw [← hkk]; rfl, trivial⟩⟩⟩
end Go.Proofs.YthdbdokhncaijaaGreat

/- law35: the numbers of a part's pairs. -/
namespace Go.Proofs.YthdbdokhncaijaaGreat
open Eng
set_option maxRecDepth 10000
attribute [local irreducible] FnOk loopW idxF retX arrF

abbrev dPas (l : List Pair) : DV := .lst 2 (l.map encPa)
theorem cmp_Pair : cmpB Tryz.prog 8 Y.Pair = true ∧ Tryz.prog.eqGuardType Tryz.prog.depth Y.Pair = false := ⟨by kernel_rfl, by kernel_rfl⟩
theorem slices_Index (l : List Pair) (q : Pair) (hl : l.length ≤ 4611686018427387904) : FnOk Tryz.prog F.slices_Index_sapi_Pair_api_Pair [.one (.dv (dPas l)), .agg [.dv (.int .i64 q.a), .dv (.int .i64 q.b)]] [] 0 (I (idxP q l 0)) [] 0 := by
  refine fnOk tab mix G.slices_Index_sapi_Pair_api_Pair rfl rfl (by kernel_rfl) rfl rfl ?_
  (conv => whnf)
  refine loop_intro (fun k : Nat => ⟨[(0, .one (.dv (dPas l))), (3, .one (.vptr 0 0)), (7, I l.length), (8, I k)], [(0, .vars Y.Pair [.dv (.int .i64 q.a), .dv (.int .i64 q.b)])], 1⟩) (fun k => k ≤ l.length ∧ idxP q (l.drop k) k = idxP q l 0) (fun k => l.length - k) [] 0 [] ⟨Nat.zero_le _, rfl⟩ ⟨⟨rfl, rfl, eqI (by simp), rfl, trivial⟩, ⟨rfl, trivial⟩⟩ ?_
  rintro k ⟨hk, hf⟩
  have hkk : IntKind.i64.wrap ((k : Int) + 1) = ((k + 1 : Nat) : Int) := by rw [w64] <;> omega
  (conv => whnf)
  refine ask_m (fun hlt => ?_) (fun hlt => ?_)
  · have hlt : k < l.length := by have := of_decide_eq_true hlt; omega
    obtain ⟨x, hx⟩ : ∃ x, l[k]? = some x := ⟨_, List.getElem?_eq_getElem hlt⟩
    rw [drop_cons hx, idxP] at hf
    (conv => whnf)
    refine idx_and (by omega) (by simpa using hx) ?_
    (conv => whnf)
    refine ⟨cmp_Pair, ?_⟩
    (conv => whnf)
    refine ask_m (fun h => ?_) (fun h => ?_)
    · have e : x = q := by
        obtain ⟨a1, a2⟩ := x
        obtain ⟨b1, b2⟩ := q
        simp at h; simp [h]
      rw [if_pos e] at hf
      (conv => whnf)
      refine ret0 ?_
      exact ret_i hf rfl
    · have e : ¬ x = q := by rintro rfl; simp at h
      rw [if_neg e] at hf
      (conv => whnf)
      exact ⟨k + 1, [], ⟨hlt, hf⟩, by omega, ⟨⟨rfl, rfl, rfl, eqI hkk, trivial⟩, ⟨rfl, trivial⟩⟩⟩
  · have hk : k = l.length := by have := of_decide_eq_false hlt; omega
    subst hk
    rw [List.drop_length, idxP] at hf
    (conv => whnf)
    refine ret0 ?_
    exact ret_i hf rfl
theorem team_inner (l : List Scene) (P : List Pair) (k : Nat) (s : Scene) (hl : l.length ≤ 1000) (hs : l[k]? = some s) (hok : ∀ s ∈ l, checkScene s = 0) (hP : P.length ≤ 1000) : FnOk Tryz.prog F.team_inner [.one (.dv (dScs l)), .one (.dv (dPas P)), I k] [] 0 (Li ((pairs s).map fun q => idxP (up (nSh l k) q) P 0)) [] 0 := by
  have hk : k < l.length := (List.getElem?_eq_some_iff.1 hs).1
  have hbd := nSh_bd hok
  have hsm : small s := by
    have h0 := hok s (List.mem_of_getElem? hs)
    obtain ⟨f1, f2, f3, f4, _⟩ := scene_facts h0
    obtain ⟨r1, r2, _⟩ := robot_facts f1
    exact ⟨by omega, by omega, by omega, by omega, fun x hx => by have := (f3 x hx).2.2.1; omega⟩
  refine fnOk tab mix G.team_inner rfl rfl (by kernel_rfl) rfl rfl ?_
  (conv => whnf)
  refine ⟨⟨by omega, by simp only [List.length_map]; omega⟩, ?_⟩
  (conv => whnf)
  have et : List.drop 0 (List.take (k : Int).toNat (List.map encSc l)) = (l.take k).map encSc := by rw [Int.toNat_natCast, List.map_take]; rfl
  have el : (((l.take k).map encSc).length : Int) = (k : Int) := by rw [List.length_map, List.length_take]; omega
  rw [et]
  refine loop_intro (fun i : Nat => ⟨[(0, .one (.dv (dScs l))), (1, .one (.dv (dPas P))), (2, I k), (7, I (nSh l i)), (15, .one (.dv (dScs (l.take k)))), (16, I k), (17, I i)], [], 0⟩) (fun i => i ≤ k) (fun i => k - i) [] 0 [] (Nat.zero_le _) ⟨⟨rfl, rfl, rfl, rfl, rfl, eqI el, rfl, trivial⟩, trivial⟩ ?_
  rintro i hi
  have hii : IntKind.i64.wrap ((i : Int) + 1) = ((i + 1 : Nat) : Int) := by rw [w64] <;> omega
  have hb1 := hbd i (by omega)
  (conv => whnf)
  refine ask_m (fun hlt => ?_) (fun hlt => ?_)
  · have hlt : i < k := by have := of_decide_eq_true hlt; omega
    obtain ⟨x, hx⟩ : ∃ x, l[i]? = some x := ⟨_, List.getElem?_eq_getElem (by omega)⟩
    have hx' : (l.take k)[i]? = some x := by rw [List.getElem?_take_of_lt hlt]; exact hx
    have hb2 := hbd (i + 1) (by omega)
    have hn := nSh_succ hx
    (conv => whnf)
    refine idx_and (by omega) (by simpa using hx') ?_
    (conv => whnf)
    refine ⟨i + 1, [], hlt, by omega, ⟨⟨rfl, rfl, rfl, eqI ?_, rfl, rfl, eqI hii, trivial⟩, trivial⟩⟩
    rw [List.length_map, w64] <;> omega
  · have hi : i = k := by have := of_decide_eq_false hlt; omega
    subst hi
    have hpf := pairs_few s
    have hub := fun q => up_bd (hok s (List.mem_of_getElem? hs)) (q := q)
    (conv => whnf)
    refine idx_and (by omega) (by simpa using hs) ?_
    (conv => whnf)
    refine call_i (scene_Pairs s hsm) ?_
    (conv => whnf)
    generalize pairs s = Q at *
    refine loop_intro (fun j : Nat => ⟨[(1, .one (.dv (dPas P))), (7, I (nSh l i)), (10, .one (.row 1)), (31, .one (.row 0)), (32, I Q.length), (33, I j)], [(0, bPa Q), (1, .rows Y.int 1 (((Q.take j).map fun q => idxP (up (nSh l i) q) P 0).map encI))], 2⟩) (fun j => j ≤ Q.length) (fun j => Q.length - j) [.own 10 Y.int 1] 0 [] (Nat.zero_le _) ⟨⟨rfl, rfl, rfl, rfl, eqI (by simp), rfl, trivial⟩, ⟨rfl, rfl, trivial⟩⟩ ?_
    rintro j hj
    have hjj : IntKind.i64.wrap ((j : Int) + 1) = ((j + 1 : Nat) : Int) := by rw [w64] <;> omega
    (conv => whnf)
    refine ask_m (fun hjl => ?_) (fun hjl => ?_)
    · have hjl : j < Q.length := by have := of_decide_eq_true hjl; omega
      obtain ⟨q, hq⟩ : ∃ x, Q[j]? = some x := ⟨_, List.getElem?_eq_getElem hjl⟩
      obtain ⟨u1, u2, u3, u4⟩ := hub q (List.mem_of_getElem? hq)
      have e1 : IntKind.i64.wrap (q.a + (nSh l i : Int)) = q.a + nSh l i := by rw [w64] <;> omega
      have e2 : IntKind.i64.wrap (q.b + (nSh l i : Int)) = q.b + nSh l i := by rw [w64] <;> omega
      (conv => whnf)
      refine ⟨⟨by omega, by simp only [List.length_map]; omega⟩, ?_⟩
      (conv => whnf)
      refine idx_map (x := q) (by simpa using hq) ?_
      (conv => whnf)
      rw [e1, e2]
      refine call_i (slices_Index P (up (nSh l i) q) (by omega)) ?_
      (conv => whnf)
      refine ⟨⟨by simp; omega, by simp; omega⟩, ?_⟩
      (conv => whnf)
      refine ⟨j + 1, [(1, 4)], hjl, by omega, ⟨⟨rfl, rfl, rfl, rfl, rfl, eqI hjj, trivial⟩, ⟨rfl, rows_eq ?_, trivial⟩⟩⟩
      rw [List.take_add_one, hq]; simp [encI]
    · have hj : j = Q.length := by have := of_decide_eq_false hjl; omega
      subst hj
      rw [List.take_length]
      (conv => whnf)
      refine retO [.frz 1] ?_
      (conv => whnf)
      exact ⟨[], ⟨rfl, trivial⟩, trivial⟩
end Go.Proofs.YthdbdokhncaijaaGreat

/- Candidates, found normals, and the sides of the pairs: the walks. -/
namespace Go.Proofs.YthdbdokhncaijaaGreat
open Eng
set_option maxRecDepth 10000
attribute [local irreducible] FnOk loopW idxF retX arrF

def meanN (a b : List IV) : Vec × Bool := nrmM (meanV (centers a) (centers b))
def seaN (a : List IV) (ra : Int) (b : List IV) (rb : Int) : Ne := searchM (centers a) (centers b) (ww (ra + rb))
def candM (a : List IV) (ra : Int) (b : List IV) (rb : Int) : List Vec := (if (meanN a b).2 = true then [(meanN a b).1] else []) ++ axes ++ (if usable (seaN a ra b rb).nrm = true then [(seaN a ra b rb).nrm] else [])
theorem candM_len (a : List IV) (ra : Int) (b : List IV) (rb : Int) : (candM a ra b rb).length ≤ 8 := by
  unfold candM; split <;> split <;> simp [axes]
theorem rho_ok {ra rb : Int} (hra : radB ra) (hrb : radB rb) : 0 ≤ ww (ra + rb) ∧ ww (ra + rb) ≤ 2097152 := by
  unfold radB at *; rw [ww_id (by unfold rg; omega)]; omega
set_option maxHeartbeats 1000000 in
theorem ref14_Candidates (a : List IV) (ra : Int) (b : List IV) (rb : Int) (ha : Plc a) (hra : radB ra) (hb : Plc b) (hrb : radB rb) : FnOk Tryz.prog F.ref14_Candidates [.one (.dv (dIVs a)), I ra, .one (.dv (dIVs b)), I rb, .one (.dv (dVs []))] [] 0 (.one (.dv (dVs (candM a ra b rb)))) [] 0 := by
  have hM := ref14_Mean a b ha hb
  have hS := ref14_Search (centers a) (centers b) (ww (ra + rb)) (centers_few ha) (centers_few hb) (rho_ok hra hrb)
  have hU := ref10_Usable (seaN a ra b rb).nrm
  obtain ⟨⟨m, mk⟩, hm⟩ : ∃ p, nrmM (meanV (centers a) (centers b)) = p := ⟨_, rfl⟩
  have e : candM a ra b rb = (if mk = true then [m] else []) ++ axes ++ (if usable (seaN a ra b rb).nrm = true then [(seaN a ra b rb).nrm] else []) := by rw [candM, meanN, hm]
  rw [hm] at hM
  rw [e]
  have hS : FnOk Tryz.prog F.ref14_Search [.one (.dv (dVs (centers a))), .one (.dv (dVs (centers b))), I (ww (ra + rb)), I 64] [] 0 (.agg (NeC (seaN a ra b rb))) [] 0 := hS
  generalize seaN a ra b rb = S at *
  obtain ⟨s1, sn, s3, s4, s5⟩ := S
  refine fnOk tab mix G.ref14_Candidates rfl rfl (by kernel_rfl) rfl rfl ?_
  (conv => whnf)
  refine call_i (ref10_Placed a ha) ?_
  (conv => whnf)
  refine call_i (ref10_Placed b hb) ?_
  (conv => whnf)
  refine call_i (ref14_radius ra hra) ?_
  (conv => whnf)
  refine call_i (ref14_radius rb hrb) ?_
  (conv => whnf)
  refine loop_intro (fun k : Nat => ⟨[(0, .one (.dv (dIVs a))), (1, I ra), (2, .one (.dv (dIVs b))), (3, I rb), (4, .one (.dv (dVs []))), (11, .one (.row 0)), (12, I k)], [(0, .rows Y.Vec 3 [])], 1⟩) (fun _ => True) (fun _ => 0) [.own 11 Y.Vec 3] 0 [] trivial ⟨⟨rfl, rfl, rfl, rfl, rfl, rfl, rfl, trivial⟩, ⟨rfl, trivial⟩⟩ ?_
  rintro k _
  (conv => whnf)
  refine call_i (hM) ?_
  (conv => whnf)
  cases mk with
  | true =>
    (conv => whnf)
    refine ⟨⟨by simp, by simp⟩, ?_⟩
    (conv => whnf)
    refine call_i (ref14_Axes) ?_
    (conv => whnf)
    refine ⟨⟨by simp [axes], by simp [axes]⟩, ?_⟩
    (conv => whnf)
    refine call_i (ref10_Centers a ha) ?_
    (conv => whnf)
    refine call_i (ref10_Centers b hb) ?_
    (conv => whnf)
    refine call_i (hS) ?_
    (conv => whnf)
    refine call_i (hU) ?_
    (conv => whnf)
    cases usable sn with
    | true =>
      (conv => whnf)
      refine ⟨⟨by simp [axes], by simp [axes]⟩, ?_⟩
      (conv => whnf)
      (conv => whnf)
      refine retO [.frz 7] ?_
      (conv => whnf)
      exact ⟨[], ⟨rfl, trivial⟩, trivial⟩
    | false =>
      (conv => whnf)
      (conv => whnf)
      refine retO [.frz 4] ?_
      (conv => whnf)
      exact ⟨[], ⟨rfl, trivial⟩, trivial⟩
  | false =>
    (conv => whnf)
    refine call_i (ref14_Axes) ?_
    (conv => whnf)
    refine ⟨⟨by simp [axes], by simp [axes]⟩, ?_⟩
    (conv => whnf)
    refine call_i (ref10_Centers a ha) ?_
    (conv => whnf)
    refine call_i (ref10_Centers b hb) ?_
    (conv => whnf)
    refine call_i (hS) ?_
    (conv => whnf)
    refine call_i (hU) ?_
    (conv => whnf)
    cases usable sn with
    | true =>
      (conv => whnf)
      refine ⟨⟨by simp [axes], by simp [axes]⟩, ?_⟩
      (conv => whnf)
      (conv => whnf)
      refine retO [.frz 5] ?_
      (conv => whnf)
      exact ⟨[], ⟨rfl, trivial⟩, trivial⟩
    | false =>
      (conv => whnf)
      (conv => whnf)
      refine retO [.frz 2] ?_
      (conv => whnf)
      exact ⟨[], ⟨rfl, trivial⟩, trivial⟩
def findM (a : List IV) (ra : Int) (b : List IV) (rb : Int) : Vec × Bool :=
  if (firstM (candM a ra b rb) a ra b rb (candM a ra b rb).length 0).2 = true then ((candM a ra b rb).getD (firstM (candM a ra b rb) a ra b rb (candM a ra b rb).length 0).1.toNat z3, true) else (z3, false)
theorem findM_sep {a : List IV} {ra : Int} {b : List IV} {rb : Int} (h : (findM a ra b rb).2 = true) : sepB (findM a ra b rb).1 a ra b rb = true := by
  unfold findM at h ⊢
  split at h
  · rename_i c
    rw [if_pos c]
    obtain ⟨j, _, _, h3, h4⟩ := first_sep _ _ c
    rw [h3, Int.toNat_natCast]; exact h4
  · cases h
theorem ref14_FindNormal (a : List IV) (ra : Int) (b : List IV) (rb : Int) (ha : Plc a) (hra : radB ra) (hb : Plc b) (hrb : radB rb) : FnOk Tryz.prog F.ref14_FindNormal [.one (.dv (dIVs a)), I ra, .one (.dv (dIVs b)), I rb, .one (.dv (dVs []))] [] 0 (VeB (findM a ra b rb)) [] 0 := by
  have hl := candM_len a ra b rb
  have hC := ref14_Candidates a ra b rb ha hra hb hrb
  have hF := ref14_First (candM a ra b rb) a ra b rb (by omega) ha hra hb hrb
  have hs := first_sep (l := candM a ra b rb) (a := a) (ra := ra) (b := b) (rb := rb) (candM a ra b rb).length 0
  unfold findM
  generalize candM a ra b rb = c at *
  generalize firstM c a ra b rb c.length 0 = f at *
  obtain ⟨f1, f2⟩ := f
  cases f2 with
  | false =>
    rw [if_neg (by simp)]
    refine fnOk tab mix G.ref14_FindNormal rfl rfl (by kernel_rfl) rfl rfl ?_
    (conv => whnf)
    refine call_i (hC) ?_
    (conv => whnf)
    refine call_i (hF) ?_
    (conv => whnf)
    (conv => whnf)
    refine ret0 ?_
    exact ⟨[], ⟨rfl, trivial⟩, trivial⟩
  | true =>
    rw [if_pos rfl]
    obtain ⟨j, _, h2, h3, _⟩ := hs rfl
    simp only at h3
    subst h3
    obtain ⟨v, hv⟩ : ∃ v, c[j]? = some v := ⟨_, List.getElem?_eq_getElem (by omega)⟩
    rw [Int.toNat_natCast, getD_at hv]
    refine fnOk tab mix G.ref14_FindNormal rfl rfl (by kernel_rfl) rfl rfl ?_
    (conv => whnf)
    refine call_i (hC) ?_
    (conv => whnf)
    refine call_i (hF) ?_
    (conv => whnf)
    refine idx_and (by omega) (x := v) (by rw [Int.toNat_natCast]; exact hv) ?_
    (conv => whnf)
    (conv => whnf)
    refine ret0 ?_
    exact ⟨[], ⟨rfl, trivial⟩, trivial⟩
/- sides -/
structure Sd where
  pts : List IV
  rad : Int
def encSd (s : Sd) : List DV := [dIVs s.pts, .int .i64 s.rad]
def sdOf (s : Scene) (P : List (List IV)) (i : Nat) : Sd := ⟨P.getD i [], (s.shapes.getD i ⟨0, 0, []⟩).radius⟩
def sA (s : Scene) (P : List (List IV)) : List Sd := (pairs s).map fun q => sdOf s P q.a.toNat
def sB (s : Scene) (P : List (List IV)) : List Sd := (pairs s).map fun q => sdOf s P q.b.toNat
set_option maxHeartbeats 1000000 in
theorem ref14_sides (s : Scene) (box : List Ival) (hc : checkScene s = 0) (hb : isBox s.robot box = true) : FnOk Tryz.prog F.ref14_sides [Sc s, .one (.dv (dIvs box))] [] 0 (.tup [(false, [.dv (.lst 2 ((sA s (pointsOf s box)).map encSd))]), (false, [.dv (.lst 2 ((sB s (pointsOf s box)).map encSd))]), (false, [.dv (.bool true)])]) [] 0 := by
  have hbl : box.length = s.robot.joints.length := by
    unfold isBox at hb; simp only [Bool.and_eq_true, decide_eq_true_eq] at hb; exact hb.1
  have f1 := (robot_facts (scene_facts hc).1).1
  have hPl := pointsOf_len hc hb
  have hub := fun q => up_bd hc (q := q)
  have hpm : ∀ q ∈ pairs s, ∃ i j : Nat, i < s.shapes.length ∧ j < s.shapes.length ∧ q = ⟨i, j⟩ := fun q hq => by
    obtain ⟨i, j, h1, h2, _, h4⟩ := pairs_mem hq; exact ⟨i, j, h1, h2, h4⟩
  have hpf := pairs_few s
  unfold sA sB
  refine fnOkG [(6, [.frz 1])] tab mix G.ref14_sides rfl rfl (by kernel_rfl) rfl rfl ?_
  (conv => whnf)
  refine call_i (ref_CheckScene s (ok_small hc)) ?_
  (conv => whnf)
  rw [hc]
  (conv => whnf)
  refine call_i (ref10_IsBox s.robot box (by omega)) ?_
  (conv => whnf)
  rw [hb]
  (conv => whnf)
  refine call_i (ref10_Points s box hc hb) ?_
  (conv => whnf)
  refine call_i (ref_Pairs s (ok_small hc)) ?_
  (conv => whnf)
  generalize pairs s = Q at *
  generalize pointsOf s box = P at *
  refine loop_intro (fun k : Nat => ⟨[(2, .one (.vptr 0 0)), (7, .one (.dv (dPtss P))), (8, .one (.row 2)), (9, .one (.row 3)), (10, .one (.dv (dPas Q))), (11, I k)], [(0, bSc s), (2, .rows Y.armplanref14_side 2 (((Q.take k).map fun q => sdOf s P q.a.toNat).map encSd)), (3, .rows Y.armplanref14_side 2 (((Q.take k).map fun q => sdOf s P q.b.toNat).map encSd))], 4⟩) (fun k => k ≤ Q.length) (fun k => Q.length - k) [.own 8 Y.armplanref14_side 2, .own 9 Y.armplanref14_side 2] 0 [] (Nat.zero_le _) ⟨⟨rfl, rfl, rfl, rfl, rfl, rfl, trivial⟩, ⟨rfl, rfl, rfl, trivial⟩⟩ ?_
  rintro k hk
  have hkk : IntKind.i64.wrap ((k : Int) + 1) = ((k + 1 : Nat) : Int) := by rw [w64] <;> omega
  (conv => whnf)
  refine ask_m (fun hlt => ?_) (fun hlt => ?_)
  · have hlt : k < Q.length := by simpa using hlt
    obtain ⟨q, hq⟩ : ∃ q, Q[k]? = some q := ⟨_, List.getElem?_eq_getElem hlt⟩
    obtain ⟨i, j, h1, h2, rfl⟩ := hpm q (List.mem_of_getElem? hq)
    obtain ⟨x, hx⟩ : ∃ x, s.shapes[i]? = some x := ⟨_, List.getElem?_eq_getElem h1⟩
    obtain ⟨y, hy⟩ : ∃ x, s.shapes[j]? = some x := ⟨_, List.getElem?_eq_getElem h2⟩
    obtain ⟨p, hp⟩ : ∃ x, P[i]? = some x := ⟨_, List.getElem?_eq_getElem (by omega)⟩
    obtain ⟨r, hr⟩ : ∃ x, P[j]? = some x := ⟨_, List.getElem?_eq_getElem (by omega)⟩
    have ea : (Q.take (k + 1)).map (fun q => sdOf s P q.a.toNat) = (Q.take k).map (fun q => sdOf s P q.a.toNat) ++ [⟨p, x.radius⟩] := by
      rw [map_take1 _ hq]; simp only [sdOf, Int.toNat_natCast, getD_at hp, getD_at hx]
    have eb : (Q.take (k + 1)).map (fun q => sdOf s P q.b.toNat) = (Q.take k).map (fun q => sdOf s P q.b.toNat) ++ [⟨r, y.radius⟩] := by
      rw [map_take1 _ hq]; simp only [sdOf, Int.toNat_natCast, getD_at hr, getD_at hy]
    (conv => whnf)
    refine idx_and (by omega) (x := ⟨i, j⟩) (by rw [Int.toNat_natCast]; exact hq) ?_
    (conv => whnf)
    refine idx_and (by omega) (x := ⟨i, j⟩) (by rw [Int.toNat_natCast]; exact hq) ?_
    (conv => whnf)
    refine idx_and (by show (0 : Int) ≤ (i : Int); omega) (x := p) (by show P[(i : Int).toNat]? = _; rw [Int.toNat_natCast]; exact hp) ?_
    (conv => whnf)
    refine idx_and (by show (0 : Int) ≤ (i : Int); omega) (x := x) (by show s.shapes[(i : Int).toNat]? = _; rw [Int.toNat_natCast]; exact hx) ?_
    (conv => whnf)
    refine ⟨⟨by simp; omega, by simp; omega⟩, ?_⟩
    (conv => whnf)
    refine idx_and (by show (0 : Int) ≤ (j : Int); omega) (x := r) (by show P[(j : Int).toNat]? = _; rw [Int.toNat_natCast]; exact hr) ?_
    (conv => whnf)
    refine idx_and (by show (0 : Int) ≤ (j : Int); omega) (x := y) (by show s.shapes[(j : Int).toNat]? = _; rw [Int.toNat_natCast]; exact hy) ?_
    (conv => whnf)
    refine ⟨⟨by simp; omega, by simp; omega⟩, ?_⟩
    (conv => whnf)
    exact ⟨k + 1, [(2, 5), (3, 7)], hlt, by omega, ⟨⟨rfl, rfl, rfl, rfl, rfl, eqI hkk, trivial⟩, ⟨rfl, rows_eq (by rw [ea, List.map_append]; rfl), rows_eq (by rw [eb, List.map_append]; rfl), trivial⟩⟩⟩
  · have hk : k = Q.length := by simp at hlt; omega
    subst hk
    rw [List.take_length]
    (conv => whnf)
    refine retO [.frz 2, .frz 3] ?_
    (conv => whnf)
    exact ⟨[], ⟨rfl, trivial⟩, trivial⟩
end Go.Proofs.YthdbdokhncaijaaGreat

/- law35: Inner. -/
namespace Go.Proofs.YthdbdokhncaijaaGreat
open Eng
set_option maxRecDepth 10000
attribute [local irreducible] FnOk loopW idxF retX arrF

abbrev InR (r : List Int × Bool) : SV := .tup [(false, [.dv (.lst 1 (r.1.map encI))]), (false, [.dv (.bool r.2)])]
end Go.Proofs.YthdbdokhncaijaaGreat

/- law35: Restrict. -/
namespace Go.Proofs.YthdbdokhncaijaaGreat
open Eng
set_option maxRecDepth 10000
attribute [local irreducible] FnOk loopW idxF retX arrF

structure Vd where
  state : Int
  slack : List Vec
  wit : Int
  wa : List Int
  wb : List Int
abbrev VdC (v : Vd) : List CV := [.dv (.int .i64 v.state), .dv (dVs v.slack), .dv (.int .i64 v.wit), .dv (.lst 1 (v.wa.map encI)), .dv (.lst 1 (v.wb.map encI))]
def vd0 : Vd := ⟨0, [], 0, [], []⟩
def restOf (l : List Scene) (bs : List Vec) (k : Int) (v : Vd) : Vd × Bool :=
  if (innerOf l bs k).2 = false ∨ v.state ≠ 1 ∨ v.slack.length ≠ (pairs (joinOf l bs).1).length then (vd0, false)
  else (⟨1, (innerOf l bs k).1.map fun j => v.slack.getD j.toNat ⟨0, 0, 0⟩, 0, [], []⟩, true)
abbrev VdR (r : Vd × Bool) : SV := .tup [(true, VdC r.1), (false, [.dv (.bool r.2)])]
theorem innerOf_fail {l : List Scene} {bs : List Vec} {k : Int} (h : (joinOf l bs).2 ≠ 0 ∨ k < 0 ∨ (l.length : Int) ≤ k) : innerOf l bs k = ([], false) := if_pos h
theorem rest_fail {l : List Scene} {bs : List Vec} {k : Int} {v : Vd} (h : (innerOf l bs k).2 = false ∨ v.state ≠ 1 ∨ v.slack.length ≠ (pairs (joinOf l bs).1).length) : restOf l bs k v = (vd0, false) := if_pos h
theorem inner_bd {l : List Scene} {bs : List Vec} (ho : Ok l bs) {k : Nat} {s : Scene} (hs : l[k]? = some s) {i : Nat} {j : Int} (h : (innerN l bs k)[i]? = some j) : 0 ≤ j ∧ j.toNat < (pairs (joinTo l bs l.length)).length := by
  have h' := h
  rw [innerN, getD_at hs, List.getElem?_map] at h'
  cases hq : (pairs s)[i]? with
  | none => rw [hq] at h'; cases h'
  | some q =>
    obtain ⟨n, h1, h2⟩ := inner_at ho hs hq
    rw [h] at h1; injection h1 with h1
    have := (List.getElem?_eq_some_iff.1 h2).1
    omega
theorem innerN_len {l : List Scene} {bs : List Vec} (k : Nat) : (innerN l bs k).length ≤ 1000 := by
  rw [innerN, List.length_map]; exact pairs_few _
abbrev gEnd : List Gh := [.ownC 1 1 Y.Vec 3, .ownC 1 3 Y.int64 1, .ownC 1 4 Y.int64 1]
set_option maxHeartbeats 1000000 in
theorem team_Restrict (l : List Scene) (bs : List Vec) (k : Int) (v : Vd) (hl : l.length ≤ 1000) (hb : bs.length ≤ 4611686018427387904) (hsm : ∀ s ∈ l, small s) (hv : v.slack.length ≤ 4611686018427387904) : FnOk Tryz.prog F.team_Restrict [.one (.dv (dScs l)), .one (.dv (dVs bs)), I k, .agg (VdC v)] [] 0 (VdR (restOf l bs k v)) [] 0 := by
  have hT := team_Join l bs (by omega) hb hsm
  by_cases hc1 : (joinOf l bs).2 = 0
  · obtain ⟨ho, e1, l1, l2, l3⟩ := joinOf_ok hc1
    have ej : joinOf l bs = (joinTo l bs l.length, 0) := Prod.ext e1 hc1
    have hf : innerOf l bs k = if k < 0 ∨ (l.length : Int) ≤ k then ([], false) else (innerN l bs k.toNat, true) := by
      rw [innerOf]; simp [hc1]
    rw [ej] at hT
    refine fnOkG [(8, [.frz 3]), (13, [.frz 5])] tab mix G.team_Restrict rfl rfl (by kernel_rfl) rfl rfl ?_
    (conv => whnf)
    refine call_i (hT) ?_
    (conv => whnf)
    generalize hc2 : decide (k < 0) = c2
    cases c2 with
    | true =>
      rw [rest_fail (.inl (by rw [hf, if_pos (.inl (of_decide_eq_true hc2))]))]
      (conv => whnf)
      refine retO [.ownC 1 1 Y.Vec 3, .ownC 1 3 Y.int64 1, .ownC 1 4 Y.int64 1, .frz 3, .frz 4, .frz 5] ?_
      (conv => whnf)
      exact ⟨[], ⟨rfl, trivial⟩, trivial⟩
    | false =>
      have hc2 := of_decide_eq_false hc2
      (conv => whnf)
      generalize hc3 : decide ((((l.map encSc).length : Nat) : Int) ≤ k) = c3
      cases c3 with
      | true =>
        have hc3 : (l.length : Int) ≤ k := by have := of_decide_eq_true hc3; simpa using this
        rw [rest_fail (.inl (by rw [hf, if_pos (.inr hc3)]))]
        (conv => whnf)
        refine retO [.ownC 1 1 Y.Vec 3, .ownC 1 3 Y.int64 1, .ownC 1 4 Y.int64 1, .frz 3, .frz 4, .frz 5] ?_
        (conv => whnf)
        exact ⟨[], ⟨rfl, trivial⟩, trivial⟩
      | false =>
      have hc3 : ¬ (l.length : Int) ≤ k := by have := of_decide_eq_false hc3; simpa using this
      obtain ⟨c, rfl⟩ : ∃ c : Nat, k = c := ⟨k.toNat, by omega⟩
      rw [if_neg (by omega), Int.toNat_natCast] at hf
      obtain ⟨s, hs⟩ : ∃ s, l[c]? = some s := ⟨_, List.getElem?_eq_getElem (by omega)⟩
      (conv => whnf)
      refine ask_m (fun hc4 => ?_) (fun hc4 => ?_)
      · have hc4 : v.state ≠ 1 := by simpa using hc4
        rw [rest_fail (.inr (.inl hc4))]
        (conv => whnf)
        refine retO [.ownC 1 1 Y.Vec 3, .ownC 1 3 Y.int64 1, .ownC 1 4 Y.int64 1, .frz 3, .frz 4, .frz 5] ?_
        (conv => whnf)
        exact ⟨[], ⟨rfl, trivial⟩, trivial⟩
      have hc4 : v.state = 1 := by simpa using hc4
      have hpf := pairs_few (joinTo l bs l.length)
      (conv => whnf)
      refine call_i (scene_Pairs (joinTo l bs l.length) (ok_small ho.all)) ?_
      (conv => whnf)
      refine ask_m (fun hc5 => ?_) (fun hc5 => ?_)
      · have hc5 : v.slack.length ≠ (pairs (joinOf l bs).1).length := by
          rw [ej]; simp at hc5; simp only; omega
        rw [rest_fail (.inr (.inr hc5))]
        (conv => whnf)
        refine retO [.ownC 1 1 Y.Vec 3, .ownC 1 3 Y.int64 1, .ownC 1 4 Y.int64 1, .frz 4, .frz 5, .frz 6] ?_
        (conv => whnf)
        exact ⟨[], ⟨rfl, trivial⟩, trivial⟩
      have hc5 : v.slack.length = (pairs (joinTo l bs l.length)).length := by simp at hc5; omega
      have hbd := fun i j => inner_bd ho hs (i := i) (j := j)
      have hil := innerN_len (l := l) (bs := bs) c
      have hT2 := team_inner l (pairs (joinTo l bs l.length)) c s hl hs ho.each hpf
      have ein : (pairs s).map (fun q => idxP (up (nSh l c) q) (pairs (joinTo l bs l.length)) 0) = innerN l bs c := by rw [innerN, getD_at hs]
      rw [ein] at hT2
      rw [restOf, if_neg (by rw [hf, ej]; simp [hc4, hc5]), hf]
      rw [← hc5] at hbd
      generalize innerN l bs c = Q at *
      generalize pairs (joinTo l bs l.length) = P at *
      (conv => whnf)
      refine call_i (hT2) ?_
      (conv => whnf)
      refine loop_intro (fun j : Nat => ⟨[(7, .one (.vptr 0 0)), (8, .one (.vptr 1 0)), (13, .one (.vptr 4 0)), (53, Li Q), (54, I Q.length), (55, I j)], [(0, .vars Y.Verdict (VdC v)), (1, .vars Y.Verdict [.dv (.int .i64 0), .nil 3, .dv (.int .i64 0), .nil 1, .nil 1]), (4, .vars Y.Verdict [.dv (.int .i64 1), .row 5, .dv (.int .i64 0), .nil 1, .nil 1]), (5, .rows Y.Vec 3 (((Q.take j).map fun j => v.slack.getD j.toNat ⟨0, 0, 0⟩).map encV))], 6⟩) (fun j => j ≤ Q.length) (fun j => Q.length - j) [.ownC 4 1 Y.Vec 3] 0 [] (Nat.zero_le _) ⟨⟨rfl, rfl, rfl, rfl, eqI (by simp), rfl, trivial⟩, ⟨rfl, rfl, rfl, rfl, trivial⟩⟩ ?_
      rintro j hj
      have hjj : IntKind.i64.wrap ((j : Int) + 1) = ((j + 1 : Nat) : Int) := by rw [w64] <;> omega
      (conv => whnf)
      refine ask_m (fun hjl => ?_) (fun hjl => ?_)
      · have hjl : j < Q.length := by have := of_decide_eq_true hjl; omega
        obtain ⟨x, hx⟩ : ∃ x, Q[j]? = some x := ⟨_, List.getElem?_eq_getElem hjl⟩
        obtain ⟨x0, x1⟩ := hbd j x hx
        obtain ⟨y, hy⟩ : ∃ y, v.slack[x.toNat]? = some y := ⟨_, List.getElem?_eq_getElem x1⟩
        (conv => whnf)
        refine idx_and (by omega) (by simpa using hx) ?_
        (conv => whnf)
        refine idx_and (by omega) (by simpa using hy) ?_
        (conv => whnf)
        refine ⟨⟨by simp; omega, by simp; omega⟩, ?_⟩
        (conv => whnf)
        refine ⟨j + 1, [(5, 7)], hjl, by omega, ⟨⟨rfl, rfl, rfl, rfl, rfl, eqI hjj, trivial⟩, ⟨rfl, rfl, rfl, rows_eq ?_, trivial⟩⟩⟩
        rw [List.take_add_one, hx]
        simp only [Option.toList_some, List.map_append, List.map_cons, List.map_nil]
        rw [getD_at hy]; rfl
      · have hj : j = Q.length := by have := of_decide_eq_false hjl; omega
        subst hj
        rw [List.take_length]
        (conv => whnf)
        refine retO [.ownC 1 3 Y.int64 1, .ownC 1 4 Y.int64 1, .frz 6, .frz 7] ?_
        (conv => whnf)
        exact ⟨[], ⟨rfl, trivial⟩, trivial⟩
  · rw [rest_fail (.inl (by rw [innerOf_fail (.inl hc1)]))]
    have hc1 : ((joinOf l bs).2 != 0) = true := by simpa using hc1
    generalize joinOf l bs = J at *
    obtain ⟨J, e⟩ := J
    simp only at hc1
    refine fnOkG [(8, [.frz 3]), (13, [.frz 5])] tab mix G.team_Restrict rfl rfl (by kernel_rfl) rfl rfl ?_
    (conv => whnf)
    refine call_i (hT) ?_
    (conv => whnf)
    rw [hc1]
    (conv => whnf)
    refine retO [.ownC 1 1 Y.Vec 3, .ownC 1 3 Y.int64 1, .ownC 1 4 Y.int64 1, .frz 3, .frz 4, .frz 5] ?_
    (conv => whnf)
    exact ⟨[], ⟨rfl, trivial⟩, trivial⟩
theorem rest_len {l : List Scene} {bs : List Vec} {k : Int} {v : Vd} : (restOf l bs k v).1.slack.length ≤ 1000 ∧ (restOf l bs k v).1.wa = [] ∧ (restOf l bs k v).1.wb = [] ∧ (innerOf l bs k).1.length ≤ 1000 := by
  have h : (innerOf l bs k).1.length ≤ 1000 := by
    rw [innerOf]; split
    · exact Nat.zero_le _
    · exact innerN_len _
  refine ⟨?_, ?_, ?_, h⟩
  · rw [restOf]; split
    · exact Nat.zero_le _
    · simp only [List.length_map]; exact h
  · rw [restOf]; split <;> rfl
  · rw [restOf]; split <;> rfl
end Go.Proofs.YthdbdokhncaijaaGreat

/- Classify and Check of the reference: the walks. -/
namespace Go.Proofs.YthdbdokhncaijaaGreat
open Eng
set_option maxRecDepth 10000
attribute [local irreducible] FnOk loopW idxF retX arrF

def clsGo (fd : Nat → Vec × Bool) (ov : Nat → Bool) (L R : Nat → List Int) : Nat → Nat → Int → List Vec → Vd
  | 0, _, kd, ns => ⟨kd, ns, 0, [], []⟩
  | f + 1, k, kd, ns => if (fd k).2 = true then clsGo fd ov L R f (k + 1) kd (ns ++ [(fd k).1]) else if ov k = true then ⟨2, [], k, L k, R k⟩ else clsGo fd ov L R f (k + 1) 0 (ns ++ [(fd k).1])
theorem cls_zero {fd : Nat → Vec × Bool} {ov : Nat → Bool} {L R : Nat → List Int} : ∀ (f k : Nat) (ns : List Vec), (clsGo fd ov L R f k 0 ns).state ≠ 1
  | 0, _, _ => show (0 : Int) ≠ 1 by decide
  | f + 1, k, ns => by
    rw [clsGo]
    split
    · exact cls_zero f _ _
    · split
      · exact (show (2 : Int) ≠ 1 by decide)
      · exact cls_zero f _ _
theorem cls_one {fd : Nat → Vec × Bool} {ov : Nat → Bool} {L R : Nat → List Int} : ∀ (f k : Nat) (ns : List Vec), (clsGo fd ov L R f k 1 ns).state = 1 →
    (∀ i, i < f → (fd (k + i)).2 = true) ∧ clsGo fd ov L R f k 1 ns = ⟨1, ns ++ (List.range f).map fun i => (fd (k + i)).1, 0, [], []⟩
  | 0, _, ns, _ => ⟨fun i h => absurd h (by omega), by rw [clsGo]; simp⟩
  | f + 1, k, ns, h => by
    rw [clsGo] at h ⊢
    split at h
    · rename_i c
      rw [if_pos c]
      obtain ⟨h1, h2⟩ := cls_one f (k + 1) _ h
      refine ⟨fun i hi => ?_, ?_⟩
      · cases i with
        | zero => exact c
        | succ i => have := h1 i (by omega); rwa [show k + 1 + i = k + (i + 1) by omega] at this
      · rw [h2, List.range_succ_eq_map, List.map_cons, List.map_map, List.append_assoc]
        congr 2
        simp only [List.singleton_append, Nat.add_zero, List.cons.injEq, true_and]
        exact List.map_congr_left fun i _ => by simp only [Function.comp, Nat.succ_eq_add_one, show k + 1 + i = k + (i + 1) by omega]
    · split at h
      · exact absurd h (show ¬ (2 : Int) = 1 by decide)
      · exact absurd h (cls_zero f _ _)
theorem cls_len {fd : Nat → Vec × Bool} {ov : Nat → Bool} {L R : Nat → List Int} : ∀ (f k : Nat) (kd : Int) (ns : List Vec), (clsGo fd ov L R f k kd ns).slack.length ≤ ns.length + f
  | 0, _, _, _ => Nat.le_refl _
  | f + 1, k, kd, ns => by
    rw [clsGo]
    split
    · have := cls_len (fd := fd) (ov := ov) (L := L) (R := R) f (k + 1) kd (ns ++ [(fd k).1]); simp at this; omega
    · split
      · exact Nat.zero_le _
      · have := cls_len (fd := fd) (ov := ov) (L := L) (R := R) f (k + 1) 0 (ns ++ [(fd k).1]); simp at this; omega
/-- sides that can be tested -/
def SdOk (x : Sd) : Prop := Plc x.pts ∧ radB x.rad
theorem sd_at {l : List Sd} {k : Nat} {x : Sd} (h : l[k]? = some x) : (l.map encSd)[k]? = some (encSd x) := by rw [List.getElem?_map, h]; rfl
abbrev sd0 : Sd := ⟨[], 0⟩
abbrev VdZ : List CV := [.dv (.int .i64 0), .nil 3, .dv (.int .i64 0), .nil 1, .nil 1]
set_option maxHeartbeats 4000000 in
theorem ref14_Classify (s : Scene) (box : List Ival) (hc : checkScene s = 0) (hb : isBox s.robot box = true) (hA : ∀ x ∈ sA s (pointsOf s box), SdOk x) (hB : ∀ x ∈ sB s (pointsOf s box), SdOk x) :
    ∃ v : Vd, FnOk Tryz.prog F.ref14_Classify [Sc s, .one (.dv (dIvs box)), .one (.dv (dVs []))] [] 0 (.agg (VdC v)) [] 0 ∧ v.slack.length ≤ (pairs s).length ∧
      (v.state = 1 → v = ⟨1, v.slack, 0, [], []⟩ ∧ v.slack.length = (pairs s).length ∧ ∀ (k : Nat) x y, (sA s (pointsOf s box))[k]? = some x → (sB s (pointsOf s box))[k]? = some y → sepB (v.slack.getD k z3) x.pts x.rad y.pts y.rad = true) := by
  have hS := ref14_sides s box hc hb
  have lA : (sA s (pointsOf s box)).length = (pairs s).length := by rw [sA, List.length_map]
  have lB : (sB s (pointsOf s box)).length = (pairs s).length := by rw [sB, List.length_map]
  have hpf := pairs_few s
  generalize sA s (pointsOf s box) = a at *
  generalize sB s (pointsOf s box) = b at *
  generalize (pairs s).length = N at *
  let NE : Nat → Ne := fun k => searchM (centers (a.getD k sd0).pts) (centers (b.getD k sd0).pts) (ww ((a.getD k sd0).rad + (b.getD k sd0).rad))
  have hov : ∀ k : Nat, ∃ r : Bool, k < N → FnOk Tryz.prog F.ref14_Overlaps [Li (NE k).left, Li (NE k).right, .one (.dv (dIVs (a.getD k sd0).pts)), I (a.getD k sd0).rad, .one (.dv (dIVs (b.getD k sd0).pts)), I (b.getD k sd0).rad] [] 0 (Bo r) [] 0 := fun k => by
    by_cases hk : k < N
    · obtain ⟨x, hx⟩ : ∃ x, a[k]? = some x := ⟨_, List.getElem?_eq_getElem (by omega)⟩
      obtain ⟨y, hy⟩ : ∃ x, b[k]? = some x := ⟨_, List.getElem?_eq_getElem (by omega)⟩
      obtain ⟨x1, x2⟩ := hA x (List.mem_of_getElem? hx)
      obtain ⟨y1, y2⟩ := hB y (List.mem_of_getElem? hy)
      obtain ⟨n1, n2⟩ := searchM_len (centers x.pts) (centers y.pts) (ww (x.rad + y.rad))
      simp only [NE]
      rw [getD_at hx, getD_at hy]
      obtain ⟨r, hr⟩ := ref14_Overlaps _ _ x.pts x.rad y.pts y.rad x1 x2 y1 y2 (n1.trans (by rw [centers, List.length_map])) (n2.trans (by rw [centers, List.length_map]))
      exact ⟨r, fun _ => hr⟩
    · exact ⟨true, fun h => absurd h hk⟩
  obtain ⟨ov, hov⟩ := Classical.axiomOfChoice hov
  let fd : Nat → Vec × Bool := fun k => findM (a.getD k sd0).pts (a.getD k sd0).rad (b.getD k sd0).pts (b.getD k sd0).rad
  have hfd : ∀ (k : Nat) x y, a[k]? = some x → b[k]? = some y → fd k = findM x.pts x.rad y.pts y.rad := fun k x y hx hy => by simp only [fd]; rw [getD_at hx, getD_at hy]
  obtain ⟨v, hv⟩ : ∃ v, clsGo fd ov (fun k => (NE k).left) (fun k => (NE k).right) N 0 1 [] = v := ⟨_, rfl⟩
  refine ⟨v, ?_, by rw [← hv]; have := cls_len (fd := fd) (ov := ov) (L := fun k => (NE k).left) (R := fun k => (NE k).right) N 0 1 []; simp at this; omega, fun h1 => ?_⟩
  · refine fnOk tab mix G.ref14_Classify rfl rfl (by kernel_rfl) rfl rfl ?_
    (conv => whnf)
    refine call_i (hS) ?_
    (conv => whnf)
    refine loop_intro (fun p : Nat × Int × List Vec => ⟨[(2, .one (.dv (dVs []))), (6, .one (.vptr 1 0)), (7, .one (.dv (.lst 2 (a.map encSd)))), (8, .one (.dv (.lst 2 (b.map encSd)))), (10, .one (.vptr 2 0)), (11, I p.1)], [(1, .vars Y.Verdict VdZ), (2, .vars Y.Verdict [.dv (.int .i64 p.2.1), .row 3, .dv (.int .i64 0), .nil 1, .nil 1]), (3, .rows Y.Vec 3 (p.2.2.map encV))], 4⟩) (fun p => p.1 ≤ N ∧ p.2.2.length = p.1 ∧ clsGo fd ov (fun k => (NE k).left) (fun k => (NE k).right) (N - p.1) p.1 p.2.1 p.2.2 = v) (fun p => N - p.1) [.ownC 2 1 Y.Vec 3] (0, 1, []) [] ⟨Nat.zero_le _, rfl, hv⟩ ⟨⟨rfl, rfl, rfl, rfl, rfl, rfl, trivial⟩, ⟨rfl, rfl, rfl, trivial⟩⟩ ?_
    rintro ⟨k, kd, ns⟩ ⟨hk, hn, e⟩
    simp only at hk hn e
    have hkk : IntKind.i64.wrap ((k : Int) + 1) = ((k + 1 : Nat) : Int) := by rw [w64] <;> omega
    (conv => whnf)
    refine ask_m (fun hlt => ?_) (fun hlt => ?_)
    · have hlt : k < N := by simp [lA] at hlt; omega
      obtain ⟨x, hx⟩ : ∃ x, a[k]? = some x := ⟨_, List.getElem?_eq_getElem (by omega)⟩
      obtain ⟨y, hy⟩ : ∃ x, b[k]? = some x := ⟨_, List.getElem?_eq_getElem (by omega)⟩
      obtain ⟨x1, x2⟩ := hA x (List.mem_of_getElem? hx)
      obtain ⟨y1, y2⟩ := hB y (List.mem_of_getElem? hy)
      have hO := hov k hlt
      have eNE : NE k = searchM (centers x.pts) (centers y.pts) (ww (x.rad + y.rad)) := by simp only [NE]; rw [getD_at hx, getD_at hy]
      rw [getD_at hx, getD_at hy] at hO
      rw [show N - k = (N - (k + 1)) + 1 by omega, clsGo] at e
      have hF := ref14_FindNormal x.pts x.rad y.pts y.rad x1 x2 y1 y2
      rw [← hfd k x y hx hy] at hF
      obtain ⟨⟨n, found⟩, hnf⟩ : ∃ p, fd k = p := ⟨_, rfl⟩
      rw [hnf] at hF e
      (conv => whnf)
      refine idx_and (by omega) (x := x) (by rw [Int.toNat_natCast]; exact hx) ?_
      (conv => whnf)
      refine idx_and (by omega) (x := x) (by rw [Int.toNat_natCast]; exact hx) ?_
      (conv => whnf)
      refine idx_and (by omega) (x := y) (by rw [Int.toNat_natCast]; exact hy) ?_
      (conv => whnf)
      refine idx_and (by omega) (x := y) (by rw [Int.toNat_natCast]; exact hy) ?_
      (conv => whnf)
      refine call_i (hF) ?_
      (conv => whnf)
      refine ⟨⟨by simp; omega, by simp; omega⟩, ?_⟩
      (conv => whnf)
      cases found with
      | true =>
        have e : clsGo fd ov (fun k => (NE k).left) (fun k => (NE k).right) (N - (k + 1)) (k + 1) kd (ns ++ [n]) = v := e
        (conv => whnf)
        exact ⟨(k + 1, kd, ns ++ [n]), [(3, 6)], ⟨hlt, by simp [hn], e⟩, by simp only; omega, ⟨⟨rfl, rfl, rfl, rfl, rfl, eqI hkk, trivial⟩, ⟨rfl, rfl, rows_eq (by rw [List.map_append]; rfl), trivial⟩⟩⟩
      | false =>
        have e : (if ov k = true then (⟨2, [], k, (NE k).left, (NE k).right⟩ : Vd) else clsGo fd ov (fun k => (NE k).left) (fun k => (NE k).right) (N - (k + 1)) (k + 1) 0 (ns ++ [n])) = v := e
        have hSe := ref14_Search (centers x.pts) (centers y.pts) (ww (x.rad + y.rad)) (centers_few x1) (centers_few y1) (rho_ok x2 y2)
        rw [← eNE] at hSe
        generalize NE k = S at *
        (conv => whnf)
        refine idx_and (by omega) (x := x) (by rw [Int.toNat_natCast]; exact hx) ?_
        (conv => whnf)
        refine call_i (ref10_Centers x.pts x1) ?_
        (conv => whnf)
        refine idx_and (by omega) (x := y) (by rw [Int.toNat_natCast]; exact hy) ?_
        (conv => whnf)
        refine call_i (ref10_Centers y.pts y1) ?_
        (conv => whnf)
        refine idx_and (by omega) (x := x) (by rw [Int.toNat_natCast]; exact hx) ?_
        (conv => whnf)
        refine idx_and (by omega) (x := y) (by rw [Int.toNat_natCast]; exact hy) ?_
        (conv => whnf)
        refine call_i (hSe) ?_
        (conv => whnf)
        refine idx_and (by omega) (x := x) (by rw [Int.toNat_natCast]; exact hx) ?_
        (conv => whnf)
        refine idx_and (by omega) (x := x) (by rw [Int.toNat_natCast]; exact hx) ?_
        (conv => whnf)
        refine idx_and (by omega) (x := y) (by rw [Int.toNat_natCast]; exact hy) ?_
        (conv => whnf)
        refine idx_and (by omega) (x := y) (by rw [Int.toNat_natCast]; exact hy) ?_
        (conv => whnf)
        refine call_i (hO) ?_
        (conv => whnf)
        cases hq : ov k with
        | true =>
          rw [hq, if_pos rfl] at e
          rw [← e]
          (conv => whnf)
          (conv => whnf)
          refine retO [.ownC 1 1 Y.Vec 3, .frz 8] ?_
          (conv => whnf)
          exact ⟨[], ⟨rfl, trivial⟩, trivial⟩
        | false =>
          rw [hq, if_neg (by decide)] at e
          (conv => whnf)
          exact ⟨(k + 1, 0, ns ++ [n]), [(3, 6)], ⟨hlt, by simp [hn], e⟩, by simp only; omega, ⟨⟨rfl, rfl, rfl, rfl, rfl, eqI hkk, trivial⟩, ⟨rfl, rfl, rows_eq (by rw [List.map_append]; rfl), trivial⟩⟩⟩
    · have hk : k = N := by simp [lA] at hlt; omega
      subst hk
      rw [Nat.sub_self] at e
      have e : (⟨kd, ns, 0, [], []⟩ : Vd) = v := e
      rw [← e]
      (conv => whnf)
      refine retO [.frz 3, .ownC 1 3 Y.int64 1, .ownC 1 4 Y.int64 1, .frz 4, .frz 5] ?_
      (conv => whnf)
      exact ⟨[], ⟨rfl, trivial⟩, trivial⟩
  · subst hv
    obtain ⟨g1, g2⟩ := cls_one N 0 [] h1
    rw [g2]
    refine ⟨rfl, by simp, fun k x y hx hy => ?_⟩
    have hk : k < N := by have := (List.getElem?_eq_some_iff.1 hx).1; omega
    have e : (([] : List Vec) ++ (List.range N).map fun i => (fd (0 + i)).1).getD k z3 = (fd k).1 := by
      rw [List.nil_append, List.getD_eq_getElem?_getD, List.getElem?_map, List.getElem?_range hk]; simp
    simp only
    rw [e]
    have := g1 k hk
    rw [Nat.zero_add] at this
    rw [hfd k x y hx hy] at this ⊢
    exact findM_sep this
theorem ref14_Empty : FnOk Tryz.prog F.ref14_Empty [.agg [.dv (.int .i64 0), .dv (.lst 1 (([] : List Int).map encI)), .dv (.lst 1 (([] : List Int).map encI))]] [] 0 (Bo true) [] 0 := by
  refine fnOk tab mix G.ref14_Empty rfl rfl (by kernel_rfl) rfl rfl ?_
  (conv => whnf)
  (conv => whnf)
  refine ret0 ?_
  exact ret_b rfl rfl
theorem ref14_CheckFree (s : Scene) (box : List Ival) (ns : List Vec) (hc : checkScene s = 0) (hb : isBox s.robot box = true) (hA : ∀ x ∈ sA s (pointsOf s box), SdOk x) (hB : ∀ x ∈ sB s (pointsOf s box), SdOk x) (hn : ns.length = (pairs s).length)
    (hs : ∀ (k : Nat) x y n, (sA s (pointsOf s box))[k]? = some x → (sB s (pointsOf s box))[k]? = some y → ns[k]? = some n → sepB n x.pts x.rad y.pts y.rad = true) :
    FnOk Tryz.prog F.ref14_CheckFree [Sc s, .one (.dv (dIvs box)), .one (.dv (dVs ns))] [] 0 (Bo true) [] 0 := by
  have hS := ref14_sides s box hc hb
  have lA : (sA s (pointsOf s box)).length = (pairs s).length := by rw [sA, List.length_map]
  have lB : (sB s (pointsOf s box)).length = (pairs s).length := by rw [sB, List.length_map]
  have hpf := pairs_few s
  generalize sA s (pointsOf s box) = a at *
  generalize sB s (pointsOf s box) = b at *
  generalize (pairs s).length = N at *
  refine fnOk tab mix G.ref14_CheckFree rfl rfl (by kernel_rfl) rfl rfl ?_
  (conv => whnf)
  refine call_i (hS) ?_
  (conv => whnf)
  refine ask_mf (by simp [hn, lA]) ?_
  (conv => whnf)
  refine loop_intro (fun k : Nat => ⟨[(2, .one (.dv (dVs ns))), (7, .one (.dv (.lst 2 (a.map encSd)))), (8, .one (.dv (.lst 2 (b.map encSd)))), (10, I k)], [], 0⟩) (fun k => k ≤ N) (fun k => N - k) [] 0 [] (Nat.zero_le _) ⟨⟨rfl, rfl, rfl, rfl, trivial⟩, trivial⟩ ?_
  rintro k hk
  have hkk : IntKind.i64.wrap ((k : Int) + 1) = ((k + 1 : Nat) : Int) := by rw [w64] <;> omega
  (conv => whnf)
  refine ask_m (fun hlt => ?_) (fun hlt => ?_)
  · have hlt : k < N := by simp [lA] at hlt; omega
    obtain ⟨x, hx⟩ : ∃ x, a[k]? = some x := ⟨_, List.getElem?_eq_getElem (by omega)⟩
    obtain ⟨y, hy⟩ : ∃ x, b[k]? = some x := ⟨_, List.getElem?_eq_getElem (by omega)⟩
    obtain ⟨n, hnk⟩ : ∃ x, ns[k]? = some x := ⟨_, List.getElem?_eq_getElem (by omega)⟩
    obtain ⟨x1, x2⟩ := hA x (List.mem_of_getElem? hx)
    obtain ⟨y1, y2⟩ := hB y (List.mem_of_getElem? hy)
    (conv => whnf)
    refine idx_and (by omega) (x := n) (by rw [Int.toNat_natCast]; exact hnk) ?_
    (conv => whnf)
    refine idx_and (by omega) (x := x) (by rw [Int.toNat_natCast]; exact hx) ?_
    (conv => whnf)
    refine idx_and (by omega) (x := x) (by rw [Int.toNat_natCast]; exact hx) ?_
    (conv => whnf)
    refine idx_and (by omega) (x := y) (by rw [Int.toNat_natCast]; exact hy) ?_
    (conv => whnf)
    refine idx_and (by omega) (x := y) (by rw [Int.toNat_natCast]; exact hy) ?_
    (conv => whnf)
    refine call_i (ref14_Separates n x.pts x.rad y.pts y.rad x1 x2 y1 y2) ?_
    (conv => whnf)
    rw [hs k x y n hx hy hnk]
    (conv => whnf)
    exact ⟨k + 1, [], hlt, by omega, ⟨⟨rfl, rfl, rfl, eqI hkk, trivial⟩, trivial⟩⟩
  · (conv => whnf)
    (conv => whnf)
    refine ret0 ?_
    exact ret_b rfl rfl
theorem ref14_Check (s : Scene) (box : List Ival) (ns : List Vec) (hc : checkScene s = 0) (hb : isBox s.robot box = true) (hA : ∀ x ∈ sA s (pointsOf s box), SdOk x) (hB : ∀ x ∈ sB s (pointsOf s box), SdOk x) (hn : ns.length = (pairs s).length)
    (hs : ∀ (k : Nat) x y n, (sA s (pointsOf s box))[k]? = some x → (sB s (pointsOf s box))[k]? = some y → ns[k]? = some n → sepB n x.pts x.rad y.pts y.rad = true) :
    FnOk Tryz.prog F.ref14_Check [Sc s, .one (.dv (dIvs box)), .agg (VdC ⟨1, ns, 0, [], []⟩)] [] 0 (Bo true) [] 0 := by
  refine fnOk tab mix G.ref14_Check rfl rfl (by kernel_rfl) rfl rfl ?_
  (conv => whnf)
  refine call_i (ref14_Empty) ?_
  (conv => whnf)
  refine call_i (ref14_CheckFree s box ns hc hb hA hB hn hs) ?_
  (conv => whnf)
  (conv => whnf)
  refine ret0 ?_
  exact ret_b rfl rfl
end Go.Proofs.YthdbdokhncaijaaGreat

/- Sides of joined scenes, and the restricted verdict. No program in sight. -/
namespace Go.Proofs.YthdbdokhncaijaaGreat
open Eng
set_option maxRecDepth 10000

theorem gen_jOk {r : Robot} {box : List Ival} (hr : checkRobot r = 0) (hl : box.length = r.joints.length) (hin : ∀ v ∈ box, inI v 4194304) : ∀ (i : Nat) j, r.joints[i]? = some j → jOk i j (box.getD i i0) := fun i j hj => by
  have hi := (List.getElem?_eq_some_iff.1 hj).1
  obtain ⟨_, _, b2, b3, _⟩ := (robot_facts hr).2.1 i j hj
  obtain ⟨v, hv⟩ : ∃ v, box[i]? = some v := ⟨_, List.getElem?_eq_getElem (by omega)⟩
  rw [getD_at hv]
  exact ⟨b2, inV_iff.1 b3, fun _ => hin v (List.mem_of_getElem? hv)⟩
theorem pts_plc {s : Scene} {box : List Ival} (hc : checkScene s = 0) (hb : isBox s.robot box = true) (hin : ∀ v ∈ box, inI v 4194304) {i : Nat} {sh : Shape} (hsh : s.shapes[i]? = some sh) : ∃ pts, (pointsOf s box)[i]? = some pts ∧ Plc pts ∧ radB sh.radius := by
  have hsf := scene_facts hc
  obtain ⟨f1, _⟩ := robot_facts hsf.1
  have hbl : box.length = s.robot.joints.length := by
    unfold isBox at hb; simp only [Bool.and_eq_true, decide_eq_true_eq] at hb; exact hb.1
  have hj := gen_jOk hsf.1 hbl hin
  obtain ⟨xl, h1, h8, hrad, xp⟩ := hsf.2.2.1 sh (List.mem_of_getElem? hsh)
  have xl := link_bd xl
  refine ⟨_, pointsOf_at hc hb hsh, ⟨by simpa [placeOf] using h1, by simpa [placeOf] using h8, fun p hp => ?_⟩, by unfold radB; omega⟩
  rw [placeOf] at hp
  obtain ⟨v, hv, rfl⟩ := List.mem_map.1 hp
  have hv1 := inV_iff.1 (xp v hv)
  unfold shapeP
  split
  · rw [rest_pt hv1]; exact inV3_mono (ptV_in hv1 (by decide)) (by decide)
  · obtain ⟨q, hq⟩ : ∃ q : Nat, sh.link = q := ⟨sh.link.toNat, by omega⟩
    have e := linksTo_at s.robot.joints box box.length q (by omega)
    obtain ⟨i1, i2⟩ := links_in f1 hj (q + 1) q (by omega) (by omega)
    rw [hq, Int.toNat_natCast, getD_at e]
    exact inV3_mono (sumV_in i2 (appM_in i1 (ptV_in hv1 (by decide)) (by decide)) (by unfold far; omega)) (by unfold far; omega)
theorem sdOf_ok {s : Scene} {box : List Ival} (hc : checkScene s = 0) (hb : isBox s.robot box = true) (hin : ∀ v ∈ box, inI v 4194304) {i : Nat} (hi : i < s.shapes.length) : SdOk (sdOf s (pointsOf s box) i) := by
  obtain ⟨sh, hsh⟩ : ∃ x, s.shapes[i]? = some x := ⟨_, List.getElem?_eq_getElem hi⟩
  obtain ⟨pts, h1, h2, h3⟩ := pts_plc hc hb hin hsh
  unfold sdOf
  rw [getD_at h1, getD_at hsh]
  exact ⟨h2, h3⟩
theorem sA_ok {s : Scene} {box : List Ival} (hc : checkScene s = 0) (hb : isBox s.robot box = true) (hin : ∀ v ∈ box, inI v 4194304) : ∀ x ∈ sA s (pointsOf s box), SdOk x := fun x hx => by
  obtain ⟨q, hq, rfl⟩ := List.mem_map.1 hx
  obtain ⟨i, j, h1, _, _, rfl⟩ := pairs_mem hq
  exact sdOf_ok hc hb hin (by simpa using h1)
theorem sB_ok {s : Scene} {box : List Ival} (hc : checkScene s = 0) (hb : isBox s.robot box = true) (hin : ∀ v ∈ box, inI v 4194304) : ∀ x ∈ sB s (pointsOf s box), SdOk x := fun x hx => by
  obtain ⟨q, hq, rfl⟩ := List.mem_map.1 hx
  obtain ⟨i, j, _, h2, _, rfl⟩ := pairs_mem hq
  exact sdOf_ok hc hb hin (by simpa using h2)
/-- a side of the joined scene -/
theorem sd_mv {x : List Scene} {bs : List Vec} (ho : Ok x bs) (o : List Int) {c : Nat} {s : Scene} {d : Vec} (hs : x[c]? = some s) (hd : bs.getD c ⟨0, 0, 0⟩ = d) (hdn : nrV d 1048576) {i : Nat} (hi : i < s.shapes.length) :
    sdOf (joinTo x bs x.length) (pointsOf (joinTo x bs x.length) (bxCat x o x.length)) (nSh x c + i) = ⟨(sdOf s (pointsOf s (bxs s.robot o)) i).pts.map (mvV · d), (sdOf s (pointsOf s (bxs s.robot o)) i).rad⟩ := by
  obtain ⟨sh, hsh⟩ : ∃ y, s.shapes[i]? = some y := ⟨_, List.getElem?_eq_getElem hi⟩
  obtain ⟨pts, h1, h2, _⟩ := pts_mv ho o hs hd hdn hsh
  obtain ⟨_, hat⟩ := join_at bs hs
  unfold sdOf
  rw [getD_at h1, getD_at h2, getD_at hsh, getD_at (hat i sh hsh)]
  rfl
/-- the restricted normals separate -/
theorem rest_sep {x : List Scene} {bs : List Vec} (ho : Ok x bs) (o : List Int) {c : Nat} {s : Scene} {d : Vec} (hs : x[c]? = some s) (hd : bs.getD c ⟨0, 0, 0⟩ = d) (hdn : nrV d 1048576) {ns : List Vec}
    (hsep : ∀ (k : Nat) y z, (sA (joinTo x bs x.length) (pointsOf (joinTo x bs x.length) (bxCat x o x.length)))[k]? = some y → (sB (joinTo x bs x.length) (pointsOf (joinTo x bs x.length) (bxCat x o x.length)))[k]? = some z → sepB (ns.getD k z3) y.pts y.rad z.pts z.rad = true) :
    ∀ (k : Nat) y z n, (sA s (pointsOf s (bxs s.robot o)))[k]? = some y → (sB s (pointsOf s (bxs s.robot o)))[k]? = some z → ((innerN x bs c).map fun j => ns.getD j.toNat ⟨0, 0, 0⟩)[k]? = some n → sepB n y.pts y.rad z.pts z.rad = true := fun k y z n hy hz hn => by
  have hc := ho.each s (List.mem_of_getElem? hs)
  unfold sA at hy
  unfold sB at hz
  rw [List.getElem?_map] at hy hz
  cases hq : (pairs s)[k]? with
  | none => rw [hq] at hy; cases hy
  | some q =>
  rw [hq] at hy hz
  simp only [Option.map_some, Option.some.injEq] at hy hz
  obtain ⟨i, j, h1, h2, _, hqe⟩ := pairs_mem (List.mem_of_getElem? hq)
  obtain ⟨m, hm1, hm2⟩ := inner_at ho hs hq
  rw [List.getElem?_map, hm1] at hn
  simp only [Option.map_some, Option.some.injEq, Int.toNat_natCast] at hn
  subst hqe
  have e1 : (sA (joinTo x bs x.length) (pointsOf (joinTo x bs x.length) (bxCat x o x.length)))[m]? = some (sdOf (joinTo x bs x.length) (pointsOf (joinTo x bs x.length) (bxCat x o x.length)) (nSh x c + i)) := by
    rw [sA, List.getElem?_map, hm2]
    simp only [Option.map_some, up]; rw [show ((i : Int) + (nSh x c : Int)).toNat = nSh x c + i by omega]
  have e2 : (sB (joinTo x bs x.length) (pointsOf (joinTo x bs x.length) (bxCat x o x.length)))[m]? = some (sdOf (joinTo x bs x.length) (pointsOf (joinTo x bs x.length) (bxCat x o x.length)) (nSh x c + j)) := by
    rw [sB, List.getElem?_map, hm2]
    simp only [Option.map_some, up]; rw [show ((j : Int) + (nSh x c : Int)).toNat = nSh x c + j by omega]
  have := hsep m _ _ e1 e2
  rw [sd_mv ho o hs hd hdn h1, sd_mv ho o hs hd hdn h2] at this
  simp only [Int.toNat_natCast] at hy hz
  have o1 := (sdOf_ok hc (isBox_own hc o) (bxs_in (scene_facts hc).1 o) h1).1.one
  have o2 := (sdOf_ok hc (isBox_own hc o) (bxs_in (scene_facts hc).1 o) h2).1.one
  rw [sep_mv (by omega) (by omega), hy, hz] at this
  rw [← hn]; exact this
end Go.Proofs.YthdbdokhncaijaaGreat

/- law35: TeamRestricts. -/
namespace Go.Proofs.YthdbdokhncaijaaGreat
open Eng
set_option maxRecDepth 10000
attribute [local irreducible] FnOk loopW idxF retX arrF

set_option maxHeartbeats 2000000 in
theorem law35_Restricts (l m o : List Int) (k : Int) (hl : l.length ≤ 17592186044416) (hm : m.length ≤ 17592186044416) (hol : o.length ≤ 17592186044416) (_ : True) : FnOk Tryz.prog F.law35_TeamRestricts [Li l, Li m, Li o, I k] [] 0 (Bo true) [] 0 := by
  refine fnOkG [(2, [.frz 0, .frz 1]), (10, [.frz 3])] tab mix G.law35_TeamRestricts rfl rfl (by kernel_rfl) rfl rfl ?_
  (conv => whnf)
  refine call_i (law35_scenes l m hl hm) ?_
  (conv => whnf)
  have hxo := scsOf_ok l m
  have hxl := scsOf_len l m
  have hbl := bssOf_len m
  have hnear := fun c h => bs_near (l := m) (c := c) h
  obtain ⟨c1, c2⟩ := nSc_bd m
  generalize scsOf l m = x at *
  generalize bssOf m = b at *
  have hsm : ∀ s ∈ x, small s := fun s hs => ok_small (hxo s hs)
  refine call_i (team_Join x b (by omega) (by omega) hsm) ?_
  (conv => whnf)
  refine ask_m (fun h => ?_) (fun h => ?_)
  · (conv => whnf)
    refine call_i (law35_awake) ?_
    (conv => whnf)
    (conv => whnf)
    refine ret0 ?_
    exact ret_b rfl rfl
  have h : (joinOf x b).2 = 0 := by simpa using h
  obtain ⟨hO, e1, l1, l2, l3⟩ := joinOf_ok h
  rw [e1]
  have hj : ∀ s ∈ x, s.robot.joints.length ≤ 1000 := fun s hs => by
    have := (robot_facts (scene_facts (hxo s hs)).1).1
    omega
  have hcb := cnt_bd hj
  (conv => whnf)
  refine loop_intro (fun i : Nat => ⟨[(3, I k), (2, Li o), (9, .one (.dv (dScs x))), (10, .one (.dv (dVs b))), (11, .one (.vptr 2 0)), (13, .one (.row 3)), (14, I i)], [(2, bSc (joinTo x b x.length)), (3, .rows Y.Interval 2 ((bxCat x o i).map encIv))], 4⟩) (fun i => i ≤ x.length) (fun i => x.length - i) [.own 13 Y.Interval 2] 0 [] (Nat.zero_le _) ⟨⟨rfl, rfl, rfl, rfl, rfl, rfl, rfl, trivial⟩, ⟨rfl, rfl, trivial⟩⟩ ?_
  rintro i hi
  have hii : IntKind.i64.wrap ((i : Int) + 1) = ((i + 1 : Nat) : Int) := by rw [w64] <;> omega
  have hb1 := bxCat_len (x := x) (o := o) i hi
  have hb2 := hcb i hi
  (conv => whnf)
  refine ask_m (fun hlt => ?_) (fun hlt => ?_)
  · have hlt : i < x.length := by simpa using hlt
    obtain ⟨s, hs⟩ : ∃ s, x[i]? = some s := ⟨_, List.getElem?_eq_getElem hlt⟩
    have hro := (scene_facts (hxo s (List.mem_of_getElem? hs))).1
    have hn := bxCat_succ (o := o) hs
    have hbs := bxs_len s.robot o
    have hsj := hj s (List.mem_of_getElem? hs)
    (conv => whnf)
    refine idx_and (by omega) (by simpa using hs) ?_
    (conv => whnf)
    refine call_i (mk_Box s.robot o hro (by omega)) ?_
    (conv => whnf)
    refine ⟨⟨by simp; omega, by simp; omega⟩, ?_⟩
    (conv => whnf)
    exact ⟨i + 1, [(3, 4)], hlt, by omega, ⟨⟨rfl, rfl, rfl, rfl, rfl, rfl, eqI hii, trivial⟩, ⟨rfl, rows_eq (by rw [hn, List.map_append]), trivial⟩⟩⟩
  have hi : i = x.length := by simp at hlt; omega
  subst hi
  have hin := bxCat_in hO.each o x.length (Nat.le_refl _)
  have hbox := isBox_all hO o
  obtain ⟨v, hv, hvl, hv1⟩ := ref14_Classify (joinTo x b x.length) (bxCat x o x.length) hO.all hbox (sA_ok hO.all hbox hin) (sB_ok hO.all hbox hin)
  have hpf := pairs_few (joinTo x b x.length)
  (conv => whnf)
  refine call_i (hv) ?_
  (conv => whnf)
  refine call_i (mk_Round k ((x.map encSc).length : Int) (by rw [List.length_map]; omega) (by rw [List.length_map]; omega)) ?_
  (conv => whnf)
  have q1 := Int.emod_nonneg k (b := ((x.map encSc).length : Int)) (by rw [List.length_map]; omega)
  have q2 := Int.emod_lt_of_pos k (b := ((x.map encSc).length : Int)) (by rw [List.length_map]; omega)
  obtain ⟨c, hc⟩ : ∃ i : Nat, k % ((x.map encSc).length : Int) = i := ⟨_, (Int.toNat_of_nonneg q1).symm⟩
  rw [hc] at q2 ⊢
  have hcx : c < x.length := by rw [List.length_map] at q2; omega
  obtain ⟨s, hs⟩ : ∃ s, x[c]? = some s := ⟨_, List.getElem?_eq_getElem hcx⟩
  obtain ⟨d, hd⟩ : ∃ d, b[c]? = some d := ⟨_, List.getElem?_eq_getElem (by omega)⟩
  have hdn := hnear c (by omega)
  rw [getD_at hd] at hdn
  have hsc := hxo s (List.mem_of_getElem? hs)
  have hp := bxCat_part (o := o) hs
  have hR := team_Restrict x b c v (by omega) (by omega) hsm (by omega)
  have hin' : innerOf x b (c : Int) = (innerN x b c, true) := by rw [innerOf, if_neg (by simp [h]; omega), Int.toNat_natCast]
  by_cases hst : v.state = 1
  · obtain ⟨g1, g2, g3⟩ := hv1 hst
    have hr : restOf x b (c : Int) v = (⟨1, (innerN x b c).map fun j => v.slack.getD j.toNat ⟨0, 0, 0⟩, 0, [], []⟩, true) := by
      rw [restOf, if_neg (by rw [hin', e1]; simp [hst, g2]), hin']
    rw [hr] at hR
    have hnl : ((innerN x b c).map fun j => v.slack.getD j.toNat ⟨0, 0, 0⟩).length = (pairs s).length := by rw [List.length_map, innerN, getD_at hs, List.length_map]
    have hsep := rest_sep hO o hs (getD_at hd) hdn (ns := v.slack) g3
    have hbo := isBox_own hsc o
    have hio := bxs_in (scene_facts hsc).1 o
    refine call_i (hR) ?_
    (conv => whnf)
    refine call_i (team_PartBox' x (bxCat x o x.length) c (by omega) hj) ?_
    (conv => whnf)
    rw [hp]
    (conv => whnf)
    refine ask_mf (show (v.state != 1) = false by simp [hst]) ?_
    (conv => whnf)
    refine call_i (law35_awake) ?_
    (conv => whnf)
    refine idx_and (by omega) (by simpa using hs) ?_
    (conv => whnf)
    refine call_i (ref14_Check s (bxs s.robot o) ((innerN x b c).map fun j => v.slack.getD j.toNat ⟨0, 0, 0⟩) hsc hbo (sA_ok hsc hbo hio) (sB_ok hsc hbo hio) hnl hsep) ?_
    (conv => whnf)
    (conv => whnf)
    refine ret0 ?_
    exact ret_b rfl rfl
  · rw [rest_fail (.inr (.inl hst))] at hR
    refine call_i (hR) ?_
    (conv => whnf)
    refine call_i (team_PartBox' x (bxCat x o x.length) c (by omega) hj) ?_
    (conv => whnf)
    rw [hp]
    (conv => whnf)
    refine ask_mt (show (v.state != 1) = true by simp [hst]) ?_
    (conv => whnf)
    refine call_i (law35_awake) ?_
    (conv => whnf)
    (conv => whnf)
    refine ret0 ?_
    exact ret_b rfl rfl
end Go.Proofs.YthdbdokhncaijaaGreat
