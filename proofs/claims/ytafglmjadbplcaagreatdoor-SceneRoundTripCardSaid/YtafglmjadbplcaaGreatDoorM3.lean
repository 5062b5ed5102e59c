import Derived.Test.YtafglmjadbplcaaGreatDoorM2
import Derived.Stop.LaidErr
import Derived.Lib.LaidTab
import Derived.Deep.DeepHandedRow
/- robot.Write. -/
namespace Go.Proofs.YtafglmjadbplcaaGreatDoor
open Eng
set_option maxRecDepth 10000
attribute [local irreducible] FnOk loopW idxF retX arrF findF

theorem robot_decimal (n : Int) (h0 : 0 ≤ n) (h1 : n ≤ 9223372036854775807) : FnOk Tryz.prog F.robot_decimal [I n] [] 0 (Tx (decT n.toNat 1)) [] 0 := by
  obtain ⟨u, rfl⟩ : ∃ u : Nat, n = u := ⟨n.toNat, by omega⟩
  have e := itT_dec (u := u) (by omega)
  rw [Int.toNat_natCast, ← e]
  refine fnOk tab mix G.robot_decimal rfl rfl (by kernel_rfl) rfl rfl ?_
  (conv => whnf)
  refine call_i (strconv_FormatInt (u : Int) (by omega) (by omega)) ?_
  (conv => whnf)
  (conv => whnf)
  refine ret0 ?_
  exact ret_dv rfl rfl
theorem robot_linkName (r : Robot) (k : Int) (h0 : -1 ≤ k) (h1 : k < r.joints.length) : FnOk Tryz.prog F.robot_linkName [Ro r, I k] [] 0 (Tx (linkN r.joints k)) [] 0 := by
  refine fnOk tab mix G.robot_linkName rfl rfl (by kernel_rfl) rfl rfl ?_
  (conv => whnf)
  refine ask_m (fun h => ?_) (fun h => ?_)
  · have h : k = -1 := by simpa using h
    subst h
    (conv => whnf)
    refine ret0 ?_
    exact ret_dv (by rw [linkN, if_pos rfl]; rfl) rfl
  have h : ¬ k = -1 := by simpa using h
  obtain ⟨i, rfl⟩ : ∃ i : Nat, k = i := ⟨k.toNat, by omega⟩
  obtain ⟨j, hj⟩ : ∃ j, r.joints[i]? = some j := ⟨_, List.getElem?_eq_getElem (by omega)⟩
  (conv => whnf)
  refine idx_and (by omega) (by simpa using hj) ?_
  (conv => whnf)
  refine ret0 ?_
  exact ret_dv (by rw [linkN, if_neg h, Int.toNat_natCast, hj]) rfl
def fill (xs : List Int) (k : Nat) : List (List DV) := ((xs.take k).map fun x => encA (fmtT x)) ++ List.replicate (xs.length - k) [DV.str ByteArray.empty]
theorem fill_len {xs : List Int} {k : Nat} (h : k ≤ xs.length) : (fill xs k).length = xs.length := by simp [fill]; omega
theorem fill_set {xs : List Int} {k : Nat} {x : Int} (h : xs[k]? = some x) : (fill xs k)[k]? = some [DV.str ByteArray.empty] ∧ (fill xs k).set k (encA (fmtT x)) = fill xs (k + 1) := by
  have hk : k < xs.length := (List.getElem?_eq_some_iff.1 h).1
  have hl : ((xs.take k).map fun x => encA (fmtT x)).length = k := by simp; omega
  obtain ⟨m, hm⟩ : ∃ m, xs.length - k = m + 1 := ⟨xs.length - k - 1, by omega⟩
  have hm2 : xs.length - (k + 1) = m := by omega
  constructor
  · rw [fill, List.getElem?_append_right (by omega), hl, Nat.sub_self, hm]; rfl
  · rw [fill, List.set_append_right _ _ (by omega), hl, Nat.sub_self, hm, fill, hm2, List.take_add_one, h]
    simp [List.replicate_succ]
theorem robot_texts (xs : List Int) (hl : xs.length ≤ 1000) : FnOk Tryz.prog F.robot_texts [Li xs] [] 0 (.one (.dv (dAs (xs.map fmtT)))) [] 0 := by
  refine fnOk tab mix G.robot_texts rfl rfl (by kernel_rfl) rfl rfl ?_
  (conv => whnf)
  refine ⟨⟨by omega, by omega, by show (16 : Int) * _ ≤ _; rw [List.length_map]; omega, by rw [List.length_map]; omega⟩, ?_⟩
  (conv => whnf)
  refine loop_intro (fun k : Nat => ⟨[(3, .one (.row 0)), (9, Li xs), (10, I xs.length), (11, I k)], [(0, .rows Y.string 1 (fill xs k))], 1⟩) (fun k => k ≤ xs.length) (fun k => xs.length - k) [] 0 [] (Nat.zero_le _) ⟨⟨rfl, rfl, eqI (by simp), rfl, trivial⟩, ⟨rows_eq (by simp [fill]), trivial⟩⟩ ?_
  rintro k hk
  have hkk : IntKind.i64.wrap ((k : Int) + 1) = ((k + 1 : Nat) : Int) := by rw [w64] <;> omega
  have hfl := fill_len hk
  (conv => whnf)
  refine ask_m (fun h => ?_) (fun h => ?_)
  · have hlt : k < xs.length := by have := of_decide_eq_true h; omega
    obtain ⟨x, hx⟩ : ∃ x, xs[k]? = some x := ⟨_, List.getElem?_eq_getElem hlt⟩
    obtain ⟨f1, f2⟩ := fill_set hx
    (conv => whnf)
    refine idx_and (by omega) (by simpa using hx) ?_
    (conv => whnf)
    refine call_i (token_Format x) ?_
    (conv => whnf)
    refine ⟨⟨by omega, by rw [hfl]; omega⟩, ?_⟩
    (conv => whnf)
    rw [Int.toNat_natCast]
    refine idx_at f1 ?_
    (conv => whnf)
    exact ⟨k + 1, [], hlt, by omega, ⟨⟨rfl, rfl, rfl, eqI hkk, trivial⟩, ⟨rows_eq (by rw [← f2]; rfl), trivial⟩⟩⟩
  · have hk : k = xs.length := by have := of_decide_eq_false h; omega
    subst hk
    have e : fill xs xs.length = (xs.map fmtT).map encA := by simp [fill, Function.comp_def]
    rw [e]
    (conv => whnf)
    refine retO [.frz 0] ?_
    (conv => whnf)
    exact ⟨[], ⟨rfl, trivial⟩, trivial⟩
theorem write_add (l : List Stmt) (w : ByteArray) (ags : List ByteArray) (hl : l.length ≤ 1000) : FnOk Tryz.prog F.robot_Write_1 [Tx w, .one (.dv (dAs ags)), .one (.vptr 0 0)] [(0, .vars Y.s_Statement [.row 1]), (1, .rows Y.Statement 3 (l.map encSt))] 2 (.tup []) [(0, .vars Y.s_Statement [.row 2]), (2, .rows Y.Statement 3 ((l ++ [(⟨l.length + 1, w, ags⟩ : Stmt)]).map encSt))] 3 := by
  have e : IntKind.i64.wrap ((((l.map encSt).length : Nat) : Int) + 1) = (l.length : Int) + 1 := by rw [List.length_map, w64] <;> omega
  refine fnOk tab mix G.robot_Write_1 rfl rfl (by kernel_rfl) rfl rfl ?_
  (conv => whnf)
  rw [e]
  refine ⟨⟨by simp; omega, by simp; omega⟩, ?_⟩
  (conv => whnf)
  (conv => whnf)
  refine retO [] ?_
  (conv => whnf)
  exact ⟨[(2, 3)], ⟨rfl, trivial⟩, ⟨rfl, rows_eq (by rw [List.map_append]; rfl), trivial⟩⟩
theorem FnOk.bot {P : Program} {f : Nat} {args : List SV} {mA : List (Nat × Box)} {nA : Nat} {sv : SV} {mR : List (Nat × Box)} {nR : Nat} (h : FnOk P f args mA nA sv mR nR) : FnOk P f args mA nA .bot mR nR := by
  unfold FnOk at h ⊢
  refine ⟨h.1, fun w Z vs β ha hm => (h.2 w Z vs β ha hm).mono ?_⟩
  rintro e w' ⟨v, β', he, _, _, hM, hb⟩
  exact ⟨v, β', he, trivial, trivial, hM, hb⟩
theorem jB_at (js : List Joint) {k : Nat} {j : Joint} (h : js[k]? = some j) : numb 0 ((js.take (k + 1)).flatMap (jB js)) = (numb 0 ((js.take k).flatMap (jB js)) ++ [(⟨((numb 0 ((js.take k).flatMap (jB js))).length : Int) + 1, wJoint, [j.name, kindN j.kind, linkN js j.parent, fmtT j.off.x, fmtT j.off.y, fmtT j.off.z, fmtT j.lo, fmtT j.hi, decT j.weight.toNat 1]⟩ : Stmt)]) ++ [(⟨((numb 0 ((js.take k).flatMap (jB js)) ++ [(⟨((numb 0 ((js.take k).flatMap (jB js))).length : Int) + 1, wJoint, [j.name, kindN j.kind, linkN js j.parent, fmtT j.off.x, fmtT j.off.y, fmtT j.off.z, fmtT j.lo, fmtT j.hi, decT j.weight.toNat 1]⟩ : Stmt)]).length : Int) + 1, wLimit, [j.name, decT j.speed.toNat 1, decT j.accel.toNat 1, decT j.torque.toNat 1]⟩ : Stmt)] := by
  rw [List.take_add_one, h, List.flatMap_append, numb_app, List.length_append]
  simp [jB, numb, numb_len]
theorem mB_at (js : List Joint) (P : List (ByteArray × List ByteArray)) {ms : List Mass} {k : Nat} {m : Mass} (h : ms[k]? = some m) : numb 0 (P ++ (ms.take (k + 1)).map (mB js)) = numb 0 (P ++ (ms.take k).map (mB js)) ++ [(⟨((numb 0 (P ++ (ms.take k).map (mB js))).length : Int) + 1, wMass, [linkN js m.link, fmtT m.mass, fmtT m.point.x, fmtT m.point.y, fmtT m.point.z]⟩ : Stmt)] := by
  rw [List.take_add_one, h, List.map_append, ← List.append_assoc, numb_app]
  simp [mB, numb, numb_len]
set_option maxHeartbeats 4000000 in
theorem robot_Write (r : Robot) (hj : r.joints.length ≤ 1000) (hm : r.masses.length ≤ 1000) : FnOk Tryz.prog F.robot_Write [Ro r] [] 0 (.one (.row 0)) [(0, .rows Y.Statement 3 ((writeRobot r).map encSt))] 1 := by
  refine fnOk tab mix G.robot_Write rfl rfl (by kernel_rfl) rfl rfl ?_
  (conv => whnf)
  refine call_i (robot_Check r (by omega) (by omega)) ?_
  (conv => whnf)
  refine ask_m (fun h => ?_) (fun h => ?_)
  · have h : ¬ checkRobot r = 0 := by simpa using h
    rw [writeRobot, if_neg h]
    (conv => whnf)
    refine retO [.own 2 Y.Statement 3] ?_
    (conv => whnf)
    exact ⟨[(0, 1)], ⟨rfl, trivial⟩, ⟨rfl, trivial⟩⟩
  have h : checkRobot r = 0 := by simpa using h
  obtain ⟨f1, f2, f3, f4⟩ := robot_facts h
  (conv => whnf)
  refine loop_intro (fun k : Nat => ⟨[(1, .one (.vptr 0 0)), (3, .one (.vptr 1 0)), (4, .one (.fn 46 [(1, 0)])), (16, .one (.dv (dJs r.joints))), (17, I r.joints.length), (18, I k)], [(0, bRo r), (1, .vars Y.s_Statement [.row 2]), (2, .rows Y.Statement 3 ((numb 0 ((r.joints.take k).flatMap (jB r.joints))).map encSt))], 3⟩) (fun k => k ≤ r.joints.length) (fun k => r.joints.length - k) [.ownC 1 0 Y.Statement 3] 0 [] (Nat.zero_le _) ⟨⟨rfl, rfl, rfl, rfl, eqI (by simp), rfl, trivial⟩, ⟨rfl, rfl, rfl, trivial⟩⟩ ?_
  rintro k hk
  have hkk : IntKind.i64.wrap ((k : Int) + 1) = ((k + 1 : Nat) : Int) := by rw [w64] <;> omega
  have hnl : (numb 0 ((r.joints.take k).flatMap (jB r.joints))).length ≤ 20 := by
    rw [numb_len, jB_len, List.length_take]; omega
  (conv => whnf)
  refine ask_m (fun hlt => ?_) (fun hlt => ?_)
  · have hlt : k < r.joints.length := by have := of_decide_eq_true hlt; omega
    obtain ⟨j, hjk⟩ : ∃ x, r.joints[k]? = some x := ⟨_, List.getElem?_eq_getElem hlt⟩
    have hat := jB_at r.joints hjk
    obtain ⟨n1, ⟨k0, k6⟩, ⟨p1, p2⟩, _, _, n7⟩ := f2 k j hjk
    simp only [Bool.and_eq_true] at n7
    obtain ⟨⟨⟨w1, w2⟩, w3⟩, w4⟩ := n7
    have w1 := from1_bd w1
    have w2 := from1_bd w2
    have w3 := from1_bd w3
    have w4 := from1_bd w4
    generalize numb 0 ((r.joints.take k).flatMap (jB r.joints)) = V at *
    (conv => whnf)
    refine idx_and (by omega) (by simpa using hjk) ?_
    (conv => whnf)
    refine ⟨⟨by omega, by show _ < (7 : Int); omega⟩, ?_⟩
    (conv => whnf)
    have hx : List.drop (j.kind.toNat * 1) (kindTab.map DV.str) = DV.str (kindN j.kind) :: List.drop (j.kind.toNat * 1 + 1) (kindTab.map DV.str) := drop_cons (by rw [List.getElem?_map, Nat.mul_one, kindN_at k0 k6]; rfl)
    split
    case h_2 heq => cases heq.symm.trans hx
    case h_1 c tl heq =>
    have hc := (List.cons.inj (heq.symm.trans hx)).1
    subst hc
    (conv => whnf)
    refine call_i (robot_linkName r j.parent p1 (by omega)) ?_
    (conv => whnf)
    refine ⟨⟨by decide, by decide⟩, ?_⟩
    (conv => whnf)
    refine ⟨⟨by decide, by decide⟩, ?_⟩
    (conv => whnf)
    refine ⟨⟨by decide, by decide⟩, ?_⟩
    (conv => whnf)
    refine call_i (robot_texts [j.off.x, j.off.y, j.off.z, j.lo, j.hi] (by simp)) ?_
    (conv => whnf)
    refine ⟨⟨by simp, by simp⟩, ?_⟩
    (conv => whnf)
    refine call_i (robot_decimal j.weight (by omega) (by omega)) ?_
    (conv => whnf)
    refine ⟨⟨by simp, by simp⟩, ?_⟩
    (conv => whnf)
    refine call_i (FnOk.bot (write_add V wJoint [j.name, kindN j.kind, linkN r.joints j.parent, fmtT j.off.x, fmtT j.off.y, fmtT j.off.z, fmtT j.lo, fmtT j.hi, decT j.weight.toNat 1] (by omega))) ?_
    (conv => whnf)
    refine call_i (robot_decimal j.speed (by omega) (by omega)) ?_
    (conv => whnf)
    refine call_i (robot_decimal j.accel (by omega) (by omega)) ?_
    (conv => whnf)
    refine call_i (robot_decimal j.torque (by omega) (by omega)) ?_
    (conv => whnf)
    refine call_i (FnOk.bot (write_add (V ++ [(⟨V.length + 1, wJoint, [j.name, kindN j.kind, linkN r.joints j.parent, fmtT j.off.x, fmtT j.off.y, fmtT j.off.z, fmtT j.lo, fmtT j.hi, decT j.weight.toNat 1]⟩ : Stmt)]) wLimit [j.name, decT j.speed.toNat 1, decT j.accel.toNat 1, decT j.torque.toNat 1] (by simp; omega))) ?_
    (conv => whnf)
    refine ⟨k + 1, [(2, 11)], hlt, by omega, ⟨⟨rfl, rfl, rfl, rfl, rfl, eqI hkk, trivial⟩, ⟨rfl, rfl, rows_eq (by rw [hat]), trivial⟩⟩⟩
  · have hk : k = r.joints.length := by have := of_decide_eq_false hlt; omega
    subst hk
    rw [List.take_length] at hnl ⊢
    (conv => whnf)
    refine loop_intro (fun k : Nat => ⟨[(1, .one (.vptr 0 0)), (3, .one (.vptr 1 0)), (4, .one (.fn 46 [(1, 0)])), (74, .one (.dv (dMs r.masses))), (75, I r.masses.length), (76, I k)], [(0, bRo r), (1, .vars Y.s_Statement [.row 2]), (2, .rows Y.Statement 3 ((numb 0 (r.joints.flatMap (jB r.joints) ++ (r.masses.take k).map (mB r.joints))).map encSt))], 3⟩) (fun k => k ≤ r.masses.length) (fun k => r.masses.length - k) [] 0 [] (Nat.zero_le _) ⟨⟨rfl, rfl, rfl, rfl, eqI (by simp), rfl, trivial⟩, ⟨rfl, rfl, rows_eq (by simp), trivial⟩⟩ ?_
    rintro k hk
    have hkk : IntKind.i64.wrap ((k : Int) + 1) = ((k + 1 : Nat) : Int) := by rw [w64] <;> omega
    have hnl : (numb 0 (r.joints.flatMap (jB r.joints) ++ (r.masses.take k).map (mB r.joints))).length ≤ 60 := by
      rw [numb_len] at hnl ⊢
      rw [List.length_append, List.length_map, List.length_take]; omega
    (conv => whnf)
    refine ask_m (fun hlt => ?_) (fun hlt => ?_)
    · have hlt : k < r.masses.length := by have := of_decide_eq_true hlt; omega
      obtain ⟨m, hmk⟩ : ∃ x, r.masses[k]? = some x := ⟨_, List.getElem?_eq_getElem hlt⟩
      have hat := mB_at r.joints (r.joints.flatMap (jB r.joints)) hmk
      have hok := f4 m (List.mem_of_getElem? hmk)
      simp only [massOk, Bool.and_eq_true, decide_eq_true_eq] at hok
      obtain ⟨⟨⟨m1, m2⟩, m3⟩, m4⟩ := hok
      generalize numb 0 (r.joints.flatMap (jB r.joints) ++ (r.masses.take k).map (mB r.joints)) = V at *
      (conv => whnf)
      refine idx_and (by omega) (by simpa using hmk) ?_
      (conv => whnf)
      refine call_i (robot_linkName r m.link (by omega) (by omega)) ?_
      (conv => whnf)
      refine ⟨⟨by decide, by decide⟩, ?_⟩
      (conv => whnf)
      refine ⟨⟨by decide, by decide⟩, ?_⟩
      (conv => whnf)
      refine ⟨⟨by decide, by decide⟩, ?_⟩
      (conv => whnf)
      refine call_i (robot_texts [m.mass, m.point.x, m.point.y, m.point.z] (by simp)) ?_
      (conv => whnf)
      refine ⟨⟨by simp, by simp⟩, ?_⟩
      (conv => whnf)
      refine call_i (FnOk.bot (write_add V wMass [linkN r.joints m.link, fmtT m.mass, fmtT m.point.x, fmtT m.point.y, fmtT m.point.z] (by omega))) ?_
      (conv => whnf)
      refine ⟨k + 1, [(2, 7)], hlt, by omega, ⟨⟨rfl, rfl, rfl, rfl, rfl, eqI hkk, trivial⟩, ⟨rfl, rfl, rows_eq (by rw [hat]), trivial⟩⟩⟩
    · have hk : k = r.masses.length := by have := of_decide_eq_false hlt; omega
      subst hk
      rw [List.take_length] at hnl ⊢
      have e : writeRobot r = numb 0 (r.joints.flatMap (jB r.joints) ++ r.masses.map (mB r.joints)) := by rw [writeRobot, if_pos h, robB]
      rw [e]
      (conv => whnf)
      refine retO [] ?_
      (conv => whnf)
      exact ⟨[(0, 2)], ⟨rfl, trivial⟩, ⟨rfl, trivial⟩⟩
end Go.Proofs.YtafglmjadbplcaaGreatDoor

/- scene.Write. -/
namespace Go.Proofs.YtafglmjadbplcaaGreatDoor
open Eng
set_option maxRecDepth 10000
attribute [local irreducible] FnOk loopW idxF retX arrF findF

theorem scene_linkName (s : Scene) (k : Int) (h0 : -1 ≤ k) (h1 : k < s.robot.joints.length) : FnOk Tryz.prog F.scene_linkName [Sc s, I k] [] 0 (Tx (linkN s.robot.joints k)) [] 0 := by
  refine fnOk tab mix G.scene_linkName rfl rfl (by kernel_rfl) rfl rfl ?_
  (conv => whnf)
  refine ask_m (fun h => ?_) (fun h => ?_)
  · have h : k = -1 := by simpa using h
    subst h
    (conv => whnf)
    refine ret0 ?_
    exact ret_dv (by rw [linkN, if_pos rfl]; rfl) rfl
  have h : ¬ k = -1 := by simpa using h
  obtain ⟨i, rfl⟩ : ∃ i : Nat, k = i := ⟨k.toNat, by omega⟩
  obtain ⟨j, hj⟩ : ∃ j, s.robot.joints[i]? = some j := ⟨_, List.getElem?_eq_getElem (by omega)⟩
  (conv => whnf)
  refine idx_and (by omega) (by simpa using hj) ?_
  (conv => whnf)
  refine ret0 ?_
  exact ret_dv (by rw [linkN, if_neg h, Int.toNat_natCast, hj]) rfl
theorem shB_at (js : List Joint) (P : List (ByteArray × List ByteArray)) {xs : List Shape} {k : Nat} {x : Shape} (h : xs[k]? = some x) : numb 0 (P ++ (xs.take (k + 1)).map (shB js)) = numb 0 (P ++ (xs.take k).map (shB js)) ++ [(⟨((numb 0 (P ++ (xs.take k).map (shB js))).length : Int) + 1, wShape, [linkN js x.link, fmtT x.radius] ++ x.points.flatMap ptB⟩ : Stmt)] := by
  rw [List.take_add_one, h, List.map_append, ← List.append_assoc, numb_app]
  simp [shB, numb, numb_len]
theorem skB_at (js : List Joint) (P : List (ByteArray × List ByteArray)) {xs : List Skip} {k : Nat} {x : Skip} (h : xs[k]? = some x) : numb 0 (P ++ (xs.take (k + 1)).map (skB js)) = numb 0 (P ++ (xs.take k).map (skB js)) ++ [(⟨((numb 0 (P ++ (xs.take k).map (skB js))).length : Int) + 1, wSkip, [linkN js x.a, linkN js x.b]⟩ : Stmt)] := by
  rw [List.take_add_one, h, List.map_append, ← List.append_assoc, numb_app]
  simp [skB, numb, numb_len]
theorem pt_take {l : List Vec} {k : Nat} {p : Vec} (h : l[k]? = some p) : (l.take (k + 1)).flatMap ptB = (l.take k).flatMap ptB ++ ptB p := by
  rw [List.take_add_one, h, List.flatMap_append]; simp
set_option maxHeartbeats 4000000 in
theorem scene_Write (s : Scene) (hs : small s) : FnOk Tryz.prog F.scene_Write [Sc s] [] 0 (.one (.row 0)) [(0, .rows Y.Statement 3 ((writeScene s).map encSt))] 1 := by
  refine fnOkG [(17, [.frz 2]), (23, [.frz 3])] tab mix G.scene_Write rfl rfl (by kernel_rfl) rfl rfl ?_
  (conv => whnf)
  refine call_i (scene_Check s hs) ?_
  (conv => whnf)
  refine ask_m (fun h => ?_) (fun h => ?_)
  · have h : ¬ checkScene s = 0 := by simpa using h
    rw [writeScene, if_neg h]
    (conv => whnf)
    refine retO [.own 2 Y.Statement 3] ?_
    (conv => whnf)
    exact ⟨[(0, 1)], ⟨rfl, trivial⟩, ⟨rfl, trivial⟩⟩
  have h : checkScene s = 0 := by simpa using h
  obtain ⟨f1, f2, f3, f4, f5⟩ := scene_facts h
  obtain ⟨r1, _, r3, _⟩ := robot_facts f1
  have ew : writeRobot s.robot = numb 0 (robB s.robot) := by rw [writeRobot, if_pos f1]
  have hrl : (robB s.robot).length ≤ 52 := by rw [robB, List.length_append, jB_len, List.length_map]; omega
  (conv => whnf)
  refine call_i (robot_Write s.robot (by omega) (by omega)) ?_
  (conv => whnf)
  rw [ew]
  refine loop_intro (fun k : Nat => ⟨[(1, .one (.vptr 0 0)), (3, .one (.row 1)), (21, .one (.dv (dShs s.shapes))), (22, I s.shapes.length), (23, I k)], [(0, bSc s), (1, .rows Y.Statement 3 ((numb 0 (robB s.robot ++ (s.shapes.take k).map (shB s.robot.joints))).map encSt))], 2⟩) (fun k => k ≤ s.shapes.length) (fun k => s.shapes.length - k) [] 0 [] (Nat.zero_le _) ⟨⟨rfl, rfl, rfl, eqI (by simp), rfl, trivial⟩, ⟨rfl, rows_eq (by simp), trivial⟩⟩ ?_
  rintro k hk
  have hkk : IntKind.i64.wrap ((k : Int) + 1) = ((k + 1 : Nat) : Int) := by rw [w64] <;> omega
  have hnl : (numb 0 (robB s.robot ++ (s.shapes.take k).map (shB s.robot.joints))).length ≤ 100 := by
    rw [numb_len, List.length_append, List.length_map, List.length_take]; omega
  (conv => whnf)
  refine ask_m (fun hlt => ?_) (fun hlt => ?_)
  · have hlt : k < s.shapes.length := by have := of_decide_eq_true hlt; omega
    obtain ⟨x, hx⟩ : ∃ x, s.shapes[k]? = some x := ⟨_, List.getElem?_eq_getElem hlt⟩
    have hat := shB_at s.robot.joints (robB s.robot) hx
    obtain ⟨g1, g2, g3, g4, g5⟩ := f3 x (List.mem_of_getElem? hx)
    have g1 := link_bd g1
    generalize numb 0 (robB s.robot ++ (s.shapes.take k).map (shB s.robot.joints)) = V at *
    (conv => whnf)
    refine idx_and (by omega) (by simpa using hx) ?_
    (conv => whnf)
    refine call_i (scene_linkName s x.link g1.1 g1.2) ?_
    (conv => whnf)
    refine call_i (token_Format x.radius) ?_
    (conv => whnf)
    refine loop_intro (fun j : Nat => ⟨[(1, .one (.vptr 0 0)), (3, .one (.row 1)), (6, .one (.row 2)), (21, .one (.dv (dShs s.shapes))), (22, I s.shapes.length), (23, I k), (36, .one (.dv (dVs x.points))), (37, I x.points.length), (38, I j)], [(0, bSc s), (1, .rows Y.Statement 3 (V.map encSt)), (2, .rows Y.string 1 (([linkN s.robot.joints x.link, fmtT x.radius] ++ (x.points.take j).flatMap ptB).map encA))], 3⟩) (fun j => j ≤ x.points.length) (fun j => x.points.length - j) [] 0 [(2, 3)] (Nat.zero_le _) ⟨⟨rfl, rfl, rfl, rfl, rfl, rfl, rfl, eqI (by simp), rfl, trivial⟩, ⟨rfl, rfl, rfl, trivial⟩⟩ ?_
    rintro j hj
    have hjj : IntKind.i64.wrap ((j : Int) + 1) = ((j + 1 : Nat) : Int) := by rw [w64] <;> omega
    have hpl : ((x.points.take j).flatMap ptB).length ≤ 24 := by rw [pts_length, List.length_take]; omega
    (conv => whnf)
    refine ask_m (fun hjl => ?_) (fun hjl => ?_)
    · have hjl : j < x.points.length := by have := of_decide_eq_true hjl; omega
      obtain ⟨p, hp⟩ : ∃ p, x.points[j]? = some p := ⟨_, List.getElem?_eq_getElem hjl⟩
      have hpt := pt_take hp
      generalize (x.points.take j).flatMap ptB = B at *
      (conv => whnf)
      refine idx_and (by omega) (by simpa using hp) ?_
      (conv => whnf)
      refine loop_intro (fun c : Nat => ⟨[(1, .one (.vptr 0 0)), (3, .one (.row 1)), (6, .one (.row 2)), (21, .one (.dv (dShs s.shapes))), (22, I s.shapes.length), (23, I k), (36, .one (.dv (dVs x.points))), (37, I x.points.length), (38, I j), (42, Ve p), (43, I c)], [(0, bSc s), (1, .rows Y.Statement 3 (V.map encSt)), (2, .rows Y.string 1 (([linkN s.robot.joints x.link, fmtT x.radius] ++ (B ++ (ptB p).take c)).map encA))], 3⟩) (fun c => c ≤ 3) (fun c => 3 - c) [] 0 [] (Nat.zero_le _) ⟨⟨rfl, rfl, rfl, rfl, rfl, rfl, rfl, rfl, rfl, rfl, rfl, trivial⟩, ⟨rfl, rfl, rows_eq (by simp), trivial⟩⟩ ?_
      rintro c hc
      have hcc : IntKind.i64.wrap ((c : Int) + 1) = ((c + 1 : Nat) : Int) := by rw [w64] <;> omega
      (conv => whnf)
      refine ask_m (fun hcl => ?_) (fun hcl => ?_)
      · have hcl : c < 3 := by have := of_decide_eq_true hcl; omega
        obtain ⟨v, hv⟩ : ∃ v, [p.x, p.y, p.z][c]? = some v := ⟨_, List.getElem?_eq_getElem (by show c < 3; exact hcl)⟩
        have hnx : (ptB p).take (c + 1) = (ptB p).take c ++ [fmtT v] := by
          have : ptB p = [p.x, p.y, p.z].map fmtT := rfl
          rw [this, List.take_add_one, List.getElem?_map, hv]; rfl
        have htl : ((ptB p).take c).length ≤ 3 := by rw [List.length_take]; omega
        (conv => whnf)
        refine ⟨⟨by omega, by show _ < (3 : Int); omega⟩, ?_⟩
        refine arr_at (cs := [p.x, p.y, p.z].map fun x => CV.dv (.int .i64 x)) (c := .dv (.int .i64 v)) rfl rfl (by rw [Int.toNat_natCast, List.getElem?_map, hv]; rfl) ?_
        (conv => whnf)
        refine call_i (token_Format v) ?_
        (conv => whnf)
        refine ⟨⟨by simp; omega, by simp; omega⟩, ?_⟩
        (conv => whnf)
        exact ⟨c + 1, [(2, 4)], hcl, by omega, ⟨⟨rfl, rfl, rfl, rfl, rfl, rfl, rfl, rfl, rfl, rfl, eqI hcc, trivial⟩, ⟨rfl, rfl, rows_eq (by rw [hnx]; simp [encA]), trivial⟩⟩⟩
      · have hc : c = 3 := by have := of_decide_eq_false hcl; omega
        subst hc
        have e3 : (ptB p).take 3 = ptB p := rfl
        (conv => whnf)
        exact ⟨j + 1, [], hjl, by omega, ⟨⟨rfl, rfl, rfl, rfl, rfl, rfl, rfl, rfl, eqI hjj, trivial⟩, ⟨rfl, rfl, rows_eq (by rw [hpt, e3]), trivial⟩⟩⟩
    · have hj : j = x.points.length := by have := of_decide_eq_false hjl; omega
      subst hj
      rw [List.take_length] at hpl ⊢
      have e : IntKind.i64.wrap ((((V.map encSt).length : Nat) : Int) + 1) = (V.length : Int) + 1 := by rw [List.length_map, w64] <;> omega
      (conv => whnf)
      rw [e]
      refine ⟨⟨by simp; omega, by simp; omega⟩, ?_⟩
      (conv => whnf)
      exact ⟨k + 1, [(1, 4)], hlt, by omega, ⟨⟨rfl, rfl, rfl, rfl, eqI hkk, trivial⟩, ⟨rfl, rows_eq (by rw [hat, List.map_append (l₁ := V)]; rfl), trivial⟩⟩⟩
  · have hk : k = s.shapes.length := by have := of_decide_eq_false hlt; omega
    subst hk
    rw [List.take_length] at hnl ⊢
    (conv => whnf)
    refine loop_intro (fun k : Nat => ⟨[(1, .one (.vptr 0 0)), (3, .one (.row 1)), (63, .one (.dv (dSks s.skips))), (64, I s.skips.length), (65, I k)], [(0, bSc s), (1, .rows Y.Statement 3 ((numb 0 ((robB s.robot ++ s.shapes.map (shB s.robot.joints)) ++ (s.skips.take k).map (skB s.robot.joints))).map encSt))], 2⟩) (fun k => k ≤ s.skips.length) (fun k => s.skips.length - k) [] 0 [] (Nat.zero_le _) ⟨⟨rfl, rfl, rfl, eqI (by simp), rfl, trivial⟩, ⟨rfl, rows_eq (by simp), trivial⟩⟩ ?_
    rintro k hk
    have hkk : IntKind.i64.wrap ((k : Int) + 1) = ((k + 1 : Nat) : Int) := by rw [w64] <;> omega
    have hnl : (numb 0 ((robB s.robot ++ s.shapes.map (shB s.robot.joints)) ++ (s.skips.take k).map (skB s.robot.joints))).length ≤ 200 := by
      rw [numb_len, List.length_append, List.length_append, List.length_map, List.length_map, List.length_take]; omega
    (conv => whnf)
    refine ask_m (fun hlt => ?_) (fun hlt => ?_)
    · have hlt : k < s.skips.length := by have := of_decide_eq_true hlt; omega
      obtain ⟨x, hx⟩ : ∃ x, s.skips[k]? = some x := ⟨_, List.getElem?_eq_getElem hlt⟩
      have hat := skB_at s.robot.joints (robB s.robot ++ s.shapes.map (shB s.robot.joints)) hx
      obtain ⟨g1, g2⟩ := f5 x (List.mem_of_getElem? hx)
      have g1 := link_bd g1
      have g2 := link_bd g2
      generalize numb 0 ((robB s.robot ++ s.shapes.map (shB s.robot.joints)) ++ (s.skips.take k).map (skB s.robot.joints)) = V at *
      have e : IntKind.i64.wrap ((((V.map encSt).length : Nat) : Int) + 1) = (V.length : Int) + 1 := by rw [List.length_map, w64] <;> omega
      (conv => whnf)
      refine idx_and (by omega) (by simpa using hx) ?_
      (conv => whnf)
      refine call_i (scene_linkName s x.a g1.1 g1.2) ?_
      (conv => whnf)
      refine call_i (scene_linkName s x.b g2.1 g2.2) ?_
      (conv => whnf)
      rw [e]
      refine ⟨⟨by simp; omega, by simp; omega⟩, ?_⟩
      (conv => whnf)
      exact ⟨k + 1, [(1, 5)], hlt, by omega, ⟨⟨rfl, rfl, rfl, rfl, eqI hkk, trivial⟩, ⟨rfl, rows_eq (by rw [hat, List.map_append (l₁ := V)]; rfl), trivial⟩⟩⟩
    · have hk : k = s.skips.length := by have := of_decide_eq_false hlt; omega
      subst hk
      rw [List.take_length] at hnl ⊢
      have e : writeScene s = numb 0 ((robB s.robot ++ s.shapes.map (shB s.robot.joints)) ++ s.skips.map (skB s.robot.joints)) := by rw [writeScene, if_pos h, scB]
      rw [e]
      (conv => whnf)
      refine retO [] ?_
      (conv => whnf)
      exact ⟨[(0, 1)], ⟨rfl, trivial⟩, ⟨rfl, trivial⟩⟩
end Go.Proofs.YtafglmjadbplcaaGreatDoor

/- The makers: pairs alike, letters, joints, robots, scenes. -/
namespace Go.Proofs.YtafglmjadbplcaaGreatDoor
open Eng
set_option maxRecDepth 10000
attribute [local irreducible] FnOk loopW idxF retX arrF

deriving instance DecidableEq for Pair
abbrev dPas (l : List Pair) : DV := .lst 2 (l.map encPa)
theorem cmpPair : cmpB Tryz.prog 8 Y.Pair = true ∧ Tryz.prog.eqGuardType Tryz.prog.depth Y.Pair = false := ⟨by kernel_rfl, by kernel_rfl⟩
theorem mk_Same_Pair (a b : List Pair) (ha : a.length ≤ 4611686018427387904) (hb : b.length ≤ 4611686018427387904) : FnOk Tryz.prog F.mk_Same_api_Pair [.one (.dv (dPas a)), .one (.dv (dPas b))] [] 0 (Bo (decide (a = b))) [] 0 := by
  refine fnOk tab mix G.mk_Same_api_Pair rfl rfl (by kernel_rfl) rfl rfl ?_
  (conv => whnf)
  refine ask_m (fun h => ?_) (fun h => ?_)
  · (conv => whnf)
    refine ret0 ?_
    refine ret_b (Eq.symm (decide_eq_false ?_)) rfl
    rintro rfl
    simp at h
  have hl : a.length = b.length := by simp at h; omega
  (conv => whnf)
  refine loop_intro (fun k : Nat => ⟨[(0, .one (.dv (dPas a))), (1, .one (.dv (dPas b))), (5, I k)], [], 0⟩) (fun k => k ≤ a.length ∧ a.take k = b.take k) (fun k => a.length - k) [] 0 [] ⟨Nat.zero_le _, rfl⟩ ⟨⟨rfl, rfl, rfl, trivial⟩, trivial⟩ ?_
  rintro k ⟨hk, hall⟩
  (conv => whnf)
  refine ask_m (fun h => ?_) (fun h => ?_)
  · have hlt : k < a.length := by simpa using h
    obtain ⟨x, hx⟩ : ∃ j, a[k]? = some j := ⟨_, List.getElem?_eq_getElem hlt⟩
    obtain ⟨y, hy⟩ : ∃ j, b[k]? = some j := ⟨_, List.getElem?_eq_getElem (by omega)⟩
    have hkk : IntKind.i64.wrap ((k : Int) + 1) = ((k + 1 : Nat) : Int) := by rw [w64] <;> omega
    (conv => whnf)
    refine idx_and (by omega) (by simpa using hx) ?_
    (conv => whnf)
    refine idx_and (by omega) (by simpa using hy) ?_
    (conv => whnf)
    refine ⟨cmpPair, ?_⟩
    (conv => whnf)
    refine ask_m (fun h => ?_) (fun h => ?_)
    · (conv => whnf)
      refine ret0 ?_
      refine ret_b (Eq.symm (decide_eq_false (ne_at hx hy ?_))) rfl
      rintro rfl
      simp at h
    · have e : x = y := by
        cases x; cases y; simp at h; simp [h]
      subst e
      (conv => whnf)
      exact ⟨k + 1, [], ⟨hlt, take_same hall hx hy⟩, by omega, ⟨⟨rfl, rfl, eqI hkk, trivial⟩, trivial⟩⟩
  · have hk : k = a.length := by simp at h; omega
    subst hk
    rw [List.take_length, hl, List.take_length] at hall
    (conv => whnf)
    refine ret0 ?_
    exact ret_b (decide_eq_true hall).symm rfl
end Go.Proofs.YtafglmjadbplcaaGreatDoor

/- law9: one, awake, SceneStill. -/
namespace Go.Proofs.YtafglmjadbplcaaGreatDoor
open Eng
set_option maxRecDepth 10000
attribute [local irreducible] FnOk loopW idxF retX arrF

def oneScene : Scene := ⟨⟨[⟨letter 0, 3, -1, ⟨0, 0, 0⟩, 0, 16384, 1, 1, 1, 1⟩], []⟩, [⟨-1, 5, [⟨99, 0, 0⟩]⟩, ⟨0, 5, [⟨1, 0, 0⟩, ⟨2, 0, 0⟩]⟩], []⟩
theorem one_small : small oneScene := by
  refine ⟨by decide, by decide, by decide, by decide, fun x hx => ?_⟩
  simp [oneScene] at hx
  rcases hx with rfl | rfl <;> decide
theorem law9_one : FnOk Tryz.prog F.law9_one [] [] 0 (Sc oneScene) [] 0 := by
  refine fnOk tab mix G.law9_one rfl rfl (by kernel_rfl) rfl rfl ?_
  (conv => whnf)
  (conv => whnf)
  refine retO [.frz 1, .frz 5, .ownC 0 1 Y.Mass 5, .frz 6, .ownC 0 3 Y.Skip 2, .frz 7] ?_
  (conv => whnf)
  exact ⟨[], ⟨rfl, trivial⟩, trivial⟩
theorem one_okS9 : checkScene oneScene = 0 := by decide
theorem one_pairs : pairs oneScene = [⟨0, 1⟩] := by decide
theorem one_skip : skipped oneScene 0 (-1) = false := by decide
theorem flatPa (t : Nat) (xs : List Pair) : FlatB (.rows t 2 (xs.map encPa)) := by
  intro r hr d hd
  obtain ⟨x, _, rfl⟩ := List.mem_map.1 hr
  simp [encPa] at hd
  rcases hd with rfl | rfl <;> trivial
theorem law9_awake : FnOk Tryz.prog F.law9_awake [] [] 0 (Bo true) [] 0 := by
  refine fnOk tab mix G.law9_awake rfl rfl (by kernel_rfl) rfl rfl ?_
  (conv => whnf)
  refine call_i (law9_one) ?_
  (conv => whnf)
  refine call_i (scene_Check oneScene one_small) ?_
  (conv => whnf)
  rw [one_okS9]
  (conv => whnf)
  refine call_i (law9_one) ?_
  (conv => whnf)
  refine call_i (scene_Pairs oneScene one_small) ?_
  (conv => whnf)
  refine call_i (mk_Same_Pair (pairs oneScene) [⟨0, 1⟩] (by rw [one_pairs]; decide) (by decide)) ?_
  (conv => whnf)
  refine ⟨⟨trivial, trivial⟩, ?_⟩
  (conv => whnf)
  rw [one_pairs]
  (conv => whnf)
  refine call_i (law9_one) ?_
  (conv => whnf)
  refine call_i (scene_Skipped oneScene 0 (-1) (by decide)) ?_
  (conv => whnf)
  rw [one_skip]
  (conv => whnf)
  refine ret0 ?_
  exact ret_b rfl rfl

/- still scenes -/
def still (j : Joint) : Joint := { j with hi := j.lo }
def stillS (s : Scene) : Scene := ⟨⟨s.robot.joints.map still, []⟩, s.shapes, s.skips⟩
theorem set_upd {α : Type} {f : α → α} {xs : List α} {i : Nat} {x : α} (hx : xs[i]? = some x) : ((xs.take i).map f ++ xs.drop i).set i (f x) = (xs.take (i + 1)).map f ++ xs.drop (i + 1) := by
  have hi : i < xs.length := (List.getElem?_eq_some_iff.1 hx).1
  rw [drop_cons hx, List.take_add_one, hx, List.map_append, List.set_append_right _ _ (by simp; omega)]
  simp [Nat.min_eq_left (Nat.le_of_lt hi)]
theorem get_upd {α : Type} {f : α → α} {xs : List α} {i : Nat} {x : α} (hx : xs[i]? = some x) : ((xs.take i).map f ++ xs.drop i)[i]? = some x := by
  have hi : i < xs.length := (List.getElem?_eq_some_iff.1 hx).1
  rw [List.getElem?_append_right (by simp; omega)]
  simp [Nat.min_eq_left (Nat.le_of_lt hi), hx]
theorem find_mapS {f : Joint → Joint} (hf : ∀ j, (f j).name = j.name) : ∀ (js : List Joint) (nm : ByteArray) (k : Nat), find (js.map f) nm k = find js nm k
  | [], _, _ => rfl
  | j :: js, nm, k => by rw [List.map_cons, find, find, hf, find_mapS hf js]
theorem still_ok {s : Scene} (h : checkScene s = 0) : checkScene (stillS s) = 0 := by
  obtain ⟨g1, g2, g3, g4⟩ := scene_good h
  obtain ⟨r1, r2, r3⟩ := robot_good g1
  have hl : (stillS s).robot.joints.length = s.robot.joints.length := by simp [stillS]
  unfold checkScene at h
  split at h
  · contradiction
  split at h
  · contradiction
  split at h
  · contradiction
  rename_i h3
  split at h
  · contradiction
  split at h
  · contradiction
  rename_i h5
  refine scene_valid (robot_valid (by omega) (by omega) (jointsErr_zero fun k j hj => ?_) (by show 0 ≤ _; omega) rfl) g2 (fun x hx => ?_) g4 ?_
  · have g1' := g1
    unfold checkRobot at g1'
    split at g1'
    · contradiction
    split at g1'
    · contradiction
    rename_i hje
    simp only [ne_eq, Decidable.not_not] at hje
    have hj' : (s.robot.joints.map still)[k]? = some j := hj
    rw [List.getElem?_map] at hj'
    simp only [Option.map_eq_some_iff] at hj'
    obtain ⟨j0, hj0, rfl⟩ := hj'
    have h6 := jerr_at hje hj0
    rw [Nat.zero_add] at h6
    obtain ⟨n1, n2, b1, b2, b3, ⟨b4, b5, b6⟩, b7⟩ := jointErr_inv h6
    rw [Nat.zero_add]
    refine jointErr_zero n1 ?_ ⟨b1, b2, b3, ⟨Int.le_refl _, b5, Int.le_trans b4 b6⟩, b7⟩
    show find (s.robot.joints.map still) j0.name 0 = _
    rw [find_mapS (f := still) (fun _ => rfl)]; exact n2
  · rw [hl]; simp only [ne_eq, Decidable.not_not] at h3; exact serr_at h3 hx
  · rw [hl]; exact (Bool.eq_false_or_eq_true _).resolve_right h5
theorem still_carr {js : List Joint} (hd : downOk js) (hs : ∀ j ∈ js, j.lo = j.hi) : ∀ k, k ≤ js.length → carriers (js.take k) = List.replicate (k + 1) (-1)
  | 0, _ => rfl
  | k + 1, hk => by
    obtain ⟨j, hj⟩ : ∃ j, js[k]? = some j := ⟨_, List.getElem?_eq_getElem (by omega)⟩
    obtain ⟨d1, d2⟩ := hd k j hj
    rw [car_take hj, still_carr hd hs k (by omega), carStep, if_pos (hs j (List.mem_of_getElem? hj)), List.getD_eq_getElem?_getD, List.getElem?_replicate, if_pos (by omega)]
    rw [List.replicate_succ' (n := k + 1)]; rfl
theorem still_pairs {s : Scene} (h : checkScene s = 0) : pairs (stillS s) = [] := by
  have h' := still_ok h
  obtain ⟨g1, g2, g3, g4⟩ := scene_good h'
  obtain ⟨r1, r2, r3⟩ := robot_good g1
  have hc := still_carr r3 (fun j hj => by
    obtain ⟨j0, _, rfl⟩ := List.mem_map.1 (show j ∈ s.robot.joints.map still from hj)
    rfl) _ (Nat.le_refl _)
  rw [List.take_length] at hc
  have hcarr : ∀ x ∈ (stillS s).shapes, carr (stillS s) x.link = -1 := fun x hx => by
    obtain ⟨a, b⟩ := g3 x hx
    rw [carr, hc, List.getD_eq_getElem?_getD, List.getElem?_replicate, if_pos (by omega)]; rfl
  rw [pairs, if_pos h', pairsTo, List.flatMap_eq_nil_iff]
  intro i _
  rw [pairRow, List.map_eq_nil_iff, List.filter_eq_nil_iff]
  intro j _ hw
  unfold wantAt at hw
  rw [Bool.and_eq_true] at hw
  have hw := hw.2
  split at hw
  · rename_i x y hx hy
    rw [wanted, hcarr x (List.mem_of_getElem? hx), hcarr y (List.mem_of_getElem? hy)] at hw
    simp at hw
  · contradiction
theorem small_still {s : Scene} (h : small s) : small (stillS s) := ⟨by simpa [stillS] using h.1, Nat.zero_le _, h.2.2.1, h.2.2.2.1, h.2.2.2.2⟩
end Go.Proofs.YtafglmjadbplcaaGreatDoor

/- law9: SceneNames, SceneSkips. -/
namespace Go.Proofs.YtafglmjadbplcaaGreatDoor
open Eng
set_option maxRecDepth 10000
attribute [local irreducible] FnOk loopW idxF retX arrF

def otherT : ByteArray := ⟨#[111, 116, 104, 101, 114, 95]⟩
def newName (i : Nat) : ByteArray := otherT ++ decB 1 (9 - i)
def named (i : Nat) (j : Joint) : Joint := { j with name := newName i }
def renJ : Nat → List Joint → List Joint
  | _, [] => []
  | i, j :: js => named i j :: renJ (i + 1) js
def renS' (s : Scene) : Scene := ⟨⟨renJ 0 s.robot.joints, s.robot.masses⟩, s.shapes, s.skips⟩
theorem renJ_len : ∀ (i : Nat) (js : List Joint), (renJ i js).length = js.length
  | _, [] => rfl
  | i, _ :: js => by simp [renJ, renJ_len (i + 1) js]
theorem renJ_at : ∀ {i k : Nat} {js : List Joint}, (renJ i js)[k]? = (js[k]?).map (named (i + k))
  | _, _, [] => by simp [renJ]
  | i, 0, j :: js => rfl
  | i, k + 1, j :: js => by
    show (renJ (i + 1) js)[k]? = _
    rw [renJ_at, show i + 1 + k = i + (k + 1) by omega]; rfl
theorem renJ_app : ∀ (i : Nat) (a b : List Joint), renJ i (a ++ b) = renJ i a ++ renJ (i + a.length) b
  | _, [], _ => rfl
  | i, j :: a, b => by
    show named i j :: renJ (i + 1) (a ++ b) = named i j :: (renJ (i + 1) a ++ _)
    rw [renJ_app (i + 1) a b, show i + 1 + a.length = i + (a.length + 1) by omega]; rfl
theorem name_ok : ∀ i, i < 9 → nameOk (newName i) = true := by decide
theorem name_ne : ∀ i, i < 9 → ∀ j, j < 9 → newName i = newName j → i = j := by decide
theorem ren_ok {s : Scene} (h : checkScene s = 0) (h9 : s.robot.joints.length ≤ 9) : checkScene (renS' s) = 0 := by
  obtain ⟨g1, g2, g3, g4⟩ := scene_good h
  obtain ⟨r1, r2, r3⟩ := robot_good g1
  have hl : (renS' s).robot.joints.length = s.robot.joints.length := renJ_len 0 _
  unfold checkScene at h
  split at h
  · contradiction
  split at h
  · contradiction
  split at h
  · contradiction
  rename_i h3
  split at h
  · contradiction
  split at h
  · contradiction
  rename_i h5
  have g1' := g1
  unfold checkRobot at g1'
  split at g1'
  · contradiction
  split at g1'
  · contradiction
  rename_i hje
  split at g1'
  · contradiction
  rename_i hm
  simp only [ne_eq, Decidable.not_not] at hje
  refine scene_valid (robot_valid (by omega) (by omega) (jointsErr_zero fun k j hj => ?_) (by show s.robot.masses.length ≤ _; omega) ?_) g2 (fun x hx => ?_) g4 ?_
  · have hj' : (renJ 0 s.robot.joints)[k]? = some j := hj
    rw [renJ_at, Nat.zero_add] at hj'
    simp only [Option.map_eq_some_iff] at hj'
    obtain ⟨j0, hj0, rfl⟩ := hj'
    have hk : k < s.robot.joints.length := (List.getElem?_eq_some_iff.1 hj0).1
    have h6 := jerr_at hje hj0
    rw [Nat.zero_add] at h6
    obtain ⟨n1, n2, hb⟩ := jointErr_inv h6
    rw [Nat.zero_add]
    refine jointErr_zero (name_ok k (by omega)) ?_ hb
    have := find_at (k := 0) hj fun i' j' hi hj' e => by
      have hj2 : (renJ 0 s.robot.joints)[i']? = some j' := hj'
      rw [renJ_at, Nat.zero_add] at hj2
      simp only [Option.map_eq_some_iff] at hj2
      obtain ⟨j1, hj1, rfl⟩ := hj2
      have := name_ne i' (by omega) k (by omega) e
      omega
    rw [this]; simp
  · rw [hl]
    have : ¬ s.robot.masses.all (massOk s.robot.joints.length) = false := fun h => hm (.inr h)
    exact (Bool.eq_false_or_eq_true _).resolve_right this
  · rw [hl]; simp only [ne_eq, Decidable.not_not] at h3; exact serr_at h3 hx
  · rw [hl]; exact (Bool.eq_false_or_eq_true _).resolve_right h5
theorem ren_carr (js : List Joint) (i : Nat) : carriers (renJ i js) = carriers js := by
  have h : ∀ (js : List Joint) (i : Nat) (acc : List Int), (renJ i js).foldl carStep acc = js.foldl carStep acc := by
    intro js
    induction js with
    | nil => intro i acc; rfl
    | cons j js ih => intro i acc; simp only [renJ, List.foldl_cons]; rw [ih]; rfl
  exact h js i _
theorem pairs_congr {s t : Scene} (hs : checkScene s = 0) (ht : checkScene t = 0) (h1 : s.shapes = t.shapes) (h2 : ∀ x ∈ s.shapes, ∀ y ∈ s.shapes, wanted s x y = wanted t x y) : pairs s = pairs t := by
  have hw : ∀ i j, wantAt s i j = wantAt t i j := fun i j => by
    unfold wantAt
    rw [← h1]
    cases hx : s.shapes[i]? with
    | none => rfl
    | some x => cases hy : s.shapes[j]? with
      | none => rfl
      | some y => simp only [h2 x (List.mem_of_getElem? hx) y (List.mem_of_getElem? hy)]
  rw [pairs, pairs, if_pos hs, if_pos ht, pairsTo, pairsTo, h1]
  congr 1
  funext i
  unfold pairRow
  rw [show wantAt s i = wantAt t i from funext (hw i)]
theorem ren_pairs {s : Scene} (h : checkScene s = 0) (h9 : s.robot.joints.length ≤ 9) : pairs s = pairs (renS' s) := by
  refine pairs_congr h (ren_ok h h9) rfl fun x _ y _ => ?_
  have hc : ∀ k, carr (renS' s) k = carr s k := fun k => by
    show (carriers (renJ 0 s.robot.joints)).getD _ _ = _
    rw [ren_carr]; rfl
  rw [wanted, wanted, hc, hc]; rfl
theorem small_ren {s : Scene} (h : small s) : small (renS' s) := ⟨by show (renJ 0 s.robot.joints).length ≤ _; rw [renJ_len]; exact h.1, h.2⟩
theorem ren_set {js : List Joint} {i : Nat} {j : Joint} (hj : js[i]? = some j) : (renJ 0 (js.take i) ++ js.drop i).set i (named i j) = renJ 0 (js.take (i + 1)) ++ js.drop (i + 1) := by
  have hi : i < js.length := (List.getElem?_eq_some_iff.1 hj).1
  rw [drop_cons hj, List.take_add_one, hj, renJ_app, List.set_append_right _ _ (by rw [renJ_len]; simp; omega)]
  simp [renJ_len, Nat.min_eq_left (Nat.le_of_lt hi), renJ]
theorem ren_get {js : List Joint} {i : Nat} {j : Joint} (hj : js[i]? = some j) : (renJ 0 (js.take i) ++ js.drop i)[i]? = some j := by
  have hi : i < js.length := (List.getElem?_eq_some_iff.1 hj).1
  rw [List.getElem?_append_right (by rw [renJ_len]; simp; omega), renJ_len]
  simp [Nat.min_eq_left (Nat.le_of_lt hi), hj]
theorem joints3 (l : List Int) : (mkScene l).robot.joints.length ≤ 3 := (joints_len l 0).2
theorem pairs_len (s : Scene) : (pairs s).length ≤ 576 := by
  unfold pairs; split
  · rename_i h
    have h1 := pairsTo_len s s.shapes.length
    have h2 := (scene_good h).2.1
    have h3 := Nat.mul_le_mul h2 h2
    omega
  · simp
end Go.Proofs.YtafglmjadbplcaaGreatDoor

/- law9: SceneSkips. -/
namespace Go.Proofs.YtafglmjadbplcaaGreatDoor
open Eng
set_option maxRecDepth 10000
attribute [local irreducible] FnOk loopW idxF retX arrF

def twice (ks : List Skip) : List Skip := ks.flatMap fun x => [⟨x.b, x.a⟩, x]
theorem twice_succ {ks : List Skip} {i : Nat} {x : Skip} (h : ks[i]? = some x) : twice (ks.take (i + 1)) = twice (ks.take i) ++ [⟨x.b, x.a⟩, x] := by
  rw [List.take_add_one, h, twice, List.flatMap_append]; rfl
theorem twice_len (ks : List Skip) : (twice ks).length = 2 * ks.length := by
  induction ks with
  | nil => rfl
  | cons k ks ih => show (_ :: _ :: twice ks).length = _; simp [ih]; omega
def twiceS (s : Scene) : Scene := ⟨s.robot, s.shapes, twice s.skips⟩
def more (s : Scene) (a b : Int) : Scene := ⟨s.robot, s.shapes, s.skips ++ [⟨a % ((s.robot.joints.length : Int) + 1) - 1, b % ((s.robot.joints.length : Int) + 1) - 1⟩]⟩
def keep (u : Scene) (q : Pair) : Bool := match u.shapes[q.a.toNat]?, u.shapes[q.b.toNat]? with
  | some x, some y => !skipped u x.link y.link
  | _, _ => false
theorem small_more {s : Scene} {a b : Int} (h : small s) (hk : s.skips.length ≤ 1) : small (more s a b) := ⟨h.1, h.2.1, h.2.2.1, by simp [more]; omega, h.2.2.2.2⟩
theorem small_twice {s : Scene} (h : small s) (hk : s.skips.length ≤ 1) : small (twiceS s) := ⟨h.1, h.2.1, h.2.2.1, by simp [twiceS, twice_len]; omega, h.2.2.2.2⟩
theorem pairs_mem {s : Scene} {q : Pair} (h : q ∈ pairs s) : ∃ i j : Nat, i < j ∧ j < s.shapes.length ∧ q = ⟨(i : Int), (j : Int)⟩ ∧ ∃ x y, s.shapes[i]? = some x ∧ s.shapes[j]? = some y := by
  unfold pairs at h
  split at h
  · simp only [pairsTo, pairRow, List.mem_flatMap, List.mem_map, List.mem_filter, List.mem_range] at h
    obtain ⟨i, hi, j, ⟨hj, hw⟩, rfl⟩ := h
    simp only [wantAt, Bool.and_eq_true, decide_eq_true_eq] at hw
    exact ⟨i, j, hw.1, hj, rfl, _, _, List.getElem?_eq_getElem hi, List.getElem?_eq_getElem hj⟩
  · simp at h
theorem with_skips {s : Scene} {ks : List Skip} (h : checkScene s = 0) (h1 : ks.length ≤ 64) (h2 : (ks.all fun k => linkOk s.robot.joints.length k.a && linkOk s.robot.joints.length k.b) = true) : checkScene ⟨s.robot, s.shapes, ks⟩ = 0 := by
  obtain ⟨g1, g2, g3, g4⟩ := scene_good h
  unfold checkScene at h
  split at h
  · contradiction
  split at h
  · contradiction
  split at h
  · contradiction
  rename_i h3
  simp only [ne_eq, Decidable.not_not] at h3
  exact scene_valid g1 g2 (fun x hx => serr_at h3 hx) h1 h2
theorem skips_in {s : Scene} (h : checkScene s = 0) : ∀ k ∈ s.skips, linkOk s.robot.joints.length k.a = true ∧ linkOk s.robot.joints.length k.b = true := by
  unfold checkScene at h
  split at h
  · contradiction
  split at h
  · contradiction
  split at h
  · contradiction
  split at h
  · contradiction
  split at h
  · contradiction
  rename_i h5
  have := (Bool.eq_false_or_eq_true _).resolve_right h5
  intro k hk
  simpa using List.all_eq_true.1 this k hk
theorem twice_ok {s : Scene} (h : checkScene s = 0) (hk : s.skips.length ≤ 1) : checkScene (twiceS s) = 0 := by
  refine with_skips h (by rw [twice_len]; omega) ?_
  rw [List.all_eq_true]
  intro k hk
  simp only [twice, List.mem_flatMap, List.mem_cons, List.not_mem_nil, or_false] at hk
  obtain ⟨x, hx, rfl | rfl⟩ := hk
  · obtain ⟨h1, h2⟩ := skips_in h x hx
    simp [h1, h2]
  · obtain ⟨h1, h2⟩ := skips_in h k hx
    simp [h1, h2]
theorem twice_skipped (s : Scene) (a b : Int) : skipped (twiceS s) a b = skipped s a b := by
  have h : ∀ ks : List Skip, (twice ks).any (isSkip a b) = ks.any (isSkip a b) := by
    intro ks
    induction ks with
    | nil => rfl
    | cons k ks ih =>
      show (isSkip a b ⟨k.b, k.a⟩ || (isSkip a b k || (twice ks).any (isSkip a b))) = (isSkip a b k || ks.any (isSkip a b))
      rw [ih]
      have : isSkip a b ⟨k.b, k.a⟩ = isSkip a b k := by
        simp only [isSkip]
        rw [Bool.or_comm]
        congr 1 <;> exact Bool.and_comm _ _
      rw [this, ← Bool.or_assoc, Bool.or_self]
  exact h s.skips
theorem twice_pairs {s : Scene} (h : checkScene s = 0) (hk : s.skips.length ≤ 1) : pairs s = pairs (twiceS s) := by
  refine pairs_congr h (twice_ok h hk) rfl fun x _ y _ => ?_
  rw [wanted, wanted, twice_skipped]; rfl
theorem more_ok {s : Scene} {a b : Int} (h : checkScene s = 0) (hk : s.skips.length ≤ 1) : checkScene (more s a b) = 0 := by
  refine with_skips h (by simp; omega) ?_
  have ra := Int.emod_nonneg a (b := (s.robot.joints.length : Int) + 1) (by omega)
  have ra' := Int.emod_lt_of_pos a (b := (s.robot.joints.length : Int) + 1) (by omega)
  have rb := Int.emod_nonneg b (b := (s.robot.joints.length : Int) + 1) (by omega)
  have rb' := Int.emod_lt_of_pos b (b := (s.robot.joints.length : Int) + 1) (by omega)
  rw [List.all_append, Bool.and_eq_true]
  refine ⟨List.all_eq_true.2 fun k hk => by obtain ⟨h1, h2⟩ := skips_in h k hk; simp [h1, h2], ?_⟩
  simp only [List.all_cons, List.all_nil, Bool.and_true, Bool.and_eq_true]
  exact ⟨linkOk_mk (by omega) (by omega), linkOk_mk (by omega) (by omega)⟩
theorem more_pairs {s : Scene} {a b : Int} (h : checkScene s = 0) (hk : s.skips.length ≤ 1) : (pairs s).filter (keep (more s a b)) = pairs (more s a b) := by
  rw [pairs, pairs, if_pos h, if_pos (more_ok h hk), pairsTo, pairsTo, List.filter_flatMap]
  show List.flatMap _ (List.range s.shapes.length) = List.flatMap _ (List.range s.shapes.length)
  congr 1
  funext i
  unfold pairRow
  rw [List.filter_map, List.filter_filter]
  show List.map _ (List.filter _ (List.range s.shapes.length)) = List.map _ (List.filter _ (List.range s.shapes.length))
  congr 2
  funext j
  simp only [Function.comp, keep, Int.toNat_natCast, wantAt]
  show ((match s.shapes[i]?, s.shapes[j]? with
    | some x, some y => !skipped (more s a b) x.link y.link
    | _, _ => false) && (decide (i < j) && match s.shapes[i]?, s.shapes[j]? with
    | some x, some y => wanted s x y
    | _, _ => false)) = (decide (i < j) && match s.shapes[i]?, s.shapes[j]? with
    | some x, some y => wanted (more s a b) x y
    | _, _ => false)
  cases hx : s.shapes[i]? with
  | none => simp
  | some x => cases hy : s.shapes[j]? with
    | none => simp
    | some y =>
      have hsk : skipped s x.link y.link = true → skipped (more s a b) x.link y.link = true := fun h => by
        simp only [skipped, more, List.any_append, Bool.or_eq_true]; exact .inl h
      have hc : ∀ k, carr (more s a b) k = carr s k := fun _ => rfl
      simp only [wanted, hc]
      cases h1 : skipped s x.link y.link
      · cases skipped (more s a b) x.link y.link <;> simp
      · rw [hsk h1]; simp
end Go.Proofs.YtafglmjadbplcaaGreatDoor

/- Data of the types of robots and scenes. -/
namespace Go.Proofs.YtafglmjadbplcaaGreatDoor
open Eng
set_option maxRecDepth 10000

theorem tz_i64 {n : Nat} {ds : List DV} (h : Typed T (n + 1) Y.int64 ds) : ∃ a, ds = [.int .i64 a] := by
  obtain ⟨a, h, _⟩ := h
  exact ⟨a, h⟩
theorem tz_int {n : Nat} {ds : List DV} (h : Typed T (n + 1) Y.int ds) : ∃ a, ds = [.int .i64 a] := by
  obtain ⟨a, h, _⟩ := h
  exact ⟨a, h⟩
theorem tz_str {n : Nat} {ds : List DV} (h : Typed T (n + 1) Y.string ds) : ∃ a, ds = [.str a] := by
  obtain ⟨a, h, _⟩ := h
  exact ⟨a, h⟩
theorem tz_Vec {n : Nat} {ds : List DV} (h : Typed T (n + 2) Y.Vec ds) : ∃ v, ds = encV v := by
  obtain ⟨ps, h1, h2, rfl⟩ := h
  match ps, h1 with
  | [a, b, c], _ =>
    obtain ⟨x, rfl⟩ := tz_i64 (h2 a (by simp))
    obtain ⟨y, rfl⟩ := tz_i64 (h2 b (by simp))
    obtain ⟨z, rfl⟩ := tz_i64 (h2 c (by simp))
    exact ⟨⟨x, y, z⟩, rfl⟩
theorem tz_Joint {n : Nat} {ds : List DV} (h : Typed T (n + 3) Y.Joint ds) : ∃ j, ds = encJ j := by
  obtain ⟨ps, h, rfl⟩ := h
  replace h := all2_cons h
  obtain ⟨d, q, rfl, h1, h⟩ := h
  obtain ⟨a1, rfl⟩ := tz_str h1
  replace h := all2_cons h
  obtain ⟨d, q, rfl, h1, h⟩ := h
  obtain ⟨a2, rfl⟩ := tz_int h1
  replace h := all2_cons h
  obtain ⟨d, q, rfl, h1, h⟩ := h
  obtain ⟨a3, rfl⟩ := tz_int h1
  replace h := all2_cons h
  obtain ⟨d, q, rfl, h1, h⟩ := h
  obtain ⟨a4, rfl⟩ := tz_Vec h1
  replace h := all2_cons h
  obtain ⟨d, q, rfl, h1, h⟩ := h
  obtain ⟨a5, rfl⟩ := tz_i64 h1
  replace h := all2_cons h
  obtain ⟨d, q, rfl, h1, h⟩ := h
  obtain ⟨a6, rfl⟩ := tz_i64 h1
  replace h := all2_cons h
  obtain ⟨d, q, rfl, h1, h⟩ := h
  obtain ⟨a7, rfl⟩ := tz_i64 h1
  replace h := all2_cons h
  obtain ⟨d, q, rfl, h1, h⟩ := h
  obtain ⟨a8, rfl⟩ := tz_i64 h1
  replace h := all2_cons h
  obtain ⟨d, q, rfl, h1, h⟩ := h
  obtain ⟨a9, rfl⟩ := tz_i64 h1
  replace h := all2_cons h
  obtain ⟨d, q, rfl, h1, h⟩ := h
  obtain ⟨a10, rfl⟩ := tz_i64 h1
  obtain rfl := all2_nil h
  exact ⟨⟨a1, a2, a3, a4, a5, a6, a7, a8, a9, a10⟩, rfl⟩
theorem tz_Mass {n : Nat} {ds : List DV} (h : Typed T (n + 3) Y.Mass ds) : ∃ j, ds = encM j := by
  obtain ⟨ps, h, rfl⟩ := h
  replace h := all2_cons h
  obtain ⟨d, q, rfl, h1, h⟩ := h
  obtain ⟨a1, rfl⟩ := tz_int h1
  replace h := all2_cons h
  obtain ⟨d, q, rfl, h1, h⟩ := h
  obtain ⟨a2, rfl⟩ := tz_i64 h1
  replace h := all2_cons h
  obtain ⟨d, q, rfl, h1, h⟩ := h
  obtain ⟨a3, rfl⟩ := tz_Vec h1
  obtain rfl := all2_nil h
  exact ⟨⟨a1, a2, a3⟩, rfl⟩
theorem tz_Skip {n : Nat} {ds : List DV} (h : Typed T (n + 2) Y.Skip ds) : ∃ j, ds = encSk j := by
  obtain ⟨ps, h, rfl⟩ := h
  replace h := all2_cons h
  obtain ⟨d, q, rfl, h1, h⟩ := h
  obtain ⟨a1, rfl⟩ := tz_int h1
  replace h := all2_cons h
  obtain ⟨d, q, rfl, h1, h⟩ := h
  obtain ⟨a2, rfl⟩ := tz_int h1
  obtain rfl := all2_nil h
  exact ⟨⟨a1, a2⟩, rfl⟩
theorem tz_sVec {n : Nat} {ds : List DV} (h : Typed T (n + 3) Y.s_Vec ds) : ∃ l : List Vec, ds = [dVs l] ∧ l.length ≤ 140737488351232 := by
  obtain ⟨rs, h1, h2, _, h3⟩ := h
  obtain ⟨l, rfl⟩ := map_of (enc := encV) fun r hr => tz_Vec (h3 r hr)
  refine ⟨l, h1, ?_⟩
  have : l.length * 24 ≤ reachBytes := by simpa using h2
  unfold reachBytes at this; omega
theorem tz_Shape {n : Nat} {ds : List DV} (h : Typed T (n + 4) Y.Shape ds) : ∃ j, ds = encSh j ∧ j.points.length ≤ 140737488351232 := by
  obtain ⟨ps, h, rfl⟩ := h
  replace h := all2_cons h
  obtain ⟨d, q, rfl, h1, h⟩ := h
  obtain ⟨a1, rfl⟩ := tz_int h1
  replace h := all2_cons h
  obtain ⟨d, q, rfl, h1, h⟩ := h
  obtain ⟨a2, rfl⟩ := tz_i64 h1
  replace h := all2_cons h
  obtain ⟨d, q, rfl, h1, h⟩ := h
  obtain ⟨a3, rfl, h3⟩ := tz_sVec h1
  obtain rfl := all2_nil h
  exact ⟨⟨a1, a2, a3⟩, rfl, h3⟩
theorem map_of' {α : Type} {enc : α → List DV} {Q : α → Prop} : ∀ {rs : List (List DV)}, (∀ r ∈ rs, ∃ a, r = enc a ∧ Q a) → ∃ xs : List α, rs = xs.map enc ∧ ∀ x ∈ xs, Q x
  | [], _ => ⟨[], rfl, by simp⟩
  | r :: rs, h => by
    obtain ⟨a, ha, qa⟩ := h r (by simp)
    obtain ⟨xs, hx, qx⟩ := map_of' (rs := rs) fun r hr => h r (by simp [hr])
    exact ⟨a :: xs, by rw [ha, hx]; rfl, fun x hx' => by
      rcases List.mem_cons.1 hx' with rfl | hx'
      · exact qa
      · exact qx x hx'⟩
theorem tz_Robot {n : Nat} {ds : List DV} (h : Typed T (n + 5) Y.Robot ds) : ∃ r : Robot, ds = [dJs r.joints, dMs r.masses] ∧ r.joints.length ≤ 140737488351232 ∧ r.masses.length ≤ 140737488351232 := by
  obtain ⟨ps, h, rfl⟩ := h
  replace h := all2_cons h
  obtain ⟨d, q, rfl, h1, h⟩ := h
  obtain ⟨rs, e1, b1, _, g1⟩ := h1
  obtain ⟨js, rfl⟩ := map_of (enc := encJ) fun r hr => tz_Joint (g1 r hr)
  replace h := all2_cons h
  obtain ⟨d2, q, rfl, h2, h⟩ := h
  obtain ⟨rs, e2, b2, _, g2⟩ := h2
  obtain ⟨ms, rfl⟩ := map_of (enc := encM) fun r hr => tz_Mass (g2 r hr)
  obtain rfl := all2_nil h
  refine ⟨⟨js, ms⟩, by rw [e1, e2]; rfl, ?_, ?_⟩
  · have : js.length * 104 ≤ reachBytes := by simpa using b1
    unfold reachBytes at this; simp only; omega
  · have : ms.length * 40 ≤ reachBytes := by simpa using b2
    unfold reachBytes at this; simp only; omega
theorem tyB_Robot {n : Nat} {ds : List DV} (h : Typed T (n + 5) Y.Robot ds) : ∃ r : Robot, ds = [dJs r.joints, dMs r.masses] ∧ (r.joints.length ≤ 140737488351232 ∧ r.masses.length ≤ 140737488351232) := tz_Robot h
theorem tyB_Scene {n : Nat} {ds : List DV} (h : Typed T (n + 6) Y.Scene ds) : ∃ s : Scene, ds = [dJs s.robot.joints, dMs s.robot.masses, dShs s.shapes, dSks s.skips] ∧ small s := by
  obtain ⟨ps, h, rfl⟩ := h
  replace h := all2_cons h
  obtain ⟨d, q, rfl, h1, h⟩ := h
  obtain ⟨r, rfl, r1, r2⟩ := tz_Robot h1
  replace h := all2_cons h
  obtain ⟨d, q, rfl, h1, h⟩ := h
  obtain ⟨rs, e1, b1, _, g1⟩ := h1
  obtain ⟨shs, rfl, gs⟩ := map_of' (enc := encSh) (Q := fun x => x.points.length ≤ 140737488351232) fun r hr => tz_Shape (g1 r hr)
  replace h := all2_cons h
  obtain ⟨d2, q, rfl, h2, h⟩ := h
  obtain ⟨rs, e2, b2, _, g2⟩ := h2
  obtain ⟨sks, rfl⟩ := map_of (enc := encSk) fun r hr => tz_Skip (g2 r hr)
  obtain rfl := all2_nil h
  refine ⟨⟨r, shs, sks⟩, by rw [e1, e2]; rfl, ?_⟩
  have a1 : shs.length * 40 ≤ reachBytes := by simpa using b1
  have a2 : sks.length * 16 ≤ reachBytes := by simpa using b2
  unfold reachBytes at a1 a2
  exact ⟨by simp only; omega, by simp only; omega, by simp only; omega, by simp only; omega, fun x hx => by have := gs x hx; omega⟩
end Go.Proofs.YtafglmjadbplcaaGreatDoor

/- law9: changed, SceneChecks. -/
namespace Go.Proofs.YtafglmjadbplcaaGreatDoor
open Eng
set_option maxRecDepth 10000
attribute [local irreducible] FnOk loopW idxF retX arrF

structure Few (s : Scene) : Prop where
  sh1 : 1 ≤ s.shapes.length
  sh : s.shapes.length ≤ 24
  sk : s.skips.length ≤ 64
  pt : ∀ x ∈ s.shapes, x.points.length ≤ 8
  js : s.robot.joints.length ≤ 1000
  ms : s.robot.masses.length ≤ 1000
def radTab : List Int := [0, 1, 1048576, 1048577, -1]
def lenTab : List Int := [4194304, 4194305, -4194304, -4194305]
theorem arr_int {te : TI} {tb : List Int} {i : Nat} {x : Int} {k : SV → Prop} (ha : te.kind.agg = false) (hs : te.size = 1) (hc : tb[i]? = some x) (h : k (I x)) : arrF te (tb.map fun x => CV.dv (.int .i64 x)) i k :=
  arr_at ha hs (by rw [List.getElem?_map, hc]; rfl) h
theorem tab_at {tb : List Int} {v : Int} {n : Nat} (hn : tb.length = n) (h0 : 0 ≤ v) (h1 : v < n) : tb[v.toNat]? = some (tb.getD v.toNat 0) := by
  have h : v.toNat < tb.length := by omega
  rw [List.getD_eq_getElem?_getD, List.getElem?_eq_getElem h]; rfl
theorem small_few {s : Scene} (h1 : s.shapes.length ≤ 1000) (h2 : s.skips.length ≤ 1000) (h3 : ∀ x ∈ s.shapes, x.points.length ≤ 1000) (h4 : s.robot.joints.length ≤ 1000) (h5 : s.robot.masses.length ≤ 1000) : small s :=
  ⟨by omega, by omega, by omega, by omega, fun x hx => by have := h3 x hx; omega⟩
abbrev bSk (l : List Skip) : Box := .rows Y.Skip 2 (l.map encSk)
abbrev bShsS9 (l : List Shape) : Box := .rows Y.Shape 3 (l.map encSh)
theorem set_enc {xs : List Shape} {k : Nat} {y : Shape} {r : List DV} (h : r = encSh y) : (xs.map encSh).set k r = (xs.set k y).map encSh := by rw [h, List.map_set]
theorem set_pts {xs : List Shape} {k : Nat} {y : Shape} {m : Nat} (h : ∀ x ∈ xs, x.points.length ≤ m) (hy : y.points.length ≤ m) : ∀ x ∈ xs.set k y, x.points.length ≤ m := fun x hx => by
  rcases List.mem_or_eq_of_mem_set hx with hx | rfl
  · exact h x hx
  · exact hy
theorem few_small {s c : Scene} (hf : Few s) (h0 : c.robot = s.robot) (h1 : c.shapes.length ≤ 25) (h2 : c.skips.length ≤ 65) (h3 : ∀ x ∈ c.shapes, x.points.length ≤ 10) : c.robot = s.robot ∧ small c ∧ c.shapes.length ≤ 25 ∧ c.skips.length ≤ 65 :=
  ⟨h0, small_few (by omega) (by omega) (fun x hx => by have := h3 x hx; omega) (by rw [h0]; exact hf.js) (by rw [h0]; exact hf.ms), h1, h2⟩
abbrev vSh (x : Shape) : Box := .vars Y.Shape [.dv (.int .i64 x.link), .dv (.int .i64 x.radius), .dv (dVs x.points)]
set_option maxHeartbeats 4000000 in
theorem law9_changed (s : Scene) (how at_ v : Int) (hf : Few s) : ∃ c : Scene, c.robot = s.robot ∧ small c ∧ c.shapes.length ≤ 25 ∧ c.skips.length ≤ 65 ∧ FnOk Tryz.prog F.law9_changed [Sc s, I how, I at_, I v] [] 0 (Sc c) [] 0 := by
  have hf' := hf
  obtain ⟨f1, f2, f3, f4, f5, f6⟩ := hf
  have hk0 := Int.emod_nonneg at_ (b := (s.shapes.length : Int)) (by omega)
  have hk1 := Int.emod_lt_of_pos at_ (b := (s.shapes.length : Int)) (by omega)
  obtain ⟨k, hk⟩ : ∃ k : Nat, at_ % (s.shapes.length : Int) = k := ⟨(at_ % (s.shapes.length : Int)).toNat, by omega⟩
  have hks : k < s.shapes.length := by omega
  obtain ⟨x, hx⟩ : ∃ x, s.shapes[k]? = some x := ⟨_, List.getElem?_eq_getElem hks⟩
  have hxp := f4 x (List.mem_of_getElem? hx)
  have h0 := Int.emod_nonneg how (b := (8 : Int)) (by decide)
  have h8 := Int.emod_lt_of_pos how (b := (8 : Int)) (by decide)
  have hsame : s.shapes.set k x = s.shapes := by
    obtain ⟨h1, h2⟩ := List.getElem?_eq_some_iff.1 hx
    rw [← h2, List.set_getElem_self]
  rcases (show how % 8 = 0 ∨ how % 8 = 1 ∨ how % 8 = 2 ∨ how % 8 = 3 ∨ how % 8 = 4 ∨ how % 8 = 5 ∨ how % 8 = 6 ∨ how % 8 = 7 by omega) with e | e | e | e | e | e | e | e
  · refine ⟨⟨s.robot, s.shapes.set k { x with link := v % 6 - 2 }, s.skips⟩, ?_⟩
    have hF := few_small (c := ⟨s.robot, s.shapes.set k { x with link := v % 6 - 2 }, s.skips⟩) hf' rfl (by simp; omega) (by simp only; omega) (set_pts (m := 10) (fun y hy => by have := f4 y hy; omega) (by simp only; omega))
    refine ⟨hF.1, hF.2.1, hF.2.2.1, hF.2.2.2, ?_⟩
    refine fnOkG [(1000051, [.frz 6]), (1000064, [.frz 8])] tab mix G.law9_changed rfl rfl (by kernel_rfl) rfl rfl ?_
    (conv => whnf)
    refine ⟨⟨by simp; omega, by simp; omega⟩, ?_⟩
    (conv => whnf)
    refine ⟨⟨by simp; omega, by simp; omega⟩, ?_⟩
    (conv => whnf)
    rw [List.length_map]
    refine call_i (mk_Round at_ s.shapes.length (by omega) (by omega)) ?_
    (conv => whnf)
    rw [hk]
    refine ⟨⟨by omega, by simp; omega⟩, ?_⟩
    (conv => whnf)
    refine idx_map (by simpa using hx) ?_
    (conv => whnf)
    refine call_i (mk_Round how 8 (by decide) (by decide)) ?_
    (conv => whnf)
    rw [e]
    (conv => whnf)
    refine call_i (mk_Round v 6 (by decide) (by decide)) ?_
    (conv => whnf)
    rw [w64 (x := v % 6 - 2) (by omega) (by omega)]
    refine ⟨⟨by omega, by simp; omega⟩, ?_⟩
    (conv => whnf)
    refine idx_map (by simpa using hx) ?_
    (conv => whnf)
    (conv => whnf)
    refine retO [.frz 2, .frz 3] ?_
    (conv => whnf)
    exact ⟨[], ⟨congrArg (fun l => SV.agg [.dv (dJs s.robot.joints), .dv (dMs s.robot.masses), .dv (.lst 3 l), .dv (dSks s.skips)]) (set_enc (xs := s.shapes) (k := k) (y := { x with link := v % 6 - 2 }) rfl), trivial⟩, trivial⟩
  · refine ⟨⟨s.robot, s.shapes.set k { x with radius := radTab.getD (v % 5).toNat 0 }, s.skips⟩, ?_⟩
    have hF := few_small (c := ⟨s.robot, s.shapes.set k { x with radius := radTab.getD (v % 5).toNat 0 }, s.skips⟩) hf' rfl (by simp; omega) (by simp only; omega) (set_pts (m := 10) (fun y hy => by have := f4 y hy; omega) (by simp only; omega))
    refine ⟨hF.1, hF.2.1, hF.2.2.1, hF.2.2.2, ?_⟩
    refine fnOkG [(1000051, [.frz 6]), (1000064, [.frz 8])] tab mix G.law9_changed rfl rfl (by kernel_rfl) rfl rfl ?_
    (conv => whnf)
    refine ⟨⟨by simp; omega, by simp; omega⟩, ?_⟩
    (conv => whnf)
    refine ⟨⟨by simp; omega, by simp; omega⟩, ?_⟩
    (conv => whnf)
    rw [List.length_map]
    refine call_i (mk_Round at_ s.shapes.length (by omega) (by omega)) ?_
    (conv => whnf)
    rw [hk]
    refine ⟨⟨by omega, by simp; omega⟩, ?_⟩
    (conv => whnf)
    refine idx_map (by simpa using hx) ?_
    (conv => whnf)
    refine call_i (mk_Round how 8 (by decide) (by decide)) ?_
    (conv => whnf)
    rw [e]
    (conv => whnf)
    refine call_i (mk_Round v 5 (by decide) (by decide)) ?_
    (conv => whnf)
    refine ⟨⟨by omega, by show _ < (5 : Int); omega⟩, ?_⟩
    refine arr_int (tb := radTab) rfl rfl (tab_at (n := 5) rfl (by omega) (by omega)) ?_
    (conv => whnf)
    refine ⟨⟨by omega, by simp; omega⟩, ?_⟩
    (conv => whnf)
    refine idx_map (by simpa using hx) ?_
    (conv => whnf)
    (conv => whnf)
    refine retO [.frz 2, .frz 3] ?_
    (conv => whnf)
    exact ⟨[], ⟨congrArg (fun l => SV.agg [.dv (dJs s.robot.joints), .dv (dMs s.robot.masses), .dv (.lst 3 l), .dv (dSks s.skips)]) (set_enc (xs := s.shapes) (k := k) (y := { x with radius := radTab.getD (v % 5).toNat 0 }) rfl), trivial⟩, trivial⟩
  · refine ⟨⟨s.robot, s.shapes.set k { x with points := List.replicate (v % 10).toNat ⟨0, 0, 0⟩ }, s.skips⟩, ?_⟩
    have hF := few_small (c := ⟨s.robot, s.shapes.set k { x with points := List.replicate (v % 10).toNat ⟨0, 0, 0⟩ }, s.skips⟩) hf' rfl (by simp; omega) (by simp only; omega) (set_pts (m := 10) (fun y hy => by have := f4 y hy; omega) (by simp only [List.length_replicate]; omega))
    refine ⟨hF.1, hF.2.1, hF.2.2.1, hF.2.2.2, ?_⟩
    refine fnOkG [(1000051, [.frz 6]), (1000064, [.frz 8])] tab mix G.law9_changed rfl rfl (by kernel_rfl) rfl rfl ?_
    (conv => whnf)
    refine ⟨⟨by simp; omega, by simp; omega⟩, ?_⟩
    (conv => whnf)
    refine ⟨⟨by simp; omega, by simp; omega⟩, ?_⟩
    (conv => whnf)
    rw [List.length_map]
    refine call_i (mk_Round at_ s.shapes.length (by omega) (by omega)) ?_
    (conv => whnf)
    rw [hk]
    refine ⟨⟨by omega, by simp; omega⟩, ?_⟩
    (conv => whnf)
    refine idx_map (by simpa using hx) ?_
    (conv => whnf)
    refine call_i (mk_Round how 8 (by decide) (by decide)) ?_
    (conv => whnf)
    rw [e]
    (conv => whnf)
    refine call_i (mk_Round v 10 (by decide) (by decide)) ?_
    (conv => whnf)
    refine ⟨⟨by omega, by omega, by show (24 : Int) * _ ≤ _; omega, by omega⟩, ?_⟩
    (conv => whnf)
    refine ⟨⟨by omega, by simp; omega⟩, ?_⟩
    (conv => whnf)
    refine idx_map (by simpa using hx) ?_
    (conv => whnf)
    (conv => whnf)
    refine retO [.frz 2, .frz 3] ?_
    (conv => whnf)
    exact ⟨[], ⟨congrArg (fun l => SV.agg [.dv (dJs s.robot.joints), .dv (dMs s.robot.masses), .dv (.lst 3 l), .dv (dSks s.skips)]) (set_enc (xs := s.shapes) (k := k) (y := { x with points := List.replicate (v % 10).toNat ⟨0, 0, 0⟩ }) (by simp only [encSh, List.map_replicate]; rfl)), trivial⟩, trivial⟩
  · refine ⟨⟨s.robot, s.shapes.set k { x with points := x.points ++ [⟨0, lenTab.getD (v % 4).toNat 0, 0⟩] }, s.skips⟩, ?_⟩
    have hF := few_small (c := ⟨s.robot, s.shapes.set k { x with points := x.points ++ [⟨0, lenTab.getD (v % 4).toNat 0, 0⟩] }, s.skips⟩) hf' rfl (by simp; omega) (by simp only; omega) (set_pts (m := 10) (fun y hy => by have := f4 y hy; omega) (by simp only [List.length_append, List.length_singleton]; omega))
    refine ⟨hF.1, hF.2.1, hF.2.2.1, hF.2.2.2, ?_⟩
    refine fnOkG [(1000051, [.frz 6]), (1000064, [.frz 8])] tab mix G.law9_changed rfl rfl (by kernel_rfl) rfl rfl ?_
    (conv => whnf)
    refine ⟨⟨by simp; omega, by simp; omega⟩, ?_⟩
    (conv => whnf)
    refine ⟨⟨by simp; omega, by simp; omega⟩, ?_⟩
    (conv => whnf)
    rw [List.length_map]
    refine call_i (mk_Round at_ s.shapes.length (by omega) (by omega)) ?_
    (conv => whnf)
    rw [hk]
    refine ⟨⟨by omega, by simp; omega⟩, ?_⟩
    (conv => whnf)
    refine idx_map (by simpa using hx) ?_
    (conv => whnf)
    refine call_i (mk_Round how 8 (by decide) (by decide)) ?_
    (conv => whnf)
    rw [e]
    (conv => whnf)
    refine ⟨⟨by simp; omega, by simp; omega⟩, ?_⟩
    (conv => whnf)
    refine call_i (mk_Round v 4 (by decide) (by decide)) ?_
    (conv => whnf)
    refine ⟨⟨by omega, by show _ < (4 : Int); omega⟩, ?_⟩
    refine arr_int (tb := lenTab) rfl rfl (tab_at (n := 4) rfl (by omega) (by omega)) ?_
    (conv => whnf)
    refine ⟨⟨by simp; omega, by simp; omega⟩, ?_⟩
    (conv => whnf)
    refine ⟨⟨by omega, by simp; omega⟩, ?_⟩
    (conv => whnf)
    refine idx_map (by simpa using hx) ?_
    (conv => whnf)
    (conv => whnf)
    refine retO [.frz 2, .frz 3] ?_
    (conv => whnf)
    exact ⟨[], ⟨congrArg (fun l => SV.agg [.dv (dJs s.robot.joints), .dv (dMs s.robot.masses), .dv (.lst 3 l), .dv (dSks s.skips)]) (set_enc (xs := s.shapes) (k := k) (y := { x with points := x.points ++ [⟨0, lenTab.getD (v % 4).toNat 0, 0⟩] }) (by simp only [encSh, List.map_append]; rfl)), trivial⟩, trivial⟩
  · refine ⟨⟨s.robot, s.shapes, s.skips ++ [⟨v % 5 - 2, IntKind.i64.wrap (v.tdiv 5) % 5 - 2⟩]⟩, ?_⟩
    have hF := few_small (c := ⟨s.robot, s.shapes, s.skips ++ [⟨v % 5 - 2, IntKind.i64.wrap (v.tdiv 5) % 5 - 2⟩]⟩) hf' rfl (by simp; omega) (by simp; omega) (fun y hy => by have := f4 y hy; omega)
    refine ⟨hF.1, hF.2.1, hF.2.2.1, hF.2.2.2, ?_⟩
    refine fnOkG [(1000051, [.frz 6]), (1000064, [.frz 8])] tab mix G.law9_changed rfl rfl (by kernel_rfl) rfl rfl ?_
    (conv => whnf)
    refine ⟨⟨by simp; omega, by simp; omega⟩, ?_⟩
    (conv => whnf)
    refine ⟨⟨by simp; omega, by simp; omega⟩, ?_⟩
    (conv => whnf)
    rw [List.length_map]
    refine call_i (mk_Round at_ s.shapes.length (by omega) (by omega)) ?_
    (conv => whnf)
    rw [hk]
    refine ⟨⟨by omega, by simp; omega⟩, ?_⟩
    (conv => whnf)
    refine idx_map (by simpa using hx) ?_
    (conv => whnf)
    refine call_i (mk_Round how 8 (by decide) (by decide)) ?_
    (conv => whnf)
    rw [e]
    (conv => whnf)
    refine call_i (mk_Round v 5 (by decide) (by decide)) ?_
    (conv => whnf)
    refine ⟨by decide, ?_⟩
    (conv => whnf)
    refine call_i (mk_Round (IntKind.i64.wrap (v.tdiv 5)) 5 (by decide) (by decide)) ?_
    (conv => whnf)
    generalize IntKind.i64.wrap (v.tdiv 5) = u
    rw [w64 (x := v % 5 - 2) (by omega) (by omega), w64 (x := u % 5 - 2) (by omega) (by omega)]
    refine ⟨⟨by simp; omega, by simp; omega⟩, ?_⟩
    (conv => whnf)
    refine ⟨⟨by omega, by simp; omega⟩, ?_⟩
    (conv => whnf)
    refine idx_map (by simpa using hx) ?_
    (conv => whnf)
    (conv => whnf)
    refine retO [.frz 2, .frz 7] ?_
    (conv => whnf)
    refine ⟨[], ⟨?_, trivial⟩, trivial⟩
    have e1 : (s.shapes.map encSh).set k (encSh x) = s.shapes.map encSh := by rw [← List.map_set, hsame]
    have e2 : s.skips.map encSk ++ [encSk ⟨v % 5 - 2, u % 5 - 2⟩] = (s.skips ++ [(⟨v % 5 - 2, u % 5 - 2⟩ : Skip)]).map encSk := by rw [List.map_append]; rfl
    show SV.agg [.dv (dJs s.robot.joints), .dv (dMs s.robot.masses), .dv (.lst 3 ((s.shapes.map encSh).set k (encSh x))), .dv (.lst 2 (s.skips.map encSk ++ [encSk ⟨v % 5 - 2, u % 5 - 2⟩]))] = SV.agg [.dv (dJs s.robot.joints), .dv (dMs s.robot.masses), .dv (dShs s.shapes), .dv (.lst 2 ((s.skips ++ [(⟨v % 5 - 2, u % 5 - 2⟩ : Skip)]).map encSk))]
    rw [e1, e2]
  · refine ⟨⟨s.robot, s.shapes, s.skips ++ List.replicate ((64 + v % 2).toNat - s.skips.length) ⟨0, 0⟩⟩, ?_⟩
    have hF := few_small (c := ⟨s.robot, s.shapes, s.skips ++ List.replicate ((64 + v % 2).toNat - s.skips.length) ⟨0, 0⟩⟩) hf' rfl (by simp; omega) (by simp; omega) (fun y hy => by have := f4 y hy; omega)
    refine ⟨hF.1, hF.2.1, hF.2.2.1, hF.2.2.2, ?_⟩
    refine fnOkG [(1000051, [.frz 6]), (1000064, [.frz 8])] tab mix G.law9_changed rfl rfl (by kernel_rfl) rfl rfl ?_
    (conv => whnf)
    refine ⟨⟨by simp; omega, by simp; omega⟩, ?_⟩
    (conv => whnf)
    refine ⟨⟨by simp; omega, by simp; omega⟩, ?_⟩
    (conv => whnf)
    rw [List.length_map]
    refine call_i (mk_Round at_ s.shapes.length (by omega) (by omega)) ?_
    (conv => whnf)
    rw [hk]
    refine ⟨⟨by omega, by simp; omega⟩, ?_⟩
    (conv => whnf)
    refine idx_map (by simpa using hx) ?_
    (conv => whnf)
    refine call_i (mk_Round how 8 (by decide) (by decide)) ?_
    (conv => whnf)
    rw [e]
    (conv => whnf)
    refine loop_intro (fun m : Nat => ⟨[(3, I v), (8, .one (.vptr 1 0)), (9, .one (.vptr 4 0)), (10, I k), (11, .one (.vptr 5 0))], [(1, .vars Y.Scene [.nil 12, .nil 5, .nil 3, .nil 2]), (2, bShsS9 s.shapes), (3, bSk (s.skips ++ List.replicate m ⟨0, 0⟩)), (4, .vars Y.Scene [.dv (dJs s.robot.joints), .dv (dMs s.robot.masses), .row 2, .row 3]), (5, vSh x)], 6⟩) (fun m => m ≤ (64 + v % 2).toNat - s.skips.length) (fun m => (64 + v % 2).toNat - s.skips.length - m) [] 0 [] (Nat.zero_le _) ⟨⟨rfl, rfl, rfl, rfl, rfl, trivial⟩, ⟨rfl, rfl, ?_, rfl, rfl, trivial⟩⟩ ?_
    · show bSk _ = bSk _
      rw [List.replicate_zero, List.append_nil]
    rintro m hm
    (conv => whnf)
    refine call_i (mk_Round v 2 (by decide) (by decide)) ?_
    (conv => whnf)
    rw [w64 (x := 64 + v % 2) (by omega) (by omega)]
    refine ask_m (fun h => ?_) (fun h => ?_)
    · have hlt : m < (64 + v % 2).toNat - s.skips.length := by have := of_decide_eq_true h; simp at this; omega
      (conv => whnf)
      refine ⟨⟨by simp; omega, by simp; omega⟩, ?_⟩
      (conv => whnf)
      refine ⟨m + 1, [(3, 7)], hlt, by omega, ⟨⟨rfl, rfl, rfl, rfl, rfl, trivial⟩, ⟨rfl, rfl, ?_, rfl, rfl, trivial⟩⟩⟩
      show Box.rows Y.Skip 2 _ = Box.rows Y.Skip 2 _
      refine congrArg _ ?_
      rw [List.replicate_succ', ← List.append_assoc, List.map_append (l₁ := s.skips ++ List.replicate m (⟨0, 0⟩ : Skip))]; rfl
    · have hm : m = (64 + v % 2).toNat - s.skips.length := by have := of_decide_eq_false h; simp at this; omega
      subst hm
      (conv => whnf)
      refine ⟨⟨by omega, by simp; omega⟩, ?_⟩
      (conv => whnf)
      refine idx_map (by simpa using hx) ?_
      (conv => whnf)
      (conv => whnf)
      refine retO [.frz 2, .frz 3] ?_
      (conv => whnf)
      refine ⟨[], ⟨?_, trivial⟩, trivial⟩
      have e1 : (s.shapes.map encSh).set k (encSh x) = s.shapes.map encSh := by rw [← List.map_set, hsame]
      exact congrArg (fun l => SV.agg [.dv (dJs s.robot.joints), .dv (dMs s.robot.masses), .dv (.lst 3 l), .dv (dSks (s.skips ++ List.replicate ((64 + v % 2).toNat - s.skips.length) ⟨0, 0⟩))]) e1
  · refine ⟨⟨s.robot, s.shapes ++ List.replicate ((24 + v % 2).toNat - s.shapes.length) x, s.skips⟩, ?_⟩
    have hF := few_small (c := ⟨s.robot, s.shapes ++ List.replicate ((24 + v % 2).toNat - s.shapes.length) x, s.skips⟩) hf' rfl (by simp; omega) (by simp only; omega) (fun y hy => by
      rcases List.mem_append.1 hy with hy | hy
      · have := f4 y hy; omega
      · obtain ⟨_, rfl⟩ := List.mem_replicate.1 hy; omega)
    refine ⟨hF.1, hF.2.1, hF.2.2.1, hF.2.2.2, ?_⟩
    refine fnOkG [(1000051, [.frz 6]), (1000064, [.frz 8])] tab mix G.law9_changed rfl rfl (by kernel_rfl) rfl rfl ?_
    (conv => whnf)
    refine ⟨⟨by simp; omega, by simp; omega⟩, ?_⟩
    (conv => whnf)
    refine ⟨⟨by simp; omega, by simp; omega⟩, ?_⟩
    (conv => whnf)
    rw [List.length_map]
    refine call_i (mk_Round at_ s.shapes.length (by omega) (by omega)) ?_
    (conv => whnf)
    rw [hk]
    refine ⟨⟨by omega, by simp; omega⟩, ?_⟩
    (conv => whnf)
    refine idx_map (by simpa using hx) ?_
    (conv => whnf)
    refine call_i (mk_Round how 8 (by decide) (by decide)) ?_
    (conv => whnf)
    rw [e]
    (conv => whnf)
    refine loop_intro (fun m : Nat => ⟨[(3, I v), (8, .one (.vptr 1 0)), (9, .one (.vptr 4 0)), (10, I k), (11, .one (.vptr 5 0))], [(1, .vars Y.Scene [.nil 12, .nil 5, .nil 3, .nil 2]), (2, bShsS9 (s.shapes ++ List.replicate m x)), (3, bSk s.skips), (4, .vars Y.Scene [.dv (dJs s.robot.joints), .dv (dMs s.robot.masses), .row 2, .row 3]), (5, vSh x)], 6⟩) (fun m => m ≤ (24 + v % 2).toNat - s.shapes.length) (fun m => (24 + v % 2).toNat - s.shapes.length - m) [] 0 [] (Nat.zero_le _) ⟨⟨rfl, rfl, rfl, rfl, rfl, trivial⟩, ⟨rfl, ?_, rfl, rfl, rfl, trivial⟩⟩ ?_
    · show bShsS9 _ = bShsS9 _
      rw [List.replicate_zero, List.append_nil]
    rintro m hm
    (conv => whnf)
    refine call_i (mk_Round v 2 (by decide) (by decide)) ?_
    (conv => whnf)
    rw [w64 (x := 24 + v % 2) (by omega) (by omega)]
    refine ask_m (fun h => ?_) (fun h => ?_)
    · have hlt : m < (24 + v % 2).toNat - s.shapes.length := by have := of_decide_eq_true h; simp at this; omega
      (conv => whnf)
      refine ⟨⟨by simp; omega, by simp; omega⟩, ?_⟩
      (conv => whnf)
      refine ⟨m + 1, [(2, 7)], hlt, by omega, ⟨⟨rfl, rfl, rfl, rfl, rfl, trivial⟩, ⟨rfl, ?_, rfl, rfl, rfl, trivial⟩⟩⟩
      show Box.rows Y.Shape 3 _ = Box.rows Y.Shape 3 _
      refine congrArg _ ?_
      rw [List.replicate_succ', ← List.append_assoc, List.map_append (l₁ := s.shapes ++ List.replicate m x)]; rfl
    · have hm : m = (24 + v % 2).toNat - s.shapes.length := by have := of_decide_eq_false h; simp at this; omega
      subst hm
      generalize List.replicate ((24 + v % 2).toNat - s.shapes.length) x = q at *
      have hxq : (s.shapes ++ q)[k]? = some x := by rw [List.getElem?_append_left hks]; exact hx
      (conv => whnf)
      refine ⟨⟨by omega, by simp; omega⟩, ?_⟩
      (conv => whnf)
      refine idx_map (by simpa using hxq) ?_
      (conv => whnf)
      (conv => whnf)
      refine retO [.frz 2, .frz 3] ?_
      (conv => whnf)
      refine ⟨[], ⟨?_, trivial⟩, trivial⟩
      have e1 : ((s.shapes ++ q).map encSh).set k (encSh x) = (s.shapes ++ q).map encSh := by rw [← List.map_set, List.set_append_left _ _ hks, hsame]
      exact congrArg (fun l => SV.agg [.dv (dJs s.robot.joints), .dv (dMs s.robot.masses), .dv (.lst 3 l), .dv (dSks s.skips)]) e1
  · refine ⟨⟨s.robot, s.shapes.set k x, s.skips⟩, ?_⟩
    have hF := few_small (c := ⟨s.robot, s.shapes.set k x, s.skips⟩) hf' rfl (by simp; omega) (by simp only; omega) (set_pts (m := 10) (fun y hy => by have := f4 y hy; omega) (by omega))
    refine ⟨hF.1, hF.2.1, hF.2.2.1, hF.2.2.2, ?_⟩
    refine fnOkG [(1000051, [.frz 6]), (1000064, [.frz 8])] tab mix G.law9_changed rfl rfl (by kernel_rfl) rfl rfl ?_
    (conv => whnf)
    refine ⟨⟨by simp; omega, by simp; omega⟩, ?_⟩
    (conv => whnf)
    refine ⟨⟨by simp; omega, by simp; omega⟩, ?_⟩
    (conv => whnf)
    rw [List.length_map]
    refine call_i (mk_Round at_ s.shapes.length (by omega) (by omega)) ?_
    (conv => whnf)
    rw [hk]
    refine ⟨⟨by omega, by simp; omega⟩, ?_⟩
    (conv => whnf)
    refine idx_map (by simpa using hx) ?_
    (conv => whnf)
    refine call_i (mk_Round how 8 (by decide) (by decide)) ?_
    (conv => whnf)
    rw [e]
    (conv => whnf)
    refine ⟨⟨by omega, by simp; omega⟩, ?_⟩
    (conv => whnf)
    refine idx_map (by simpa using hx) ?_
    (conv => whnf)
    (conv => whnf)
    refine retO [.frz 2, .frz 3] ?_
    (conv => whnf)
    exact ⟨[], ⟨congrArg (fun l => SV.agg [.dv (dJs s.robot.joints), .dv (dMs s.robot.masses), .dv (.lst 3 l), .dv (dSks s.skips)]) (set_enc (xs := s.shapes) (k := k) (y := x) rfl), trivial⟩, trivial⟩
theorem mkScene_few (l : List Int) : Few (mkScene l) := by
  have hn := joints_len l 0
  obtain ⟨k1, k2, k3⟩ := mkScene_len l
  have h := mkScene_ok l
  refine ⟨?_, by omega, by omega, fun x hx => ?_, by show (mkRobot l 0).joints.length ≤ _; omega, by omega⟩
  · have := nxt_bd (l := l) (j := scQ1 l) (m := 3) (by omega)
    simp only [mkScene, List.length_append, shWs, List.length_map, List.length_range, scN]; omega
  · unfold checkScene at h
    split at h
    · contradiction
    split at h
    · contradiction
    split at h
    · contradiction
    rename_i h3
    simp only [ne_eq, Decidable.not_not] at h3
    have := serr_at h3 hx
    unfold shapeErr at this
    split at this
    · contradiction
    · omega
end Go.Proofs.YtafglmjadbplcaaGreatDoor

/- ref.FormatStatements. -/
namespace Go.Proofs.YtafglmjadbplcaaGreatDoor
open Eng
set_option maxRecDepth 10000
attribute [local irreducible] FnOk loopW idxF retX arrF findF

theorem eqT {a b : ByteArray} (h : a = b) : Tx a = Tx b := by rw [h]
theorem ref_FormatStatements (l : List Stmt) (hl : l.length ≤ 4611686018427387904) (ha : ∀ s ∈ l, s.args.length ≤ 4611686018427387904) (hs : (fmtL l).size ≤ 9223372036854775807) : FnOk Tryz.prog F.ref6_FormatStatements [.one (.dv (dSts l))] [] 0 (Tx (fmtL l)) [] 0 := by
  refine fnOk tab mix G.ref6_FormatStatements rfl rfl (by kernel_rfl) rfl rfl ?_
  (conv => whnf)
  refine loop_intro (fun k : Nat => ⟨[(0, .one (.dv (dSts l))), (3, Tx (fmtL (l.take k))), (4, I k)], [], 0⟩) (fun k => k ≤ l.length) (fun k => l.length - k) [] 0 [] (Nat.zero_le _) ⟨⟨rfl, rfl, rfl, trivial⟩, trivial⟩ ?_
  rintro k hk
  have hkk : IntKind.i64.wrap ((k : Int) + 1) = ((k + 1 : Nat) : Int) := by rw [w64] <;> omega
  (conv => whnf)
  refine ask_m (fun hlt => ?_) (fun hlt => ?_)
  · have hlt : k < l.length := by simpa using hlt
    obtain ⟨s, hsk⟩ : ∃ s, l[k]? = some s := ⟨_, List.getElem?_eq_getElem hlt⟩
    have hal := ha s (List.mem_of_getElem? hsk)
    have hsz := catB_le (f := stT) (l := l) (k := k + 1)
    have hnx := catB_take stT hsk
    rw [hnx, stT, ByteArray.size_append, ByteArray.size_append, ByteArray.size_append] at hsz
    have hs' : (catB stT l).size ≤ 9223372036854775807 := hs
    have h1 : nlT.size = 1 := rfl
    have hnx' : fmtL (l.take (k + 1)) = fmtL (l.take k) ++ ((s.word ++ argT s.args) ++ nlT) := hnx
    have hsz' : (fmtL (l.take k)).size + (s.word.size + (argT s.args).size + nlT.size) ≤ 9223372036854775807 := Nat.le_trans hsz hs'
    generalize fmtL (l.take k) = t at *
    (conv => whnf)
    refine idx_and (by omega) (by simpa using hsk) ?_
    (conv => whnf)
    refine ⟨by omega, ?_⟩
    (conv => whnf)
    refine loop_intro (fun i : Nat => ⟨[(0, .one (.dv (dSts l))), (3, Tx ((t ++ s.word) ++ argT (s.args.take i))), (4, I k), (5, I i)], [], 0⟩) (fun i => i ≤ s.args.length) (fun i => s.args.length - i) [] 0 [] (Nat.zero_le _) ⟨⟨rfl, eqT (by simp [argT, catB_nil]), rfl, rfl, trivial⟩, trivial⟩ ?_
    rintro i hi
    have hii : IntKind.i64.wrap ((i : Int) + 1) = ((i + 1 : Nat) : Int) := by rw [w64] <;> omega
    (conv => whnf)
    refine idx_and (by omega) (by simpa using hsk) ?_
    (conv => whnf)
    refine ask_m (fun hilt => ?_) (fun hilt => ?_)
    · have hilt : i < s.args.length := by simpa using hilt
      obtain ⟨a, hai⟩ : ∃ a, s.args[i]? = some a := ⟨_, List.getElem?_eq_getElem hilt⟩
      have hz := catB_le (f := fun a => spT ++ a) (l := s.args) (k := i + 1)
      have hn := catB_take (fun a => spT ++ a) hai
      rw [hn, ByteArray.size_append, ByteArray.size_append] at hz
      have hz' : (argT (s.args.take i)).size + (spT.size + a.size) ≤ (argT s.args).size := hz
      have hn' : argT (s.args.take (i + 1)) = argT (s.args.take i) ++ (spT ++ a) := hn
      (conv => whnf)
      refine idx_and (by omega) (by simpa using hsk) ?_
      (conv => whnf)
      refine idx_and (by omega) (by simpa using hai) ?_
      (conv => whnf)
      refine ⟨by show spT.size + a.size ≤ _; omega, ?_⟩
      (conv => whnf)
      refine ⟨by rw [ByteArray.size_append, ByteArray.size_append]; show _ + (spT ++ a).size ≤ _; rw [ByteArray.size_append]; omega, ?_⟩
      (conv => whnf)
      exact ⟨i + 1, [], hilt, by omega, ⟨⟨rfl, eqT (by rw [hn']; exact ByteArray.append_assoc), rfl, eqI hii, trivial⟩, trivial⟩⟩
    · have hi : i = s.args.length := by simp at hilt; omega
      subst hi
      rw [List.take_length]
      (conv => whnf)
      refine ⟨by rw [ByteArray.size_append, ByteArray.size_append]; show _ + nlT.size ≤ _; omega, ?_⟩
      (conv => whnf)
      exact ⟨k + 1, [], hlt, by omega, ⟨⟨rfl, eqT (by rw [hnx', ← ByteArray.append_assoc, ← ByteArray.append_assoc]; rfl), eqI hkk, trivial⟩, trivial⟩⟩
  · have hk : k = l.length := by simp at hlt; omega
    subst hk
    rw [List.take_length]
    (conv => whnf)
    refine ret0 ?_
    exact ret_dv rfl rfl
end Go.Proofs.YtafglmjadbplcaaGreatDoor

/- mk.Slider, mk.Track. -/
namespace Go.Proofs.YtafglmjadbplcaaGreatDoor
open Eng
set_option maxRecDepth 10000
attribute [local irreducible] FnOk loopW idxF retX arrF

def sliderJ (hi : Int) (i : Nat) : Joint := ⟨letter i, 4 + (i % 2 : Nat), (i : Int) - 1, ⟨0, 0, 0⟩, 0, hi, 1, 65536, 65536, 65536⟩
def slider (n : Nat) (hi : Int) : Robot := ⟨(List.range n).map (sliderJ hi), []⟩
def tkP (l : List Int) (q : Nat) : List Vec := if nxt l (q + 2) 3 = 0 then [⟨nxt l q 65, -9, 0⟩, ⟨nxt l q 65, 80, 0⟩] else [⟨nxt l q 65, nxt l (q + 1) 65, 0⟩]
def tkS (l : List Int) (q : Nat) : Shape := ⟨-1, 2 + nxt l (q + 3) 9, tkP l q⟩
def tkN (l : List Int) : Nat := 1 + (nxt l 0 2).toNat
def tkC (l : List Int) : Nat := (nxt l 2 4).toNat
def tkShapes (l : List Int) (k : Nat) : List Shape := ⟨(tkN l : Int) - 1, 1 + nxt l 1 4, [⟨0, 0, 0⟩]⟩ :: (List.range k).map fun i => tkS l (3 + 4 * i)
def mkTrack (l : List Int) : Scene := ⟨slider (tkN l) 64, tkShapes l (tkC l), []⟩
theorem tkShapes_succ (l : List Int) (k : Nat) : (tkShapes l (k + 1)).map encSh = (tkShapes l k).map encSh ++ [encSh (tkS l (3 + 4 * k))] := by
  simp [tkShapes, List.range_succ]
/- made scenes are valid -/
theorem slider_at {n k : Nat} {hi : Int} {j : Joint} (h : (slider n hi).joints[k]? = some j) : k < n ∧ j = sliderJ hi k := by
  rw [slider, List.getElem?_map] at h
  rcases Nat.lt_or_ge k n with hk | hk
  · rw [List.getElem?_range hk] at h
    exact ⟨hk, by simpa using h.symm⟩
  · rw [List.getElem?_eq_none (by simpa using hk)] at h; cases h
theorem slider_ok {n : Nat} {hi : Int} (h1 : 1 ≤ n) (h2 : n ≤ 10) (h3 : 0 ≤ hi) (h4 : hi ≤ 4194304) : checkRobot (slider n hi) = 0 := by
  have hl : (slider n hi).joints.length = n := by simp [slider]
  refine robot_valid (by omega) (by omega) (jointsErr_zero fun k j hj => ?_) (by simp [slider]) (by simp [slider])
  rw [Nat.zero_add]
  obtain ⟨hk, rfl⟩ := slider_at hj
  have hf := find_at (k := 0) hj fun i x hi' hx => by
    obtain ⟨hi2, rfl⟩ := slider_at hx
    intro e
    have := letter_ne i (by omega) k (by omega) e
    omega
  rw [Nat.zero_add] at hf
  refine jointErr_zero (letter_name k (by omega)) hf ?_
  · have hr : reach (4 + ((k % 2 : Nat) : Int)) = 4194304 := by
      rcases Nat.mod_two_eq_zero_or_one k with h | h <;> rw [h] <;> rfl
    refine ⟨⟨by simp only [sliderJ]; omega, by simp only [sliderJ]; omega⟩, ⟨by simp only [sliderJ]; omega, by simp only [sliderJ]; omega⟩, by simp only [sliderJ]; decide, ⟨by simp only [sliderJ]; omega, by simp only [sliderJ]; rw [hr]; omega, by simp only [sliderJ]; rw [hr]; omega⟩, by simp only [sliderJ]; decide⟩
theorem mkTrack_ok (l : List Int) : checkScene (mkTrack l) = 0 := by
  have n0 := nxt_bd (l := l) (j := 0) (m := 2) (by omega)
  have n1 := nxt_bd (l := l) (j := 1) (m := 4) (by omega)
  have n2 := nxt_bd (l := l) (j := 2) (m := 4) (by omega)
  have hn2 : tkN l ≤ 2 ∧ 1 ≤ tkN l := by unfold tkN; omega
  have hc3 : tkC l ≤ 3 := by unfold tkC; omega
  have hl : (mkTrack l).robot.joints.length = tkN l := by simp [mkTrack, slider]
  refine scene_valid (slider_ok hn2.2 (by omega) (by decide) (by decide)) (by simp [mkTrack, tkShapes]; omega) (fun x hx => ?_) (by simp [mkTrack]) (by simp [mkTrack])
  rw [hl]
  rcases List.mem_cons.1 hx with rfl | hx
  · exact shapeErr_zero (linkOk_mk (by simp only; omega) (by simp only; omega)) ⟨by simp only; omega, by simp only; omega⟩ ⟨by simp, by simp⟩ (by simp only [List.all_cons, List.all_nil]; decide)
  · obtain ⟨i, _, rfl⟩ := List.mem_map.1 hx
    have m0 := nxt_bd (l := l) (j := 3 + 4 * i) (m := 65) (by omega)
    have m1 := nxt_bd (l := l) (j := 3 + 4 * i + 1) (m := 65) (by omega)
    have m3 := nxt_bd (l := l) (j := 3 + 4 * i + 3) (m := 9) (by omega)
    refine shapeErr_zero (linkOk_mk (by simp only [tkS]; omega) (by simp only [tkS]; omega)) ⟨by simp only [tkS]; omega, by simp only [tkS]; omega⟩ ?_ ?_
    · simp only [tkS, tkP]; split <;> simp
    · simp only [tkS, tkP]
      split
      · simp only [List.all_cons, List.all_nil, Bool.and_true, Bool.and_eq_true]
        exact ⟨inV_mk ⟨by omega, by omega⟩ ⟨by omega, by omega⟩ ⟨by omega, by omega⟩, inV_mk ⟨by omega, by omega⟩ ⟨by omega, by omega⟩ ⟨by omega, by omega⟩⟩
      · simp only [List.all_cons, List.all_nil, Bool.and_true]
        exact inV_mk ⟨by omega, by omega⟩ ⟨by omega, by omega⟩ ⟨by omega, by omega⟩
end Go.Proofs.YtafglmjadbplcaaGreatDoor

/- Joined scenes: the data, and team's functions up to addShapes. -/
namespace Go.Proofs.YtafglmjadbplcaaGreatDoor
open Eng
set_option maxRecDepth 10000
attribute [local irreducible] FnOk loopW idxF retX arrF

abbrev ww (x : Int) : Int := IntKind.i64.wrap x
def addV (b v : Vec) : Vec := ⟨ww (v.x + b.x), ww (v.y + b.y), ww (v.z + b.z)⟩
def joinV (b v : Vec) (n : Int) : Vec := if n = -1 then addV b v else v
def raise (p n : Int) : Int := if n = -1 then -1 else n + p
abbrev Am (t : ByteArray) (p : Int) (b : Vec) : SV := .agg [.dv (.str t), .dv (.int .i64 p), .dv (.int .i64 b.x), .dv (.int .i64 b.y), .dv (.int .i64 b.z)]
def vS (b v : Vec) : Nat → Vec
  | 0 => v
  | 1 => ⟨ww (v.x + b.x), v.y, v.z⟩
  | 2 => ⟨ww (v.x + b.x), ww (v.y + b.y), v.z⟩
  | _ => addV b v
/- scenes joined one after the other -/
def joinJ (t : ByteArray) (p : Int) (b : Vec) (j : Joint) : Joint := ⟨t ++ j.name, j.kind, raise p j.parent, joinV b j.off j.parent, j.lo, j.hi, j.weight, j.speed, j.accel, j.torque⟩
def joinM (p : Int) (m : Mass) : Mass := ⟨raise p m.link, m.mass, m.point⟩
def joinSh (p : Int) (b : Vec) (x : Shape) : Shape := ⟨raise p x.link, x.radius, x.points.map fun v => joinV b v x.link⟩
def joinSk (p : Int) (k : Skip) : Skip := ⟨raise p k.a, raise p k.b⟩
def addScene (acc : Scene) (t : ByteArray) (b : Vec) (s : Scene) : Scene :=
  ⟨⟨acc.robot.joints ++ s.robot.joints.map (joinJ t acc.robot.joints.length b), acc.robot.masses ++ s.robot.masses.map (joinM acc.robot.joints.length)⟩, acc.shapes ++ s.shapes.map (joinSh acc.robot.joints.length b), acc.skips ++ s.skips.map (joinSk acc.robot.joints.length)⟩
end Go.Proofs.YtafglmjadbplcaaGreatDoor

/- team: Clone, addRobot, addShapes. -/
namespace Go.Proofs.YtafglmjadbplcaaGreatDoor
open Eng
set_option maxRecDepth 10000
attribute [local irreducible] FnOk loopW idxF retX arrF

abbrev bJs (js : List Joint) : Box := .rows Y.Joint 12 (js.map encJ)
abbrev bMs (ms : List Mass) : Box := .rows Y.Mass 5 (ms.map encM)
abbrev bShs (ss : List Shape) : Box := .rows Y.Shape 3 (ss.map encSh)
abbrev bSks (ss : List Skip) : Box := .rows Y.Skip 2 (ss.map encSk)
theorem map_enc1 {α β : Type} (f : α → β) (enc : β → List DV) (A : List β) {l : List α} {k : Nat} {x : α} (h : l[k]? = some x) : (A ++ (l.take (k + 1)).map f).map enc = (A ++ (l.take k).map f).map enc ++ [enc (f x)] := by
  rw [map_take1 f h, ← List.append_assoc, List.map_append]; rfl
theorem set_mid {α : Type} {A B : List α} {x y : α} {k : Nat} (h : A.length = k) : (A ++ x :: B).set k y = A ++ y :: B := by
  subst h; simp
end Go.Proofs.YtafglmjadbplcaaGreatDoor

/- team.Join. -/
namespace Go.Proofs.YtafglmjadbplcaaGreatDoor
open Eng
set_option maxRecDepth 10000
attribute [local irreducible] FnOk loopW idxF retX arrF

def encSc (s : Scene) : List DV := [dJs s.robot.joints, dMs s.robot.masses, dShs s.shapes, dSks s.skips]
abbrev dScs (l : List Scene) : DV := .lst 4 (l.map encSc)
def emptyS : Scene := ⟨⟨[], []⟩, [], []⟩
def joinTo (l : List Scene) (bs : List Vec) : Nat → Scene
  | 0 => emptyS
  | k + 1 => addScene (joinTo l bs k) (letter k) (bs.getD k ⟨0, 0, 0⟩) (l.getD k emptyS)
def firstBad : List Scene → Int
  | [] => 0
  | s :: l => if checkScene s = 0 then firstBad l else checkScene s
def joinOf (l : List Scene) (bs : List Vec) : Scene × Int :=
  if l.length < 1 ∨ 4 < l.length ∨ bs.length ≠ l.length then (emptyS, 3501)
  else if firstBad l ≠ 0 then (emptyS, firstBad l)
  else if checkScene (joinTo l bs l.length) ≠ 0 then (emptyS, 3502)
  else (joinTo l bs l.length, 0)
abbrev JnR (r : Scene × Int) : SV := .tup [(true, [.dv (dJs r.1.robot.joints), .dv (dMs r.1.robot.masses), .dv (dShs r.1.shapes), .dv (dSks r.1.skips)]), (false, [.dv (.int .i64 r.2)])]
abbrev bScZ : Box := .vars Y.Scene [.nil 12, .nil 5, .nil 3, .nil 2]
theorem getD_at {α : Type} {l : List α} {k : Nat} {x d : α} (h : l[k]? = some x) : l.getD k d = x := by
  rw [List.getD_eq_getElem?_getD, h]; rfl
theorem firstBad_all : ∀ {l : List Scene}, firstBad l = 0 → ∀ s ∈ l, checkScene s = 0
  | [], _, s, hs => by cases hs
  | x :: l, h, s, hs => by
    rw [firstBad] at h
    split at h
    · rename_i h0
      rcases List.mem_cons.1 hs with rfl | hs
      · exact h0
      · exact firstBad_all h s hs
    · rename_i h0; exact absurd h h0
structure Sized (n : Nat) (s : Scene) : Prop where
  joints : s.robot.joints.length ≤ 10 * n
  masses : s.robot.masses.length ≤ 32 * n
  shapes : s.shapes.length ≤ 24 * n
  skips : s.skips.length ≤ 64 * n
  points : ∀ x ∈ s.shapes, x.points.length ≤ 8
theorem Sized.small {n : Nat} {s : Scene} (h : Sized n s) (hn : n ≤ 1000) : small s := by
  have := h.joints; have := h.masses; have := h.shapes; have := h.skips
  exact ⟨by omega, by omega, by omega, by omega, fun x hx => by have := h.points x hx; omega⟩
theorem joinTo_sized {l : List Scene} (bs : List Vec) (hl : ∀ s ∈ l, checkScene s = 0) : ∀ k, k ≤ l.length → Sized k (joinTo l bs k)
  | 0, _ => ⟨Nat.le_refl _, Nat.le_refl _, Nat.le_refl _, Nat.le_refl _, fun x hx => by cases hx⟩
  | k + 1, h => by
    obtain ⟨i1, i2, i3, i4, i5⟩ := joinTo_sized bs hl k (by omega)
    obtain ⟨s, hs⟩ : ∃ s, l[k]? = some s := ⟨_, List.getElem?_eq_getElem (by omega)⟩
    obtain ⟨g0, g1, g2, g3, g4⟩ := scene_facts (hl s (List.mem_of_getElem? hs))
    obtain ⟨f1, _, f3, _⟩ := robot_facts g0
    rw [joinTo, getD_at hs]
    refine ⟨?_, ?_, ?_, ?_, fun x hx => ?_⟩
    · simp only [addScene, List.length_append, List.length_map]; omega
    · simp only [addScene, List.length_append, List.length_map]; omega
    · simp only [addScene, List.length_append, List.length_map]; omega
    · simp only [addScene, List.length_append, List.length_map]; omega
    · rcases List.mem_append.1 hx with hx | hx
      · exact i5 x hx
      · obtain ⟨y, hy, rfl⟩ := List.mem_map.1 hx
        have := (g2 y hy).2.2.1
        simp only [joinSh, List.length_map]; exact this
theorem enc_letter : ∀ k : Nat, k < 4 → Utf8.encode (IntKind.i32.wrap (IntKind.i64.wrap (97 + (k : Int)))) = letter k := by decide
theorem letter_size : ∀ k, k < 10 → (letter k).size = 1 := by decide
theorem firstBad_at {k : Nat} {l : List Scene} {s : Scene} (h : l[k]? = some s) : firstBad (l.drop k) = if checkScene s = 0 then firstBad (l.drop (k + 1)) else checkScene s := by
  rw [drop_cons h, firstBad]
end Go.Proofs.YtafglmjadbplcaaGreatDoor

/- law35: the comparisons of lists and scenes. -/
namespace Go.Proofs.YtafglmjadbplcaaGreatDoor
open Eng
set_option maxRecDepth 10000
attribute [local irreducible] FnOk loopW idxF retX arrF

theorem cmp_mk_Same_Vec : cmpB Tryz.prog 8 Y.Vec = true ∧ Tryz.prog.eqGuardType Tryz.prog.depth Y.Vec = false := ⟨by kernel_rfl, by kernel_rfl⟩
theorem mk_Same_Vec (a b : List Vec) (ha : a.length ≤ 4611686018427387904) (hb : b.length ≤ 4611686018427387904) : FnOk Tryz.prog F.mk_Same_api_Vec [.one (.dv (.lst 3 (a.map encV))), .one (.dv (.lst 3 (b.map encV)))] [] 0 (Bo (decide (a = b))) [] 0 := by
  refine fnOk tab mix G.mk_Same_api_Vec rfl rfl (by kernel_rfl) rfl rfl ?_
  (conv => whnf)
  refine ask_m (fun h => ?_) (fun h => ?_)
  · (conv => whnf)
    refine ret0 ?_
    refine ret_b (Eq.symm (decide_eq_false ?_)) rfl
    rintro rfl
    simp at h
  have hl : a.length = b.length := by simp at h; omega
  (conv => whnf)
  refine loop_intro (fun k : Nat => ⟨[(0, .one (.dv (.lst 3 (a.map encV)))), (1, .one (.dv (.lst 3 (b.map encV)))), (5, I k)], [], 0⟩) (fun k => k ≤ a.length ∧ a.take k = b.take k) (fun k => a.length - k) [] 0 [] ⟨Nat.zero_le _, rfl⟩ ⟨⟨rfl, rfl, rfl, trivial⟩, trivial⟩ ?_
  rintro k ⟨hk, hall⟩
  (conv => whnf)
  refine ask_m (fun h => ?_) (fun h => ?_)
  · have hlt : k < a.length := by simpa using h
    obtain ⟨x, hx⟩ : ∃ j, a[k]? = some j := ⟨_, List.getElem?_eq_getElem hlt⟩
    obtain ⟨y, hy⟩ : ∃ j, b[k]? = some j := ⟨_, List.getElem?_eq_getElem (by omega)⟩
    have hkk : IntKind.i64.wrap ((k : Int) + 1) = ((k + 1 : Nat) : Int) := by rw [w64] <;> omega
    (conv => whnf)
    refine idx_and (by omega) (by simpa using hx) ?_
    (conv => whnf)
    refine idx_and (by omega) (by simpa using hy) ?_
    (conv => whnf)
    refine ⟨cmp_mk_Same_Vec, ?_⟩
    (conv => whnf)
    refine ask_m (fun h => ?_) (fun h => ?_)
    · (conv => whnf)
      refine ret0 ?_
      refine ret_b (Eq.symm (decide_eq_false (ne_at hx hy ?_))) rfl
      rintro rfl
      simp at h
    · skip
      have e : x = y := by
        obtain ⟨a1, a2, a3⟩ := x
        obtain ⟨b1, b2, b3⟩ := y
        simp at h; simp [h]
      subst e
      (conv => whnf)
      exact ⟨k + 1, [], ⟨hlt, take_same hall hx hy⟩, by omega, ⟨⟨rfl, rfl, eqI hkk, trivial⟩, trivial⟩⟩
  · have hk : k = a.length := by simp at h; omega
    subst hk
    rw [List.take_length, hl, List.take_length] at hall
    (conv => whnf)
    refine ret0 ?_
    exact ret_b (decide_eq_true hall).symm rfl
theorem cmp_mk_Same_Skip : cmpB Tryz.prog 8 Y.Skip = true ∧ Tryz.prog.eqGuardType Tryz.prog.depth Y.Skip = false := ⟨by kernel_rfl, by kernel_rfl⟩
theorem mk_Same_Skip (a b : List Skip) (ha : a.length ≤ 4611686018427387904) (hb : b.length ≤ 4611686018427387904) : FnOk Tryz.prog F.mk_Same_api_Skip [.one (.dv (.lst 2 (a.map encSk))), .one (.dv (.lst 2 (b.map encSk)))] [] 0 (Bo (decide (a = b))) [] 0 := by
  refine fnOk tab mix G.mk_Same_api_Skip rfl rfl (by kernel_rfl) rfl rfl ?_
  (conv => whnf)
  refine ask_m (fun h => ?_) (fun h => ?_)
  · (conv => whnf)
    refine ret0 ?_
    refine ret_b (Eq.symm (decide_eq_false ?_)) rfl
    rintro rfl
    simp at h
  have hl : a.length = b.length := by simp at h; omega
  (conv => whnf)
  refine loop_intro (fun k : Nat => ⟨[(0, .one (.dv (.lst 2 (a.map encSk)))), (1, .one (.dv (.lst 2 (b.map encSk)))), (5, I k)], [], 0⟩) (fun k => k ≤ a.length ∧ a.take k = b.take k) (fun k => a.length - k) [] 0 [] ⟨Nat.zero_le _, rfl⟩ ⟨⟨rfl, rfl, rfl, trivial⟩, trivial⟩ ?_
  rintro k ⟨hk, hall⟩
  (conv => whnf)
  refine ask_m (fun h => ?_) (fun h => ?_)
  · have hlt : k < a.length := by simpa using h
    obtain ⟨x, hx⟩ : ∃ j, a[k]? = some j := ⟨_, List.getElem?_eq_getElem hlt⟩
    obtain ⟨y, hy⟩ : ∃ j, b[k]? = some j := ⟨_, List.getElem?_eq_getElem (by omega)⟩
    have hkk : IntKind.i64.wrap ((k : Int) + 1) = ((k + 1 : Nat) : Int) := by rw [w64] <;> omega
    (conv => whnf)
    refine idx_and (by omega) (by simpa using hx) ?_
    (conv => whnf)
    refine idx_and (by omega) (by simpa using hy) ?_
    (conv => whnf)
    refine ⟨cmp_mk_Same_Skip, ?_⟩
    (conv => whnf)
    refine ask_m (fun h => ?_) (fun h => ?_)
    · (conv => whnf)
      refine ret0 ?_
      refine ret_b (Eq.symm (decide_eq_false (ne_at hx hy ?_))) rfl
      rintro rfl
      simp at h
    · skip
      have e : x = y := by
        obtain ⟨a1, a2⟩ := x
        obtain ⟨b1, b2⟩ := y
        simp at h; simp [h]
      subst e
      (conv => whnf)
      exact ⟨k + 1, [], ⟨hlt, take_same hall hx hy⟩, by omega, ⟨⟨rfl, rfl, eqI hkk, trivial⟩, trivial⟩⟩
  · have hk : k = a.length := by simp at h; omega
    subst hk
    rw [List.take_length, hl, List.take_length] at hall
    (conv => whnf)
    refine ret0 ?_
    exact ret_b (decide_eq_true hall).symm rfl
theorem mk_SameScene (a b : Scene) (ha : small a) (hb : small b) : FnOk Tryz.prog F.mk_SameScene [Sc a, Sc b] [] 0 (Bo (decide (a = b))) [] 0 := by
  refine fnOk tab mix G.mk_SameScene rfl rfl (by kernel_rfl) rfl rfl ?_
  (conv => whnf)
  obtain ⟨ra, sa, ka⟩ := a
  obtain ⟨rb, sb, kb⟩ := b
  obtain ⟨a1, a2, a3, a4, a5⟩ := ha
  obtain ⟨b1, b2, b3, b4, b5⟩ := hb
  simp only at a1 a2 a3 a4 a5 b1 b2 b3 b4 b5
  refine call_i (mk_SameRobot ra rb ⟨a1, a2⟩ ⟨b1, b2⟩) ?_
  (conv => whnf)
  by_cases h1 : ra = rb
  case neg =>
    rw [decide_eq_false h1]
    (conv => whnf)
    refine ret0 ?_
    exact ret_b (by simp [h1]) rfl
  rw [decide_eq_true h1]
  (conv => whnf)
  refine call_i (mk_Same_Skip ka kb a4 b4) ?_
  (conv => whnf)
  by_cases h2 : ka = kb
  case neg =>
    rw [decide_eq_false h2]
    (conv => whnf)
    refine ret0 ?_
    exact ret_b (by simp [h2]) rfl
  rw [decide_eq_true h2]
  (conv => whnf)
  refine ask_m (fun h => ?_) (fun h => ?_)
  · have h : ¬ sa.length = sb.length := by simp at h; omega
    (conv => whnf)
    refine ret0 ?_
    exact ret_b (by symm; refine decide_eq_false fun e => h ?_; simp only [Scene.mk.injEq] at e; rw [e.2.1]) rfl
  have hl : sa.length = sb.length := by simp at h; omega
  (conv => whnf)
  refine loop_intro (fun k : Nat => ⟨[(2, .one (.vptr 0 0)), (3, .one (.vptr 1 0)), (5, I k)], [(0, bSc ⟨ra, sa, ka⟩), (1, bSc ⟨rb, sb, kb⟩)], 2⟩) (fun k => k ≤ sa.length ∧ sa.take k = sb.take k) (fun k => sa.length - k) [] 0 [] ⟨Nat.zero_le _, rfl⟩ ⟨⟨rfl, rfl, rfl, trivial⟩, ⟨rfl, rfl, trivial⟩⟩ ?_
  rintro k ⟨hk, hall⟩
  have hkk : IntKind.i64.wrap ((k : Int) + 1) = ((k + 1 : Nat) : Int) := by rw [w64] <;> omega
  (conv => whnf)
  refine ask_m (fun h => ?_) (fun h => ?_)
  · have hlt : k < sa.length := by simpa using h
    obtain ⟨x, hx⟩ : ∃ j, sa[k]? = some j := ⟨_, List.getElem?_eq_getElem hlt⟩
    obtain ⟨y, hy⟩ : ∃ j, sb[k]? = some j := ⟨_, List.getElem?_eq_getElem (by omega)⟩
    have hbad : x ≠ y → decide ((⟨ra, sa, ka⟩ : Scene) = ⟨rb, sb, kb⟩) = false := fun hn => decide_eq_false fun e => by
      simp only [Scene.mk.injEq] at e
      exact ne_at hx hy hn e.2.1
    (conv => whnf)
    refine idx_and (by omega) (by simpa using hx) ?_
    (conv => whnf)
    refine idx_and (by omega) (by simpa using hy) ?_
    (conv => whnf)
    refine ask_m (fun q1 => ?_) (fun q1 => ?_)
    · have q1 : ¬ x.link = y.link := by simpa using q1
      (conv => whnf)
      refine ret0 ?_
      exact ret_b (by rw [hbad fun e => q1 (congrArg Shape.link e)]) rfl
    have q1 : x.link = y.link := by simpa using q1
    (conv => whnf)
    refine ask_m (fun q2 => ?_) (fun q2 => ?_)
    · have q2 : ¬ x.radius = y.radius := by simpa using q2
      (conv => whnf)
      refine ret0 ?_
      exact ret_b (by rw [hbad fun e => q2 (congrArg Shape.radius e)]) rfl
    have q2 : x.radius = y.radius := by simpa using q2
    (conv => whnf)
    refine call_i (mk_Same_Vec x.points y.points (a5 x (List.mem_of_getElem? hx)) (b5 y (List.mem_of_getElem? hy))) ?_
    (conv => whnf)
    by_cases q3 : x.points = y.points
    · rw [decide_eq_true q3]
      (conv => whnf)
      have e : x = y := by cases x; cases y; simp only at q1 q2 q3; simp [q1, q2, q3]
      exact ⟨k + 1, [], ⟨hlt, take_same hall hx (by rw [e]; exact hy)⟩, by omega, ⟨⟨rfl, rfl, eqI hkk, trivial⟩, ⟨rfl, rfl, trivial⟩⟩⟩
    · rw [decide_eq_false q3]
      (conv => whnf)
      (conv => whnf)
      refine ret0 ?_
      exact ret_b (by rw [hbad fun e => q3 (congrArg Shape.points e)]) rfl
  · have hk : k = sa.length := by simp at h; omega
    subst hk
    rw [List.take_length, hl, List.take_length] at hall
    (conv => whnf)
    refine ret0 ?_
    exact ret_b (by simp [h1, h2, hall]) rfl
def smallB (s : Scene) : Bool := decide (s.robot.joints.length ≤ 4) && decide (s.robot.masses.length ≤ 6) && decide (s.shapes.length ≤ 6) && decide (s.skips.length ≤ 8)
end Go.Proofs.YtafglmjadbplcaaGreatDoor

/- law9: SceneRoundTrip. -/
namespace Go.Proofs.YtafglmjadbplcaaGreatDoor
open Eng
set_option maxRecDepth 10000
attribute [local irreducible] FnOk loopW idxF retX arrF findF

theorem cmpSZ : cmpB Tryz.prog 8 Y.SourceError = true ∧ Tryz.prog.eqGuardType Tryz.prog.depth Y.SourceError = false := ⟨by kernel_rfl, by kernel_rfl⟩
theorem arg_sz {s : Stmt} {w : ByteArray} (h : w ∈ s.args) : w.size ≤ (stT s).size := by
  have : ∀ (l : List ByteArray), w ∈ l → w.size ≤ (argT l).size := fun l => by
    induction l with
    | nil => intro h; cases h
    | cons x l ih =>
      intro h
      rw [argT, catB_cons, ByteArray.size_append, ByteArray.size_append]
      rcases List.mem_cons.1 h with rfl | h
      · omega
      · have := ih h
        rw [argT] at this
        omega
  have := this s.args h
  rw [stT, ByteArray.size_append, ByteArray.size_append]
  omega
set_option maxHeartbeats 2000000 in
theorem law9_RoundTrip (l : List Int) (how at_ v : Int) (hl : l.length ≤ 17592186044416) (_ _ _ : True) : FnOk Tryz.prog F.law9_SceneRoundTrip [Li l, I how, I at_, I v] [] 0 (Bo true) [] 0 := by
  refine fnOk tab mix G.law9_SceneRoundTrip rfl rfl (by kernel_rfl) rfl rfl ?_
  (conv => whnf)
  have ho := mkScene_ok l
  have hsm := mkScene_small l
  have hfew := mkScene_few l
  refine call_i (mk_Scene l (by omega)) ?_
  (conv => whnf)
  generalize mkScene l = s at *
  obtain ⟨c, _, c1, _, _, hc⟩ := law9_changed s how at_ v hfew
  refine call_i (hc) ?_
  (conv => whnf)
  refine call_i (ref_CheckScene c c1) ?_
  (conv => whnf)
  refine ask_m (fun h => ?_) (fun h => ?_)
  case' refine_1 =>
    have h : checkScene c = 0 := by simpa using h
    (conv => whnf)
    generalize hxr : c = q at *
    have hq : small q := c1
  case' refine_2 =>
    (conv => whnf)
    generalize hxr : s = q at *
    have h : checkScene q = 0 := ho
    have hq : small q := hsm
  all_goals
    obtain ⟨w1, w2⟩ := written_good h
    have hst : ∀ t ∈ writeScene q, stOk t := fun t ht w hw => by
      have := (w2 t ht).2.1
      have := arg_sz hw
      omega
    have hsz : (fmtL (writeScene q)).size ≤ (writeScene q).length * 1124 := catB_size _ fun t ht => (w2 t ht).2.1
    have hR := scene_Read (writeScene q) (by omega) hst
    rw [read_scene h] at hR
    have e : decide (q = q) = true := by simp
    refine call_i (scene_Write q hq) ?_
    (conv => whnf)
    refine call_i (ref_FormatStatements (writeScene q) (by omega) (fun t ht => by have := (w2 t ht).2.2; omega) (by omega)) ?_
    (conv => whnf)
    refine ⟨⟨trivial, trivial⟩, ?_⟩
    (conv => whnf)
    have hP := ref_Parse (fmtL (writeScene q))
    by_cases hlen : (fmtL (writeScene q)).size ≤ 16384
    · rw [parse_written h hlen] at hP
      refine call_i (hP) ?_
      (conv => whnf)
      refine call_i (hR) ?_
      (conv => whnf)
      refine call_i (scene_Write q hq) ?_
      (conv => whnf)
      refine call_i (hR) ?_
      (conv => whnf)
      refine call_i (law9_awake) ?_
      (conv => whnf)
      refine ⟨cmpSZ, ?_⟩
      (conv => whnf)
      refine ⟨cmpSZ, ?_⟩
      (conv => whnf)
      refine call_i (mk_SameScene q q hq hq) ?_
      (conv => whnf)
      rw [e]
      (conv => whnf)
      refine call_i (mk_SameScene q q hq hq) ?_
      (conv => whnf)
      (conv => whnf)
      refine ret0 ?_
      exact ret_b e rfl
    · obtain ⟨p1, p2⟩ := parse_long hlen
      generalize parseOf (fmtL (writeScene q)) = P at *
      obtain ⟨P, c1', c2'⟩ := P
      simp only at p1 p2
      subst p1
      subst p2
      refine call_i (hP) ?_
      (conv => whnf)
      refine call_i (scene_Read [] (by decide) (fun t ht => by cases ht)) ?_
      (conv => whnf)
      refine call_i (scene_Write q hq) ?_
      (conv => whnf)
      refine call_i (hR) ?_
      (conv => whnf)
      refine call_i (law9_awake) ?_
      (conv => whnf)
      refine ⟨cmpSZ, ?_⟩
      (conv => whnf)
      refine ⟨cmpSZ, ?_⟩
      (conv => whnf)
      refine call_i (mk_SameScene q q hq hq) ?_
      (conv => whnf)
      rw [e]
      (conv => whnf)
      refine call_i (mk_SameScene q q hq hq) ?_
      (conv => whnf)
      (conv => whnf)
      refine ret0 ?_
      exact ret_b e rfl
end Go.Proofs.YtafglmjadbplcaaGreatDoor

/- What the row's list gives: the texts of robot.kindNames, the powers of ten; a world that holds the list. -/
namespace Go.Proofs.YtafglmjadbplcaaGreatDoor
open Eng
set_option maxRecDepth 100000

theorem gTab : Tryz.prog.globalNamed "armplan/robot.kindNames" = some 0 := by kernel_rfl
theorem gTabType : (Tryz.prog.globals[0]?).map (·.type) = some Y.a7_string := by kernel_rfl
theorem uTab : Tryz.prog.underlying Y.a7_string = some (.array 7 Y.string) := by kernel_rfl
theorem uStr : Tryz.prog.underlying Y.string = some .string := by kernel_rfl
theorem cTab : Tryz.prog.cellsOf Y.a7_string = 7 := by kernel_rfl
theorem cStr : Tryz.prog.cellsOf Y.string = 1 := by kernel_rfl
theorem cells_of_texts {H : Type} {enc : TypeId × Value → H} {P : Program} {w : World} {base : Nat} {sp : Nat → Bool} {held : Bool} {fuel : Nat} {t e : TypeId} {n : Nat} {cs : List Value} {ss : List (List UInt8)} {p : List MemPlace}
    (ht : P.underlying t = some (.array n e)) (he : P.underlying e = some .string) (hce : P.cellsOf e = 1) (hct : P.cellsOf t = n)
    (h : DataW.trod enc P w base sp held fuel t cs = some (.agg (ss.map fun b => .lit (.string b)), p)) : cs.length = ss.length ∧ ∀ (i : Nat) (b : List UInt8), ss[i]? = some b → cs[i]? = some (.string ⟨b.toArray⟩) := by
  cases fuel with
  | zero => simp [DataW.trod] at h
  | succ fuel =>
    simp only [DataW.trod, ht, hce, hct, Nat.mul_one] at h
    split at h
    · rename_i hl
      obtain ⟨xs, hm, hx⟩ := Option.map_eq_some_iff.1 h
      have hxs : xs.map (·.1) = ss.map fun b => (DataW.lit (.string b) : DataW H) := by
        have := congrArg Prod.fst hx
        simpa using this
      have hxl : xs.length = n := by simpa using Lib.mapM_length hm
      have hzl : ss.length = n := by
        have := congrArg List.length hxs
        simp at this
        omega
      refine ⟨by omega, ?_⟩
      intro i b hb
      have hi : i < n := by
        have := (List.getElem?_eq_some_iff.1 hb).1
        omega
      obtain ⟨y, hy, hf⟩ := Lib.mapM_at hm i i (by simp [hi])
      have h2 : (xs.map (·.1))[i]? = some (DataW.lit (.string b) : DataW H) := by rw [hxs]; simp [hb]
      simp only [List.getElem?_map, hy, Option.map_some, Option.some.injEq] at h2
      obtain ⟨yd, yp⟩ := y
      simp only at h2
      subst h2
      obtain ⟨str, hc, hx2, _⟩ := DataW.trod_string he hf
      simp only [Prod.mk.injEq, DataW.lit.injEq, Lit.string.injEq] at hx2
      have h1 : cs[i]? = some (.string str) := by
        have := congrArg (·[0]?) hc
        simpa [List.getElem?_take, List.getElem?_drop] using this
      rw [h1, hx2.1]
    · cases h
def kindB : List (List UInt8) := [[102, 105, 120, 101, 100], [116, 117, 114, 110, 120], [116, 117, 114, 110, 121], [116, 117, 114, 110, 122], [115, 108, 105, 100, 101, 120], [115, 108, 105, 100, 101, 121], [115, 108, 105, 100, 101, 122]]
theorem heap_of_var {P : Program} {W : World} {name : String} {g : Nat} {cs : Array Value} (hg : P.globalNamed name = some g) (h : W.var? P name = some cs) : g < W.heap.size ∧ ∃ t fr, W.heap[g]? = some (.cells cs t fr) := by
  unfold World.var? at h
  rw [hg, Option.bind_some] at h
  split at h
  · rename_i c t fr hh
    injection h with h; subst h
    exact ⟨(Array.getElem?_eq_some_iff.1 hh).1, t, fr, hh⟩
  · cases h
theorem gPowT : (Tryz.prog.globals[1]?).map (·.type) = some Y.a20_uint64 := by kernel_rfl
theorem uPow : Tryz.prog.underlying Y.a20_uint64 = some (.array 20 Y.uint64) := by kernel_rfl
theorem uU64 : Tryz.prog.underlying Y.uint64 = some (.int .u64) := by kernel_rfl
theorem cPow : Tryz.prog.cellsOf Y.a20_uint64 = 20 := by kernel_rfl
theorem cU64 : Tryz.prog.cellsOf Y.uint64 = 1 := by kernel_rfl
theorem laidPow : (Rows.laid_internal_strconv_uint64pow10 : DataW Unit) = Lib.tabData .u64 Lib.pow10Tab := by kernel_rfl
theorem globs {W : World} (h : laidMet Tryz.prog Rows.sceneRoundTripRow.laid W) : ∀ g ss, lkv GLV g = some ss → g < W.heap.size ∧ ∃ t fr, W.heap[g]? = some (.cells ss.toArray t fr) := by
  have h2 := laidMet.tail (laidMet.tail h)
  have h5 := laidMet.tail (laidMet.tail h2)
  rw [laidPow] at h2
  have h3 := Lib.tabIs_of_head gPow gPowT uPow uU64 cU64 cPow h2
  obtain ⟨ps, ⟨g', t', cs, fuel, p, q, hg', ht', hvar, hd, _, _⟩, _⟩ := h5
  obtain rfl := Option.some.inj (gTab.symm.trans hg')
  obtain rfl := Option.some.inj (gTabType.symm.trans ht')
  obtain ⟨hl, hc⟩ := cells_of_texts (ss := kindB) uTab uStr cStr cTab hd
  intro g ss hg
  have hg0 : (g = 0 ∧ ss = kindB.map fun b => .string ⟨b.toArray⟩) ∨ (g = 1 ∧ ss = Lib.pow10Tab.map fun z => Value.int .u64 z) := by
    rw [GLV, lkv] at hg
    cases hb : Nat.beq 0 g with
    | true =>
      rw [hb] at hg
      exact .inl ⟨(Nat.eq_of_beq_eq_true hb).symm, (Option.some.inj hg).symm⟩
    | false =>
      rw [hb] at hg
      right
      rw [lkv] at hg
      cases hb1 : Nat.beq 1 g with
      | true =>
        rw [hb1] at hg
        exact ⟨(Nat.eq_of_beq_eq_true hb1).symm, (Option.some.inj hg).symm.trans (by kernel_rfl)⟩
      | false => rw [hb1] at hg; cases hg
  rcases hg0 with ⟨rfl, rfl⟩ | ⟨rfl, rfl⟩
  · have e : cs = (kindB.map fun b => (.string ⟨b.toArray⟩ : Value)).toArray := by
      apply Array.ext'
      apply List.ext_getElem?
      intro i
      rw [List.getElem?_map]
      cases hb : kindB[i]? with
      | some b => exact hc i b hb
      | none =>
        rw [List.getElem?_eq_none_iff] at hb
        exact List.getElem?_eq_none_iff.2 (by rw [hl]; exact hb)
    rw [← e]
    exact heap_of_var gTab hvar
  · exact heap_of_var gPow h3
/-- a world for the witness: the settled one, each listed variable holding what its initialiser lays -/
noncomputable def laidWorld (os : Os) : World :=
  { World.holding Tryz.prog os ⟨#[], #[], []⟩ with heap := ((World.holding Tryz.prog os ⟨#[], #[], []⟩).heap
  |>.modify 2 (fun
      | .cells _ t frozen => .cells #[.int .u8 0, .int .u8 1, .int .u8 28, .int .u8 2, .int .u8 29, .int .u8 14, .int .u8 24, .int .u8 3, .int .u8 30, .int .u8 22, .int .u8 20, .int .u8 15, .int .u8 25, .int .u8 17, .int .u8 4, .int .u8 8, .int .u8 31, .int .u8 27, .int .u8 13, .int .u8 23, .int .u8 21, .int .u8 19, .int .u8 16, .int .u8 7, .int .u8 26, .int .u8 12, .int .u8 18, .int .u8 6, .int .u8 11, .int .u8 5, .int .u8 10, .int .u8 9] t frozen
      | o => o)
  |>.modify 3 (fun
      | .cells _ t frozen => .cells #[.int .u8 0, .int .u8 1, .int .u8 56, .int .u8 2, .int .u8 57, .int .u8 49, .int .u8 28, .int .u8 3, .int .u8 61, .int .u8 58, .int .u8 42, .int .u8 50, .int .u8 38, .int .u8 29, .int .u8 17, .int .u8 4, .int .u8 62, .int .u8 47, .int .u8 59, .int .u8 36, .int .u8 45, .int .u8 43, .int .u8 51, .int .u8 22, .int .u8 53, .int .u8 39, .int .u8 33, .int .u8 30, .int .u8 24, .int .u8 18, .int .u8 12, .int .u8 5, .int .u8 63, .int .u8 55, .int .u8 48, .int .u8 27, .int .u8 60, .int .u8 41, .int .u8 37, .int .u8 16, .int .u8 46, .int .u8 35, .int .u8 44, .int .u8 21, .int .u8 52, .int .u8 32, .int .u8 23, .int .u8 11, .int .u8 54, .int .u8 26, .int .u8 40, .int .u8 15, .int .u8 34, .int .u8 20, .int .u8 31, .int .u8 10, .int .u8 25, .int .u8 14, .int .u8 19, .int .u8 9, .int .u8 13, .int .u8 8, .int .u8 7, .int .u8 6] t frozen
      | o => o)
  |>.modify 1 (fun
      | .cells _ t frozen => .cells #[.int .u64 1, .int .u64 10, .int .u64 100, .int .u64 1000, .int .u64 10000, .int .u64 100000, .int .u64 1000000, .int .u64 10000000, .int .u64 100000000, .int .u64 1000000000, .int .u64 10000000000, .int .u64 100000000000, .int .u64 1000000000000, .int .u64 10000000000000, .int .u64 100000000000000, .int .u64 1000000000000000, .int .u64 10000000000000000, .int .u64 100000000000000000, .int .u64 1000000000000000000, .int .u64 10000000000000000000] t frozen
      | o => o)
  |>.modify 5 (fun
      | .cells _ t frozen => .cells #[.int .u8 128, .int .u8 191, .int .u8 160, .int .u8 191, .int .u8 128, .int .u8 159, .int .u8 144, .int .u8 191, .int .u8 128, .int .u8 143, .int .u8 0, .int .u8 0, .int .u8 0, .int .u8 0, .int .u8 0, .int .u8 0, .int .u8 0, .int .u8 0, .int .u8 0, .int .u8 0, .int .u8 0, .int .u8 0, .int .u8 0, .int .u8 0, .int .u8 0, .int .u8 0, .int .u8 0, .int .u8 0, .int .u8 0, .int .u8 0, .int .u8 0, .int .u8 0] t frozen
      | o => o)
  |>.modify 0 (fun
      | .cells _ t frozen => .cells #[.string ⟨#[102, 105, 120, 101, 100]⟩, .string ⟨#[116, 117, 114, 110, 120]⟩, .string ⟨#[116, 117, 114, 110, 121]⟩, .string ⟨#[116, 117, 114, 110, 122]⟩, .string ⟨#[115, 108, 105, 100, 101, 120]⟩, .string ⟨#[115, 108, 105, 100, 101, 121]⟩, .string ⟨#[115, 108, 105, 100, 101, 122]⟩] t frozen
      | o => o)
  |>.modify 4 (fun
      | .cells _ t frozen => .cells (Go.Pinned.utf8FirstZ.map fun n => Value.int .u8 (n : Nat)).toArray t frozen
      | o => o)) }

end Go.Proofs.YtafglmjadbplcaaGreatDoor
