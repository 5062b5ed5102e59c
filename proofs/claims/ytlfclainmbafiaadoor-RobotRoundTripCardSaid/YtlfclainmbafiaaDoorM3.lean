import Derived.Test.YtlfclainmbafiaaDoorM2
import Derived.Shelf.LaysM
import Derived.Ground.NamesProg
import Derived.Test.YtlfclainmbafiaaDoorProg
import Derived.Shelf.Strconv.Itoa3
import Derived.Stop.LaidErr
import Derived.Lib.LaidTab
import Derived.Deep.DeepHandedRow
/- law8: a written robot is read again. No program in sight. -/
namespace Go.Proofs.YtlfclainmbafiaaDoor
open Eng
set_option maxRecDepth 10000

theorem find_take (nm : ByteArray) : ∀ (js : List Joint) (m b : Nat), find (js.take m) nm b = if 0 ≤ find js nm b ∧ find js nm b < b + m then find js nm b else -1
  | [], m, b => by
    rw [List.take_nil, find, if_neg (by omega)]
  | j :: js, 0, b => by
    have := find_bd (j :: js) nm b
    rw [List.take_zero, if_neg (by omega)]; rfl
  | j :: js, m + 1, b => by
    rw [List.take_succ_cons, find, find]
    split
    · rw [if_pos (by omega)]
    · rw [find_take nm js m (b + 1)]
      have e : ((b + 1 : Nat) : Int) + m = b + (m + 1 : Nat) := by omega
      rw [e]
theorem find_app (nm : ByteArray) : ∀ (a b : List Joint) (n : Nat), find (a ++ b) nm n = if 0 ≤ find a nm n then find a nm n else find b nm (n + a.length)
  | [], b, n => by
    rw [List.nil_append, find, if_neg (by decide)]; rfl
  | j :: a, b, n => by
    rw [List.cons_append, find, find]
    split
    · rw [if_pos (by omega)]
    · rw [find_app nm a b (n + 1), List.length_cons, show n + 1 + a.length = n + (a.length + 1) by omega]
theorem modJ_last (f : Joint → Joint) (x : Joint) : ∀ a : List Joint, modJ (a ++ [x]) a.length f = a ++ [f x]
  | [] => rfl
  | j :: a => by
    rw [List.cons_append, List.length_cons, modJ, modJ_last f x a]; rfl
theorem int_dec {w : Nat} (h : w < 1000000000000000) : intOf (decT w 1) = ((w : Int), true) := by
  obtain ⟨b1, b2, b3, b4⟩ := dl20 (n := w) (k := 1) (by omega) (by omega)
  have hj : dl 20 w 1 ≤ 15 := by
    rcases Nat.lt_or_ge 15 (dl 20 w 1) with h' | h'
    · exact absurd ⟨Nat.div_eq_of_lt (by show w < 1000000000000000; exact h), by decide⟩ (b4 15 h')
    · exact h'
  rw [show decT w 1 = decB (dl 20 w 1) w from rfl]
  generalize dl 20 w 1 = j at *
  have hh : headB (decB j w) 45 = false := by
    simp only [headB, Bool.and_eq_false_iff, decide_eq_false_iff_not]
    right
    show ¬ byteAt (decB j w) 0 = 45
    rw [decB_byte _ j 0 (by omega)]
    omega
  have hd : digOk (decB j w) 15 = true := digOk_mk (by rw [decB_size]; omega) (by rw [decB_size]; omega) (by rw [decB_size]; exact decB_dig j w)
  have hv : digV (decB j w) 15 = (w : Int) := by
    rw [digV, hd, if_pos rfl, decB_size, decB_val j w j (Nat.le_refl _), Nat.sub_self, Nat.pow_zero, Nat.div_one, Nat.mod_eq_of_lt (lt_of_div b1)]
  rw [intOf, tailB, hh, if_neg (by simp), if_neg (by simp), hd, hv]
theorem kind_name {k : Int} (h0 : 0 ≤ k) (h6 : k ≤ 6) : kindI (kindN k) = k := by
  obtain ⟨n, rfl⟩ : ∃ n : Nat, k = n := ⟨k.toNat, by omega⟩
  have : ∀ n : Nat, n < 7 → kindI (kindN n) = (n : Int) := by decide
  exact this n (by omega)
theorem clamp_in {x m : Int} (hm : m ≤ 2147483648) (h : -m ≤ x ∧ x ≤ m) : clampI x = x := by unfold clampI; omega
structure JF (js : List Joint) (k : Nat) (j : Joint) : Prop where
  name : nameOk j.name = true
  find : find js j.name 0 = k
  kind : 0 ≤ j.kind ∧ j.kind ≤ 6
  par : -1 ≤ j.parent ∧ j.parent < k
  off : clampI j.off.x = j.off.x ∧ clampI j.off.y = j.off.y ∧ clampI j.off.z = j.off.z
  lim : clampI j.lo = j.lo ∧ clampI j.hi = j.hi
  lims : (1 ≤ j.weight ∧ j.weight ≤ 1024) ∧ (1 ≤ j.speed ∧ j.speed ≤ 1048576) ∧ (1 ≤ j.accel ∧ j.accel ≤ 1048576) ∧ (1 ≤ j.torque ∧ j.torque ≤ 1099511627776)
theorem inV_in {v : Vec} (h : inV v 4194304 = true) : clampI v.x = v.x ∧ clampI v.y = v.y ∧ clampI v.z = v.z := by
  simp only [inV, Bool.and_eq_true, decide_eq_true_eq] at h
  unfold clampI; omega
theorem reach_le (k : Int) : reach k ≤ 4194304 := by
  unfold reach
  repeat' split
  all_goals decide
theorem jf_of {js : List Joint} {k : Nat} {j : Joint} (h : jointErr js k j = 0) : JF js k j := by
  unfold jointErr at h
  split at h
  · exact absurd h (by decide)
  rename_i c1
  split at h
  · exact absurd h (by decide)
  rename_i c2
  split at h
  · exact absurd h (by decide)
  rename_i c3
  split at h
  · exact absurd h (by decide)
  rename_i c4
  split at h
  · exact absurd h (by decide)
  rename_i c5
  split at h
  · exact absurd h (by decide)
  rename_i c6
  have c4 : inV j.off 4194304 = true := by simpa using c4
  have hr := reach_le j.kind
  have c6 : from1 j.weight 1024 = true ∧ from1 j.speed 1048576 = true ∧ from1 j.accel 1048576 = true ∧ from1 j.torque 1099511627776 = true := by simpa using c6
  obtain ⟨w1, w2, w3, w4⟩ := c6
  exact ⟨by cases hn : nameOk j.name with
    | true => rfl
    | false => exact absurd (.inl hn) c1, Classical.byContradiction fun hn => c1 (.inr hn), by omega, by omega, inV_in c4, by unfold clampI; omega, from1_bd w1, from1_bd w2, from1_bd w3, from1_bd w4⟩
theorem link_read {js : List Joint} {k : Nat} {p : Int} (hf : ∀ (i : Nat) j, js[i]? = some j → JF js i j) (h1 : -1 ≤ p) (h2 : p < k) (hk : k ≤ js.length) :
    (p = -1 ∧ linkN js p = worldT) ∨ (linkN js p ≠ worldT ∧ find (js.take k) (linkN js p) 0 = p) := by
  rcases Int.lt_or_le p 0 with h | h
  · have : p = -1 := by omega
    subst this
    exact .inl ⟨rfl, by rw [linkN, if_pos rfl]⟩
  · right
    obtain ⟨i, rfl⟩ : ∃ i : Nat, p = i := ⟨p.toNat, by omega⟩
    obtain ⟨j, hj⟩ : ∃ j, js[i]? = some j := ⟨_, List.getElem?_eq_getElem (by omega)⟩
    have F := hf i j hj
    have e : linkN js (i : Int) = j.name := by
      rw [linkN, if_neg (by omega), Int.toNat_natCast, hj]
    rw [e]
    refine ⟨fun hw => ?_, ?_⟩
    · have := F.name
      rw [hw] at this
      revert this; decide
    · rw [find_take, F.find, if_pos (by omega)]
def base (j : Joint) : Joint := { j with speed := 65536, accel := 65536, torque := 65536 }
theorem step_joint {js : List Joint} (hf : ∀ (i : Nat) j, js[i]? = some j → JF js i j) {k : Nat} {j : Joint} (hk : js[k]? = some j) (ms : List Mass) (ln : Int) :
    readSt ⟨js.take k, ms⟩ ⟨ln, (jB js j)[0]!.1, (jB js j)[0]!.2⟩ = (0, ⟨js.take k ++ [base j], ms⟩) := by
  have F := hf k j hk
  have hkl : k < js.length := (List.getElem?_eq_some_iff.1 hk).1
  have hnf : find (js.take k) j.name 0 = -1 := by rw [find_take, F.find, if_neg (by omega)]
  obtain ⟨w1, w2, w3, w4⟩ := F.lims
  obtain ⟨o1, o2, o3⟩ := F.off
  obtain ⟨l1, l2⟩ := F.lim
  have hw : intOf (decT j.weight.toNat 1) = (j.weight, true) := by rw [int_dec (by omega)]; congr 1; omega
  show readSt ⟨js.take k, ms⟩ ⟨ln, wJoint, [j.name, kindN j.kind, linkN js j.parent, fmtT j.off.x, fmtT j.off.y, fmtT j.off.z, fmtT j.lo, fmtT j.hi, decT j.weight.toNat 1]⟩ = _
  rw [readSt, if_pos rfl, if_neg (by show ¬ argsB wJoint 9 = false; decide)]
  have hp : ¬ (linkN js j.parent ≠ worldT ∧ find (js.take k) (linkN js j.parent) 0 < 0) ∧ (if linkN js j.parent = worldT then -1 else find (js.take k) (linkN js j.parent) 0) = j.parent := by
    rcases link_read hf F.par.1 F.par.2 (by omega) with ⟨h1, h2⟩ | ⟨h1, h2⟩
    · rw [h2]; exact ⟨fun h => h.1 rfl, by rw [if_pos rfl, h1]⟩
    · rw [h2]
      refine ⟨fun h => ?_, by rw [if_neg h1]⟩
      have hp0 : 0 ≤ j.parent := by
        rcases Int.lt_or_le j.parent 0 with h' | h'
        · have : j.parent = -1 := by have := F.par.1; omega
          exact absurd (by rw [this, linkN, if_pos rfl]) h1
        · exact h'
      omega
  have hr : readJ (js.take k) [j.name, kindN j.kind, linkN js j.parent, fmtT j.off.x, fmtT j.off.y, fmtT j.off.z, fmtT j.lo, fmtT j.hi, decT j.weight.toNat 1] = (0, js.take k ++ [base j]) := by
    rw [readJ, if_neg (by rw [hnf, F.name]; simp), kind_name F.kind.1 F.kind.2, if_neg (by have := F.kind.1; omega), if_neg hp.1, if_neg (by simp [num_fmt, hw]), hp.2]
    simp only [num_fmt, hw, o1, o2, o3, l1, l2]
    rfl
  rw [hr]
theorem step_limit {js : List Joint} (hf : ∀ (i : Nat) j, js[i]? = some j → JF js i j) {k : Nat} {j : Joint} (hk : js[k]? = some j) (ms : List Mass) (ln : Int) :
    readSt ⟨js.take k ++ [base j], ms⟩ ⟨ln, (jB js j)[1]!.1, (jB js j)[1]!.2⟩ = (0, ⟨js.take (k + 1), ms⟩) := by
  have F := hf k j hk
  have hkl : k < js.length := (List.getElem?_eq_some_iff.1 hk).1
  have hl : (js.take k).length = k := by rw [List.length_take]; omega
  have hnf : find (js.take k ++ [base j]) j.name 0 = k := by
    rw [find_app, find_take, F.find, if_neg (by omega), hl, find, if_pos (show (base j).name = j.name from rfl)]; simp
  obtain ⟨w1, w2, w3, w4⟩ := F.lims
  have h2 : intOf (decT j.speed.toNat 1) = (j.speed, true) := by rw [int_dec (by omega)]; congr 1; omega
  have h3 : intOf (decT j.accel.toNat 1) = (j.accel, true) := by rw [int_dec (by omega)]; congr 1; omega
  have h4 : intOf (decT j.torque.toNat 1) = (j.torque, true) := by rw [int_dec (by omega)]; congr 1; omega
  show readSt ⟨js.take k ++ [base j], ms⟩ ⟨ln, wLimit, [j.name, decT j.speed.toNat 1, decT j.accel.toNat 1, decT j.torque.toNat 1]⟩ = _
  rw [readSt, if_neg (by show ¬ wLimit = wJoint; decide), if_pos rfl, if_neg (by show ¬ argsB wLimit 4 = false; decide)]
  have hr : readL (js.take k ++ [base j]) [j.name, decT j.speed.toNat 1, decT j.accel.toNat 1, decT j.torque.toNat 1] = (0, js.take (k + 1)) := by
    rw [readL, hnf, if_neg (by omega), if_neg (by simp [h2, h3, h4]), Int.toNat_natCast]
    have e : modJ (js.take k ++ [base j]) k (limF (decT j.speed.toNat 1) (decT j.accel.toNat 1) (decT j.torque.toNat 1)) = js.take k ++ [limF (decT j.speed.toNat 1) (decT j.accel.toNat 1) (decT j.torque.toNat 1) (base j)] := by
      have := modJ_last (limF (decT j.speed.toNat 1) (decT j.accel.toNat 1) (decT j.torque.toNat 1)) (base j) (js.take k)
      rw [hl] at this; exact this
    rw [e, List.take_add_one, hk]
    have e2 : limF (decT j.speed.toNat 1) (decT j.accel.toNat 1) (decT j.torque.toNat 1) (base j) = j := by
      simp only [limF, base, h2, h3, h4]
    rw [e2]; rfl
  rw [hr]
theorem step_mass {js : List Joint} (hf : ∀ (i : Nat) j, js[i]? = some j → JF js i j) {m : Mass} (hm : massOk js.length m = true) (ms : List Mass) (ln : Int) :
    readSt ⟨js, ms⟩ ⟨ln, (mB js m).1, (mB js m).2⟩ = (0, ⟨js, ms ++ [m]⟩) := by
  simp only [massOk, Bool.and_eq_true, decide_eq_true_eq] at hm
  obtain ⟨⟨⟨m1, m2⟩, m3⟩, m4⟩ := hm
  have m3 := from1_bd m3
  obtain ⟨o1, o2, o3⟩ := inV_in m4
  have o4 : clampI m.mass = m.mass := by unfold clampI; omega
  have hl := link_read hf (k := js.length) (p := m.link) (by omega) m2 (Nat.le_refl _)
  rw [List.take_length] at hl
  have hn : find js (linkN js m.link) 0 = m.link := by
    rcases hl with ⟨h, _⟩ | ⟨_, h⟩
    · omega
    · exact h
  show readSt ⟨js, ms⟩ ⟨ln, wMass, [linkN js m.link, fmtT m.mass, fmtT m.point.x, fmtT m.point.y, fmtT m.point.z]⟩ = _
  rw [readSt, if_neg (by show ¬ wMass = wJoint; decide), if_neg (by show ¬ wMass = wLimit; decide), if_pos rfl, if_neg (by show ¬ argsB wMass 5 = false; decide)]
  have hr : readM js ms [linkN js m.link, fmtT m.mass, fmtT m.point.x, fmtT m.point.y, fmtT m.point.z] = (0, ms ++ [m]) := by
    rw [readM, hn, if_neg (by omega), if_neg (by simp [num_fmt])]
    simp only [num_fmt, o1, o2, o3, o4]
  rw [hr]
theorem read_joints {js : List Joint} (hf : ∀ (i : Nat) j, js[i]? = some j → JF js i j) (l : List (ByteArray × List ByteArray)) : ∀ d k n, k + d = js.length → ∃ n', readAll ⟨js.take k, []⟩ (numb n ((js.drop k).flatMap (jB js) ++ l)) = readAll ⟨js, []⟩ (numb n' l)
  | 0, k, n, h => ⟨n, by
    have : k = js.length := by omega
    subst this
    rw [List.drop_length, List.take_length]; rfl⟩
  | d + 1, k, n, h => by
    obtain ⟨j, hj⟩ : ∃ j, js[k]? = some j := ⟨_, List.getElem?_eq_getElem (by omega)⟩
    obtain ⟨n', ih⟩ := read_joints hf l d (k + 1) (n + 1 + 1) (by omega)
    refine ⟨n', ?_⟩
    rw [drop_cons hj, List.flatMap_cons, List.append_assoc]
    have e1 := step_joint hf hj [] ((n : Int) + 1)
    have e2 := step_limit hf hj [] (((n + 1 : Nat) : Int) + 1)
    show readAll ⟨js.take k, []⟩ (⟨(n : Int) + 1, (jB js j)[0]!.1, (jB js j)[0]!.2⟩ :: ⟨((n + 1 : Nat) : Int) + 1, (jB js j)[1]!.1, (jB js j)[1]!.2⟩ :: numb (n + 1 + 1) ((js.drop (k + 1)).flatMap (jB js) ++ l)) = _
    rw [readAll, e1]
    simp only [if_true]
    rw [readAll, e2]
    simp only [if_true]
    exact ih
theorem read_masses {js : List Joint} (hf : ∀ (i : Nat) j, js[i]? = some j → JF js i j) : ∀ (l2 l1 : List Mass) (n : Nat), (∀ m ∈ l2, massOk js.length m = true) → readAll ⟨js, l1⟩ (numb n (l2.map (mB js))) = (⟨js, l1 ++ l2⟩, 0, 0)
  | [], l1, n, _ => by rw [List.append_nil]; rfl
  | m :: l2, l1, n, h => by
    have e1 := step_mass hf (h m (by simp)) l1 ((n : Int) + 1)
    show readAll ⟨js, l1⟩ (⟨(n : Int) + 1, (mB js m).1, (mB js m).2⟩ :: numb (n + 1) (l2.map (mB js))) = _
    rw [readAll, e1]
    simp only [if_true]
    rw [read_masses hf l2 (l1 ++ [m]) (n + 1) fun x hx => h x (by simp [hx]), List.append_assoc]; rfl
theorem jointsErr_at {js : List Joint} : ∀ {l : List Joint} {i : Nat}, jointsErr js i l = 0 → ∀ (k : Nat) (j : Joint), l[k]? = some j → jointErr js (i + k) j = 0
  | [], _, _, k, j, hj => by simp at hj
  | x :: l, i, h, k, j, hj => by
    rw [jointsErr] at h
    split at h
    · rename_i h0
      cases k with
      | zero => simp at hj; subst hj; exact h0
      | succ k =>
        have := jointsErr_at h k j (by simpa using hj)
        rw [← this]; congr 1; omega
    · rename_i h0; exact absurd h h0
/-- what is written is read again -/
theorem read_write {r : Robot} (h : checkRobot r = 0) : readRobot (writeRobot r) = (r, 0, 0) := by
  have h' := h
  unfold checkRobot at h'
  split at h'
  · contradiction
  split at h'
  · contradiction
  rename_i c1 c2
  have c2 : jointsErr r.joints 0 r.joints = 0 := Classical.byContradiction c2
  have hf : ∀ (i : Nat) j, r.joints[i]? = some j → JF r.joints i j := fun i j hj => jf_of (by simpa using jointsErr_at c2 i j hj)
  obtain ⟨_, _, _, f4⟩ := robot_facts h
  obtain ⟨n', hn⟩ := read_joints hf (r.masses.map (mB r.joints)) r.joints.length 0 0 (by omega)
  rw [List.drop_zero, List.take_zero, read_masses hf r.masses [] n' f4, List.nil_append] at hn
  have hn : readAll emptyR (writeRobot r) = (r, 0, 0) := by rw [writeRobot, if_pos h, robB]; exact hn
  rw [readRobot, hn, if_neg (by simp), if_neg (by simp [h])]
end Go.Proofs.YtlfclainmbafiaaDoor

/-
  DERIVED: THE SHELF's CONTRACTS AT THIS DUMP, IN PLAIN WORDS (tools/lay-plain.mjs out of 'YtlfclainmbafiaaDoorShS.lean', which tools/lay-shelf.mjs wrote): THE SAME DECLARATIONS UNDER THE SAME NAMES: 'import', 'namespace', 'open', 'def', 'theorem' AND NOTHING ELSE: no command of the shelf's: FOR A HAND-IN. Each laying: the table of numbers ('.._ren') and one theorem, a field a fact of the dump's own or the kernel's comparison; each contract: ONE APPLICATION.
-/
namespace Go.Proofs
open Go.Shelf
def Tryd.lays246_ren : Go.Shelf.Ren := ⟨fun | 246 => 100 | 283 => 109 | 284 => 110 | 285 => 111 | 286 => 112 | 129 => 119 | 317 => 118 | 318 => 120 | 319 => 121 | 320 => 122 | 337 => 128 | 338 => 129 | n => n, fun | 2 => 2 | 3 => 3 | 9 => 9 | 4 => 4 | 171 => 157 | 0 => 0 | 53 => 158 | 37 => 161 | 5 => 5 | 173 => 162 | 212 => 169 | 51 => 170 | 20 => 20 | 213 => 171 | 46 => 172 | 232 => 179 | 233 => 180 | n => n, fun | 17 => 1 | 18 => 3 | 19 => 4 | n => n⟩
theorem Tryd.lays246 : Go.Proofs.LaysM.n246 Tryd.prog Tryd.lays246_ren := {
  mixed := by kernel_rfl
  f129 := Tryd.func119.trans (congrArg some (by kernel_rfl))
  f246 := Tryd.func100.trans (congrArg some (by kernel_rfl))
  f283 := Tryd.func109.trans (congrArg some (by kernel_rfl))
  f284 := Tryd.func110.trans (congrArg some (by kernel_rfl))
  f285 := Tryd.func111.trans (congrArg some (by kernel_rfl))
  f286 := Tryd.func112.trans (congrArg some (by kernel_rfl))
  f317 := Tryd.func118.trans (congrArg some (by kernel_rfl))
  f318 := Tryd.func120.trans (congrArg some (by kernel_rfl))
  f319 := Tryd.func121.trans (congrArg some (by kernel_rfl))
  f320 := Tryd.func122.trans (congrArg some (by kernel_rfl))
  f337 := Tryd.func128.trans (congrArg some (by kernel_rfl))
  f338 := Tryd.func129.trans (congrArg some (by kernel_rfl))
  t0 := Tryd.underlying0
  a0 := Tryd.isAgg0
  z0 := Tryd.sizeOf0
  v0 := Tryd.zeroValue0
  t2 := Tryd.underlying2
  a2 := Tryd.isAgg2
  z2 := Tryd.sizeOf2
  v2 := Tryd.zeroValue2
  t3 := Tryd.underlying3
  a3 := Tryd.isAgg3
  z3 := Tryd.sizeOf3
  v3 := Tryd.zeroValue3
  t4 := Tryd.underlying4
  a4 := Tryd.isAgg4
  z4 := Tryd.sizeOf4
  v4 := Tryd.zeroValue4
  t5 := Tryd.underlying5
  a5 := Tryd.isAgg5
  z5 := Tryd.sizeOf5
  v5 := Tryd.zeroValue5
  t9 := Tryd.underlying9
  a9 := Tryd.isAgg9
  z9 := Tryd.sizeOf9
  v9 := Tryd.zeroValue9
  t20 := Tryd.underlying20
  a20 := Tryd.isAgg20
  z20 := Tryd.sizeOf20
  v20 := Tryd.zeroValue20
  t37 := Tryd.underlying161
  a37 := Tryd.isAgg161
  z37 := Tryd.sizeOf161
  v37 := Tryd.zeroValue161
  t46 := Tryd.underlying172
  a46 := Tryd.isAgg172
  z46 := Tryd.sizeOf172
  v46 := Tryd.zeroValue172
  t51 := Tryd.underlying170
  a51 := Tryd.isAgg170
  z51 := Tryd.sizeOf170
  v51 := Tryd.zeroValue170
  t53 := Tryd.underlying158
  a53 := Tryd.isAgg158
  z53 := Tryd.sizeOf158
  v53 := Tryd.zeroValue158
  t171 := Tryd.underlying157
  a171 := Tryd.isAgg157
  z171 := Tryd.sizeOf157
  v171 := Tryd.zeroValue157
  t173 := Tryd.underlying162
  a173 := Tryd.isAgg162
  z173 := Tryd.sizeOf162
  v173 := Tryd.zeroValue162
  t212 := Tryd.underlying169
  a212 := Tryd.isAgg169
  z212 := Tryd.sizeOf169
  v212 := Tryd.zeroValue169
  t213 := Tryd.underlying171
  a213 := Tryd.isAgg171
  z213 := Tryd.sizeOf171
  t232 := Tryd.underlying179
  a232 := Tryd.isAgg179
  z232 := Tryd.sizeOf179
  v232 := Tryd.zeroValue179
  t233 := Tryd.underlying180
  a233 := Tryd.isAgg180
  z233 := Tryd.sizeOf180
  v233 := Tryd.zeroValue180
  g17 := by kernel_rfl
  g18 := by kernel_rfl
  g19 := by kernel_rfl
  i0 := by kernel_rfl
  i2 := by kernel_rfl
  i3 := by kernel_rfl
  i4 := by kernel_rfl
  i5 := by kernel_rfl
  i9 := by kernel_rfl
  i20 := by kernel_rfl
  i37 := by kernel_rfl
  i46 := by kernel_rfl
  i51 := by kernel_rfl
  i53 := by kernel_rfl
  i171 := by kernel_rfl
  i173 := by kernel_rfl
  i212 := by kernel_rfl
  i232 := by kernel_rfl
  i233 := by kernel_rfl
  m17 := by kernel_rfl
  m18 := by kernel_rfl
  m19 := by kernel_rfl }
end Go.Proofs

/- strconv.FormatInt, strings.TrimRight, token.Format. -/
namespace Go.Proofs.YtlfclainmbafiaaDoor
open Eng Go.RowKit
set_option maxRecDepth 100000

/- the bridge -/
theorem gPow : Tryd.prog.globalNamed "internal/strconv.uint64pow10" = some 1 := by kernel_rfl
theorem vPow : lkv GLV 1 = some (Lib.pow10Tab.map fun z => Value.int .u64 z) := by kernel_rfl
theorem mem00 {w0 w w' : World} {X Z A : Nat → Prop} {β : Nat → Value} {m : List (Nat × Box)} (h : MemRel w0 X Z A m β w) (hos : w'.os = w.os) (htp : w'.tape = w.tape) (hout : w'.output = w.output) (hsz : w.heap.size ≤ w'.heap.size) (hh : ∀ k, k < w0.heap.size → ¬ X k → w'.heap[k]? = w.heap[k]?) :
    MemRel w0 X Z A [] β w' :=
  ⟨fun b => ⟨trivial, fun hd => absurd rfl hd⟩, fun b => trivial, fun b b' k hb => absurd rfl hb, fun b k hb => absurd rfl hb, ⟨hos.trans h.ext.os, htp.trans h.ext.tape, hout.trans h.ext.output, Nat.le_trans h.ext.size hsz, fun k hk hX => by rw [hh k hk hX]; exact h.ext.block k hk hX⟩, h.new, fun b sz k hb => by cases hb⟩
theorem intl_FormatInt (n : Int) (h0 : -9223372036854775808 ≤ n) (h1 : n ≤ 9223372036854775807) : FnOk Tryd.prog F.internal_strconv_FormatInt [I n, I 10] [] 0 (Tx (itT n)) [] 0 := by
  refine ⟨by kernel_rfl, fun w Z vs β hargs hmem => ?_⟩
  obtain ⟨v, r, rfl, hv, hr⟩ := all2_cons hargs
  obtain ⟨v2, r, rfl, hv2, hr⟩ := all2_cons hr
  obtain rfl := all2_nil hr
  cases hv
  cases hv2
  obtain ⟨hg, _, _, t, fr, hb⟩ := hmem.new.glob _ _ vPow
  have htab : Lib.TabIs Tryd.prog w "internal/strconv.uint64pow10" .u64 Lib.pow10Tab := by
    unfold Lib.TabIs World.var?
    rw [gPow, Option.bind_some, hb]
  refine (Any.internal_strconv_FormatInt_10 Tryd.lays246 n h0 h1 w htab).mono ?_
  rintro e w' ⟨rfl, k, os, rfl⟩
  refine ⟨_, β, rfl, .str _, trivial, mem00 hmem rfl rfl rfl ?_ ?_, fun b _ hd => absurd rfl hd⟩
  · show w.heap.size ≤ (w.heap ++ os).size
    rw [Array.size_append]; omega
  · intro j hj _
    show (w.heap ++ os)[j]? = w.heap[j]?
    rw [Array.getElem?_append_left hj]
attribute [local irreducible] FnOk loopW idxF retX arrF
theorem strconv_FormatInt (n : Int) (h0 : -9223372036854775808 ≤ n) (h1 : n ≤ 9223372036854775807) : FnOk Tryd.prog F.strconv_FormatInt [I n, I 10] [] 0 (Tx (itT n)) [] 0 := by
  refine fnOk tab mix G.strconv_FormatInt rfl rfl (by kernel_rfl) rfl rfl ?_
  (conv => whnf)
  refine call_i (intl_FormatInt n h0 h1) ?_
  (conv => whnf)
  (conv => whnf)
  refine ret0 ?_
  exact ret_dv rfl rfl
def zeroT : ByteArray := ⟨#[48]⟩
theorem st_trimRightByte (t : ByteArray) (ht : t.size ≤ 4611686018427387904) : FnOk Tryd.prog F.strings_trimRightByte [Tx t, .one (.dv (.int .u8 48))] [] 0 (Tx (t.extract 0 (trimN t t.size))) [] 0 := by
  refine fnOk tab mix G.strings_trimRightByte rfl rfl (by kernel_rfl) rfl rfl ?_
  (conv => whnf)
  refine loop_intro (fun k : Nat => ⟨[(0, Tx (t.extract 0 k)), (1, .one (.dv (.int .u8 48)))], [], 0⟩) (fun k => k ≤ t.size ∧ trimN t k = trimN t t.size) (fun k => k) [] t.size [] ⟨Nat.le_refl _, rfl⟩ ⟨⟨congrArg Tx (by simp), rfl, trivial⟩, trivial⟩ ?_
  rintro k ⟨hk, htr⟩
  have hsz : (t.extract 0 k).size = k := by simp; omega
  have hk1 : IntKind.i64.wrap (((t.extract 0 k).size : Int) - 1) = ((k - 1 : Nat) : Int) → True := fun _ => trivial
  cases k with
  | zero =>
    have g : decide ((0 : Int) < (((t.extract 0 0).size : Nat) : Int)) = false := decide_eq_false (by rw [hsz]; decide)
    have htr : 0 = trimN t t.size := htr
    rw [← htr]
    (conv => whnf)
    rw [g]
    (conv => whnf)
    refine ret0 ?_
    exact ret_dv rfl rfl
  | succ k =>
    have g : decide ((0 : Int) < (((t.extract 0 (k + 1)).size : Nat) : Int)) = true := decide_eq_true (by rw [hsz]; omega)
    have hk1 : IntKind.i64.wrap (((t.extract 0 (k + 1)).size : Int) - 1) = (k : Int) := by rw [hsz, w64] <;> omega
    (conv => whnf)
    rw [g]
    (conv => whnf)
    rw [hk1]
    refine ⟨⟨by omega, by rw [hsz]; omega⟩, ?_⟩
    (conv => whnf)
    rw [Int.toNat_natCast, ext_byte hk (by omega)]
    rw [trimN] at htr
    refine ask_m (fun h8 => ?_) (fun h8 => ?_)
    · have h8 : byteAt t k = 48 := by simpa using h8
      rw [if_pos h8] at htr
      (conv => whnf)
      rw [hk1]
      refine ⟨⟨by omega, by rw [hsz]; omega⟩, ?_⟩
      (conv => whnf)
      rw [Int.toNat_natCast]
      exact ⟨k, [], ⟨by omega, htr⟩, by omega, ⟨⟨congrArg Tx (ext_ext (by omega) hk), rfl, trivial⟩, trivial⟩⟩
    · have h8 : ¬ byteAt t k = 48 := by simpa using h8
      rw [if_neg h8] at htr
      rw [← htr]
      (conv => whnf)
      refine ret0 ?_
      exact ret_dv rfl rfl
theorem st_TrimRight (t : ByteArray) (h0 : 0 < t.size) (ht : t.size ≤ 4611686018427387904) : FnOk Tryd.prog F.strings_TrimRight [Tx t, Tx zeroT] [] 0 (Tx (t.extract 0 (trimN t t.size))) [] 0 := by
  have g : decide (t = (⟨#[]⟩ : ByteArray)) = false := decide_eq_false (by rintro rfl; exact absurd h0 (by decide))
  refine fnOk tab mix G.strings_TrimRight rfl rfl (by kernel_rfl) rfl rfl ?_
  (conv => whnf)
  rw [g]
  (conv => whnf)
  refine ⟨⟨by decide, by decide⟩, ?_⟩
  (conv => whnf)
  refine ⟨⟨by decide, by decide⟩, ?_⟩
  (conv => whnf)
  refine call_i (st_trimRightByte t ht) ?_
  (conv => whnf)
  (conv => whnf)
  refine ret0 ?_
  exact ret_dv rfl rfl
theorem token_Format (n : Int) : FnOk Tryd.prog F.token_Format [I n] [] 0 (Tx (fmtT n)) [] 0 := by
  refine fnOk tab mix G.token_Format rfl rfl (by kernel_rfl) rfl rfl ?_
  (conv => whnf)
  have hX : min (max n (-2147483648 : Int)) 2147483648 = clampI n := by unfold clampI; omega
  rw [hX]
  have hb : -2147483648 ≤ clampI n ∧ clampI n ≤ 2147483648 := by unfold clampI; omega
  have hF : fmtT n = fmtS (if clampI n < 0 then minusT else ByteArray.empty) (clampI n).natAbs := rfl
  rw [hF]
  clear hX hF
  generalize clampI n = x at *
  refine ask_m (fun h => ?_) (fun h => ?_)
  case' refine_1 =>
    have h : x < 0 := by simpa using h
    rw [if_pos h]
    obtain ⟨a, ha⟩ : ∃ a : Nat, x = - (a : Int) := ⟨x.natAbs, by omega⟩
    have hna : x.natAbs = a := by omega
    have hw : IntKind.i64.wrap (0 - x) = (a : Int) := by rw [w64] <;> omega
    rw [hna]
    have hsg : minusT.size ≤ 1 := by decide
    obtain ⟨sgn, hsgn⟩ : ∃ sgn : ByteArray, sgn = minusT := ⟨_, rfl⟩
    rw [← hsgn]
    have hab : a ≤ 2147483648 := by omega
    (conv => whnf)
    rw [hw]
  case' refine_2 =>
    have h : ¬ x < 0 := by simpa using h
    rw [if_neg h]
    obtain ⟨a, ha⟩ : ∃ a : Nat, x = (a : Int) := ⟨x.natAbs, by omega⟩
    have hna : x.natAbs = a := by omega
    rw [hna]
    have hsg : ByteArray.empty.size ≤ 1 := by decide
    obtain ⟨sgn, hsgn⟩ : ∃ sgn : ByteArray, sgn = ByteArray.empty := ⟨_, rfl⟩
    rw [← hsgn]
    have hab : a ≤ 2147483648 := by omega
    subst ha
    (conv => whnf)
  all_goals
    have q1 : IntKind.i64.wrap ((a : Int).tdiv 65536) = ((a / 65536 : Nat) : Int) := by rw [Int.tdiv_eq_ediv_of_nonneg (by omega), w64 (by omega) (by omega)]; omega
    have q2 : (a : Int).tmod 65536 = ((a % 65536 : Nat) : Int) := by rw [Int.tmod_eq_emod_of_nonneg (by omega)]; omega
    have z1 := decT_size (n := a / 65536) (k := 1) (by omega) (by omega)
    have i1 := itT_dec (u := a / 65536) (by omega)
    refine ⟨(by decide : (65536 : Int) ≠ 0), ?_⟩
    (conv => whnf)
    rw [q1]
    refine call_i (strconv_FormatInt ((a / 65536 : Nat) : Int) (by omega) (by omega)) ?_
    (conv => whnf)
    rw [i1]
    refine ⟨(Nat.le_trans (Nat.add_le_add hsg z1.1) (by decide)), ?_⟩
    (conv => whnf)
    refine ⟨(by decide : (65536 : Int) ≠ 0), ?_⟩
    (conv => whnf)
    rw [q2]
    refine ask_m (fun h0 => ?_) (fun h0 => ?_)
    · have h0 : a % 65536 = 0 := by simp at h0; omega
      (conv => whnf)
      refine ret0 ?_
      exact ret_dv (by rw [fmtS, if_pos h0, hsgn]; rfl) rfl
    have h0 : ¬ a % 65536 = 0 := by simp at h0; omega
    rw [fmtS, if_neg h0]
    have hf1 : 1 ≤ a % 65536 ∧ a % 65536 ≤ 65535 := by omega
    generalize a % 65536 = f at *
    have q3 : IntKind.i64.wrap ((IntKind.i64.wrap (IntKind.i64.wrap ((f : Int) * 100000) + 32768)).tdiv 65536) = (((2 * f * 100000 + 65536) / 131072 : Nat) : Int) := by
      rw [w64 (x := (f : Int) * 100000) (by omega) (by omega), w64 (x := (f : Int) * 100000 + 32768) (by omega) (by omega), Int.tdiv_eq_ediv_of_nonneg (by omega), w64 (by omega) (by omega)]; omega
    have hv : 1 ≤ (2 * f * 100000 + 65536) / 131072 ∧ (2 * f * 100000 + 65536) / 131072 ≤ 99999 := by omega
    rw [fracT]
    obtain ⟨v, hv0⟩ : ∃ v, v = (2 * f * 100000 + 65536) / 131072 := ⟨_, rfl⟩
    rw [← hv0] at hv q3 ⊢
    clear hv0
    have q4 : IntKind.i64.wrap (100000 + (v : Int)) = ((100000 + v : Nat) : Int) := by rw [w64] <;> omega
    have i2 := itT_dec (u := 100000 + v) (by omega)
    have z2 := decT_size (n := v) (k := 5) (by omega) (by omega)
    have z3 := decT_size (n := 100000 + v) (k := 1) (by omega) (by omega)
    have z4 := tail6 hv.2
    rw [← hsgn] at hsg
    generalize decT (a / 65536) 1 = d at *
    (conv => whnf)
    refine ⟨(by decide : (65536 : Int) ≠ 0), ?_⟩
    (conv => whnf)
    rw [q3]
    have s0 : (⟨#[]⟩ : ByteArray).size = 0 := rfl
    have s1 : (⟨#[45]⟩ : ByteArray).size = 1 := rfl
    have s2 : (⟨#[46]⟩ : ByteArray).size = 1 := rfl
    refine ⟨(by rw [ByteArray.size_append]; omega), ?_⟩
    (conv => whnf)
    rw [q4]
    refine call_i (strconv_FormatInt ((100000 + v : Nat) : Int) (by omega) (by omega)) ?_
    (conv => whnf)
    rw [i2]
    refine ⟨⟨by decide, by omega⟩, ?_⟩
    (conv => whnf)
    rw [show (decT (100000 + v) 1).extract (1 : Int).toNat (decT (100000 + v) 1).size = decT v 5 from z4]
    refine call_i (st_TrimRight (decT v 5) (by omega) (by omega)) ?_
    (conv => whnf)
    have z5 := trimN_le (decT v 5) (decT v 5).size
    refine ⟨(by rw [ByteArray.size_append, ByteArray.size_append, ByteArray.size_extract]; omega), ?_⟩
    (conv => whnf)
    (conv => whnf)
    refine ret0 ?_
    exact ret_dv (by rw [hsgn]; rfl) rfl
end Go.Proofs.YtlfclainmbafiaaDoor

/- robot.Write. -/
namespace Go.Proofs.YtlfclainmbafiaaDoor
open Eng
set_option maxRecDepth 10000
attribute [local irreducible] FnOk loopW idxF retX arrF findF

theorem robot_decimal (n : Int) (h0 : 0 ≤ n) (h1 : n ≤ 9223372036854775807) : FnOk Tryd.prog F.robot_decimal [I n] [] 0 (Tx (decT n.toNat 1)) [] 0 := by
  obtain ⟨u, rfl⟩ : ∃ u : Nat, n = u := ⟨n.toNat, by omega⟩
  have e := itT_dec (u := u) (by omega)
  rw [Int.toNat_natCast, ← e]
  refine fnOk tab mix G.robot_decimal rfl rfl (by kernel_rfl) rfl rfl ?_
  (conv => whnf)
  refine call_i (strconv_FormatInt (u : Int) (by omega) (by omega)) ?_
  (conv => whnf)
  (conv => whnf)
  refine ret0 ?_
  exact ret_dv rfl rfl
theorem robot_linkName (r : Robot) (k : Int) (h0 : -1 ≤ k) (h1 : k < r.joints.length) : FnOk Tryd.prog F.robot_linkName [Ro r, I k] [] 0 (Tx (linkN r.joints k)) [] 0 := by
  refine fnOk tab mix G.robot_linkName rfl rfl (by kernel_rfl) rfl rfl ?_
  (conv => whnf)
  refine ask_m (fun h => ?_) (fun h => ?_)
  · have h : k = -1 := by simpa using h
    subst h
    (conv => whnf)
    refine ret0 ?_
    exact ret_dv (by rw [linkN, if_pos rfl]; rfl) rfl
  have h : ¬ k = -1 := by simpa using h
  obtain ⟨i, rfl⟩ : ∃ i : Nat, k = i := ⟨k.toNat, by omega⟩
  obtain ⟨j, hj⟩ : ∃ j, r.joints[i]? = some j := ⟨_, List.getElem?_eq_getElem (by omega)⟩
  (conv => whnf)
  refine idx_and (by omega) (by simpa using hj) ?_
  (conv => whnf)
  refine ret0 ?_
  exact ret_dv (by rw [linkN, if_neg h, Int.toNat_natCast, hj]) rfl
def fill (xs : List Int) (k : Nat) : List (List DV) := ((xs.take k).map fun x => encA (fmtT x)) ++ List.replicate (xs.length - k) [DV.str ByteArray.empty]
theorem fill_len {xs : List Int} {k : Nat} (h : k ≤ xs.length) : (fill xs k).length = xs.length := by simp [fill]; omega
theorem fill_set {xs : List Int} {k : Nat} {x : Int} (h : xs[k]? = some x) : (fill xs k)[k]? = some [DV.str ByteArray.empty] ∧ (fill xs k).set k (encA (fmtT x)) = fill xs (k + 1) := by
  have hk : k < xs.length := (List.getElem?_eq_some_iff.1 h).1
  have hl : ((xs.take k).map fun x => encA (fmtT x)).length = k := by simp; omega
  obtain ⟨m, hm⟩ : ∃ m, xs.length - k = m + 1 := ⟨xs.length - k - 1, by omega⟩
  have hm2 : xs.length - (k + 1) = m := by omega
  constructor
  · rw [fill, List.getElem?_append_right (by omega), hl, Nat.sub_self, hm]; rfl
  · rw [fill, List.set_append_right _ _ (by omega), hl, Nat.sub_self, hm, fill, hm2, List.take_add_one, h]
    simp [List.replicate_succ]
theorem robot_texts (xs : List Int) (hl : xs.length ≤ 1000) : FnOk Tryd.prog F.robot_texts [Li xs] [] 0 (.one (.dv (dAs (xs.map fmtT)))) [] 0 := by
  refine fnOk tab mix G.robot_texts rfl rfl (by kernel_rfl) rfl rfl ?_
  (conv => whnf)
  refine ⟨⟨by omega, by omega, by show (16 : Int) * _ ≤ _; rw [List.length_map]; omega, by rw [List.length_map]; omega⟩, ?_⟩
  (conv => whnf)
  refine loop_intro (fun k : Nat => ⟨[(3, .one (.row 0)), (9, Li xs), (10, I xs.length), (11, I k)], [(0, .rows Y.string 1 (fill xs k))], 1⟩) (fun k => k ≤ xs.length) (fun k => xs.length - k) [] 0 [] (Nat.zero_le _) ⟨⟨rfl, rfl, eqI (by simp), rfl, trivial⟩, ⟨rows_eq (by simp [fill]), trivial⟩⟩ ?_
  rintro k hk
  have hkk : IntKind.i64.wrap ((k : Int) + 1) = ((k + 1 : Nat) : Int) := by rw [w64] <;> omega
  have hfl := fill_len hk
  (conv => whnf)
  refine ask_m (fun h => ?_) (fun h => ?_)
  · have hlt : k < xs.length := by have := of_decide_eq_true h; omega
    obtain ⟨x, hx⟩ : ∃ x, xs[k]? = some x := ⟨_, List.getElem?_eq_getElem hlt⟩
    obtain ⟨f1, f2⟩ := fill_set hx
    (conv => whnf)
    refine idx_and (by omega) (by simpa using hx) ?_
    (conv => whnf)
    refine call_i (token_Format x) ?_
    (conv => whnf)
    refine ⟨⟨by omega, by rw [hfl]; omega⟩, ?_⟩
    (conv => whnf)
    rw [Int.toNat_natCast]
    refine idx_at f1 ?_
    (conv => whnf)
    exact ⟨k + 1, [], hlt, by omega, ⟨⟨rfl, rfl, rfl, eqI hkk, trivial⟩, ⟨rows_eq (by rw [← f2]; rfl), trivial⟩⟩⟩
  · have hk : k = xs.length := by have := of_decide_eq_false h; omega
    subst hk
    have e : fill xs xs.length = (xs.map fmtT).map encA := by simp [fill, Function.comp_def]
    rw [e]
    (conv => whnf)
    refine retO [.frz 0] ?_
    (conv => whnf)
    exact ⟨[], ⟨rfl, trivial⟩, trivial⟩
theorem write_add (l : List Stmt) (w : ByteArray) (ags : List ByteArray) (hl : l.length ≤ 1000) : FnOk Tryd.prog F.robot_Write_1 [Tx w, .one (.dv (dAs ags)), .one (.vptr 0 0)] [(0, .vars Y.s_Statement [.row 1]), (1, .rows Y.Statement 3 (l.map encSt))] 2 (.tup []) [(0, .vars Y.s_Statement [.row 2]), (2, .rows Y.Statement 3 ((l ++ [(⟨l.length + 1, w, ags⟩ : Stmt)]).map encSt))] 3 := by
  have e : IntKind.i64.wrap ((((l.map encSt).length : Nat) : Int) + 1) = (l.length : Int) + 1 := by rw [List.length_map, w64] <;> omega
  refine fnOk tab mix G.robot_Write_1 rfl rfl (by kernel_rfl) rfl rfl ?_
  (conv => whnf)
  rw [e]
  refine ⟨⟨by simp; omega, by simp; omega⟩, ?_⟩
  (conv => whnf)
  (conv => whnf)
  refine retO [] ?_
  (conv => whnf)
  exact ⟨[(2, 3)], ⟨rfl, trivial⟩, ⟨rfl, rows_eq (by rw [List.map_append]; rfl), trivial⟩⟩
theorem FnOk.bot {P : Program} {f : Nat} {args : List SV} {mA : List (Nat × Box)} {nA : Nat} {sv : SV} {mR : List (Nat × Box)} {nR : Nat} (h : FnOk P f args mA nA sv mR nR) : FnOk P f args mA nA .bot mR nR := by
  unfold FnOk at h ⊢
  refine ⟨h.1, fun w Z vs β ha hm => (h.2 w Z vs β ha hm).mono ?_⟩
  rintro e w' ⟨v, β', he, _, _, hM, hb⟩
  exact ⟨v, β', he, trivial, trivial, hM, hb⟩
theorem jB_at (js : List Joint) {k : Nat} {j : Joint} (h : js[k]? = some j) : numb 0 ((js.take (k + 1)).flatMap (jB js)) = (numb 0 ((js.take k).flatMap (jB js)) ++ [(⟨((numb 0 ((js.take k).flatMap (jB js))).length : Int) + 1, wJoint, [j.name, kindN j.kind, linkN js j.parent, fmtT j.off.x, fmtT j.off.y, fmtT j.off.z, fmtT j.lo, fmtT j.hi, decT j.weight.toNat 1]⟩ : Stmt)]) ++ [(⟨((numb 0 ((js.take k).flatMap (jB js)) ++ [(⟨((numb 0 ((js.take k).flatMap (jB js))).length : Int) + 1, wJoint, [j.name, kindN j.kind, linkN js j.parent, fmtT j.off.x, fmtT j.off.y, fmtT j.off.z, fmtT j.lo, fmtT j.hi, decT j.weight.toNat 1]⟩ : Stmt)]).length : Int) + 1, wLimit, [j.name, decT j.speed.toNat 1, decT j.accel.toNat 1, decT j.torque.toNat 1]⟩ : Stmt)] := by
  rw [List.take_add_one, h, List.flatMap_append, numb_app, List.length_append]
  simp [jB, numb, numb_len]
theorem mB_at (js : List Joint) (P : List (ByteArray × List ByteArray)) {ms : List Mass} {k : Nat} {m : Mass} (h : ms[k]? = some m) : numb 0 (P ++ (ms.take (k + 1)).map (mB js)) = numb 0 (P ++ (ms.take k).map (mB js)) ++ [(⟨((numb 0 (P ++ (ms.take k).map (mB js))).length : Int) + 1, wMass, [linkN js m.link, fmtT m.mass, fmtT m.point.x, fmtT m.point.y, fmtT m.point.z]⟩ : Stmt)] := by
  rw [List.take_add_one, h, List.map_append, ← List.append_assoc, numb_app]
  simp [mB, numb, numb_len]
set_option maxHeartbeats 4000000 in
theorem robot_Write (r : Robot) (hj : r.joints.length ≤ 1000) (hm : r.masses.length ≤ 1000) : FnOk Tryd.prog F.robot_Write [Ro r] [] 0 (.one (.row 0)) [(0, .rows Y.Statement 3 ((writeRobot r).map encSt))] 1 := by
  refine fnOk tab mix G.robot_Write rfl rfl (by kernel_rfl) rfl rfl ?_
  (conv => whnf)
  refine call_i (robot_Check r (by omega) (by omega)) ?_
  (conv => whnf)
  refine ask_m (fun h => ?_) (fun h => ?_)
  · have h : ¬ checkRobot r = 0 := by simpa using h
    rw [writeRobot, if_neg h]
    (conv => whnf)
    refine retO [.own 2 Y.Statement 3] ?_
    (conv => whnf)
    exact ⟨[(0, 1)], ⟨rfl, trivial⟩, ⟨rfl, trivial⟩⟩
  have h : checkRobot r = 0 := by simpa using h
  obtain ⟨f1, f2, f3, f4⟩ := robot_facts h
  (conv => whnf)
  refine loop_intro (fun k : Nat => ⟨[(1, .one (.vptr 0 0)), (3, .one (.vptr 1 0)), (4, .one (.fn 57 [(1, 0)])), (16, .one (.dv (dJs r.joints))), (17, I r.joints.length), (18, I k)], [(0, bRo r), (1, .vars Y.s_Statement [.row 2]), (2, .rows Y.Statement 3 ((numb 0 ((r.joints.take k).flatMap (jB r.joints))).map encSt))], 3⟩) (fun k => k ≤ r.joints.length) (fun k => r.joints.length - k) [.ownC 1 0 Y.Statement 3] 0 [] (Nat.zero_le _) ⟨⟨rfl, rfl, rfl, rfl, eqI (by simp), rfl, trivial⟩, ⟨rfl, rfl, rfl, trivial⟩⟩ ?_
  rintro k hk
  have hkk : IntKind.i64.wrap ((k : Int) + 1) = ((k + 1 : Nat) : Int) := by rw [w64] <;> omega
  have hnl : (numb 0 ((r.joints.take k).flatMap (jB r.joints))).length ≤ 20 := by
    rw [numb_len, jB_len, List.length_take]; omega
  (conv => whnf)
  refine ask_m (fun hlt => ?_) (fun hlt => ?_)
  · have hlt : k < r.joints.length := by have := of_decide_eq_true hlt; omega
    obtain ⟨j, hjk⟩ : ∃ x, r.joints[k]? = some x := ⟨_, List.getElem?_eq_getElem hlt⟩
    have hat := jB_at r.joints hjk
    obtain ⟨n1, ⟨k0, k6⟩, ⟨p1, p2⟩, _, _, n7⟩ := f2 k j hjk
    simp only [Bool.and_eq_true] at n7
    obtain ⟨⟨⟨w1, w2⟩, w3⟩, w4⟩ := n7
    have w1 := from1_bd w1
    have w2 := from1_bd w2
    have w3 := from1_bd w3
    have w4 := from1_bd w4
    generalize numb 0 ((r.joints.take k).flatMap (jB r.joints)) = V at *
    (conv => whnf)
    refine idx_and (by omega) (by simpa using hjk) ?_
    (conv => whnf)
    refine ⟨⟨by omega, by show _ < (7 : Int); omega⟩, ?_⟩
    (conv => whnf)
    have hx : List.drop (j.kind.toNat * 1) (kindTab.map DV.str) = DV.str (kindN j.kind) :: List.drop (j.kind.toNat * 1 + 1) (kindTab.map DV.str) := drop_cons (by rw [List.getElem?_map, Nat.mul_one, kindN_at k0 k6]; rfl)
    split
    case h_2 heq => cases heq.symm.trans hx
    case h_1 c tl heq =>
    have hc := (List.cons.inj (heq.symm.trans hx)).1
    subst hc
    (conv => whnf)
    refine call_i (robot_linkName r j.parent p1 (by omega)) ?_
    (conv => whnf)
    refine ⟨⟨by decide, by decide⟩, ?_⟩
    (conv => whnf)
    refine ⟨⟨by decide, by decide⟩, ?_⟩
    (conv => whnf)
    refine ⟨⟨by decide, by decide⟩, ?_⟩
    (conv => whnf)
    refine call_i (robot_texts [j.off.x, j.off.y, j.off.z, j.lo, j.hi] (by simp)) ?_
    (conv => whnf)
    refine ⟨⟨by simp, by simp⟩, ?_⟩
    (conv => whnf)
    refine call_i (robot_decimal j.weight (by omega) (by omega)) ?_
    (conv => whnf)
    refine ⟨⟨by simp, by simp⟩, ?_⟩
    (conv => whnf)
    refine call_i (FnOk.bot (write_add V wJoint [j.name, kindN j.kind, linkN r.joints j.parent, fmtT j.off.x, fmtT j.off.y, fmtT j.off.z, fmtT j.lo, fmtT j.hi, decT j.weight.toNat 1] (by omega))) ?_
    (conv => whnf)
    refine call_i (robot_decimal j.speed (by omega) (by omega)) ?_
    (conv => whnf)
    refine call_i (robot_decimal j.accel (by omega) (by omega)) ?_
    (conv => whnf)
    refine call_i (robot_decimal j.torque (by omega) (by omega)) ?_
    (conv => whnf)
    refine call_i (FnOk.bot (write_add (V ++ [(⟨V.length + 1, wJoint, [j.name, kindN j.kind, linkN r.joints j.parent, fmtT j.off.x, fmtT j.off.y, fmtT j.off.z, fmtT j.lo, fmtT j.hi, decT j.weight.toNat 1]⟩ : Stmt)]) wLimit [j.name, decT j.speed.toNat 1, decT j.accel.toNat 1, decT j.torque.toNat 1] (by simp; omega))) ?_
    (conv => whnf)
    refine ⟨k + 1, [(2, 11)], hlt, by omega, ⟨⟨rfl, rfl, rfl, rfl, rfl, eqI hkk, trivial⟩, ⟨rfl, rfl, rows_eq (by rw [hat]), trivial⟩⟩⟩
  · have hk : k = r.joints.length := by have := of_decide_eq_false hlt; omega
    subst hk
    rw [List.take_length] at hnl ⊢
    (conv => whnf)
    refine loop_intro (fun k : Nat => ⟨[(1, .one (.vptr 0 0)), (3, .one (.vptr 1 0)), (4, .one (.fn 57 [(1, 0)])), (74, .one (.dv (dMs r.masses))), (75, I r.masses.length), (76, I k)], [(0, bRo r), (1, .vars Y.s_Statement [.row 2]), (2, .rows Y.Statement 3 ((numb 0 (r.joints.flatMap (jB r.joints) ++ (r.masses.take k).map (mB r.joints))).map encSt))], 3⟩) (fun k => k ≤ r.masses.length) (fun k => r.masses.length - k) [] 0 [] (Nat.zero_le _) ⟨⟨rfl, rfl, rfl, rfl, eqI (by simp), rfl, trivial⟩, ⟨rfl, rfl, rows_eq (by simp), trivial⟩⟩ ?_
    rintro k hk
    have hkk : IntKind.i64.wrap ((k : Int) + 1) = ((k + 1 : Nat) : Int) := by rw [w64] <;> omega
    have hnl : (numb 0 (r.joints.flatMap (jB r.joints) ++ (r.masses.take k).map (mB r.joints))).length ≤ 60 := by
      rw [numb_len] at hnl ⊢
      rw [List.length_append, List.length_map, List.length_take]; omega
    (conv => whnf)
    refine ask_m (fun hlt => ?_) (fun hlt => ?_)
    · have hlt : k < r.masses.length := by have := of_decide_eq_true hlt; omega
      obtain ⟨m, hmk⟩ : ∃ x, r.masses[k]? = some x := ⟨_, List.getElem?_eq_getElem hlt⟩
      have hat := mB_at r.joints (r.joints.flatMap (jB r.joints)) hmk
      have hok := f4 m (List.mem_of_getElem? hmk)
      simp only [massOk, Bool.and_eq_true, decide_eq_true_eq] at hok
      obtain ⟨⟨⟨m1, m2⟩, m3⟩, m4⟩ := hok
      generalize numb 0 (r.joints.flatMap (jB r.joints) ++ (r.masses.take k).map (mB r.joints)) = V at *
      (conv => whnf)
      refine idx_and (by omega) (by simpa using hmk) ?_
      (conv => whnf)
      refine call_i (robot_linkName r m.link (by omega) (by omega)) ?_
      (conv => whnf)
      refine ⟨⟨by decide, by decide⟩, ?_⟩
      (conv => whnf)
      refine ⟨⟨by decide, by decide⟩, ?_⟩
      (conv => whnf)
      refine ⟨⟨by decide, by decide⟩, ?_⟩
      (conv => whnf)
      refine call_i (robot_texts [m.mass, m.point.x, m.point.y, m.point.z] (by simp)) ?_
      (conv => whnf)
      refine ⟨⟨by simp, by simp⟩, ?_⟩
      (conv => whnf)
      refine call_i (FnOk.bot (write_add V wMass [linkN r.joints m.link, fmtT m.mass, fmtT m.point.x, fmtT m.point.y, fmtT m.point.z] (by omega))) ?_
      (conv => whnf)
      refine ⟨k + 1, [(2, 7)], hlt, by omega, ⟨⟨rfl, rfl, rfl, rfl, rfl, eqI hkk, trivial⟩, ⟨rfl, rfl, rows_eq (by rw [hat]), trivial⟩⟩⟩
    · have hk : k = r.masses.length := by have := of_decide_eq_false hlt; omega
      subst hk
      rw [List.take_length] at hnl ⊢
      have e : writeRobot r = numb 0 (r.joints.flatMap (jB r.joints) ++ r.masses.map (mB r.joints)) := by rw [writeRobot, if_pos h, robB]
      rw [e]
      (conv => whnf)
      refine retO [] ?_
      (conv => whnf)
      exact ⟨[(0, 2)], ⟨rfl, trivial⟩, ⟨rfl, trivial⟩⟩
end Go.Proofs.YtlfclainmbafiaaDoor

/- law8: RobotRoundTrip. -/
namespace Go.Proofs.YtlfclainmbafiaaDoor
open Eng
set_option maxRecDepth 10000
attribute [local irreducible] FnOk loopW idxF retX arrF findF

theorem written_ok {r : Robot} (h : checkRobot r = 0) : (writeRobot r).length ≤ 52 ∧ ∀ s ∈ writeRobot r, stOk s := by
  obtain ⟨g1, _, g3, _⟩ := robot_facts h
  have hs : checkScene ⟨r, [], []⟩ = 0 := by simp [checkScene, h, shapesErr]
  have hg := scB_good hs (m := 9) (by decide) (fun x hx => by cases hx)
  have e : scB ⟨r, [], []⟩ = robB r := by simp [scB]
  rw [e] at hg
  rw [writeRobot, if_pos h]
  refine ⟨by rw [numb_len, robB, List.length_append, jB_len, List.length_map]; omega, fun s hs w hw => ?_⟩
  obtain ⟨p, hp, ln, rfl⟩ := numb_mem hs
  have h1 := ((hg p hp).st ln).2
  have h2 := arg_size hw
  omega
set_option maxHeartbeats 1000000 in
theorem law8_RoundTrip (l : List Int) (how at_ v : Int) (hl : l.length ≤ 17592186044416) (_ _ _ : True) : FnOk Tryd.prog F.law8_RobotRoundTrip [Li l, I how, I at_, I v] [] 0 (Bo true) [] 0 := by
  refine fnOk tab mix G.law8_RobotRoundTrip rfl rfl (by kernel_rfl) rfl rfl ?_
  (conv => whnf)
  refine call_i (mk_Robot l (by omega)) ?_
  (conv => whnf)
  have hok := mkRobot_ok l 0
  obtain ⟨g1, _, g3, _⟩ := robot_facts hok
  obtain ⟨_, g2, _⟩ := robot_good hok
  generalize mkRobot l 0 = r at *
  refine call_i (law8_changed r how at_ v (by omega) (by omega) (by omega)) ?_
  (conv => whnf)
  have hc := chg8_len r how at_ v (by omega) (by omega)
  generalize chg8 r how at_ v = x at *
  refine call_i (ref_CheckRobot x (by omega) (by omega)) ?_
  (conv => whnf)
  refine ask_m (fun h => ?_) (fun h => ?_)
  case' refine_1 =>
    have h : checkRobot x = 0 := by simpa using h
    (conv => whnf)
    generalize hxr : x = q at *
  case' refine_2 =>
    (conv => whnf)
    generalize hxr : r = q at *
    have h : checkRobot q = 0 := hok
  all_goals
    have hq := (robot_facts h).1
    have hq2 := (robot_facts h).2.2.1
    obtain ⟨wl, ws⟩ := written_ok h
    have hR := robot_Read (writeRobot q) (by omega) ws
    rw [read_write h] at hR
    have e : decide (q = q) = true := by simp
    refine call_i (robot_Write q (by omega) (by omega)) ?_
    (conv => whnf)
    refine call_i (hR) ?_
    (conv => whnf)
    refine call_i (law8_awake) ?_
    (conv => whnf)
    refine ⟨cmpSE8, ?_⟩
    (conv => whnf)
    refine call_i (mk_SameRobot q q ⟨by omega, by omega⟩ ⟨by omega, by omega⟩) ?_
    (conv => whnf)
    (conv => whnf)
    refine ret0 ?_
    exact ret_b e rfl
end Go.Proofs.YtlfclainmbafiaaDoor

/- What the row's list gives: the texts of robot.kindNames, the powers of ten; a world that holds the list. -/
namespace Go.Proofs.YtlfclainmbafiaaDoor
open Eng
set_option maxRecDepth 100000

theorem gTab : Tryd.prog.globalNamed "armplan/robot.kindNames" = some 0 := by kernel_rfl
theorem gTabType : (Tryd.prog.globals[0]?).map (·.type) = some Y.a7_string := by kernel_rfl
theorem uTab : Tryd.prog.underlying Y.a7_string = some (.array 7 Y.string) := by kernel_rfl
theorem uStr : Tryd.prog.underlying Y.string = some .string := by kernel_rfl
theorem cTab : Tryd.prog.cellsOf Y.a7_string = 7 := by kernel_rfl
theorem cStr : Tryd.prog.cellsOf Y.string = 1 := by kernel_rfl
theorem cells_of_texts {H : Type} {enc : TypeId × Value → H} {P : Program} {w : World} {base : Nat} {sp : Nat → Bool} {held : Bool} {fuel : Nat} {t e : TypeId} {n : Nat} {cs : List Value} {ss : List (List UInt8)} {p : List MemPlace}
    (ht : P.underlying t = some (.array n e)) (he : P.underlying e = some .string) (hce : P.cellsOf e = 1) (hct : P.cellsOf t = n)
    (h : DataW.trod enc P w base sp held fuel t cs = some (.agg (ss.map fun b => .lit (.string b)), p)) : cs.length = ss.length ∧ ∀ (i : Nat) (b : List UInt8), ss[i]? = some b → cs[i]? = some (.string ⟨b.toArray⟩) := by
  cases fuel with
  | zero => simp [DataW.trod] at h
  | succ fuel =>
    simp only [DataW.trod, ht, hce, hct, Nat.mul_one] at h
    split at h
    · rename_i hl
      obtain ⟨xs, hm, hx⟩ := Option.map_eq_some_iff.1 h
      have hxs : xs.map (·.1) = ss.map fun b => (DataW.lit (.string b) : DataW H) := by
        have := congrArg Prod.fst hx
        simpa using this
      have hxl : xs.length = n := by simpa using Lib.mapM_length hm
      have hzl : ss.length = n := by
        have := congrArg List.length hxs
        simp at this
        omega
      refine ⟨by omega, ?_⟩
      intro i b hb
      have hi : i < n := by
        have := (List.getElem?_eq_some_iff.1 hb).1
        omega
      obtain ⟨y, hy, hf⟩ := Lib.mapM_at hm i i (by simp [hi])
      have h2 : (xs.map (·.1))[i]? = some (DataW.lit (.string b) : DataW H) := by rw [hxs]; simp [hb]
      simp only [List.getElem?_map, hy, Option.map_some, Option.some.injEq] at h2
      obtain ⟨yd, yp⟩ := y
      simp only at h2
      subst h2
      obtain ⟨str, hc, hx2, _⟩ := DataW.trod_string he hf
      simp only [Prod.mk.injEq, DataW.lit.injEq, Lit.string.injEq] at hx2
      have h1 : cs[i]? = some (.string str) := by
        have := congrArg (·[0]?) hc
        simpa [List.getElem?_take, List.getElem?_drop] using this
      rw [h1, hx2.1]
    · cases h
def kindB : List (List UInt8) := [[102, 105, 120, 101, 100], [116, 117, 114, 110, 120], [116, 117, 114, 110, 121], [116, 117, 114, 110, 122], [115, 108, 105, 100, 101, 120], [115, 108, 105, 100, 101, 121], [115, 108, 105, 100, 101, 122]]
theorem heap_of_var {P : Program} {W : World} {name : String} {g : Nat} {cs : Array Value} (hg : P.globalNamed name = some g) (h : W.var? P name = some cs) : g < W.heap.size ∧ ∃ t fr, W.heap[g]? = some (.cells cs t fr) := by
  unfold World.var? at h
  rw [hg, Option.bind_some] at h
  split at h
  · rename_i c t fr hh
    injection h with h; subst h
    exact ⟨(Array.getElem?_eq_some_iff.1 hh).1, t, fr, hh⟩
  · cases h
theorem gPowT : (Tryd.prog.globals[1]?).map (·.type) = some Y.a20_uint64 := by kernel_rfl
theorem uPow : Tryd.prog.underlying Y.a20_uint64 = some (.array 20 Y.uint64) := by kernel_rfl
theorem uU64 : Tryd.prog.underlying Y.uint64 = some (.int .u64) := by kernel_rfl
theorem cPow : Tryd.prog.cellsOf Y.a20_uint64 = 20 := by kernel_rfl
theorem cU64 : Tryd.prog.cellsOf Y.uint64 = 1 := by kernel_rfl
theorem laidPow : (Rows.laid_internal_strconv_uint64pow10 : DataW Unit) = Lib.tabData .u64 Lib.pow10Tab := by kernel_rfl
theorem globs {W : World} (h : laidMet Tryd.prog Rows.robotRoundTripRow.laid W) : ∀ g ss, lkv GLV g = some ss → g < W.heap.size ∧ ∃ t fr, W.heap[g]? = some (.cells ss.toArray t fr) := by
  have h2 := laidMet.tail (laidMet.tail h)
  have h5 := laidMet.tail (laidMet.tail h2)
  rw [laidPow] at h2
  have h3 := Lib.tabIs_of_head gPow gPowT uPow uU64 cU64 cPow h2
  obtain ⟨ps, ⟨g', t', cs, fuel, p, q, hg', ht', hvar, hd, _, _⟩, _⟩ := h5
  obtain rfl := Option.some.inj (gTab.symm.trans hg')
  obtain rfl := Option.some.inj (gTabType.symm.trans ht')
  obtain ⟨hl, hc⟩ := cells_of_texts (ss := kindB) uTab uStr cStr cTab hd
  intro g ss hg
  have hg0 : (g = 0 ∧ ss = kindB.map fun b => .string ⟨b.toArray⟩) ∨ (g = 1 ∧ ss = Lib.pow10Tab.map fun z => Value.int .u64 z) := by
    rw [GLV, lkv] at hg
    cases hb : Nat.beq 0 g with
    | true =>
      rw [hb] at hg
      exact .inl ⟨(Nat.eq_of_beq_eq_true hb).symm, (Option.some.inj hg).symm⟩
    | false =>
      rw [hb] at hg
      right
      rw [lkv] at hg
      cases hb1 : Nat.beq 1 g with
      | true =>
        rw [hb1] at hg
        exact ⟨(Nat.eq_of_beq_eq_true hb1).symm, (Option.some.inj hg).symm.trans (by kernel_rfl)⟩
      | false => rw [hb1] at hg; cases hg
  rcases hg0 with ⟨rfl, rfl⟩ | ⟨rfl, rfl⟩
  · have e : cs = (kindB.map fun b => (.string ⟨b.toArray⟩ : Value)).toArray := by
      apply Array.ext'
      apply List.ext_getElem?
      intro i
      rw [List.getElem?_map]
      cases hb : kindB[i]? with
      | some b => exact hc i b hb
      | none =>
        rw [List.getElem?_eq_none_iff] at hb
        exact List.getElem?_eq_none_iff.2 (by rw [hl]; exact hb)
    rw [← e]
    exact heap_of_var gTab hvar
  · exact heap_of_var gPow h3
/-- a world for the witness: the settled one, each listed variable holding what its initialiser lays -/
noncomputable def laidWorld (os : Os) : World :=
  { World.holding Tryd.prog os ⟨#[], #[], []⟩ with heap := ((World.holding Tryd.prog os ⟨#[], #[], []⟩).heap
  |>.modify 3 (fun
      | .cells _ t frozen => .cells #[.int .u8 0, .int .u8 1, .int .u8 28, .int .u8 2, .int .u8 29, .int .u8 14, .int .u8 24, .int .u8 3, .int .u8 30, .int .u8 22, .int .u8 20, .int .u8 15, .int .u8 25, .int .u8 17, .int .u8 4, .int .u8 8, .int .u8 31, .int .u8 27, .int .u8 13, .int .u8 23, .int .u8 21, .int .u8 19, .int .u8 16, .int .u8 7, .int .u8 26, .int .u8 12, .int .u8 18, .int .u8 6, .int .u8 11, .int .u8 5, .int .u8 10, .int .u8 9] t frozen
      | o => o)
  |>.modify 4 (fun
      | .cells _ t frozen => .cells #[.int .u8 0, .int .u8 1, .int .u8 56, .int .u8 2, .int .u8 57, .int .u8 49, .int .u8 28, .int .u8 3, .int .u8 61, .int .u8 58, .int .u8 42, .int .u8 50, .int .u8 38, .int .u8 29, .int .u8 17, .int .u8 4, .int .u8 62, .int .u8 47, .int .u8 59, .int .u8 36, .int .u8 45, .int .u8 43, .int .u8 51, .int .u8 22, .int .u8 53, .int .u8 39, .int .u8 33, .int .u8 30, .int .u8 24, .int .u8 18, .int .u8 12, .int .u8 5, .int .u8 63, .int .u8 55, .int .u8 48, .int .u8 27, .int .u8 60, .int .u8 41, .int .u8 37, .int .u8 16, .int .u8 46, .int .u8 35, .int .u8 44, .int .u8 21, .int .u8 52, .int .u8 32, .int .u8 23, .int .u8 11, .int .u8 54, .int .u8 26, .int .u8 40, .int .u8 15, .int .u8 34, .int .u8 20, .int .u8 31, .int .u8 10, .int .u8 25, .int .u8 14, .int .u8 19, .int .u8 9, .int .u8 13, .int .u8 8, .int .u8 7, .int .u8 6] t frozen
      | o => o)
  |>.modify 1 (fun
      | .cells _ t frozen => .cells #[.int .u64 1, .int .u64 10, .int .u64 100, .int .u64 1000, .int .u64 10000, .int .u64 100000, .int .u64 1000000, .int .u64 10000000, .int .u64 100000000, .int .u64 1000000000, .int .u64 10000000000, .int .u64 100000000000, .int .u64 1000000000000, .int .u64 10000000000000, .int .u64 100000000000000, .int .u64 1000000000000000, .int .u64 10000000000000000, .int .u64 100000000000000000, .int .u64 1000000000000000000, .int .u64 10000000000000000000] t frozen
      | o => o)
  |>.modify 6 (fun
      | .cells _ t frozen => .cells #[.int .u8 128, .int .u8 191, .int .u8 160, .int .u8 191, .int .u8 128, .int .u8 159, .int .u8 144, .int .u8 191, .int .u8 128, .int .u8 143, .int .u8 0, .int .u8 0, .int .u8 0, .int .u8 0, .int .u8 0, .int .u8 0, .int .u8 0, .int .u8 0, .int .u8 0, .int .u8 0, .int .u8 0, .int .u8 0, .int .u8 0, .int .u8 0, .int .u8 0, .int .u8 0, .int .u8 0, .int .u8 0, .int .u8 0, .int .u8 0, .int .u8 0, .int .u8 0] t frozen
      | o => o)
  |>.modify 0 (fun
      | .cells _ t frozen => .cells #[.string ⟨#[102, 105, 120, 101, 100]⟩, .string ⟨#[116, 117, 114, 110, 120]⟩, .string ⟨#[116, 117, 114, 110, 121]⟩, .string ⟨#[116, 117, 114, 110, 122]⟩, .string ⟨#[115, 108, 105, 100, 101, 120]⟩, .string ⟨#[115, 108, 105, 100, 101, 121]⟩, .string ⟨#[115, 108, 105, 100, 101, 122]⟩] t frozen
      | o => o)
  |>.modify 5 (fun
      | .cells _ t frozen => .cells (Go.Pinned.utf8FirstZ.map fun n => Value.int .u8 (n : Nat)).toArray t frozen
      | o => o)) }

end Go.Proofs.YtlfclainmbafiaaDoor
