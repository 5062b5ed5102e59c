import Derived.Test.YtafglmjadbplcaaDoorM1
/- law8: a written robot is read again. No program in sight. -/
namespace Go.Proofs.YtafglmjadbplcaaDoor
open Eng
set_option maxRecDepth 10000

theorem find_take (nm : ByteArray) : ∀ (js : List Joint) (m b : Nat), find (js.take m) nm b = if 0 ≤ find js nm b ∧ find js nm b < b + m then find js nm b else -1
  | [], m, b => by
    rw [List.take_nil, find, if_neg (by omega)]
  | j :: js, 0, b => by
    have := find_bd (j :: js) nm b
    rw [List.take_zero, if_neg (by omega)]; rfl
  | j :: js, m + 1, b => by
    rw [List.take_succ_cons, find, find]
    split
    · rw [if_pos (by omega)]
    · rw [find_take nm js m (b + 1)]
      have e : ((b + 1 : Nat) : Int) + m = b + (m + 1 : Nat) := by omega
      rw [e]
theorem find_app (nm : ByteArray) : ∀ (a b : List Joint) (n : Nat), find (a ++ b) nm n = if 0 ≤ find a nm n then find a nm n else find b nm (n + a.length)
  | [], b, n => by
    rw [List.nil_append, find, if_neg (by decide)]; rfl
  | j :: a, b, n => by
    rw [List.cons_append, find, find]
    split
    · rw [if_pos (by omega)]
    · rw [find_app nm a b (n + 1), List.length_cons, show n + 1 + a.length = n + (a.length + 1) by omega]
theorem modJ_last (f : Joint → Joint) (x : Joint) : ∀ a : List Joint, modJ (a ++ [x]) a.length f = a ++ [f x]
  | [] => rfl
  | j :: a => by
    rw [List.cons_append, List.length_cons, modJ, modJ_last f x a]; rfl
theorem int_dec {w : Nat} (h : w < 1000000000000000) : intOf (decT w 1) = ((w : Int), true) := by
  obtain ⟨b1, b2, b3, b4⟩ := dl20 (n := w) (k := 1) (by omega) (by omega)
  have hj : dl 20 w 1 ≤ 15 := by
    rcases Nat.lt_or_ge 15 (dl 20 w 1) with h' | h'
    · exact absurd ⟨Nat.div_eq_of_lt (by show w < 1000000000000000; exact h), by decide⟩ (b4 15 h')
    · exact h'
  rw [show decT w 1 = decB (dl 20 w 1) w from rfl]
  generalize dl 20 w 1 = j at *
  have hh : headB (decB j w) 45 = false := by
    simp only [headB, Bool.and_eq_false_iff, decide_eq_false_iff_not]
    right
    show ¬ byteAt (decB j w) 0 = 45
    rw [decB_byte _ j 0 (by omega)]
    omega
  have hd : digOk (decB j w) 15 = true := digOk_mk (by rw [decB_size]; omega) (by rw [decB_size]; omega) (by rw [decB_size]; exact decB_dig j w)
  have hv : digV (decB j w) 15 = (w : Int) := by
    rw [digV, hd, if_pos rfl, decB_size, decB_val j w j (Nat.le_refl _), Nat.sub_self, Nat.pow_zero, Nat.div_one, Nat.mod_eq_of_lt (lt_of_div b1)]
  rw [intOf, tailB, hh, if_neg (by simp), if_neg (by simp), hd, hv]
theorem kind_name {k : Int} (h0 : 0 ≤ k) (h6 : k ≤ 6) : kindI (kindN k) = k := by
  obtain ⟨n, rfl⟩ : ∃ n : Nat, k = n := ⟨k.toNat, by omega⟩
  have : ∀ n : Nat, n < 7 → kindI (kindN n) = (n : Int) := by decide
  exact this n (by omega)
theorem clamp_in {x m : Int} (hm : m ≤ 2147483648) (h : -m ≤ x ∧ x ≤ m) : clampI x = x := by unfold clampI; omega
structure JF (js : List Joint) (k : Nat) (j : Joint) : Prop where
  name : nameOk j.name = true
  find : find js j.name 0 = k
  kind : 0 ≤ j.kind ∧ j.kind ≤ 6
  par : -1 ≤ j.parent ∧ j.parent < k
  off : clampI j.off.x = j.off.x ∧ clampI j.off.y = j.off.y ∧ clampI j.off.z = j.off.z
  lim : clampI j.lo = j.lo ∧ clampI j.hi = j.hi
  lims : (1 ≤ j.weight ∧ j.weight ≤ 1024) ∧ (1 ≤ j.speed ∧ j.speed ≤ 1048576) ∧ (1 ≤ j.accel ∧ j.accel ≤ 1048576) ∧ (1 ≤ j.torque ∧ j.torque ≤ 1099511627776)
theorem inV_in {v : Vec} (h : inV v 4194304 = true) : clampI v.x = v.x ∧ clampI v.y = v.y ∧ clampI v.z = v.z := by
  simp only [inV, Bool.and_eq_true, decide_eq_true_eq] at h
  unfold clampI; omega
theorem reach_le (k : Int) : reach k ≤ 4194304 := by
  unfold reach
  repeat' split
  all_goals decide
theorem jf_of {js : List Joint} {k : Nat} {j : Joint} (h : jointErr js k j = 0) : JF js k j := by
  unfold jointErr at h
  split at h
  · exact absurd h (by decide)
  rename_i c1
  split at h
  · exact absurd h (by decide)
  rename_i c2
  split at h
  · exact absurd h (by decide)
  rename_i c3
  split at h
  · exact absurd h (by decide)
  rename_i c4
  split at h
  · exact absurd h (by decide)
  rename_i c5
  split at h
  · exact absurd h (by decide)
  rename_i c6
  have c4 : inV j.off 4194304 = true := by simpa using c4
  have hr := reach_le j.kind
  have c6 : from1 j.weight 1024 = true ∧ from1 j.speed 1048576 = true ∧ from1 j.accel 1048576 = true ∧ from1 j.torque 1099511627776 = true := by simpa using c6
  obtain ⟨w1, w2, w3, w4⟩ := c6
  exact ⟨by cases hn : nameOk j.name with
    | true => rfl
    | false => exact absurd (.inl hn) c1, Classical.byContradiction fun hn => c1 (.inr hn), by omega, by omega, inV_in c4, by unfold clampI; omega, from1_bd w1, from1_bd w2, from1_bd w3, from1_bd w4⟩
theorem link_read {js : List Joint} {k : Nat} {p : Int} (hf : ∀ (i : Nat) j, js[i]? = some j → JF js i j) (h1 : -1 ≤ p) (h2 : p < k) (hk : k ≤ js.length) :
    (p = -1 ∧ linkN js p = worldT) ∨ (linkN js p ≠ worldT ∧ find (js.take k) (linkN js p) 0 = p) := by
  rcases Int.lt_or_le p 0 with h | h
  · have : p = -1 := by omega
    subst this
    exact .inl ⟨rfl, by rw [linkN, if_pos rfl]⟩
  · right
    obtain ⟨i, rfl⟩ : ∃ i : Nat, p = i := ⟨p.toNat, by omega⟩
    obtain ⟨j, hj⟩ : ∃ j, js[i]? = some j := ⟨_, List.getElem?_eq_getElem (by omega)⟩
    have F := hf i j hj
    have e : linkN js (i : Int) = j.name := by
      rw [linkN, if_neg (by omega), Int.toNat_natCast, hj]
    rw [e]
    refine ⟨fun hw => ?_, ?_⟩
    · have := F.name
      rw [hw] at this
      revert this; decide
    · rw [find_take, F.find, if_pos (by omega)]
def base (j : Joint) : Joint := { j with speed := 65536, accel := 65536, torque := 65536 }
theorem step_joint {js : List Joint} (hf : ∀ (i : Nat) j, js[i]? = some j → JF js i j) {k : Nat} {j : Joint} (hk : js[k]? = some j) (ms : List Mass) (ln : Int) :
    readSt ⟨js.take k, ms⟩ ⟨ln, (jB js j)[0]!.1, (jB js j)[0]!.2⟩ = (0, ⟨js.take k ++ [base j], ms⟩) := by
  have F := hf k j hk
  have hkl : k < js.length := (List.getElem?_eq_some_iff.1 hk).1
  have hnf : find (js.take k) j.name 0 = -1 := by rw [find_take, F.find, if_neg (by omega)]
  obtain ⟨w1, w2, w3, w4⟩ := F.lims
  obtain ⟨o1, o2, o3⟩ := F.off
  obtain ⟨l1, l2⟩ := F.lim
  have hw : intOf (decT j.weight.toNat 1) = (j.weight, true) := by rw [int_dec (by omega)]; congr 1; omega
  show readSt ⟨js.take k, ms⟩ ⟨ln, wJoint, [j.name, kindN j.kind, linkN js j.parent, fmtT j.off.x, fmtT j.off.y, fmtT j.off.z, fmtT j.lo, fmtT j.hi, decT j.weight.toNat 1]⟩ = _
  rw [readSt, if_pos rfl, if_neg (by show ¬ argsB wJoint 9 = false; decide)]
  have hp : ¬ (linkN js j.parent ≠ worldT ∧ find (js.take k) (linkN js j.parent) 0 < 0) ∧ (if linkN js j.parent = worldT then -1 else find (js.take k) (linkN js j.parent) 0) = j.parent := by
    rcases link_read hf F.par.1 F.par.2 (by omega) with ⟨h1, h2⟩ | ⟨h1, h2⟩
    · rw [h2]; exact ⟨fun h => h.1 rfl, by rw [if_pos rfl, h1]⟩
    · rw [h2]
      refine ⟨fun h => ?_, by rw [if_neg h1]⟩
      have hp0 : 0 ≤ j.parent := by
        rcases Int.lt_or_le j.parent 0 with h' | h'
        · have : j.parent = -1 := by have := F.par.1; omega
          exact absurd (by rw [this, linkN, if_pos rfl]) h1
        · exact h'
      omega
  have hr : readJ (js.take k) [j.name, kindN j.kind, linkN js j.parent, fmtT j.off.x, fmtT j.off.y, fmtT j.off.z, fmtT j.lo, fmtT j.hi, decT j.weight.toNat 1] = (0, js.take k ++ [base j]) := by
    rw [readJ, if_neg (by rw [hnf, F.name]; simp), kind_name F.kind.1 F.kind.2, if_neg (by have := F.kind.1; omega), if_neg hp.1, if_neg (by simp [num_fmt, hw]), hp.2]
    simp only [num_fmt, hw, o1, o2, o3, l1, l2]
    rfl
  rw [hr]
theorem step_limit {js : List Joint} (hf : ∀ (i : Nat) j, js[i]? = some j → JF js i j) {k : Nat} {j : Joint} (hk : js[k]? = some j) (ms : List Mass) (ln : Int) :
    readSt ⟨js.take k ++ [base j], ms⟩ ⟨ln, (jB js j)[1]!.1, (jB js j)[1]!.2⟩ = (0, ⟨js.take (k + 1), ms⟩) := by
  have F := hf k j hk
  have hkl : k < js.length := (List.getElem?_eq_some_iff.1 hk).1
  have hl : (js.take k).length = k := by rw [List.length_take]; omega
  have hnf : find (js.take k ++ [base j]) j.name 0 = k := by
    rw [find_app, find_take, F.find, if_neg (by omega), hl, find, if_pos (show (base j).name = j.name from rfl)]; simp
  obtain ⟨w1, w2, w3, w4⟩ := F.lims
  have h2 : intOf (decT j.speed.toNat 1) = (j.speed, true) := by rw [int_dec (by omega)]; congr 1; omega
  have h3 : intOf (decT j.accel.toNat 1) = (j.accel, true) := by rw [int_dec (by omega)]; congr 1; omega
  have h4 : intOf (decT j.torque.toNat 1) = (j.torque, true) := by rw [int_dec (by omega)]; congr 1; omega
  show readSt ⟨js.take k ++ [base j], ms⟩ ⟨ln, wLimit, [j.name, decT j.speed.toNat 1, decT j.accel.toNat 1, decT j.torque.toNat 1]⟩ = _
  rw [readSt, if_neg (by show ¬ wLimit = wJoint; decide), if_pos rfl, if_neg (by show ¬ argsB wLimit 4 = false; decide)]
  have hr : readL (js.take k ++ [base j]) [j.name, decT j.speed.toNat 1, decT j.accel.toNat 1, decT j.torque.toNat 1] = (0, js.take (k + 1)) := by
    rw [readL, hnf, if_neg (by omega), if_neg (by simp [h2, h3, h4]), Int.toNat_natCast]
    have e : modJ (js.take k ++ [base j]) k (limF (decT j.speed.toNat 1) (decT j.accel.toNat 1) (decT j.torque.toNat 1)) = js.take k ++ [limF (decT j.speed.toNat 1) (decT j.accel.toNat 1) (decT j.torque.toNat 1) (base j)] := by
      have := modJ_last (limF (decT j.speed.toNat 1) (decT j.accel.toNat 1) (decT j.torque.toNat 1)) (base j) (js.take k)
      rw [hl] at this; exact this
    rw [e, List.take_add_one, hk]
    have e2 : limF (decT j.speed.toNat 1) (decT j.accel.toNat 1) (decT j.torque.toNat 1) (base j) = j := by
      simp only [limF, base, h2, h3, h4]
    rw [e2]; rfl
  rw [hr]
theorem step_mass {js : List Joint} (hf : ∀ (i : Nat) j, js[i]? = some j → JF js i j) {m : Mass} (hm : massOk js.length m = true) (ms : List Mass) (ln : Int) :
    readSt ⟨js, ms⟩ ⟨ln, (mB js m).1, (mB js m).2⟩ = (0, ⟨js, ms ++ [m]⟩) := by
  simp only [massOk, Bool.and_eq_true, decide_eq_true_eq] at hm
  obtain ⟨⟨⟨m1, m2⟩, m3⟩, m4⟩ := hm
  have m3 := from1_bd m3
  obtain ⟨o1, o2, o3⟩ := inV_in m4
  have o4 : clampI m.mass = m.mass := by unfold clampI; omega
  have hl := link_read hf (k := js.length) (p := m.link) (by omega) m2 (Nat.le_refl _)
  rw [List.take_length] at hl
  have hn : find js (linkN js m.link) 0 = m.link := by
    rcases hl with ⟨h, _⟩ | ⟨_, h⟩
    · omega
    · exact h
  show readSt ⟨js, ms⟩ ⟨ln, wMass, [linkN js m.link, fmtT m.mass, fmtT m.point.x, fmtT m.point.y, fmtT m.point.z]⟩ = _
  rw [readSt, if_neg (by show ¬ wMass = wJoint; decide), if_neg (by show ¬ wMass = wLimit; decide), if_pos rfl, if_neg (by show ¬ argsB wMass 5 = false; decide)]
  have hr : readM js ms [linkN js m.link, fmtT m.mass, fmtT m.point.x, fmtT m.point.y, fmtT m.point.z] = (0, ms ++ [m]) := by
    rw [readM, hn, if_neg (by omega), if_neg (by simp [num_fmt])]
    simp only [num_fmt, o1, o2, o3, o4]
  rw [hr]
theorem read_joints {js : List Joint} (hf : ∀ (i : Nat) j, js[i]? = some j → JF js i j) (l : List (ByteArray × List ByteArray)) : ∀ d k n, k + d = js.length → ∃ n', readAll ⟨js.take k, []⟩ (numb n ((js.drop k).flatMap (jB js) ++ l)) = readAll ⟨js, []⟩ (numb n' l)
  | 0, k, n, h => ⟨n, by
    have : k = js.length := by omega
    subst this
    rw [List.drop_length, List.take_length]; rfl⟩
  | d + 1, k, n, h => by
    obtain ⟨j, hj⟩ : ∃ j, js[k]? = some j := ⟨_, List.getElem?_eq_getElem (by omega)⟩
    obtain ⟨n', ih⟩ := read_joints hf l d (k + 1) (n + 1 + 1) (by omega)
    refine ⟨n', ?_⟩
    rw [drop_cons hj, List.flatMap_cons, List.append_assoc]
    have e1 := step_joint hf hj [] ((n : Int) + 1)
    have e2 := step_limit hf hj [] (((n + 1 : Nat) : Int) + 1)
    show readAll ⟨js.take k, []⟩ (⟨(n : Int) + 1, (jB js j)[0]!.1, (jB js j)[0]!.2⟩ :: ⟨((n + 1 : Nat) : Int) + 1, (jB js j)[1]!.1, (jB js j)[1]!.2⟩ :: numb (n + 1 + 1) ((js.drop (k + 1)).flatMap (jB js) ++ l)) = _
    rw [readAll, e1]
    simp only [if_true]
    rw [readAll, e2]
    simp only [if_true]
    exact ih
theorem read_masses {js : List Joint} (hf : ∀ (i : Nat) j, js[i]? = some j → JF js i j) : ∀ (l2 l1 : List Mass) (n : Nat), (∀ m ∈ l2, massOk js.length m = true) → readAll ⟨js, l1⟩ (numb n (l2.map (mB js))) = (⟨js, l1 ++ l2⟩, 0, 0)
  | [], l1, n, _ => by rw [List.append_nil]; rfl
  | m :: l2, l1, n, h => by
    have e1 := step_mass hf (h m (by simp)) l1 ((n : Int) + 1)
    show readAll ⟨js, l1⟩ (⟨(n : Int) + 1, (mB js m).1, (mB js m).2⟩ :: numb (n + 1) (l2.map (mB js))) = _
    rw [readAll, e1]
    simp only [if_true]
    rw [read_masses hf l2 (l1 ++ [m]) (n + 1) fun x hx => h x (by simp [hx]), List.append_assoc]; rfl
theorem jointsErr_at {js : List Joint} : ∀ {l : List Joint} {i : Nat}, jointsErr js i l = 0 → ∀ (k : Nat) (j : Joint), l[k]? = some j → jointErr js (i + k) j = 0
  | [], _, _, k, j, hj => by simp at hj
  | x :: l, i, h, k, j, hj => by
    rw [jointsErr] at h
    split at h
    · rename_i h0
      cases k with
      | zero => simp at hj; subst hj; exact h0
      | succ k =>
        have := jointsErr_at h k j (by simpa using hj)
        rw [← this]; congr 1; omega
    · rename_i h0; exact absurd h h0
/-- what is written is read again -/
theorem read_write {r : Robot} (h : checkRobot r = 0) : readRobot (writeRobot r) = (r, 0, 0) := by
  have h' := h
  unfold checkRobot at h'
  split at h'
  · contradiction
  split at h'
  · contradiction
  rename_i c1 c2
  have c2 : jointsErr r.joints 0 r.joints = 0 := Classical.byContradiction c2
  have hf : ∀ (i : Nat) j, r.joints[i]? = some j → JF r.joints i j := fun i j hj => jf_of (by simpa using jointsErr_at c2 i j hj)
  obtain ⟨_, _, _, f4⟩ := robot_facts h
  obtain ⟨n', hn⟩ := read_joints hf (r.masses.map (mB r.joints)) r.joints.length 0 0 (by omega)
  rw [List.drop_zero, List.take_zero, read_masses hf r.masses [] n' f4, List.nil_append] at hn
  have hn : readAll emptyR (writeRobot r) = (r, 0, 0) := by rw [writeRobot, if_pos h, robB]; exact hn
  rw [readRobot, hn, if_neg (by simp), if_neg (by simp [h])]
end Go.Proofs.YtafglmjadbplcaaDoor

/- Carriers; what valid robots are. No program in sight. -/
namespace Go.Proofs.YtafglmjadbplcaaDoor
open Eng
set_option maxRecDepth 10000

def carStep (acc : List Int) (j : Joint) : List Int := acc ++ [if j.lo = j.hi then acc.getD (j.parent + 1).toNat 0 else (acc.length : Int) - 1]
/-- who carries each link: the world's -1 first -/
def carriers (js : List Joint) : List Int := js.foldl carStep [-1]
theorem car_len (js : List Joint) : (carriers js).length = js.length + 1 := by
  have h : ∀ (js : List Joint) (acc : List Int), (js.foldl carStep acc).length = acc.length + js.length := by
    intro js
    induction js with
    | nil => intro acc; simp
    | cons j js ih => intro acc; rw [List.foldl_cons, ih]; simp [carStep]; omega
  rw [carriers, h]; simp; omega
theorem car_take {js : List Joint} {k : Nat} {j : Joint} (h : js[k]? = some j) : carriers (js.take (k + 1)) = carStep (carriers (js.take k)) j := by
  rw [List.take_add_one, h, carriers, List.foldl_append]; rfl
def downOk (js : List Joint) : Prop := ∀ (k : Nat) (j : Joint), js[k]? = some j → -1 ≤ j.parent ∧ j.parent < (k : Int)
theorem row_set {c rest : List Int} {v w : Int} {k : Nat} (h : c.length = k) : ((c ++ v :: rest).map encI).set k (encI w) = (c ++ w :: rest).map encI := by
  rw [← List.map_set]; subst h; simp
theorem jerr_at {js : List Joint} : ∀ {l : List Joint} {i k : Nat} {j : Joint}, jointsErr js i l = 0 → l[k]? = some j → jointErr js (i + k) j = 0
  | [], _, _, _, _, h => by simp at h
  | x :: l, i, 0, j, h, hj => by
    simp at hj; subst hj
    rw [jointsErr] at h
    split at h
    · assumption
    · contradiction
  | x :: l, i, k + 1, j, h, hj => by
    rw [jointsErr] at h
    split at h
    · have := jerr_at (i := i + 1) (k := k) h (by simpa using hj)
      rw [← this]; congr 1; omega
    · contradiction
theorem robot_good {r : Robot} (h : checkRobot r = 0) : r.joints.length ≤ 10 ∧ 0 < r.joints.length ∧ downOk r.joints := by
  unfold checkRobot at h
  split at h
  · contradiction
  rename_i h1
  split at h
  · contradiction
  rename_i h2
  simp only [ne_eq, Decidable.not_not] at h2
  refine ⟨by omega, by omega, fun k j hj => ?_⟩
  have := jerr_at h2 hj
  rw [Nat.zero_add] at this
  unfold jointErr at this
  (repeat' split at this) <;> first | contradiction | omega
end Go.Proofs.YtafglmjadbplcaaDoor

/- Robots: the chains of joints, and which links carry which. No program in sight. -/
namespace Go.Proofs.YtafglmjadbplcaaDoor
open Eng
set_option maxRecDepth 10000

def chainN (js : List Joint) : Nat → Int → List Int
  | 0, _ => []
  | f + 1, k => if k < 0 then [] else match js[k.toNat]? with
    | none => []
    | some j => chainN js f j.parent ++ [k]
/-- the joints from the world to a link -/
def chain (js : List Joint) (k : Int) : List Int := chainN js (k + 1).toNat k
theorem chainN_neg (js : List Joint) {f : Nat} {k : Int} (h : k < 0) : chainN js f k = [] := by
  cases f with
  | zero => rfl
  | succ f => rw [chainN, if_pos h]
theorem chainN_fuel {js : List Joint} (hd : downOk js) : ∀ (f g : Nat) (k : Int), (k + 1).toNat ≤ f → (k + 1).toNat ≤ g → chainN js f k = chainN js g k
  | 0, g, k, h1, _ => by rw [chainN_neg js (by omega), chainN_neg js (by omega)]
  | f + 1, 0, k, _, h2 => by rw [chainN_neg js (by omega), chainN_neg js (by omega)]
  | f + 1, g + 1, k, h1, h2 => by
    rw [chainN, chainN]
    split
    · rfl
    · cases hj : js[k.toNat]? with
      | none => rfl
      | some j =>
        have := hd _ j hj
        simp only
        rw [chainN_fuel hd f g j.parent (by omega) (by omega)]
theorem chain_neg (js : List Joint) {k : Int} (h : k < 0) : chain js k = [] := chainN_neg js h
theorem chain_step {js : List Joint} (hd : downOk js) {k : Nat} {j : Joint} (hj : js[k]? = some j) : chain js k = chain js j.parent ++ [(k : Int)] := by
  have := hd k j hj
  rw [chain, show ((k : Int) + 1).toNat = k + 1 by omega, chainN, if_neg (by omega), Int.toNat_natCast, hj]
  simp only
  rw [chain, chainN_fuel hd k (j.parent + 1).toNat j.parent (by omega) (Nat.le_refl _)]
theorem link_ind {js : List Joint} (hd : downOk js) {C : Int → Prop} (h0 : C (-1)) (hs : ∀ (k : Nat) (j : Joint), js[k]? = some j → C j.parent → C k) : ∀ (k : Int), -1 ≤ k → k < js.length → C k := by
  have : ∀ (n : Nat) (k : Int), (k + 1).toNat ≤ n → -1 ≤ k → k < js.length → C k := by
    intro n
    induction n with
    | zero =>
      intro k h1 h2 _
      have : k = -1 := by omega
      subst this; exact h0
    | succ n ih =>
      intro k h1 h2 h3
      by_cases hk : k = -1
      · subst hk; exact h0
      · obtain ⟨m, rfl⟩ : ∃ m : Nat, k = m := ⟨k.toNat, by omega⟩
        obtain ⟨j, hj⟩ : ∃ j, js[m]? = some j := ⟨_, List.getElem?_eq_getElem (by omega)⟩
        have := hd m j hj
        exact hs m j hj (ih j.parent (by omega) (by omega) (by omega))
  intro k h1 h2
  exact this _ k (Nat.le_refl _) h1 h2
theorem chain_in {js : List Joint} (hd : downOk js) : ∀ (k : Int), -1 ≤ k → k < js.length → (∀ x ∈ chain js k, 0 ≤ x ∧ x ≤ k) ∧ (chain js k).Nodup ∧ (chain js k).length ≤ (k + 1).toNat := by
  refine link_ind hd ?_ ?_
  · rw [chain_neg js (by omega)]; simp
  · intro k j hj ⟨h1, h2, h3⟩
    have hp := hd k j hj
    rw [chain_step hd hj]
    refine ⟨fun x hx => ?_, ?_, ?_⟩
    · rcases List.mem_append.1 hx with hx | hx
      · have := h1 x hx; omega
      · simp only [List.mem_singleton] at hx; omega
    · rw [List.nodup_append]
      refine ⟨h2, by simp, fun x hx y hy => ?_⟩
      simp only [List.mem_singleton] at hy
      have := h1 x hx
      omega
    · rw [List.length_append]; simp; omega

/- carriers -/
def car (js : List Joint) (k : Int) : Int := (carriers js).getD (k + 1).toNat 0
theorem car_prefix (js : List Joint) (acc : List Int) : ∃ rest, js.foldl carStep acc = acc ++ rest := by
  induction js generalizing acc with
  | nil => exact ⟨[], by simp⟩
  | cons j js ih =>
    obtain ⟨rest, h⟩ := ih (carStep acc j)
    exact ⟨_, by rw [List.foldl_cons, h, carStep, List.append_assoc]⟩
theorem car_split (js : List Joint) (k : Nat) : ∃ rest, carriers js = carriers (js.take k) ++ rest := by
  obtain ⟨rest, h⟩ := car_prefix (js.drop k) (carriers (js.take k))
  refine ⟨rest, ?_⟩
  rw [← h, carriers, carriers, ← List.foldl_append, List.take_append_drop]
theorem car_world (js : List Joint) : car js (-1) = -1 := by
  obtain ⟨rest, h⟩ := car_split js 0
  rw [car, h]
  simp [carriers]
theorem car_step {js : List Joint} (hd : downOk js) {k : Nat} {j : Joint} (hj : js[k]? = some j) : car js k = if j.lo = j.hi then car js j.parent else k := by
  have hp := hd k j hj
  have hk : k < js.length := (List.getElem?_eq_some_iff.1 hj).1
  obtain ⟨r1, h1⟩ := car_split js (k + 1)
  have h2 := car_take hj
  have hl : (carriers (js.take k)).length = k + 1 := by rw [car_len, List.length_take]; omega
  rw [carStep, hl] at h2
  rw [h2] at h1
  have ha : (carriers js)[(k : Int).toNat + 1]? = some (if j.lo = j.hi then (carriers (js.take k)).getD (j.parent + 1).toNat 0 else ((k + 1 : Nat) : Int) - 1) := by
    rw [h1, List.append_assoc, List.getElem?_append_right (by omega)]
    simp [hl]
  have hb : (carriers js)[(j.parent + 1).toNat]? = (carriers (js.take k))[(j.parent + 1).toNat]? := by
    rw [h1, List.append_assoc, List.getElem?_append_left (by omega)]
  have hc : car js j.parent = (carriers (js.take k)).getD (j.parent + 1).toNat 0 := by
    rw [car, List.getD_eq_getElem?_getD, hb, List.getD_eq_getElem?_getD]
  rw [hc, car, List.getD_eq_getElem?_getD, show ((k : Int) + 1).toNat = (k : Int).toNat + 1 by omega, ha, Option.getD_some]
  split
  · rfl
  · omega
/-- the joint can move -/
def mov (js : List Joint) (x : Int) : Bool := match js[x.toNat]? with
  | some j => decide (j.lo ≠ j.hi)
  | none => false
theorem mov_at {js : List Joint} {k : Nat} {j : Joint} (hj : js[k]? = some j) : mov js k = decide (j.lo ≠ j.hi) := by
  rw [mov, Int.toNat_natCast, hj]
theorem car_chain {js : List Joint} (hd : downOk js) : ∀ (k : Int), -1 ≤ k → k < js.length →
    (∀ x, mov js x = true → (x ∈ chain js k ↔ x ∈ chain js (car js k))) ∧ (car js k = -1 ∨ (car js k ∈ chain js k ∧ mov js (car js k) = true)) ∧ (∀ x ∈ chain js k, mov js x = true → x ≤ car js k) := by
  refine link_ind hd ?_ ?_
  · rw [car_world]
    refine ⟨fun _ _ => Iff.rfl, .inl rfl, fun x hx => ?_⟩
    rw [chain_neg js (by omega)] at hx; cases hx
  · intro k j hj ⟨h1, h2, h3⟩
    rw [car_step hd hj]
    have hm := mov_at hj
    by_cases hs : j.lo = j.hi
    · rw [if_pos hs]
      have hm0 : mov js k = false := by rw [hm]; simp [hs]
      have hiff : ∀ x, mov js x = true → (x ∈ chain js k ↔ x ∈ chain js j.parent) := fun x hx => by
        rw [chain_step hd hj, List.mem_append, List.mem_singleton]
        constructor
        · rintro (h | h)
          · exact h
          · subst h; rw [hm0] at hx; cases hx
        · exact .inl
      refine ⟨fun x hx => (hiff x hx).trans (h1 x hx), ?_, fun x hx hmx => h3 x ((hiff x hmx).1 hx) hmx⟩
      rcases h2 with h2 | ⟨h2, h4⟩
      · exact .inl h2
      · exact .inr ⟨(hiff _ h4).2 h2, h4⟩
    · rw [if_neg hs]
      refine ⟨fun _ _ => Iff.rfl, .inr ⟨?_, by rw [hm]; simp [hs]⟩, fun x hx _ => ?_⟩
      · rw [chain_step hd hj]; simp
      · have hk : k < js.length := (List.getElem?_eq_some_iff.1 hj).1
        exact ((chain_in hd k (by omega) (by omega)).1 x hx).2
/-- the joints of exactly one of two chains -/
def btw (js : List Joint) (a b : Int) : List Nat := (List.range 10).filter fun i => decide ((chain js a).count (i : Int) + (chain js b).count (i : Int) = 1)
def rigid (js : List Joint) (a b : Int) : Bool := !(btw js a b).any fun i => mov js i
theorem count_in {l : List Int} (h : l.Nodup) (x : Int) : l.count x = if x ∈ l then 1 else 0 := by
  split
  · rename_i hx
    have h1 := List.nodup_iff_count.1 h x
    have h2 := List.count_pos_iff.2 hx
    omega
  · rename_i hx; exact List.count_eq_zero.2 hx
theorem rigid_iff {js : List Joint} (hl : js.length ≤ 10) (hd : downOk js) {a b : Int} (ha : -1 ≤ a) (ha' : a < js.length) (hb : -1 ≤ b) (hb' : b < js.length) : rigid js a b = decide (car js a = car js b) := by
  obtain ⟨a1, a2, _⟩ := chain_in hd a ha ha'
  obtain ⟨b1, b2, _⟩ := chain_in hd b hb hb'
  obtain ⟨a4, a5, a6⟩ := car_chain hd a ha ha'
  obtain ⟨b4, b5, b6⟩ := car_chain hd b hb hb'
  have key : rigid js a b = true ↔ ∀ x, mov js x = true → (x ∈ chain js a ↔ x ∈ chain js b) := by
    simp only [rigid, Bool.not_eq_true', List.any_eq_false, btw, List.mem_filter, List.mem_range, decide_eq_true_eq, and_imp]
    constructor
    · intro h x hx
      by_cases hxa : x ∈ chain js a
      · by_cases hxb : x ∈ chain js b
        · exact ⟨fun _ => hxb, fun _ => hxa⟩
        · have := a1 x hxa
          refine absurd hx ?_
          have := h x.toNat (by omega) (by rw [show ((x.toNat : Nat) : Int) = x by omega, count_in a2, count_in b2, if_pos hxa, if_neg hxb])
          rwa [show ((x.toNat : Nat) : Int) = x by omega] at this
      · by_cases hxb : x ∈ chain js b
        · have := b1 x hxb
          refine absurd hx ?_
          have := h x.toNat (by omega) (by rw [show ((x.toNat : Nat) : Int) = x by omega, count_in a2, count_in b2, if_neg hxa, if_pos hxb])
          rwa [show ((x.toNat : Nat) : Int) = x by omega] at this
        · exact ⟨fun h => absurd h hxa, fun h => absurd h hxb⟩
    · intro h i _ hc hm
      have := h i hm
      rw [count_in a2, count_in b2] at hc
      by_cases hxa : (i : Int) ∈ chain js a
      · rw [if_pos hxa, if_pos (this.1 hxa)] at hc; omega
      · rw [if_neg hxa, if_neg (fun h => hxa (this.2 h))] at hc; omega
  have key2 : (∀ x, mov js x = true → (x ∈ chain js a ↔ x ∈ chain js b)) ↔ car js a = car js b := by
    constructor
    · intro h
      rcases a5 with a5 | ⟨a5, a7⟩
      · rcases b5 with b5 | ⟨b5, b7⟩
        · rw [a5, b5]
        · have h1 := (h _ b7).2 b5
          have h2 := a6 _ h1 b7
          have h3 := a1 _ h1
          omega
      · have h1 := b6 _ ((h _ a7).1 a5) a7
        have h3 := a1 _ a5
        rcases b5 with b5 | ⟨b5, b7⟩
        · omega
        · have h2 := a6 _ ((h _ b7).2 b5) b7
          omega
    · intro h x hx
      rw [a4 x hx, b4 x hx, h]
  rw [Bool.eq_iff_iff, key, key2, decide_eq_true_eq]
end Go.Proofs.YtafglmjadbplcaaDoor

/- Robots: chains, the joints between two links, rigidity: the walks. -/
namespace Go.Proofs.YtafglmjadbplcaaDoor
open Eng
set_option maxRecDepth 10000
attribute [local irreducible] FnOk loopW idxF retX arrF

abbrev bIs (l : List Int) : Box := .rows 3 1 (l.map encI)
/-- the robot is valid and has the links -/
def hasB (r : Robot) (ks : List Int) : Bool := ks.all (linkOk r.joints.length) && decide (checkRobot r = 0)
/- the count of each joint in the chains -/
def cnt (l : List Int) (i : Nat) : Int := ((l.count (i : Int) : Nat) : Int)
theorem cnt_bd (l : List Int) (i : Nat) : 0 ≤ cnt l i ∧ cnt l i ≤ l.length := by
  have := List.count_le_length (a := (i : Int)) (l := l)
  unfold cnt; omega
abbrev arr10 (c : Nat → Int) : List CV := [.dv (.int .i64 (c 0)), .dv (.int .i64 (c 1)), .dv (.int .i64 (c 2)), .dv (.int .i64 (c 3)), .dv (.int .i64 (c 4)), .dv (.int .i64 (c 5)), .dv (.int .i64 (c 6)), .dv (.int .i64 (c 7)), .dv (.int .i64 (c 8)), .dv (.int .i64 (c 9))]
theorem lt10 {k : Nat} (h : k < 10) : k = 0 ∨ k = 1 ∨ k = 2 ∨ k = 3 ∨ k = 4 ∨ k = 5 ∨ k = 6 ∨ k = 7 ∨ k = 8 ∨ k = 9 := by omega
theorem cnt_snoc {l : List Int} {k i : Nat} (h : l[k]? = some (i : Int)) (j : Nat) : cnt (l.take (k + 1)) j = cnt (l.take k) j + if j = i then 1 else 0 := by
  unfold cnt
  rw [List.take_add_one, h, Option.toList_some, List.count_append, List.count_singleton]
  by_cases h : j = i
  · subst h; simp
  · have : ¬ (i : Int) = (j : Int) := by omega
    simp [h, this]
theorem cnt_app (l l' : List Int) (j : Nat) : cnt (l ++ l') j = cnt l j + cnt l' j := by unfold cnt; rw [List.count_append]; omega
theorem arr10_at (c : Nat → Int) {k : Nat} (h : k < 10) : (arr10 c)[k]? = some (.dv (.int .i64 (c k))) := by
  rcases lt10 h with rfl | rfl | rfl | rfl | rfl | rfl | rfl | rfl | rfl | rfl <;> rfl
/-- the first joint that can move -/
def movAt (js : List Joint) : List Nat → Nat → Int
  | [], _ => -1
  | x :: xs, k => if mov js x then k else movAt js xs (k + 1)
theorem movAt_any (js : List Joint) : ∀ (xs : List Nat) (k : Nat), decide (0 ≤ movAt js xs k) = xs.any fun i => mov js i
  | [], k => by simp [movAt]
  | x :: xs, k => by
    unfold movAt
    split
    · rename_i h; simp [h]
    · rename_i h; rw [movAt_any js xs (k + 1)]; simp [h]
def encN (n : Nat) : List DV := [.int .i64 (n : Int)]
abbrev Ln (xs : List Nat) : SV := .one (.dv (.lst 1 (xs.map encN)))
end Go.Proofs.YtafglmjadbplcaaDoor

/- mk.SameRobot and what it calls. -/
namespace Go.Proofs.YtafglmjadbplcaaDoor
open Eng
set_option maxRecDepth 10000
attribute [local irreducible] FnOk loopW idxF retX arrF

deriving instance DecidableEq for Joint
deriving instance DecidableEq for Mass
deriving instance DecidableEq for Shape
deriving instance DecidableEq for Robot
deriving instance DecidableEq for Scene
theorem cmp_mk_Same_Mass : cmpB Tryd.prog 8 Y.Mass = true ∧ Tryd.prog.eqGuardType Tryd.prog.depth Y.Mass = false := ⟨by kernel_rfl, by kernel_rfl⟩
theorem mk_Same_Mass (a b : List Mass) (ha : a.length ≤ 4611686018427387904) (hb : b.length ≤ 4611686018427387904) : FnOk Tryd.prog F.mk_Same_api_Mass [.one (.dv (.lst 5 (a.map encM))), .one (.dv (.lst 5 (b.map encM)))] [] 0 (Bo (decide (a = b))) [] 0 := by
  refine fnOk tab mix G.mk_Same_api_Mass rfl rfl (by kernel_rfl) rfl rfl ?_
  (conv => whnf)
  refine ask_m (fun h => ?_) (fun h => ?_)
  · (conv => whnf)
    refine ret0 ?_
    refine ret_b (Eq.symm (decide_eq_false ?_)) rfl
    rintro rfl
    simp at h
  have hl : a.length = b.length := by simp at h; omega
  (conv => whnf)
  refine loop_intro (fun k : Nat => ⟨[(0, .one (.dv (.lst 5 (a.map encM)))), (1, .one (.dv (.lst 5 (b.map encM)))), (5, I k)], [], 0⟩) (fun k => k ≤ a.length ∧ a.take k = b.take k) (fun k => a.length - k) [] 0 [] ⟨Nat.zero_le _, rfl⟩ ⟨⟨rfl, rfl, rfl, trivial⟩, trivial⟩ ?_
  rintro k ⟨hk, hall⟩
  (conv => whnf)
  refine ask_m (fun h => ?_) (fun h => ?_)
  · have hlt : k < a.length := by simpa using h
    obtain ⟨x, hx⟩ : ∃ j, a[k]? = some j := ⟨_, List.getElem?_eq_getElem hlt⟩
    obtain ⟨y, hy⟩ : ∃ j, b[k]? = some j := ⟨_, List.getElem?_eq_getElem (by omega)⟩
    have hkk : IntKind.i64.wrap ((k : Int) + 1) = ((k + 1 : Nat) : Int) := by rw [w64] <;> omega
    (conv => whnf)
    refine idx_and (by omega) (by simpa using hx) ?_
    (conv => whnf)
    refine idx_and (by omega) (by simpa using hy) ?_
    (conv => whnf)
    refine ⟨cmp_mk_Same_Mass, ?_⟩
    (conv => whnf)
    refine ask_m (fun h => ?_) (fun h => ?_)
    · (conv => whnf)
      refine ret0 ?_
      refine ret_b (Eq.symm (decide_eq_false (ne_at hx hy ?_))) rfl
      rintro rfl
      simp at h
    · skip
      have e : x = y := by
        obtain ⟨a1, a2, ⟨a3, a4, a5⟩⟩ := x
        obtain ⟨b1, b2, ⟨b3, b4, b5⟩⟩ := y
        simp at h; simp [h]
      subst e
      (conv => whnf)
      exact ⟨k + 1, [], ⟨hlt, take_same hall hx hy⟩, by omega, ⟨⟨rfl, rfl, eqI hkk, trivial⟩, trivial⟩⟩
  · have hk : k = a.length := by simp at h; omega
    subst hk
    rw [List.take_length, hl, List.take_length] at hall
    (conv => whnf)
    refine ret0 ?_
    exact ret_b (decide_eq_true hall).symm rfl
theorem cmp_mk_Same_Joint : cmpB Tryd.prog 8 Y.Joint = true ∧ Tryd.prog.eqGuardType Tryd.prog.depth Y.Joint = false := ⟨by kernel_rfl, by kernel_rfl⟩
theorem mk_Same_Joint (a b : List Joint) (ha : a.length ≤ 4611686018427387904) (hb : b.length ≤ 4611686018427387904) : FnOk Tryd.prog F.mk_Same_api_Joint [.one (.dv (.lst 12 (a.map encJ))), .one (.dv (.lst 12 (b.map encJ)))] [] 0 (Bo (decide (a = b))) [] 0 := by
  refine fnOk tab mix G.mk_Same_api_Joint rfl rfl (by kernel_rfl) rfl rfl ?_
  (conv => whnf)
  refine ask_m (fun h => ?_) (fun h => ?_)
  · (conv => whnf)
    refine ret0 ?_
    refine ret_b (Eq.symm (decide_eq_false ?_)) rfl
    rintro rfl
    simp at h
  have hl : a.length = b.length := by simp at h; omega
  (conv => whnf)
  refine loop_intro (fun k : Nat => ⟨[(0, .one (.dv (.lst 12 (a.map encJ)))), (1, .one (.dv (.lst 12 (b.map encJ)))), (5, I k)], [], 0⟩) (fun k => k ≤ a.length ∧ a.take k = b.take k) (fun k => a.length - k) [] 0 [] ⟨Nat.zero_le _, rfl⟩ ⟨⟨rfl, rfl, rfl, trivial⟩, trivial⟩ ?_
  rintro k ⟨hk, hall⟩
  (conv => whnf)
  refine ask_m (fun h => ?_) (fun h => ?_)
  · have hlt : k < a.length := by simpa using h
    obtain ⟨x, hx⟩ : ∃ j, a[k]? = some j := ⟨_, List.getElem?_eq_getElem hlt⟩
    obtain ⟨y, hy⟩ : ∃ j, b[k]? = some j := ⟨_, List.getElem?_eq_getElem (by omega)⟩
    have hkk : IntKind.i64.wrap ((k : Int) + 1) = ((k + 1 : Nat) : Int) := by rw [w64] <;> omega
    (conv => whnf)
    refine idx_and (by omega) (by simpa using hx) ?_
    (conv => whnf)
    refine idx_and (by omega) (by simpa using hy) ?_
    (conv => whnf)
    refine ⟨cmp_mk_Same_Joint, ?_⟩
    (conv => whnf)
    refine ask_m (fun h => ?_) (fun h => ?_)
    · (conv => whnf)
      refine ret0 ?_
      refine ret_b (Eq.symm (decide_eq_false (ne_at hx hy ?_))) rfl
      rintro rfl
      simp at h
    · skip
      have e : x = y := by
        obtain ⟨a1, a2, a3, ⟨a4, a5, a6⟩, a7, a8, a9, a10, a11, a12⟩ := x
        obtain ⟨b1, b2, b3, ⟨b4, b5, b6⟩, b7, b8, b9, b10, b11, b12⟩ := y
        simp at h; simp [h]
      subst e
      (conv => whnf)
      exact ⟨k + 1, [], ⟨hlt, take_same hall hx hy⟩, by omega, ⟨⟨rfl, rfl, eqI hkk, trivial⟩, trivial⟩⟩
  · have hk : k = a.length := by simp at h; omega
    subst hk
    rw [List.take_length, hl, List.take_length] at hall
    (conv => whnf)
    refine ret0 ?_
    exact ret_b (decide_eq_true hall).symm rfl
theorem mk_SameRobot (a b : Robot) (ha : a.joints.length ≤ 4611686018427387904 ∧ a.masses.length ≤ 4611686018427387904) (hb : b.joints.length ≤ 4611686018427387904 ∧ b.masses.length ≤ 4611686018427387904) : FnOk Tryd.prog F.mk_SameRobot [Ro a, Ro b] [] 0 (Bo (decide (a = b))) [] 0 := by
  refine fnOk tab mix G.mk_SameRobot rfl rfl (by kernel_rfl) rfl rfl ?_
  (conv => whnf)
  obtain ⟨j, m⟩ := a
  obtain ⟨j', m'⟩ := b
  refine call_i (mk_Same_Joint j j' ha.1 hb.1) ?_
  (conv => whnf)
  by_cases h1 : j = j'
  · rw [decide_eq_true h1]
    (conv => whnf)
    refine call_i (mk_Same_Mass m m' ha.2 hb.2) ?_
    (conv => whnf)
    (conv => whnf)
    refine ret0 ?_
    exact ret_b (by simp [h1]) rfl
  · rw [decide_eq_false h1]
    (conv => whnf)
    refine ret0 ?_
    exact ret_b (by simp [h1]) rfl
end Go.Proofs.YtafglmjadbplcaaDoor

/- Common ground: sources; data of the parameters' types. -/
namespace Go.Proofs.YtafglmjadbplcaaDoor
open Eng
set_option maxRecDepth 10000
attribute [local irreducible] FnOk loopW idxF retX arrF

theorem mk_Round (x m : Int) (hm : 0 < m) (hm2 : m ≤ 4611686018427387904) : FnOk Tryd.prog F.mk_Round [I x, I m] [] 0 (I (x % m)) [] 0 := by
  refine fnOk tab mix G.mk_Round rfl rfl (by kernel_rfl) rfl rfl ?_
  obtain ⟨h1, h2, h3, h4⟩ := tmod_pos (x := x) hm
  (conv => whnf)
  refine ⟨by omega, ?_⟩
  repeat' ((conv => whnf); first | refine ask_m (fun h => ?_) (fun h => ?_) | refine ret0 ?_)
  all_goals (conv => whnf)
  · have h : x.tmod m < 0 := by simpa using h
    exact ret_i (by rw [w64 (by omega) (by omega)]; exact h1 h) rfl
  · have h : ¬ x.tmod m < 0 := by simpa using h
    exact ret_i (h2 (by omega)) rfl

/- sources -/
abbrev Src (xs : List Int) (k : Nat) : Box := .vars Y.mk_Source [.dv (.lst 1 (xs.map encI)), .dv (.int .i64 k)]
def nxt (xs : List Int) (k : Nat) (m : Int) : Int := match xs[k]? with
  | some x => x % m
  | none => 0
def adv (xs : List Int) (k : Nat) : Nat := if k < xs.length then k + 1 else k
theorem nxt_bd {l : List Int} {j : Nat} {m : Int} (hm : 0 < m) : 0 ≤ nxt l j m ∧ nxt l j m < m := by
  unfold nxt; split
  · exact ⟨Int.emod_nonneg _ (by omega), Int.emod_lt_of_pos _ (by omega)⟩
  · omega
theorem mk_From_k (xs : List Int) : FnOk Tryd.prog F.mk_From [Li xs] [] 0 (.one (.vptr 0 0)) [(0, Src xs 0)] 1 := by
  refine fnOk tab mix G.mk_From rfl rfl (by kernel_rfl) rfl rfl ?_
  repeat' ((conv => whnf); first | refine ask_m (fun h => ?_) (fun h => ?_) | refine ret0 ?_)
  exact ⟨[], ⟨rfl, trivial⟩, ⟨rfl, trivial⟩⟩
theorem mk_Next_k (xs : List Int) (k : Nat) (m : Int) (hm : 0 < m) (hm2 : m ≤ 4611686018427387904) (hx : xs.length ≤ 4611686018427387904) (hk : k ≤ xs.length) : FnOk Tryd.prog F.mk_Source_Next [.one (.vptr 0 0), I m] [(0, Src xs k)] 1 (I (nxt xs k m)) [(0, Src xs (adv xs k))] 1 := by
  refine fnOk tab mix G.mk_Source_Next rfl rfl (by kernel_rfl) rfl rfl ?_
  repeat' ((conv => whnf); first | refine ask_m (fun h => ?_) (fun h => ?_) | refine ret0 ?_)
  · have hl : ¬ k < xs.length := by simp at h; omega
    have h1 : nxt xs k m = 0 := by unfold nxt; rw [List.getElem?_eq_none (by omega)]
    have h2 : adv xs k = k := by simp [adv, hl]
    rw [h1, h2]
    exact ⟨[], ⟨rfl, trivial⟩, ⟨rfl, trivial⟩⟩
  · have hl : k < xs.length := by simp at h; omega
    obtain ⟨x, hxk⟩ : ∃ x, xs[k]? = some x := ⟨_, List.getElem?_eq_getElem hl⟩
    have h1 : nxt xs k m = x % m := by unfold nxt; rw [hxk]
    have h2 : adv xs k = k + 1 := by simp [adv, hl]
    have w1 : IntKind.i64.wrap ((k : Int) + 1) = ((k + 1 : Nat) : Int) := by rw [w64] <;> omega
    have w2 : IntKind.i64.wrap (((k + 1 : Nat) : Int) - 1) = k := by rw [w64] <;> omega
    rw [h1, h2]
    (conv => whnf)
    rw [w1, w2]
    refine ⟨by omega, idx_map (by simpa using hxk) ?_⟩
    (conv => whnf)
    refine ⟨_, _, _, mk_Round x m hm hm2, ?_⟩
    (conv => whnf)
    refine ret0 ?_
    exact ⟨[], ⟨rfl, trivial⟩, ⟨rfl, trivial⟩⟩
/-- a source of which j numbers have been asked -/
abbrev SrcJ (l : List Int) (j : Nat) : Box := Src l (min j l.length)
theorem nxt_min {l : List Int} {j : Nat} {m : Int} : nxt l (min j l.length) m = nxt l j m := by
  unfold nxt
  by_cases h : j < l.length
  · rw [Nat.min_eq_left (by omega)]
  · rw [Nat.min_eq_right (by omega), List.getElem?_eq_none (Nat.le_refl _), List.getElem?_eq_none (by omega)]
theorem adv_min {l : List Int} {j : Nat} : adv l (min j l.length) = min (j + 1) l.length := by
  unfold adv; split <;> omega
theorem mk_Next (l : List Int) (j : Nat) (m : Int) (hm : 0 < m) (hm2 : m ≤ 4611686018427387904) (hl : l.length ≤ 4611686018427387904) : FnOk Tryd.prog F.mk_Source_Next [.one (.vptr 0 0), I m] [(0, SrcJ l j)] 1 (I (nxt l j m)) [(0, SrcJ l (j + 1))] 1 := by
  have := mk_Next_k l (min j l.length) m hm hm2 hl (by omega)
  rw [nxt_min, adv_min] at this
  exact this
theorem mk_From (l : List Int) : FnOk Tryd.prog F.mk_From [Li l] [] 0 (.one (.vptr 0 0)) [(0, SrcJ l 0)] 1 := by
  show FnOk Tryd.prog F.mk_From [Li l] [] 0 (.one (.vptr 0 0)) [(0, Src l (min 0 l.length))] 1
  rw [Nat.zero_min]
  exact mk_From_k l
theorem mk_Signed (l : List Int) (j : Nat) (m M : Int) (hM : 2 * m + 1 = M) (hm : 0 < m) (hm2 : m ≤ 1152921504606846976) (hl : l.length ≤ 4611686018427387904) : FnOk Tryd.prog F.mk_Source_Signed [.one (.vptr 0 0), I m] [(0, SrcJ l j)] 1 (I (nxt l j M - m)) [(0, SrcJ l (j + 1))] 1 := by
  refine fnOk tab mix G.mk_Source_Signed rfl rfl (by kernel_rfl) rfl rfl ?_
  have w1 : IntKind.i64.wrap (2 * m) = 2 * m := by rw [w64] <;> omega
  have w2 : IntKind.i64.wrap (2 * m + 1) = M := by rw [w64] <;> omega
  have hn := nxt_bd (l := l) (j := j) (m := M) (by omega)
  have w3 : IntKind.i64.wrap (nxt l j M - m) = nxt l j M - m := by rw [w64] <;> omega
  (conv => whnf)
  rw [w1, w2]
  refine ⟨_, _, _, mk_Next l j M (by omega) (by omega) hl, ?_⟩
  (conv => whnf)
  refine ret0 ?_
  exact ⟨[], ⟨eqI w3, trivial⟩, ⟨rfl, trivial⟩⟩

/- data of the parameters' types -/
theorem ty_int64 {n : Nat} {ds : List DV} (h : Typed T (n + 1) Y.int64 ds) : ∃ a, ds = encI a := by
  obtain ⟨a, h, _⟩ := h
  exact ⟨a, h⟩
theorem ty_int {n : Nat} {ds : List DV} (h : Typed T (n + 1) Y.int ds) : ∃ a, ds = encI a := by
  obtain ⟨a, h, _⟩ := h
  exact ⟨a, h⟩
theorem ty_s_int {n : Nat} {ds : List DV} (h : Typed T (n + 2) Y.s_int ds) : ∃ xs : List Int, ds = [.lst 1 (xs.map encI)] ∧ xs.length ≤ 17592186043904 := by
  obtain ⟨rs, h1, h2, _, h3⟩ := h
  obtain ⟨xs, rfl⟩ := map_of (enc := encI) fun r hr => ty_int (h3 r hr)
  refine ⟨xs, h1, ?_⟩
  have : xs.length * 8 ≤ reachBytes := by simpa using h2
  unfold reachBytes at this; omega
/- the same, each with a bound -/
theorem tyB_int {n : Nat} {ds : List DV} (h : Typed T (n + 1) Y.int ds) : ∃ a, ds = encI a ∧ True := by
  obtain ⟨a, h⟩ := ty_int h
  exact ⟨a, h, trivial⟩
theorem tyB_s_int {n : Nat} {ds : List DV} (h : Typed T (n + 2) Y.s_int ds) : ∃ xs : List Int, ds = [.lst 1 (xs.map encI)] ∧ xs.length ≤ 17592186043904 := ty_s_int h
end Go.Proofs.YtafglmjadbplcaaDoor

/- The makers: letters, joints. -/
namespace Go.Proofs.YtafglmjadbplcaaDoor
open Eng
set_option maxRecDepth 10000
attribute [local irreducible] FnOk loopW idxF retX arrF

def letter (k : Nat) : ByteArray := ⟨#[(97 + k).toUInt8]⟩
theorem letter_cut (k : Nat) (hk : k < 10) : (ByteArray.mk #[97, 98, 99, 100, 101, 102, 103, 104, 105, 106]).extract k (k + 1) = letter k := by
  have h : ∀ k, k < 10 → (ByteArray.mk #[97, 98, 99, 100, 101, 102, 103, 104, 105, 106]).extract k (k + 1) = letter k := by decide
  exact h k hk
theorem mk_letter (k : Nat) (hk : k < 10) : FnOk Tryd.prog F.mk_letter [I k] [] 0 (Tx (letter k)) [] 0 := by
  refine fnOk tab mix G.mk_letter rfl rfl (by kernel_rfl) rfl rfl ?_
  (conv => whnf)
  have hkk : IntKind.i64.wrap ((k : Int) + 1) = ((k + 1 : Nat) : Int) := by rw [w64] <;> omega
  rw [hkk]
  refine ⟨⟨by omega, by omega, by show _ ≤ (10 : Int); omega⟩, ?_⟩
  (conv => whnf)
  refine ret0 ?_
  rw [Int.toNat_natCast, Int.toNat_natCast]
  exact ret_dv (congrArg DV.str (letter_cut k hk)) rfl
def kindOf (n : Int) : Int := [3, 3, 1, 2, 4, 5, 3, 0].getD n.toNat 0
def jParent (l : List Int) (p i : Nat) : Int := if nxt l (p + 3) 4 = 1 then -1 else (i : Int) - 1
def jOff (l : List Int) (p i : Nat) : Vec := if 0 < i then ⟨131072, (nxt l (p + 4) 5 - 2) * 32768, (nxt l (p + 5) 3 - 1) * 32768⟩ else ⟨0, 0, 0⟩
def jAt (p i : Nat) : Nat := if 0 < i then p + 6 else p + 4
def jSpan (l : List Int) (q : Nat) (kd : Int) : Int × Int × Nat :=
  if kd = 0 then (0, 0, q)
  else if kd = 4 ∨ kd = 5 then ((0 - nxt l q 3) * 65536, nxt l (q + 1) 4 * 32768, q + 2)
  else ((0 - nxt l q 5) * 8192, (1 + nxt l (q + 1) 4) * 8192 + nxt l (q + 2) 3, q + 3)
def jKind (l : List Int) (p : Nat) : Int := kindOf (nxt l (p + 2) 8)
def mkJoint (l : List Int) (p i : Nat) : Joint :=
  ⟨letter i, jKind l p, jParent l p i, jOff l p i, (jSpan l (jAt p i) (jKind l p)).1, (jSpan l (jAt p i) (jKind l p)).2.1, 1 + nxt l p 4, 65536, 65536 + nxt l (p + 1) 3, 327680⟩
def mkJointAt (l : List Int) (p i : Nat) : Nat := (jSpan l (jAt p i) (jKind l p)).2.2
theorem kind_at {n : Int} (h0 : 0 ≤ n) (h8 : n < 8) : [CV.dv (.int .i64 3), .dv (.int .i64 3), .dv (.int .i64 1), .dv (.int .i64 2), .dv (.int .i64 4), .dv (.int .i64 5), .dv (.int .i64 3), .dv (.int .i64 0)][n.toNat]? = some (.dv (.int .i64 (kindOf n))) := by
  obtain ⟨k, rfl⟩ : ∃ k : Nat, n = k := ⟨n.toNat, by omega⟩
  rw [kindOf, Int.toNat_natCast]
  match k, h8 with
  | 0, _ | 1, _ | 2, _ | 3, _ | 4, _ | 5, _ | 6, _ | 7, _ => rfl
  | k + 8, h => omega
abbrev Jo (j : Joint) : SV := .agg [.dv (.str j.name), .dv (.int .i64 j.kind), .dv (.int .i64 j.parent), .dv (.int .i64 j.off.x), .dv (.int .i64 j.off.y), .dv (.int .i64 j.off.z), .dv (.int .i64 j.lo), .dv (.int .i64 j.hi), .dv (.int .i64 j.weight), .dv (.int .i64 j.speed), .dv (.int .i64 j.accel), .dv (.int .i64 j.torque)]
theorem w_lo {a : Int} (h0 : 0 ≤ a) (h1 : a < 5) : IntKind.i64.wrap ((IntKind.i64.wrap (IntKind.i64.wrap (0 - a) * 65536)).tdiv 8) = (0 - a) * 8192 := by
  rw [w64 (x := 0 - a) (by omega) (by omega), w64 (x := (0 - a) * 65536) (by omega) (by omega), show (0 - a) * 65536 = ((0 - a) * 8192) * 8 by omega, Int.mul_tdiv_cancel _ (by decide), w64] <;> omega
theorem w_hi {a b : Int} (h0 : 0 ≤ a) (h1 : a < 4) (h2 : 0 ≤ b) (h3 : b < 3) : IntKind.i64.wrap (IntKind.i64.wrap ((IntKind.i64.wrap (IntKind.i64.wrap (1 + a) * 65536)).tdiv 8) + b) = (1 + a) * 8192 + b := by
  rw [w64 (x := 1 + a) (by omega) (by omega), w64 (x := (1 + a) * 65536) (by omega) (by omega), show (1 + a) * 65536 = ((1 + a) * 8192) * 8 by omega, Int.mul_tdiv_cancel _ (by decide), w64 (x := (1 + a) * 8192) (by omega) (by omega), w64] <;> omega
theorem mk_joint (l : List Int) (p i : Nat) (hl : l.length ≤ 4611686018427387904) (hi : i < 10) : FnOk Tryd.prog F.mk_joint [.one (.vptr 0 0), I i] [(0, SrcJ l p)] 1 (Jo (mkJoint l p i)) [(0, SrcJ l (mkJointAt l p i))] 1 := by
  refine fnOk tab mix G.mk_joint rfl rfl (by kernel_rfl) rfl rfl ?_
  (conv => whnf)
  refine call_i (mk_letter i hi) ?_
  (conv => whnf)
  refine call_i (mk_Next l p 4 (by omega) (by omega) hl) ?_
  (conv => whnf)
  refine call_i (mk_Next l (p + 1) 3 (by omega) (by omega) hl) ?_
  (conv => whnf)
  refine call_i (mk_Next l (p + 2) 8 (by omega) (by omega) hl) ?_
  (conv => whnf)
  have n0 := nxt_bd (l := l) (j := p) (m := 4) (by omega)
  have n1 := nxt_bd (l := l) (j := p + 1) (m := 3) (by omega)
  have n2 := nxt_bd (l := l) (j := p + 2) (m := 8) (by omega)
  refine ⟨⟨n2.1, by simpa using n2.2⟩, ?_⟩
  have hkd := kind_at n2.1 n2.2
  rw [show kindOf (nxt l (p + 2) 8) = jKind l p from rfl] at hkd
  refine arr_at rfl rfl hkd ?_
  clear hkd
  (conv => whnf)
  refine call_i (mk_Next l (p + 3) 4 (by omega) (by omega) hl) ?_
  (conv => whnf)
  have w0 : IntKind.i64.wrap (1 + nxt l p 4) = 1 + nxt l p 4 := by rw [w64] <;> omega
  have w1 : IntKind.i64.wrap (65536 + nxt l (p + 1) 3) = 65536 + nxt l (p + 1) 3 := by rw [w64] <;> omega
  have wi : IntKind.i64.wrap ((i : Int) - 1) = (i : Int) - 1 := by rw [w64] <;> omega
  rw [w0, w1, wi]
  have hJ : mkJoint l p i = ⟨letter i, jKind l p, jParent l p i, jOff l p i, (jSpan l (jAt p i) (jKind l p)).1, (jSpan l (jAt p i) (jKind l p)).2.1, 1 + nxt l p 4, 65536, 65536 + nxt l (p + 1) 3, 327680⟩ := rfl
  rw [hJ, mkJointAt]
  generalize jKind l p = kd
  refine ask_m (fun h => ?_) (fun h => ?_)
  · have hp : jParent l p i = -1 := by unfold jParent; rw [if_pos (by simpa using h)]
    rw [hp]
    (conv => whnf)
    refine ask_m (fun h => ?_) (fun h => ?_)
    · have h : 0 < i := by have := of_decide_eq_true h; omega
      have ho : jOff l p i = ⟨131072, (nxt l (p + 4) 5 - 2) * 32768, (nxt l (p + 5) 3 - 1) * 32768⟩ := by unfold jOff; rw [if_pos h]
      have hq : jAt p i = p + 6 := by unfold jAt; rw [if_pos h]
      rw [ho, hq]
      (conv => whnf)
      refine call_i (mk_Signed l (p + 4) 2 5 (by omega) (by omega) (by omega) hl) ?_
      (conv => whnf)
      refine call_i (mk_Signed l (p + 5) 1 3 (by omega) (by omega) (by omega) hl) ?_
      (conv => whnf)
      have s4 := nxt_bd (l := l) (j := p + 4) (m := 5) (by omega)
      have s5 := nxt_bd (l := l) (j := p + 5) (m := 3) (by omega)
      rw [show IntKind.i64.wrap ((nxt l (p + 4) 5 - 2) * 32768) = (nxt l (p + 4) 5 - 2) * 32768 by rw [w64] <;> omega, show IntKind.i64.wrap ((nxt l (p + 5) 3 - 1) * 32768) = (nxt l (p + 5) 3 - 1) * 32768 by rw [w64] <;> omega]
      refine ask_m (fun h => ?_) (fun h => ?_)
      · have e : jSpan l (p + 6) kd = (0, 0, p + 6) := by unfold jSpan; rw [if_pos (by simpa using h)]
        rw [e]
        (conv => whnf)
        refine ret0 ?_
        exact ⟨[], ⟨rfl, trivial⟩, ⟨rfl, trivial⟩⟩
      have k0 : ¬ kd = 0 := by simpa using h
      (conv => whnf)
      refine ask_m (fun h => ?_) (fun h => ?_)
      · have e : jSpan l (p + 6) kd = ((0 - nxt l (p + 6) 3) * 65536, nxt l (p + 6 + 1) 4 * 32768, p + 6 + 2) := by unfold jSpan; rw [if_neg k0, if_pos (by simp_all)]
        have a0 := nxt_bd (l := l) (j := p + 6) (m := 3) (by omega)
        have a1 := nxt_bd (l := l) (j := p + 6 + 1) (m := 4) (by omega)
        rw [e]
        (conv => whnf)
        refine ask_mt h ?_
        (conv => whnf)
        refine call_i (mk_Next l (p + 6) 3 (by omega) (by omega) hl) ?_
        (conv => whnf)
        refine call_i (mk_Next l (p + 6 + 1) 4 (by omega) (by omega) hl) ?_
        (conv => whnf)
        refine ret0 ?_
        rw [show IntKind.i64.wrap (0 - nxt l (p + 6) 3) = 0 - nxt l (p + 6) 3 by rw [w64] <;> omega, show IntKind.i64.wrap ((0 - nxt l (p + 6) 3) * 65536) = (0 - nxt l (p + 6) 3) * 65536 by rw [w64] <;> omega, show IntKind.i64.wrap (nxt l (p + 6 + 1) 4 * 32768) = nxt l (p + 6 + 1) 4 * 32768 by rw [w64] <;> omega]
        exact ⟨[], ⟨rfl, trivial⟩, ⟨rfl, trivial⟩⟩
      (conv => whnf)
      refine ask_m (fun h => ?_) (fun h => ?_)
      · have e : jSpan l (p + 6) kd = ((0 - nxt l (p + 6) 3) * 65536, nxt l (p + 6 + 1) 4 * 32768, p + 6 + 2) := by unfold jSpan; rw [if_neg k0, if_pos (by simp_all)]
        have a0 := nxt_bd (l := l) (j := p + 6) (m := 3) (by omega)
        have a1 := nxt_bd (l := l) (j := p + 6 + 1) (m := 4) (by omega)
        rw [e]
        (conv => whnf)
        refine call_i (mk_Next l (p + 6) 3 (by omega) (by omega) hl) ?_
        (conv => whnf)
        refine call_i (mk_Next l (p + 6 + 1) 4 (by omega) (by omega) hl) ?_
        (conv => whnf)
        refine ret0 ?_
        rw [show IntKind.i64.wrap (0 - nxt l (p + 6) 3) = 0 - nxt l (p + 6) 3 by rw [w64] <;> omega, show IntKind.i64.wrap ((0 - nxt l (p + 6) 3) * 65536) = (0 - nxt l (p + 6) 3) * 65536 by rw [w64] <;> omega, show IntKind.i64.wrap (nxt l (p + 6 + 1) 4 * 32768) = nxt l (p + 6 + 1) 4 * 32768 by rw [w64] <;> omega]
        exact ⟨[], ⟨rfl, trivial⟩, ⟨rfl, trivial⟩⟩
      · have e : jSpan l (p + 6) kd = ((0 - nxt l (p + 6) 5) * 8192, (1 + nxt l (p + 6 + 1) 4) * 8192 + nxt l (p + 6 + 2) 3, p + 6 + 3) := by unfold jSpan; rw [if_neg k0, if_neg (by simp_all)]
        rw [e]
        have a0 := nxt_bd (l := l) (j := p + 6) (m := 5) (by omega)
        have a1 := nxt_bd (l := l) (j := p + 6 + 1) (m := 4) (by omega)
        have a2 := nxt_bd (l := l) (j := p + 6 + 2) (m := 3) (by omega)
        (conv => whnf)
        refine call_i (mk_Next l (p + 6) 5 (by omega) (by omega) hl) ?_
        (conv => whnf)
        refine ⟨by omega, ?_⟩
        (conv => whnf)
        refine call_i (mk_Next l (p + 6 + 1) 4 (by omega) (by omega) hl) ?_
        (conv => whnf)
        refine ⟨by omega, ?_⟩
        (conv => whnf)
        refine call_i (mk_Next l (p + 6 + 2) 3 (by omega) (by omega) hl) ?_
        (conv => whnf)
        refine ret0 ?_
        rw [w_lo a0.1 a0.2, w_hi a1.1 a1.2 a2.1 a2.2]
        exact ⟨[], ⟨rfl, trivial⟩, ⟨rfl, trivial⟩⟩
    · have h : ¬ 0 < i := by have := of_decide_eq_false h; omega
      have ho : jOff l p i = ⟨0, 0, 0⟩ := by unfold jOff; rw [if_neg h]
      have hq : jAt p i = p + 4 := by unfold jAt; rw [if_neg h]
      rw [ho, hq]
      (conv => whnf)
      refine ask_m (fun h => ?_) (fun h => ?_)
      · have e : jSpan l (p + 4) kd = (0, 0, p + 4) := by unfold jSpan; rw [if_pos (by simpa using h)]
        rw [e]
        (conv => whnf)
        refine ret0 ?_
        exact ⟨[], ⟨rfl, trivial⟩, ⟨rfl, trivial⟩⟩
      have k0 : ¬ kd = 0 := by simpa using h
      (conv => whnf)
      refine ask_m (fun h => ?_) (fun h => ?_)
      · have e : jSpan l (p + 4) kd = ((0 - nxt l (p + 4) 3) * 65536, nxt l (p + 4 + 1) 4 * 32768, p + 4 + 2) := by unfold jSpan; rw [if_neg k0, if_pos (by simp_all)]
        have a0 := nxt_bd (l := l) (j := p + 4) (m := 3) (by omega)
        have a1 := nxt_bd (l := l) (j := p + 4 + 1) (m := 4) (by omega)
        rw [e]
        (conv => whnf)
        refine ask_mt h ?_
        (conv => whnf)
        refine call_i (mk_Next l (p + 4) 3 (by omega) (by omega) hl) ?_
        (conv => whnf)
        refine call_i (mk_Next l (p + 4 + 1) 4 (by omega) (by omega) hl) ?_
        (conv => whnf)
        refine ret0 ?_
        rw [show IntKind.i64.wrap (0 - nxt l (p + 4) 3) = 0 - nxt l (p + 4) 3 by rw [w64] <;> omega, show IntKind.i64.wrap ((0 - nxt l (p + 4) 3) * 65536) = (0 - nxt l (p + 4) 3) * 65536 by rw [w64] <;> omega, show IntKind.i64.wrap (nxt l (p + 4 + 1) 4 * 32768) = nxt l (p + 4 + 1) 4 * 32768 by rw [w64] <;> omega]
        exact ⟨[], ⟨rfl, trivial⟩, ⟨rfl, trivial⟩⟩
      (conv => whnf)
      refine ask_m (fun h => ?_) (fun h => ?_)
      · have e : jSpan l (p + 4) kd = ((0 - nxt l (p + 4) 3) * 65536, nxt l (p + 4 + 1) 4 * 32768, p + 4 + 2) := by unfold jSpan; rw [if_neg k0, if_pos (by simp_all)]
        have a0 := nxt_bd (l := l) (j := p + 4) (m := 3) (by omega)
        have a1 := nxt_bd (l := l) (j := p + 4 + 1) (m := 4) (by omega)
        rw [e]
        (conv => whnf)
        refine call_i (mk_Next l (p + 4) 3 (by omega) (by omega) hl) ?_
        (conv => whnf)
        refine call_i (mk_Next l (p + 4 + 1) 4 (by omega) (by omega) hl) ?_
        (conv => whnf)
        refine ret0 ?_
        rw [show IntKind.i64.wrap (0 - nxt l (p + 4) 3) = 0 - nxt l (p + 4) 3 by rw [w64] <;> omega, show IntKind.i64.wrap ((0 - nxt l (p + 4) 3) * 65536) = (0 - nxt l (p + 4) 3) * 65536 by rw [w64] <;> omega, show IntKind.i64.wrap (nxt l (p + 4 + 1) 4 * 32768) = nxt l (p + 4 + 1) 4 * 32768 by rw [w64] <;> omega]
        exact ⟨[], ⟨rfl, trivial⟩, ⟨rfl, trivial⟩⟩
      · have e : jSpan l (p + 4) kd = ((0 - nxt l (p + 4) 5) * 8192, (1 + nxt l (p + 4 + 1) 4) * 8192 + nxt l (p + 4 + 2) 3, p + 4 + 3) := by unfold jSpan; rw [if_neg k0, if_neg (by simp_all)]
        rw [e]
        have a0 := nxt_bd (l := l) (j := p + 4) (m := 5) (by omega)
        have a1 := nxt_bd (l := l) (j := p + 4 + 1) (m := 4) (by omega)
        have a2 := nxt_bd (l := l) (j := p + 4 + 2) (m := 3) (by omega)
        (conv => whnf)
        refine call_i (mk_Next l (p + 4) 5 (by omega) (by omega) hl) ?_
        (conv => whnf)
        refine ⟨by omega, ?_⟩
        (conv => whnf)
        refine call_i (mk_Next l (p + 4 + 1) 4 (by omega) (by omega) hl) ?_
        (conv => whnf)
        refine ⟨by omega, ?_⟩
        (conv => whnf)
        refine call_i (mk_Next l (p + 4 + 2) 3 (by omega) (by omega) hl) ?_
        (conv => whnf)
        refine ret0 ?_
        rw [w_lo a0.1 a0.2, w_hi a1.1 a1.2 a2.1 a2.2]
        exact ⟨[], ⟨rfl, trivial⟩, ⟨rfl, trivial⟩⟩
  · have hp : jParent l p i = (i : Int) - 1 := by unfold jParent; rw [if_neg (by simpa using h)]
    rw [hp]
    (conv => whnf)
    refine ask_m (fun h => ?_) (fun h => ?_)
    · have h : 0 < i := by have := of_decide_eq_true h; omega
      have ho : jOff l p i = ⟨131072, (nxt l (p + 4) 5 - 2) * 32768, (nxt l (p + 5) 3 - 1) * 32768⟩ := by unfold jOff; rw [if_pos h]
      have hq : jAt p i = p + 6 := by unfold jAt; rw [if_pos h]
      rw [ho, hq]
      (conv => whnf)
      refine call_i (mk_Signed l (p + 4) 2 5 (by omega) (by omega) (by omega) hl) ?_
      (conv => whnf)
      refine call_i (mk_Signed l (p + 5) 1 3 (by omega) (by omega) (by omega) hl) ?_
      (conv => whnf)
      have s4 := nxt_bd (l := l) (j := p + 4) (m := 5) (by omega)
      have s5 := nxt_bd (l := l) (j := p + 5) (m := 3) (by omega)
      rw [show IntKind.i64.wrap ((nxt l (p + 4) 5 - 2) * 32768) = (nxt l (p + 4) 5 - 2) * 32768 by rw [w64] <;> omega, show IntKind.i64.wrap ((nxt l (p + 5) 3 - 1) * 32768) = (nxt l (p + 5) 3 - 1) * 32768 by rw [w64] <;> omega]
      refine ask_m (fun h => ?_) (fun h => ?_)
      · have e : jSpan l (p + 6) kd = (0, 0, p + 6) := by unfold jSpan; rw [if_pos (by simpa using h)]
        rw [e]
        (conv => whnf)
        refine ret0 ?_
        exact ⟨[], ⟨rfl, trivial⟩, ⟨rfl, trivial⟩⟩
      have k0 : ¬ kd = 0 := by simpa using h
      (conv => whnf)
      refine ask_m (fun h => ?_) (fun h => ?_)
      · have e : jSpan l (p + 6) kd = ((0 - nxt l (p + 6) 3) * 65536, nxt l (p + 6 + 1) 4 * 32768, p + 6 + 2) := by unfold jSpan; rw [if_neg k0, if_pos (by simp_all)]
        have a0 := nxt_bd (l := l) (j := p + 6) (m := 3) (by omega)
        have a1 := nxt_bd (l := l) (j := p + 6 + 1) (m := 4) (by omega)
        rw [e]
        (conv => whnf)
        refine ask_mt h ?_
        (conv => whnf)
        refine call_i (mk_Next l (p + 6) 3 (by omega) (by omega) hl) ?_
        (conv => whnf)
        refine call_i (mk_Next l (p + 6 + 1) 4 (by omega) (by omega) hl) ?_
        (conv => whnf)
        refine ret0 ?_
        rw [show IntKind.i64.wrap (0 - nxt l (p + 6) 3) = 0 - nxt l (p + 6) 3 by rw [w64] <;> omega, show IntKind.i64.wrap ((0 - nxt l (p + 6) 3) * 65536) = (0 - nxt l (p + 6) 3) * 65536 by rw [w64] <;> omega, show IntKind.i64.wrap (nxt l (p + 6 + 1) 4 * 32768) = nxt l (p + 6 + 1) 4 * 32768 by rw [w64] <;> omega]
        exact ⟨[], ⟨rfl, trivial⟩, ⟨rfl, trivial⟩⟩
      (conv => whnf)
      refine ask_m (fun h => ?_) (fun h => ?_)
      · have e : jSpan l (p + 6) kd = ((0 - nxt l (p + 6) 3) * 65536, nxt l (p + 6 + 1) 4 * 32768, p + 6 + 2) := by unfold jSpan; rw [if_neg k0, if_pos (by simp_all)]
        have a0 := nxt_bd (l := l) (j := p + 6) (m := 3) (by omega)
        have a1 := nxt_bd (l := l) (j := p + 6 + 1) (m := 4) (by omega)
        rw [e]
        (conv => whnf)
        refine call_i (mk_Next l (p + 6) 3 (by omega) (by omega) hl) ?_
        (conv => whnf)
        refine call_i (mk_Next l (p + 6 + 1) 4 (by omega) (by omega) hl) ?_
        (conv => whnf)
        refine ret0 ?_
        rw [show IntKind.i64.wrap (0 - nxt l (p + 6) 3) = 0 - nxt l (p + 6) 3 by rw [w64] <;> omega, show IntKind.i64.wrap ((0 - nxt l (p + 6) 3) * 65536) = (0 - nxt l (p + 6) 3) * 65536 by rw [w64] <;> omega, show IntKind.i64.wrap (nxt l (p + 6 + 1) 4 * 32768) = nxt l (p + 6 + 1) 4 * 32768 by rw [w64] <;> omega]
        exact ⟨[], ⟨rfl, trivial⟩, ⟨rfl, trivial⟩⟩
      · have e : jSpan l (p + 6) kd = ((0 - nxt l (p + 6) 5) * 8192, (1 + nxt l (p + 6 + 1) 4) * 8192 + nxt l (p + 6 + 2) 3, p + 6 + 3) := by unfold jSpan; rw [if_neg k0, if_neg (by simp_all)]
        rw [e]
        have a0 := nxt_bd (l := l) (j := p + 6) (m := 5) (by omega)
        have a1 := nxt_bd (l := l) (j := p + 6 + 1) (m := 4) (by omega)
        have a2 := nxt_bd (l := l) (j := p + 6 + 2) (m := 3) (by omega)
        (conv => whnf)
        refine call_i (mk_Next l (p + 6) 5 (by omega) (by omega) hl) ?_
        (conv => whnf)
        refine ⟨by omega, ?_⟩
        (conv => whnf)
        refine call_i (mk_Next l (p + 6 + 1) 4 (by omega) (by omega) hl) ?_
        (conv => whnf)
        refine ⟨by omega, ?_⟩
        (conv => whnf)
        refine call_i (mk_Next l (p + 6 + 2) 3 (by omega) (by omega) hl) ?_
        (conv => whnf)
        refine ret0 ?_
        rw [w_lo a0.1 a0.2, w_hi a1.1 a1.2 a2.1 a2.2]
        exact ⟨[], ⟨rfl, trivial⟩, ⟨rfl, trivial⟩⟩
    · have h : ¬ 0 < i := by have := of_decide_eq_false h; omega
      have ho : jOff l p i = ⟨0, 0, 0⟩ := by unfold jOff; rw [if_neg h]
      have hq : jAt p i = p + 4 := by unfold jAt; rw [if_neg h]
      rw [ho, hq]
      (conv => whnf)
      refine ask_m (fun h => ?_) (fun h => ?_)
      · have e : jSpan l (p + 4) kd = (0, 0, p + 4) := by unfold jSpan; rw [if_pos (by simpa using h)]
        rw [e]
        (conv => whnf)
        refine ret0 ?_
        exact ⟨[], ⟨rfl, trivial⟩, ⟨rfl, trivial⟩⟩
      have k0 : ¬ kd = 0 := by simpa using h
      (conv => whnf)
      refine ask_m (fun h => ?_) (fun h => ?_)
      · have e : jSpan l (p + 4) kd = ((0 - nxt l (p + 4) 3) * 65536, nxt l (p + 4 + 1) 4 * 32768, p + 4 + 2) := by unfold jSpan; rw [if_neg k0, if_pos (by simp_all)]
        have a0 := nxt_bd (l := l) (j := p + 4) (m := 3) (by omega)
        have a1 := nxt_bd (l := l) (j := p + 4 + 1) (m := 4) (by omega)
        rw [e]
        (conv => whnf)
        refine ask_mt h ?_
        (conv => whnf)
        refine call_i (mk_Next l (p + 4) 3 (by omega) (by omega) hl) ?_
        (conv => whnf)
        refine call_i (mk_Next l (p + 4 + 1) 4 (by omega) (by omega) hl) ?_
        (conv => whnf)
        refine ret0 ?_
        rw [show IntKind.i64.wrap (0 - nxt l (p + 4) 3) = 0 - nxt l (p + 4) 3 by rw [w64] <;> omega, show IntKind.i64.wrap ((0 - nxt l (p + 4) 3) * 65536) = (0 - nxt l (p + 4) 3) * 65536 by rw [w64] <;> omega, show IntKind.i64.wrap (nxt l (p + 4 + 1) 4 * 32768) = nxt l (p + 4 + 1) 4 * 32768 by rw [w64] <;> omega]
        exact ⟨[], ⟨rfl, trivial⟩, ⟨rfl, trivial⟩⟩
      (conv => whnf)
      refine ask_m (fun h => ?_) (fun h => ?_)
      · have e : jSpan l (p + 4) kd = ((0 - nxt l (p + 4) 3) * 65536, nxt l (p + 4 + 1) 4 * 32768, p + 4 + 2) := by unfold jSpan; rw [if_neg k0, if_pos (by simp_all)]
        have a0 := nxt_bd (l := l) (j := p + 4) (m := 3) (by omega)
        have a1 := nxt_bd (l := l) (j := p + 4 + 1) (m := 4) (by omega)
        rw [e]
        (conv => whnf)
        refine call_i (mk_Next l (p + 4) 3 (by omega) (by omega) hl) ?_
        (conv => whnf)
        refine call_i (mk_Next l (p + 4 + 1) 4 (by omega) (by omega) hl) ?_
        (conv => whnf)
        refine ret0 ?_
        rw [show IntKind.i64.wrap (0 - nxt l (p + 4) 3) = 0 - nxt l (p + 4) 3 by rw [w64] <;> omega, show IntKind.i64.wrap ((0 - nxt l (p + 4) 3) * 65536) = (0 - nxt l (p + 4) 3) * 65536 by rw [w64] <;> omega, show IntKind.i64.wrap (nxt l (p + 4 + 1) 4 * 32768) = nxt l (p + 4 + 1) 4 * 32768 by rw [w64] <;> omega]
        exact ⟨[], ⟨rfl, trivial⟩, ⟨rfl, trivial⟩⟩
      · have e : jSpan l (p + 4) kd = ((0 - nxt l (p + 4) 5) * 8192, (1 + nxt l (p + 4 + 1) 4) * 8192 + nxt l (p + 4 + 2) 3, p + 4 + 3) := by unfold jSpan; rw [if_neg k0, if_neg (by simp_all)]
        rw [e]
        have a0 := nxt_bd (l := l) (j := p + 4) (m := 5) (by omega)
        have a1 := nxt_bd (l := l) (j := p + 4 + 1) (m := 4) (by omega)
        have a2 := nxt_bd (l := l) (j := p + 4 + 2) (m := 3) (by omega)
        (conv => whnf)
        refine call_i (mk_Next l (p + 4) 5 (by omega) (by omega) hl) ?_
        (conv => whnf)
        refine ⟨by omega, ?_⟩
        (conv => whnf)
        refine call_i (mk_Next l (p + 4 + 1) 4 (by omega) (by omega) hl) ?_
        (conv => whnf)
        refine ⟨by omega, ?_⟩
        (conv => whnf)
        refine call_i (mk_Next l (p + 4 + 2) 3 (by omega) (by omega) hl) ?_
        (conv => whnf)
        refine ret0 ?_
        rw [w_lo a0.1 a0.2, w_hi a1.1 a1.2 a2.1 a2.2]
        exact ⟨[], ⟨rfl, trivial⟩, ⟨rfl, trivial⟩⟩
end Go.Proofs.YtafglmjadbplcaaDoor

/- The makers: points. -/
namespace Go.Proofs.YtafglmjadbplcaaDoor
open Eng
set_option maxRecDepth 10000
attribute [local irreducible] FnOk loopW idxF retX arrF

def mkPt (l : List Int) (b : Vec) (q : Nat) : Vec := ⟨b.x + (nxt l q 7 - 3) * 32768, b.y + (nxt l (q + 1) 5 - 2) * 32768, b.z + (nxt l (q + 2) 5 - 2) * 32768⟩
def ptsTo (l : List Int) (b : Vec) (p k : Nat) : List Vec := b :: (List.range k).map fun i => mkPt l b (p + 1 + 3 * i)
def nPts (l : List Int) (p : Nat) : Nat := (nxt l p 4).toNat
def mkPts (l : List Int) (b : Vec) (p : Nat) : List Vec := ptsTo l b p (nPts l p)
def mkPtsAt (l : List Int) (p : Nat) : Nat := p + 1 + 3 * nPts l p
theorem ptsTo_succ (l : List Int) (b : Vec) (p k : Nat) : ptsTo l b p (k + 1) = ptsTo l b p k ++ [mkPt l b (p + 1 + 3 * k)] := by
  simp [ptsTo, List.range_succ]
def near (b : Vec) : Prop := (-1099511627776 ≤ b.x ∧ b.x ≤ 1099511627776) ∧ (-1099511627776 ≤ b.y ∧ b.y ≤ 1099511627776) ∧ (-1099511627776 ≤ b.z ∧ b.z ≤ 1099511627776)
theorem w_co {a c : Int} (h1 : -1099511627776 ≤ a) (h2 : a ≤ 1099511627776) (h3 : -10000 ≤ c) (h4 : c ≤ 10000) : IntKind.i64.wrap (a + IntKind.i64.wrap (c * 32768)) = a + c * 32768 := by
  rw [w64 (x := c * 32768) (by omega) (by omega), w64] <;> omega
theorem mk_points (l : List Int) (p : Nat) (b : Vec) (hl : l.length ≤ 4611686018427387904) (hb : near b) : FnOk Tryd.prog F.mk_points [.one (.vptr 0 0), Ve b] [(0, SrcJ l p)] 1 (.one (.dv (dVs (mkPts l b p)))) [(0, SrcJ l (mkPtsAt l p))] 1 := by
  refine fnOk tab mix G.mk_points rfl rfl (by kernel_rfl) rfl rfl ?_
  obtain ⟨⟨b1, b2⟩, ⟨b3, b4⟩, b5, b6⟩ := hb
  have n0 := nxt_bd (l := l) (j := p) (m := 4) (by omega)
  obtain ⟨n, hn⟩ : ∃ n : Nat, nxt l p 4 = n := ⟨(nxt l p 4).toNat, by omega⟩
  have hn2 : nPts l p = n := by simp [nPts, hn]
  rw [mkPts, mkPtsAt, hn2]
  (conv => whnf)
  refine call_i (mk_Next l p 4 (by omega) (by omega) hl) ?_
  (conv => whnf)
  rw [hn]
  refine loop_intro (fun k : Nat => ⟨[(0, .one (.vptr 0 0)), (3, .one (.vptr 1 0)), (5, .one (.row 2)), (6, I ((n : Int) - k))], [(0, SrcJ l (p + 1 + 3 * k)), (1, .vars Y.Vec [.dv (.int .i64 b.x), .dv (.int .i64 b.y), .dv (.int .i64 b.z)]), (2, .rows Y.Vec 3 ((ptsTo l b p k).map encV))], 3⟩) (fun k => k ≤ n) (fun k => n - k) [] 0 [] (Nat.zero_le _) ⟨⟨rfl, rfl, rfl, eqI (by simp), trivial⟩, ⟨rfl, rfl, rfl, trivial⟩⟩ ?_
  rintro k hk
  (conv => whnf)
  refine ask_m (fun h => ?_) (fun h => ?_)
  · have hlt : k < n := by have := of_decide_eq_true h; omega
    (conv => whnf)
    refine ⟨⟨by omega, by omega⟩, ?_⟩
    (conv => whnf)
    refine call_i (mk_Signed l (p + 1 + 3 * k) 3 7 (by omega) (by omega) (by omega) hl) ?_
    (conv => whnf)
    refine ⟨⟨by omega, by omega⟩, ?_⟩
    (conv => whnf)
    refine call_i (mk_Signed l (p + 1 + 3 * k + 1) 2 5 (by omega) (by omega) (by omega) hl) ?_
    (conv => whnf)
    refine ⟨⟨by omega, by omega⟩, ?_⟩
    (conv => whnf)
    refine call_i (mk_Signed l (p + 1 + 3 * k + 2) 2 5 (by omega) (by omega) (by omega) hl) ?_
    (conv => whnf)
    have hlen : (ptsTo l b p k).length = k + 1 := by simp [ptsTo]
    refine ⟨⟨by simp; omega, by simp; omega⟩, ?_⟩
    (conv => whnf)
    have s0 := nxt_bd (l := l) (j := p + 1 + 3 * k) (m := 7) (by omega)
    have s1 := nxt_bd (l := l) (j := p + 1 + 3 * k + 1) (m := 5) (by omega)
    have s2 := nxt_bd (l := l) (j := p + 1 + 3 * k + 2) (m := 5) (by omega)
    refine ⟨k + 1, [(2, 4)], hlt, by omega, ⟨⟨rfl, rfl, rfl, eqI ?_, trivial⟩, ⟨?_, rfl, ?_, trivial⟩⟩⟩
    · rw [w64] <;> omega
    · rw [show p + 1 + 3 * (k + 1) = p + 1 + 3 * k + 3 by omega]; rfl
    · rw [ptsTo_succ]
      rw [w_co b1 b2 (by omega) (by omega), w_co b3 b4 (by omega) (by omega), w_co b5 b6 (by omega) (by omega)]
      rw [List.map_append]
      rfl
  · have hk : k = n := by have := of_decide_eq_false h; omega
    subst hk
    (conv => whnf)
    refine retO [.frz 2] ?_
    (conv => whnf)
    exact ⟨[], ⟨rfl, trivial⟩, ⟨rfl, trivial⟩⟩
end Go.Proofs.YtafglmjadbplcaaDoor

/- The makers: robots. -/
namespace Go.Proofs.YtafglmjadbplcaaDoor
open Eng
set_option maxRecDepth 10000
attribute [local irreducible] FnOk loopW idxF retX arrF

def jPos (l : List Int) (p : Nat) : Nat → Nat
  | 0 => p
  | k + 1 => mkJointAt l (jPos l p k) k
def mkJoints (l : List Int) (p k : Nat) : List Joint := (List.range k).map fun i => mkJoint l (jPos l p i) i
theorem mkJoints_succ (l : List Int) (p k : Nat) : mkJoints l p (k + 1) = mkJoints l p k ++ [mkJoint l (jPos l p k) k] := by
  simp [mkJoints, List.range_succ]
def mkMass (l : List Int) (n : Nat) (q : Nat) : Mass := ⟨nxt l q n, 1 + nxt l (q + 1) 9000, ⟨(nxt l (q + 2) 7 - 3) * 32768, 0, (nxt l (q + 3) 5 - 2) * 32768⟩⟩
def mkMasses (l : List Int) (n q k : Nat) : List Mass := (List.range k).map fun i => mkMass l n (q + 1 + 4 * i)
theorem mkMasses_succ (l : List Int) (n q k : Nat) : mkMasses l n q (k + 1) = mkMasses l n q k ++ [mkMass l n (q + 1 + 4 * k)] := by
  simp [mkMasses, List.range_succ]
def nJ (l : List Int) (p : Nat) : Nat := 1 + (nxt l p 3).toNat
def qM (l : List Int) (p : Nat) : Nat := jPos l (p + 1) (nJ l p)
def nM (l : List Int) (p : Nat) : Nat := (nxt l (qM l p) 3).toNat
def mkRobot (l : List Int) (p : Nat) : Robot := ⟨mkJoints l (p + 1) (nJ l p), mkMasses l (nJ l p) (qM l p) (nM l p)⟩
def mkRobotAt (l : List Int) (p : Nat) : Nat := qM l p + 1 + 4 * nM l p
theorem mk_robot (l : List Int) (p : Nat) (hl : l.length ≤ 4611686018427387904) : FnOk Tryd.prog F.mk_robot [.one (.vptr 0 0)] [(0, SrcJ l p)] 1 (Ro (mkRobot l p)) [(0, SrcJ l (mkRobotAt l p))] 1 := by
  refine fnOk tab mix G.mk_robot rfl rfl (by kernel_rfl) rfl rfl ?_
  have n0 := nxt_bd (l := l) (j := p) (m := 3) (by omega)
  have hn : IntKind.i64.wrap (1 + nxt l p 3) = (nJ l p : Nat) := by
    rw [w64 (by omega) (by omega)]; unfold nJ; omega
  have hn2 : nJ l p ≤ 3 := by unfold nJ; omega
  have hn1 : 1 ≤ nJ l p := by unfold nJ; omega
  rw [mkRobotAt, mkRobot, nM, qM]
  (conv => whnf)
  refine call_i (mk_Next l p 3 (by omega) (by omega) hl) ?_
  (conv => whnf)
  rw [hn]
  generalize nJ l p = n at *
  refine loop_intro (fun k : Nat => ⟨[(0, .one (.vptr 0 0)), (2, .one (.vptr 1 0)), (3, .one (.vptr 2 0)), (4, I n), (5, I k)], [(0, SrcJ l (jPos l (p + 1) k)), (1, .vars Y.Robot [.nil 12, .nil 5]), (2, .vars Y.Robot [.row 3, .nil 5]), (3, .rows Y.Joint 12 ((mkJoints l (p + 1) k).map encJ))], 4⟩) (fun k => k ≤ n) (fun k => n - k) [.ownC 2 0 Y.Joint 12] 0 [] (Nat.zero_le _) ⟨⟨rfl, rfl, rfl, rfl, rfl, trivial⟩, ⟨rfl, rfl, rfl, rfl, trivial⟩⟩ ?_
  rintro k hk
  (conv => whnf)
  refine ask_m (fun h => ?_) (fun h => ?_)
  · have hlt : k < n := by have := of_decide_eq_true h; omega
    (conv => whnf)
    refine call_i (mk_joint l (jPos l (p + 1) k) k hl (by omega)) ?_
    (conv => whnf)
    have hlen : (mkJoints l (p + 1) k).length = k := by simp [mkJoints]
    have hkk : IntKind.i64.wrap ((k : Int) + 1) = ((k + 1 : Nat) : Int) := by rw [w64] <;> omega
    refine ⟨⟨by simp; omega, by simp; omega⟩, ?_⟩
    (conv => whnf)
    refine ⟨k + 1, [(3, 5)], hlt, by omega, ⟨⟨rfl, rfl, rfl, rfl, eqI hkk, trivial⟩, ⟨rfl, rfl, rfl, ?_, trivial⟩⟩⟩
    rw [mkJoints_succ, List.map_append]; rfl
  · have hk : k = n := by have := of_decide_eq_false h; omega
    subst hk
    (conv => whnf)
    refine call_i (mk_Next l (jPos l (p + 1) k) 3 (by omega) (by omega) hl) ?_
    (conv => whnf)
    generalize hq : jPos l (p + 1) k = q
    have c0 := nxt_bd (l := l) (j := q) (m := 3) (by omega)
    obtain ⟨c, hc⟩ : ∃ c : Nat, nxt l q 3 = c := ⟨(nxt l q 3).toNat, by omega⟩
    rw [hc, Int.toNat_natCast]
    refine loop_intro (fun i : Nat => ⟨[(0, .one (.vptr 0 0)), (2, .one (.vptr 1 0)), (3, .one (.vptr 2 0)), (4, I k), (6, I ((c : Int) - i))], [(0, SrcJ l (q + 1 + 4 * i)), (1, .vars Y.Robot [.nil 12, .nil 5]), (2, .vars Y.Robot [.row 3, .row 4]), (3, .rows Y.Joint 12 ((mkJoints l (p + 1) k).map encJ)), (4, .rows Y.Mass 5 ((mkMasses l k q i).map encM))], 5⟩) (fun i => i ≤ c) (fun i => c - i) [.ownC 2 1 Y.Mass 5] 0 [] (Nat.zero_le _) ⟨⟨rfl, rfl, rfl, rfl, eqI (by simp), trivial⟩, ⟨rfl, rfl, rfl, rfl, rfl, trivial⟩⟩ ?_
    rintro i hi
    (conv => whnf)
    refine ask_m (fun h => ?_) (fun h => ?_)
    · have hlt : i < c := by have := of_decide_eq_true h; omega
      (conv => whnf)
      refine call_i (mk_Next l (q + 1 + 4 * i) k (by omega) (by omega) hl) ?_
      (conv => whnf)
      refine call_i (mk_Next l (q + 1 + 4 * i + 1) 9000 (by omega) (by omega) hl) ?_
      (conv => whnf)
      refine call_i (mk_Signed l (q + 1 + 4 * i + 2) 3 7 (by omega) (by omega) (by omega) hl) ?_
      (conv => whnf)
      refine call_i (mk_Signed l (q + 1 + 4 * i + 3) 2 5 (by omega) (by omega) (by omega) hl) ?_
      (conv => whnf)
      have hlen : (mkMasses l k q i).length = i := by simp [mkMasses]
      refine ⟨⟨by simp; omega, by simp; omega⟩, ?_⟩
      (conv => whnf)
      have s1 := nxt_bd (l := l) (j := q + 1 + 4 * i + 1) (m := 9000) (by omega)
      have s2 := nxt_bd (l := l) (j := q + 1 + 4 * i + 2) (m := 7) (by omega)
      have s3 := nxt_bd (l := l) (j := q + 1 + 4 * i + 3) (m := 5) (by omega)
      refine ⟨i + 1, [(4, 6)], hlt, by omega, ⟨⟨rfl, rfl, rfl, rfl, eqI ?_, trivial⟩, ⟨?_, rfl, rfl, rfl, ?_, trivial⟩⟩⟩
      · rw [w64] <;> omega
      · rw [show q + 1 + 4 * (i + 1) = q + 1 + 4 * i + 4 by omega]; rfl
      · rw [mkMasses_succ, List.map_append, show IntKind.i64.wrap (1 + nxt l (q + 1 + 4 * i + 1) 9000) = 1 + nxt l (q + 1 + 4 * i + 1) 9000 by rw [w64] <;> omega, show IntKind.i64.wrap ((nxt l (q + 1 + 4 * i + 2) 7 - 3) * 32768) = (nxt l (q + 1 + 4 * i + 2) 7 - 3) * 32768 by rw [w64] <;> omega, show IntKind.i64.wrap ((nxt l (q + 1 + 4 * i + 3) 5 - 2) * 32768) = (nxt l (q + 1 + 4 * i + 3) 5 - 2) * 32768 by rw [w64] <;> omega]
        rfl
    · have hi : i = c := by have := of_decide_eq_false h; omega
      subst hi
      (conv => whnf)
      refine retO [.frz 3, .frz 4] ?_
      (conv => whnf)
      exact ⟨[], ⟨rfl, trivial⟩, ⟨rfl, trivial⟩⟩
end Go.Proofs.YtafglmjadbplcaaDoor

/- The makers: scenes. -/
namespace Go.Proofs.YtafglmjadbplcaaDoor
open Eng
set_option maxRecDepth 10000
attribute [local irreducible] FnOk loopW idxF retX arrF

def shPos (l : List Int) (q : Nat) : Nat → Nat
  | 0 => q
  | k + 1 => if nxt l (shPos l q k) 5 < 4 then mkPtsAt l (shPos l q k + 3) else shPos l q k + 1
def shOf (l : List Int) (q i : Nat) : List Shape := if nxt l q 5 < 4 then [⟨i, (1 + nxt l (q + 1) 3) * 8192, mkPts l ⟨nxt l (q + 2) 4 * 32768, 0, 0⟩ (q + 3)⟩] else []
def shLinks (l : List Int) (q k : Nat) : List Shape := (List.range k).flatMap fun i => shOf l (shPos l q i) i
theorem shLinks_succ (l : List Int) (q k : Nat) : shLinks l q (k + 1) = shLinks l q k ++ shOf l (shPos l q k) k := by
  simp [shLinks, List.range_succ]
theorem shLinks_len (l : List Int) (q k : Nat) : (shLinks l q k).length ≤ k := by
  induction k with
  | zero => simp [shLinks]
  | succ k ih =>
    rw [shLinks_succ, List.length_append]
    have : (shOf l (shPos l q k) k).length ≤ 1 := by unfold shOf; split <;> simp
    omega
def wPos (l : List Int) (q : Nat) : Nat → Nat
  | 0 => q
  | k + 1 => mkPtsAt l (wPos l q k + 4)
def shW (l : List Int) (q : Nat) : Shape := ⟨-1, (1 + nxt l (q + 3) 4) * 8192, mkPts l ⟨(nxt l q 19 - 9) * 32768, (nxt l (q + 1) 19 - 9) * 32768, (nxt l (q + 2) 5 - 2) * 32768⟩ (q + 4)⟩
def shWs (l : List Int) (q k : Nat) : List Shape := (List.range k).map fun i => shW l (wPos l q i)
theorem shWs_succ (l : List Int) (q k : Nat) : shWs l q (k + 1) = shWs l q k ++ [shW l (wPos l q k)] := by
  simp [shWs, List.range_succ]
def scQ1 (l : List Int) : Nat := shPos l (mkRobotAt l 0) (mkRobot l 0).joints.length
def scN (l : List Int) : Nat := 1 + (nxt l (scQ1 l) 3).toNat
def scQ2 (l : List Int) : Nat := wPos l (scQ1 l + 1) (scN l)
def mkSkips (l : List Int) (q n : Nat) : List Skip := if nxt l q 5 = 1 then [⟨-1, nxt l (q + 1) n⟩] else []
def mkScene (l : List Int) : Scene := ⟨mkRobot l 0, shLinks l (mkRobotAt l 0) (mkRobot l 0).joints.length ++ shWs l (scQ1 l + 1) (scN l), mkSkips l (scQ2 l) (mkRobot l 0).joints.length⟩
theorem w_rad {a : Int} (h0 : 0 ≤ a) (h1 : a < 4) : IntKind.i64.wrap ((IntKind.i64.wrap (IntKind.i64.wrap (1 + a) * 65536)).tdiv 8) = (1 + a) * 8192 := by
  rw [w64 (x := 1 + a) (by omega) (by omega), w64 (x := (1 + a) * 65536) (by omega) (by omega), show (1 + a) * 65536 = ((1 + a) * 8192) * 8 by omega, Int.mul_tdiv_cancel _ (by decide), w64] <;> omega
theorem near_mk {x y z : Int} (hx : -1099511627776 ≤ x ∧ x ≤ 1099511627776) (hy : -1099511627776 ≤ y ∧ y ≤ 1099511627776) (hz : -1099511627776 ≤ z ∧ z ≤ 1099511627776) : near ⟨x, y, z⟩ := ⟨hx, hy, hz⟩
theorem joints_len (l : List Int) (p : Nat) : 1 ≤ (mkRobot l p).joints.length ∧ (mkRobot l p).joints.length ≤ 3 := by
  have := nxt_bd (l := l) (j := p) (m := 3) (by omega)
  simp [mkRobot, mkJoints, nJ]; omega
theorem mk_Scene (l : List Int) (hl : l.length ≤ 4611686018427387904) : FnOk Tryd.prog F.mk_Scene [Li l] [] 0 (Sc (mkScene l)) [] 0 := by
  refine fnOk tab mix G.mk_Scene rfl rfl (by kernel_rfl) rfl rfl ?_
  have hn := joints_len l 0
  have hS : mkScene l = ⟨mkRobot l 0, shLinks l (mkRobotAt l 0) (mkRobot l 0).joints.length ++ shWs l (scQ1 l + 1) (scN l), mkSkips l (scQ2 l) (mkRobot l 0).joints.length⟩ := rfl
  rw [hS, scQ2, scN, scQ1]
  (conv => whnf)
  refine call_i (mk_From l) ?_
  (conv => whnf)
  refine call_i (mk_robot l 0 hl) ?_
  (conv => whnf)
  generalize mkRobot l 0 = r at *
  generalize mkRobotAt l 0 = q0
  refine loop_intro (fun k : Nat => ⟨[(2, .one (.vptr 0 0)), (3, .one (.vptr 1 0)), (4, .one (.vptr 2 0)), (5, I k)], [(0, .vars Y.Scene [.nil 12, .nil 5, .nil 3, .nil 2]), (1, SrcJ l (shPos l q0 k)), (2, .vars Y.Scene [.dv (dJs r.joints), .dv (dMs r.masses), .row 3, .nil 2]), (3, .rows Y.Shape 3 ((shLinks l q0 k).map encSh))], 4⟩) (fun k => k ≤ r.joints.length) (fun k => r.joints.length - k) [.ownC 2 2 Y.Shape 3] 0 [] (Nat.zero_le _) ⟨⟨rfl, rfl, rfl, rfl, trivial⟩, ⟨rfl, rfl, rfl, rfl, trivial⟩⟩ ?_
  rintro k hk
  (conv => whnf)
  refine ask_m (fun h => ?_) (fun h => ?_)
  · have hlt : k < r.joints.length := by simpa using h
    have hkk : IntKind.i64.wrap ((k : Int) + 1) = ((k + 1 : Nat) : Int) := by rw [w64] <;> omega
    have hll := shLinks_len l q0 k
    have hsucc := shLinks_succ l q0 k
    have hpos : shPos l q0 (k + 1) = if nxt l (shPos l q0 k) 5 < 4 then mkPtsAt l (shPos l q0 k + 3) else shPos l q0 k + 1 := rfl
    generalize shPos l q0 k = q at *
    (conv => whnf)
    refine call_i (mk_Next l q 5 (by omega) (by omega) hl) ?_
    (conv => whnf)
    refine ask_m (fun h => ?_) (fun h => ?_)
    · have h := of_decide_eq_true h
      rw [if_pos h] at hpos
      rw [shOf, if_pos h] at hsucc
      have s1 := nxt_bd (l := l) (j := q + 1) (m := 3) (by omega)
      have s2 := nxt_bd (l := l) (j := q + 2) (m := 4) (by omega)
      (conv => whnf)
      refine call_i (mk_Next l (q + 1) 3 (by omega) (by omega) hl) ?_
      (conv => whnf)
      refine ⟨by omega, ?_⟩
      (conv => whnf)
      refine call_i (mk_Next l (q + 2) 4 (by omega) (by omega) hl) ?_
      (conv => whnf)
      rw [w64 (x := nxt l (q + 2) 4 * 32768) (by omega) (by omega), w_rad s1.1 (by omega)]
      refine call_i (mk_points l (q + 3) ⟨nxt l (q + 2) 4 * 32768, 0, 0⟩ hl (near_mk (by omega) (by omega) (by omega))) ?_
      (conv => whnf)
      refine ⟨⟨by simp; omega, by simp; omega⟩, ?_⟩
      (conv => whnf)
      refine ⟨k + 1, [(3, 5)], hlt, by omega, ⟨⟨rfl, rfl, rfl, eqI hkk, trivial⟩, ⟨rfl, ?_, rfl, ?_, trivial⟩⟩⟩
      · rw [hpos]; rfl
      · rw [hsucc, List.map_append]; rfl
    · have h := of_decide_eq_false h
      rw [if_neg h] at hpos
      rw [shOf, if_neg h, List.append_nil] at hsucc
      (conv => whnf)
      refine ⟨k + 1, [], hlt, by omega, ⟨⟨rfl, rfl, rfl, eqI hkk, trivial⟩, ⟨rfl, ?_, rfl, ?_, trivial⟩⟩⟩
      · rw [hpos]; rfl
      · rw [hsucc]; rfl
  · have hk : k = r.joints.length := by simp at h; omega
    subst hk
    generalize hq1 : shPos l q0 r.joints.length = q1
    have hll := shLinks_len l q0 r.joints.length
    generalize shLinks l q0 r.joints.length = ls at *
    have c0 := nxt_bd (l := l) (j := q1) (m := 3) (by omega)
    obtain ⟨c, hc⟩ : ∃ c : Nat, 1 + (nxt l q1 3).toNat = c := ⟨_, rfl⟩
    have hc1 : IntKind.i64.wrap (1 + nxt l q1 3) = (c : Int) := by rw [w64] <;> omega
    rw [hc]
    (conv => whnf)
    refine call_i (mk_Next l q1 3 (by omega) (by omega) hl) ?_
    (conv => whnf)
    rw [hc1]
    refine loop_intro (fun k : Nat => ⟨[(2, .one (.vptr 0 0)), (3, .one (.vptr 1 0)), (4, .one (.vptr 2 0)), (6, I ((c : Int) - k))], [(0, .vars Y.Scene [.nil 12, .nil 5, .nil 3, .nil 2]), (1, SrcJ l (wPos l (q1 + 1) k)), (2, .vars Y.Scene [.dv (dJs r.joints), .dv (dMs r.masses), .row 3, .nil 2]), (3, .rows Y.Shape 3 ((ls ++ shWs l (q1 + 1) k).map encSh))], 4⟩) (fun k => k ≤ c) (fun k => c - k) [] 0 [] (Nat.zero_le _) ⟨⟨rfl, rfl, rfl, eqI (by simp), trivial⟩, ⟨rfl, rfl, rfl, ?_, trivial⟩⟩ ?_
    · simp [shWs]; rfl
    rintro k hk
    (conv => whnf)
    refine ask_m (fun h => ?_) (fun h => ?_)
    · have hlt : k < c := by have := of_decide_eq_true h; omega
      have hlen : (shWs l (q1 + 1) k).length = k := by simp [shWs]
      have hsucc := shWs_succ l (q1 + 1) k
      have hpos : wPos l (q1 + 1) (k + 1) = mkPtsAt l (wPos l (q1 + 1) k + 4) := rfl
      generalize wPos l (q1 + 1) k = q at *
      have s0 := nxt_bd (l := l) (j := q) (m := 19) (by omega)
      have s1 := nxt_bd (l := l) (j := q + 1) (m := 19) (by omega)
      have s2 := nxt_bd (l := l) (j := q + 2) (m := 5) (by omega)
      have s3 := nxt_bd (l := l) (j := q + 3) (m := 4) (by omega)
      (conv => whnf)
      refine call_i (mk_Signed l q 9 19 (by omega) (by omega) (by omega) hl) ?_
      (conv => whnf)
      refine call_i (mk_Signed l (q + 1) 9 19 (by omega) (by omega) (by omega) hl) ?_
      (conv => whnf)
      refine call_i (mk_Signed l (q + 2) 2 5 (by omega) (by omega) (by omega) hl) ?_
      (conv => whnf)
      refine call_i (mk_Next l (q + 3) 4 (by omega) (by omega) hl) ?_
      (conv => whnf)
      refine ⟨by omega, ?_⟩
      (conv => whnf)
      rw [w64 (x := (nxt l q 19 - 9) * 32768) (by omega) (by omega), w64 (x := (nxt l (q + 1) 19 - 9) * 32768) (by omega) (by omega), w64 (x := (nxt l (q + 2) 5 - 2) * 32768) (by omega) (by omega), w_rad s3.1 s3.2]
      refine call_i (mk_points l (q + 4) ⟨(nxt l q 19 - 9) * 32768, (nxt l (q + 1) 19 - 9) * 32768, (nxt l (q + 2) 5 - 2) * 32768⟩ hl (near_mk (by omega) (by omega) (by omega))) ?_
      (conv => whnf)
      refine ⟨⟨by simp; omega, by simp; omega⟩, ?_⟩
      (conv => whnf)
      refine ⟨k + 1, [(3, 6)], hlt, by omega, ⟨⟨rfl, rfl, rfl, eqI ?_, trivial⟩, ⟨rfl, ?_, rfl, ?_, trivial⟩⟩⟩
      · rw [w64] <;> omega
      · rw [hpos]; rfl
      · show Box.rows Y.Shape 3 _ = Box.rows Y.Shape 3 _
        refine congrArg _ ?_
        rw [hsucc, show ls ++ (shWs l (q1 + 1) k ++ [shW l q]) = (ls ++ shWs l (q1 + 1) k) ++ [shW l q] by rw [List.append_assoc], List.map_append (l₁ := ls ++ shWs l (q1 + 1) k)]; rfl
    · have hk : k = c := by have := of_decide_eq_false h; omega
      subst hk
      generalize wPos l (q1 + 1) k = q at *
      (conv => whnf)
      refine call_i (mk_Next l q 5 (by omega) (by omega) hl) ?_
      (conv => whnf)
      refine ask_m (fun h => ?_) (fun h => ?_)
      · have h : nxt l q 5 = 1 := by simpa using h
        rw [mkSkips, if_pos h]
        (conv => whnf)
        rw [List.length_map]
        refine call_i (mk_Next l (q + 1) r.joints.length (by omega) (by omega) hl) ?_
        (conv => whnf)
        refine ⟨⟨by simp, by simp⟩, ?_⟩
        (conv => whnf)
        refine retO [.frz 3, .frz 5] ?_
        (conv => whnf)
        exact ⟨[], ⟨rfl, trivial⟩, trivial⟩
      · have h : ¬ nxt l q 5 = 1 := by simpa using h
        rw [mkSkips, if_neg h]
        (conv => whnf)
        refine retO [.frz 3, .ownC 0 3 Y.Skip 2, .frz 4] ?_
        (conv => whnf)
        exact ⟨[], ⟨rfl, trivial⟩, trivial⟩
end Go.Proofs.YtafglmjadbplcaaDoor

/- What the makers make is valid. No program in sight. -/
namespace Go.Proofs.YtafglmjadbplcaaDoor
open Eng
set_option maxRecDepth 10000

/-- what is asked of a joint but for its name -/
theorem inV_mk {x y z m : Int} (h1 : -m ≤ x ∧ x ≤ m) (h2 : -m ≤ y ∧ y ≤ m) (h3 : -m ≤ z ∧ z ≤ m) : inV ⟨x, y, z⟩ m = true := by
  simp [inV]; omega
theorem letter_name : ∀ k, k < 10 → nameOk (letter k) = true := by decide
theorem letter_ne : ∀ k, k < 10 → ∀ j, j < 10 → letter k = letter j → k = j := by decide
theorem kindOf_mem {n : Int} (h0 : 0 ≤ n) (h8 : n < 8) : kindOf n = 3 ∨ kindOf n = 1 ∨ kindOf n = 2 ∨ kindOf n = 4 ∨ kindOf n = 5 ∨ kindOf n = 0 := by
  obtain ⟨k, rfl⟩ : ∃ k : Nat, n = k := ⟨n.toNat, by omega⟩
  rw [kindOf, Int.toNat_natCast]
  match k, h8 with
  | 0, _ | 1, _ | 2, _ | 3, _ | 4, _ | 5, _ | 6, _ | 7, _ => decide
  | k + 8, h => omega
theorem mkJoint_body (l : List Int) (p i : Nat) : bodyOk i (mkJoint l p i) := by
  have hk := kindOf_mem (nxt_bd (l := l) (j := p + 2) (m := 8) (by omega)).1 (nxt_bd (l := l) (j := p + 2) (m := 8) (by omega)).2
  refine ⟨?_, ?_, ?_, ?_, ?_⟩
  · show 0 ≤ kindOf _ ∧ kindOf _ ≤ 6
    omega
  · show -1 ≤ jParent l p i ∧ jParent l p i < (i : Int)
    unfold jParent; split <;> omega
  · show inV (jOff l p i) _ = true
    have h1 := nxt_bd (l := l) (j := p + 4) (m := 5) (by omega)
    have h2 := nxt_bd (l := l) (j := p + 5) (m := 3) (by omega)
    unfold jOff; split
    · exact inV_mk (by omega) (by omega) (by omega)
    · rfl
  · show (jSpan l (jAt p i) (jKind l p)).1 ≤ (jSpan l (jAt p i) (jKind l p)).2.1 ∧ - reach (jKind l p) ≤ (jSpan l (jAt p i) (jKind l p)).1 ∧ (jSpan l (jAt p i) (jKind l p)).2.1 ≤ reach (jKind l p)
    generalize jAt p i = q
    have h1 := nxt_bd (l := l) (j := q) (m := 3) (by omega)
    have h2 := nxt_bd (l := l) (j := q + 1) (m := 4) (by omega)
    have h3 := nxt_bd (l := l) (j := q) (m := 5) (by omega)
    have h4 := nxt_bd (l := l) (j := q + 2) (m := 3) (by omega)
    have hk' : jKind l p = 3 ∨ jKind l p = 1 ∨ jKind l p = 2 ∨ jKind l p = 4 ∨ jKind l p = 5 ∨ jKind l p = 0 := hk
    rcases hk' with e | e | e | e | e | e <;> rw [e] <;> simp [jSpan, reach] <;> omega
  · show (from1 (1 + nxt l p 4) 1024 && from1 65536 1048576 && from1 (65536 + nxt l (p + 1) 3) 1048576 && from1 327680 1099511627776) = true
    have h1 := nxt_bd (l := l) (j := p) (m := 4) (by omega)
    have h2 := nxt_bd (l := l) (j := p + 1) (m := 3) (by omega)
    simp [from1]; omega
theorem mkJoints_at {l : List Int} {p n k : Nat} {j : Joint} (h : (mkJoints l p n)[k]? = some j) : k < n ∧ j = mkJoint l (jPos l p k) k := by
  unfold mkJoints at h
  rw [List.getElem?_map] at h
  simp only [Option.map_eq_some_iff] at h
  obtain ⟨i, hi, rfl⟩ := h
  obtain ⟨h1, h2⟩ := List.getElem?_eq_some_iff.1 hi
  simp at h1 h2
  subst h2
  exact ⟨h1, rfl⟩
theorem mkJoints_ok (l : List Int) (p n : Nat) (hn : n ≤ 10) : jointsErr (mkJoints l p n) 0 (mkJoints l p n) = 0 := by
  refine jointsErr_zero fun k j hj => ?_
  obtain ⟨h1, h2⟩ := mkJoints_at hj
  rw [Nat.zero_add]
  refine jointErr_zero ?_ ?_ ?_
  · rw [h2]; exact letter_name k (by omega)
  · have := find_at (k := 0) hj fun i' j' hi hj' e => by
      obtain ⟨h3, h4⟩ := mkJoints_at hj'
      rw [h2, h4] at e
      have := letter_ne i' (by omega) k (by omega) e
      omega
    rw [this]; simp
  · rw [h2]; exact mkJoint_body l _ k
theorem linkOk_mk {n : Nat} {k : Int} (h1 : -1 ≤ k) (h2 : k < (n : Int)) : linkOk n k = true := by simp [linkOk]; omega
theorem massOk_mk {n : Nat} {a b : Int} {v : Vec} (h1 : 0 ≤ a) (h2 : a < (n : Int)) (h3 : 1 ≤ b) (h4 : b ≤ 65536) (h5 : inV v 4194304 = true) : massOk n ⟨a, b, v⟩ = true := by simp [massOk, from1, h5]; omega
theorem mkMass_ok (l : List Int) (n q : Nat) (hn : 0 < n) : massOk n (mkMass l n q) = true := by
  have h1 := nxt_bd (l := l) (j := q) (m := n) (by omega)
  have h2 := nxt_bd (l := l) (j := q + 1) (m := 9000) (by omega)
  have h3 := nxt_bd (l := l) (j := q + 2) (m := 7) (by omega)
  have h4 := nxt_bd (l := l) (j := q + 3) (m := 5) (by omega)
  have h5 : inV ⟨(nxt l (q + 2) 7 - 3) * 32768, 0, (nxt l (q + 3) 5 - 2) * 32768⟩ 4194304 = true := inV_mk (by omega) (by omega) (by omega)
  exact massOk_mk h1.1 h1.2 (by omega) (by omega) h5
theorem robot_valid {r : Robot} (h1 : 1 ≤ r.joints.length) (h2 : r.joints.length ≤ 10) (h3 : jointsErr r.joints 0 r.joints = 0) (h4 : r.masses.length ≤ 32) (h5 : r.masses.all (massOk r.joints.length) = true) : checkRobot r = 0 := by
  unfold checkRobot
  rw [if_neg (by omega), if_neg (by rw [h3]; simp), if_neg (by rw [h5]; simp; omega)]
theorem nJ_bd (l : List Int) (p : Nat) : 1 ≤ nJ l p ∧ nJ l p ≤ 3 := by
  have := nxt_bd (l := l) (j := p) (m := 3) (by omega)
  unfold nJ; omega
theorem mkJoints_len (l : List Int) (p n : Nat) : (mkJoints l p n).length = n := by simp [mkJoints]
theorem mkRobot_ok (l : List Int) (p : Nat) : checkRobot (mkRobot l p) = 0 := by
  have hn := nJ_bd l p
  have hl : (mkRobot l p).joints.length = nJ l p := mkJoints_len l (p + 1) (nJ l p)
  have hm := nxt_bd (l := l) (j := qM l p) (m := 3) (by omega)
  refine robot_valid (by omega) (by omega) (mkJoints_ok l (p + 1) (nJ l p) (by omega)) ?_ ?_
  · simp [mkRobot, mkMasses, nM]; omega
  · rw [hl, List.all_eq_true]
    intro m hmm
    simp only [mkRobot, mkMasses, List.mem_map] at hmm
    obtain ⟨i, _, rfl⟩ := hmm
    exact mkMass_ok l (nJ l p) _ (by omega)
theorem shapesErr_zero {n : Nat} : ∀ {l : List Shape}, (∀ x ∈ l, shapeErr n x = 0) → shapesErr n l = 0
  | [], _ => rfl
  | x :: l, h => by rw [shapesErr, if_pos (h x (by simp))]; exact shapesErr_zero fun y hy => h y (by simp [hy])
theorem shapeErr_zero {n : Nat} {x : Shape} (h1 : linkOk n x.link = true) (h2 : 1 ≤ x.radius ∧ x.radius ≤ 1048576) (h3 : 1 ≤ x.points.length ∧ x.points.length ≤ 8) (h4 : x.points.all (inV · 4194304) = true) : shapeErr n x = 0 := by
  unfold shapeErr
  rw [if_neg (by rw [h1]; rintro (h | h | h | h | h) <;> first | contradiction | omega), if_neg (by rw [h4]; simp)]
theorem mkPts_len (l : List Int) (b : Vec) (p : Nat) : 1 ≤ (mkPts l b p).length ∧ (mkPts l b p).length ≤ 4 := by
  have := nxt_bd (l := l) (j := p) (m := 4) (by omega)
  simp [mkPts, ptsTo, nPts]; omega
theorem mkPts_in (l : List Int) (b : Vec) (p : Nat) (hx : -1048576 ≤ b.x ∧ b.x ≤ 1048576) (hy : -1048576 ≤ b.y ∧ b.y ≤ 1048576) (hz : -1048576 ≤ b.z ∧ b.z ≤ 1048576) : (mkPts l b p).all (inV · 4194304) = true := by
  rw [List.all_eq_true]
  intro v hv
  simp only [mkPts, ptsTo, List.mem_cons, List.mem_map] at hv
  rcases hv with rfl | ⟨i, _, rfl⟩
  · obtain ⟨x, y, z⟩ := v
    simp only at hx hy hz
    exact inV_mk (by omega) (by omega) (by omega)
  · have h1 := nxt_bd (l := l) (j := p + 1 + 3 * i) (m := 7) (by omega)
    have h2 := nxt_bd (l := l) (j := p + 1 + 3 * i + 1) (m := 5) (by omega)
    have h3 := nxt_bd (l := l) (j := p + 1 + 3 * i + 2) (m := 5) (by omega)
    exact inV_mk (by omega) (by omega) (by omega)
theorem shOf_ok {l : List Int} {q i n : Nat} (hi : i < n) {x : Shape} (h : x ∈ shOf l q i) : shapeErr n x = 0 := by
  unfold shOf at h
  split at h
  · simp only [List.mem_singleton] at h
    subst h
    have h1 := nxt_bd (l := l) (j := q + 1) (m := 3) (by omega)
    have h2 := nxt_bd (l := l) (j := q + 2) (m := 4) (by omega)
    have h3 := mkPts_len l ⟨nxt l (q + 2) 4 * 32768, 0, 0⟩ (q + 3)
    refine shapeErr_zero ?_ ⟨?_, ?_⟩ ⟨h3.1, Nat.le_trans h3.2 (by decide)⟩ (mkPts_in l _ _ ⟨?_, ?_⟩ ⟨?_, ?_⟩ ⟨?_, ?_⟩)
    · simp [linkOk]; omega
    all_goals (simp only; omega)
  · simp at h
theorem shW_ok (l : List Int) (q n : Nat) : shapeErr n (shW l q) = 0 := by
  have h0 := nxt_bd (l := l) (j := q) (m := 19) (by omega)
  have h1 := nxt_bd (l := l) (j := q + 1) (m := 19) (by omega)
  have h2 := nxt_bd (l := l) (j := q + 2) (m := 5) (by omega)
  have h3 := nxt_bd (l := l) (j := q + 3) (m := 4) (by omega)
  have h4 := mkPts_len l ⟨(nxt l q 19 - 9) * 32768, (nxt l (q + 1) 19 - 9) * 32768, (nxt l (q + 2) 5 - 2) * 32768⟩ (q + 4)
  refine shapeErr_zero ?_ ⟨?_, ?_⟩ ⟨h4.1, Nat.le_trans h4.2 (by decide)⟩ (mkPts_in l _ _ ⟨?_, ?_⟩ ⟨?_, ?_⟩ ⟨?_, ?_⟩)
  · exact linkOk_mk (k := -1) (by omega) (by omega)
  all_goals (simp only [shW]; omega)
theorem scene_valid {s : Scene} (h1 : checkRobot s.robot = 0) (h2 : s.shapes.length ≤ 24) (h3 : ∀ x ∈ s.shapes, shapeErr s.robot.joints.length x = 0) (h4 : s.skips.length ≤ 64) (h5 : (s.skips.all fun k => linkOk s.robot.joints.length k.a && linkOk s.robot.joints.length k.b) = true) : checkScene s = 0 := by
  unfold checkScene
  rw [if_neg (by rw [h1]; simp), if_neg (by omega), if_neg (by rw [shapesErr_zero h3]; simp), if_neg (by omega), if_neg (by rw [h5]; simp)]
theorem mkScene_len (l : List Int) : (mkScene l).shapes.length ≤ 6 ∧ (mkScene l).skips.length ≤ 1 ∧ (mkScene l).robot.masses.length ≤ 2 := by
  have hn := joints_len l 0
  have h1 := shLinks_len l (mkRobotAt l 0) (mkRobot l 0).joints.length
  have h2 := nxt_bd (l := l) (j := scQ1 l) (m := 3) (by omega)
  have h3 := nxt_bd (l := l) (j := qM l 0) (m := 3) (by omega)
  refine ⟨?_, ?_, ?_⟩
  · simp only [mkScene, List.length_append, shWs, List.length_map, List.length_range, scN]; omega
  · simp only [mkScene, mkSkips]; split <;> simp
  · simp [mkScene, mkRobot, mkMasses, nM]; omega
theorem mkScene_ok (l : List Int) : checkScene (mkScene l) = 0 := by
  have hn := joints_len l 0
  obtain ⟨k1, k2, _⟩ := mkScene_len l
  refine scene_valid (mkRobot_ok l 0) (by omega) (fun x hx => ?_) (by omega) ?_
  · simp only [mkScene, List.mem_append, shLinks, List.mem_flatMap, List.mem_range, shWs, List.mem_map] at hx
    rcases hx with ⟨i, hi, hx⟩ | ⟨i, _, rfl⟩
    · exact shOf_ok hi hx
    · exact shW_ok l _ _
  · rw [List.all_eq_true]
    intro k hk
    simp only [mkScene, mkSkips] at hk
    split at hk
    · simp only [List.mem_singleton] at hk
      subst hk
      have := nxt_bd (l := l) (j := scQ2 l + 1) (m := ((mkRobot l 0).joints.length : Int)) (by omega)
      rw [Bool.and_eq_true]
      exact ⟨linkOk_mk (k := -1) (by omega) (by omega), linkOk_mk (k := nxt l (scQ2 l + 1) ((mkRobot l 0).joints.length : Int)) (by omega) this.2⟩
    · simp at hk
theorem mkScene_small (l : List Int) : small (mkScene l) := by
  have hn := joints_len l 0
  obtain ⟨k1, k2, k3⟩ := mkScene_len l
  refine ⟨by show (mkRobot l 0).joints.length ≤ _; omega, by omega, by omega, by omega, fun x hx => ?_⟩
  simp only [mkScene, List.mem_append, shLinks, List.mem_flatMap, List.mem_range, shWs, List.mem_map] at hx
  rcases hx with ⟨i, hi, hx⟩ | ⟨i, _, rfl⟩
  · unfold shOf at hx
    split at hx
    · simp only [List.mem_singleton] at hx
      subst hx
      have := mkPts_len l ⟨nxt l (shPos l (mkRobotAt l 0) i + 2) 4 * 32768, 0, 0⟩ (shPos l (mkRobotAt l 0) i + 3)
      simp only; omega
    · simp at hx
  · unfold shW
    simp only
    generalize wPos l (scQ1 l + 1) i = q
    have := mkPts_len l ⟨(nxt l q 19 - 9) * 32768, (nxt l (q + 1) 19 - 9) * 32768, (nxt l (q + 2) 5 - 2) * 32768⟩ (q + 4)
    omega
end Go.Proofs.YtafglmjadbplcaaDoor

/- law8: Chain, awake, RobotChainSteps. -/
namespace Go.Proofs.YtafglmjadbplcaaDoor
open Eng
set_option maxRecDepth 10000
attribute [local irreducible] FnOk loopW idxF retX arrF findF

def chainOf (r : Robot) (k : Int) : List Int := if hasB r [k] then chain r.joints k else []
theorem has_good {r : Robot} {ks : List Int} (h : hasB r ks = true) : checkRobot r = 0 ∧ ∀ k ∈ ks, -1 ≤ k ∧ k < r.joints.length := by
  simp only [hasB, Bool.and_eq_true, List.all_eq_true, decide_eq_true_eq] at h
  exact ⟨h.2, fun k hk => link_bd (h.1 k hk)⟩
def baseT : ByteArray := ⟨#[98, 97, 115, 101]⟩
def one8 : Robot := ⟨[⟨baseT, 3, -1, ⟨0, 0, 0⟩, -16384, 16384, 1, 65536, 65536, 65536⟩], []⟩
def st8 : Stmt := ⟨1, wJoint, [baseT, ⟨#[116, 117, 114, 110, 122]⟩, worldT, ⟨#[48]⟩, ⟨#[48]⟩, ⟨#[48]⟩, ⟨#[45, 48, 46, 50, 53]⟩, ⟨#[48, 46, 50, 53]⟩, ⟨#[49]⟩]⟩
theorem read_one : readRobot [st8] = (one8, 0, 0) := by decide +kernel
theorem st8_ok : ∀ s ∈ [st8], stOk s := by
  have h : stOk st8 := by unfold stOk; decide
  intro s hs
  simp only [List.mem_singleton] at hs
  subst hs; exact h
theorem one_ok : checkRobot one8 = 0 := by decide
/- the joints of a chain -/
theorem chain_last {js : List Joint} (hd : downOk js) {k : Nat} (hk : k < js.length) : (chain js k)[(chain js k).length - 1]? = some (k : Int) ∧ 0 < (chain js k).length := by
  obtain ⟨j, hj⟩ : ∃ j, js[k]? = some j := ⟨_, List.getElem?_eq_getElem hk⟩
  rw [chain_step hd hj]
  simp
theorem chain_par {js : List Joint} (hd : downOk js) : ∀ k : Int, -1 ≤ k → k < js.length → ∀ (i : Nat) (x : Int), (chain js k)[i]? = some x → 0 ≤ x ∧ x < js.length ∧ ∃ j, js[x.toNat]? = some j ∧ j.parent = if i = 0 then -1 else (chain js k).getD (i - 1) 0 := by
  refine link_ind hd ?_ ?_
  · intro i x h
    rw [chain_neg js (by decide)] at h
    simp at h
  · intro k j hj ih i x h
    have hkl : k < js.length := (List.getElem?_eq_some_iff.1 hj).1
    rw [chain_step hd hj] at h ⊢
    rcases Nat.lt_or_ge i (chain js j.parent).length with hi | hi
    · rw [List.getElem?_append_left hi] at h
      obtain ⟨h1, h2, j', h3, h4⟩ := ih i x h
      refine ⟨h1, h2, j', h3, ?_⟩
      rw [h4]
      split
      · rfl
      · rw [List.getD_eq_getElem?_getD, List.getD_eq_getElem?_getD, List.getElem?_append_left (by omega)]
    · have hi2 : i = (chain js j.parent).length := by
        have := (List.getElem?_eq_some_iff.1 h).1
        simp at this; omega
      rw [List.getElem?_append_right hi, hi2, Nat.sub_self] at h
      simp at h
      subst h
      refine ⟨by omega, by omega, j, by simpa using hj, ?_⟩
      obtain ⟨d1, d2⟩ := hd k j hj
      rcases (by omega : j.parent < 0 ∨ 0 ≤ j.parent) with hp | hp
      · have hp : j.parent = -1 := by omega
        rw [hp, chain_neg js (by decide)] at hi2
        rw [if_pos (by simpa using hi2), hp]
      · obtain ⟨p, hpe⟩ : ∃ p : Nat, j.parent = p := ⟨j.parent.toNat, by omega⟩
        rw [hpe] at hi2 ⊢
        obtain ⟨l1, l2⟩ := chain_last hd (k := p) (by omega)
        rw [if_neg (by omega), hi2, List.getD_eq_getElem?_getD, List.getElem?_append_left (by omega), l1]; rfl
theorem chain_len {js : List Joint} (hd : downOk js) : ∀ k : Int, -1 ≤ k → k < js.length → ((chain js k).length : Int) ≤ k + 1 := by
  refine link_ind hd ?_ ?_
  · rw [chain_neg js (by decide)]; decide
  · intro k j hj ih
    obtain ⟨d1, d2⟩ := hd k j hj
    rw [chain_step hd hj, List.length_append, List.length_singleton]; omega
end Go.Proofs.YtafglmjadbplcaaDoor

/- The reference's Chain, member, Between, Rigid. -/
namespace Go.Proofs.YtafglmjadbplcaaDoor
open Eng
set_option maxRecDepth 10000
attribute [local irreducible] FnOk loopW idxF retX arrF

def hasR (r : Robot) (ks : List Int) : Bool := ks.all (linkOk r.joints.length) && decide (checkRobot r = 0)
theorem hasR_good {r : Robot} {ks : List Int} (h : hasR r ks = true) : checkRobot r = 0 ∧ ∀ k ∈ ks, -1 ≤ k ∧ k < r.joints.length := by
  simp only [hasR, Bool.and_eq_true, List.all_eq_true, decide_eq_true_eq] at h
  exact ⟨h.2, fun k hk => link_bd (h.1 k hk)⟩
def chainR (r : Robot) (k : Int) : List Int := if hasR r [k] then chain r.joints k else []
theorem chain_len' {js : List Joint} (hd : downOk js) : ∀ k : Int, -1 ≤ k → k < js.length → ((chain js k).length : Int) ≤ k + 1 := by
  refine link_ind hd ?_ ?_
  · rw [chain_neg js (by decide)]; decide
  · intro k j hj ih
    obtain ⟨d1, d2⟩ := hd k j hj
    rw [chain_step hd hj, List.length_append, List.length_singleton]; omega
abbrev bIn (l : List Int) : Box := .rows Y.int 1 (l.map encI)
def btwP (js : List Joint) (a b : Int) (i : Nat) : Bool := decide ((chain js a).count (i : Int) + (chain js b).count (i : Int) = 1)
theorem btwP_out {js : List Joint} (hd : downOk js) {a b : Int} (a1 : -1 ≤ a) (a2 : a < js.length) (b1 : -1 ≤ b) (b2 : b < js.length) {i : Nat} (hi : js.length ≤ i) : btwP js a b i = false := by
  have h1 : (i : Int) ∉ chain js a := fun h => by have := (chain_in hd a a1 a2).1 _ h; omega
  have h2 : (i : Int) ∉ chain js b := fun h => by have := (chain_in hd b b1 b2).1 _ h; omega
  rw [btwP, List.count_eq_zero.2 h1, List.count_eq_zero.2 h2]; rfl
theorem btwP_mem {js : List Joint} (hd : downOk js) {a b : Int} (a1 : -1 ≤ a) (a2 : a < js.length) (b1 : -1 ≤ b) (b2 : b < js.length) (i : Nat) : btwP js a b i = (decide ((i : Int) ∈ chain js a) != decide ((i : Int) ∈ chain js b)) := by
  rw [btwP, count_in (chain_in hd a a1 a2).2.1, count_in (chain_in hd b b1 b2).2.1]
  by_cases h1 : (i : Int) ∈ chain js a <;> by_cases h2 : (i : Int) ∈ chain js b <;> simp [h1, h2]
theorem filter_one (P : Nat → Bool) (x : Nat) : [x].filter P = if P x then [x] else [] := by cases h : P x <;> simp [h]
theorem filter_range {P : Nat → Bool} {n : Nat} (h : ∀ i, n ≤ i → P i = false) : ∀ d, (List.range (n + d)).filter P = (List.range n).filter P
  | 0 => rfl
  | d + 1 => by
    rw [← Nat.add_assoc, List.range_succ, List.filter_append, filter_range h d, filter_one, h _ (by omega)]; simp
theorem btw_eq {js : List Joint} (hl : js.length ≤ 10) (hd : downOk js) {a b : Int} (a1 : -1 ≤ a) (a2 : a < js.length) (b1 : -1 ≤ b) (b2 : b < js.length) : (List.range js.length).filter (btwP js a b) = btw js a b := by
  have := filter_range (P := btwP js a b) (n := js.length) (fun i hi => btwP_out hd a1 a2 b1 b2 hi) (10 - js.length)
  rw [show js.length + (10 - js.length) = 10 by omega] at this
  exact this.symm
def btwR (r : Robot) (a b : Int) : List Int := if hasR r [a, b] then (btw r.joints a b).map fun (i : Nat) => (i : Int) else []
def rigidR (r : Robot) (a b : Int) : Bool := hasR r [a, b] && rigid r.joints a b
theorem lo_hi {r : Robot} (h : checkRobot r = 0) {k : Nat} {j : Joint} (hj : r.joints[k]? = some j) : j.lo ≤ j.hi := ((robot_facts h).2.1 k j hj).2.2.2.2.1.1
end Go.Proofs.YtafglmjadbplcaaDoor

/- law8: Between, Rigid, Find; RobotBetween, RobotChains. -/
namespace Go.Proofs.YtafglmjadbplcaaDoor
open Eng
set_option maxRecDepth 10000
attribute [local irreducible] FnOk loopW idxF retX arrF findF

theorem ref_Find (r : Robot) (nm : ByteArray) (hl : r.joints.length ≤ 4611686018427387904) : FnOk Tryd.prog F.ref6_Find [Ro r, Tx nm] [] 0 (I (find r.joints nm 0)) [] 0 := by
  refine fnOk tab mix G.ref6_Find rfl rfl (by kernel_rfl) rfl rfl ?_
  (conv => whnf)
  refine loop_intro (fun k : Nat => ⟨[(1, Tx nm), (2, .one (.vptr 0 0)), (5, I k)], [(0, bRo r)], 1⟩) (fun k => k ≤ r.joints.length ∧ find r.joints nm 0 = find (r.joints.drop k) nm k) (fun k => r.joints.length - k) [] 0 [] ⟨Nat.zero_le _, rfl⟩ ⟨⟨rfl, rfl, rfl, trivial⟩, ⟨rfl, trivial⟩⟩ ?_
  rintro k ⟨hk, hf⟩
  have hkk : IntKind.i64.wrap ((k : Int) + 1) = ((k + 1 : Nat) : Int) := by rw [w64] <;> omega
  (conv => whnf)
  refine ask_m (fun h => ?_) (fun h => ?_)
  · have hlt : k < r.joints.length := by simpa using h
    obtain ⟨j, hj⟩ : ∃ j, r.joints[k]? = some j := ⟨_, List.getElem?_eq_getElem hlt⟩
    rw [drop_cons hj, find] at hf
    (conv => whnf)
    refine idx_and (by omega) (by simpa using hj) ?_
    (conv => whnf)
    refine ask_m (fun he => ?_) (fun he => ?_)
    · have he : j.name = nm := of_decide_eq_true he
      rw [if_pos he] at hf
      (conv => whnf)
      refine ret0 ?_
      exact ret_i hf.symm rfl
    · have he : ¬ j.name = nm := of_decide_eq_false he
      rw [if_neg he] at hf
      (conv => whnf)
      exact ⟨k + 1, [], ⟨hlt, hf⟩, by omega, ⟨⟨rfl, rfl, eqI hkk, trivial⟩, ⟨rfl, trivial⟩⟩⟩
  · have hk : k = r.joints.length := by simp at h; omega
    subst hk
    rw [List.drop_length, find] at hf
    (conv => whnf)
    refine ret0 ?_
    exact ret_i hf.symm rfl
theorem chainR_len (r : Robot) (k : Int) : (chainR r k).length ≤ 100 := by
  rw [chainR]
  split
  · rename_i h
    obtain ⟨h1, h2⟩ := hasR_good h
    obtain ⟨g1, g2, g3⟩ := robot_good h1
    have h3 := h2 k (by simp)
    have := chain_len g3 k h3.1 h3.2
    omega
  · simp
theorem btw_len (js : List Joint) (a b : Int) : (btw js a b).length ≤ 10 := by
  have := List.length_filter_le (btwP js a b) (List.range 10)
  rw [List.length_range] at this
  exact this
theorem btwR_len (r : Robot) (a b : Int) : (btwR r a b).length ≤ 100 := by
  rw [btwR]
  split
  · have := btw_len r.joints a b
    rw [List.length_map]; omega
  · simp
theorem btw_sym (js : List Joint) (a b : Int) : btw js a b = btw js b a := by
  rw [btw, btw]
  refine List.filter_congr fun i _ => ?_
  rw [Nat.add_comm]
theorem btw_self {js : List Joint} (a : Int) : btw js a a = [] := by
  rw [btw, List.filter_eq_nil_iff]
  intro i _
  simp; omega
theorem mem_btw {js : List Joint} (hl : js.length ≤ 10) (hd : downOk js) {a b : Int} (a1 : -1 ≤ a) (a2 : a < js.length) (b1 : -1 ≤ b) (b2 : b < js.length) (i : Nat) (hi : i < 10) : ((i : Int) ∈ (btw js a b).map fun (i : Nat) => (i : Int)) ↔ (decide ((i : Int) ∈ chain js a) != decide ((i : Int) ∈ chain js b)) = true := by
  rw [← btwP_mem hd a1 a2 b1 b2 i]
  constructor
  · intro h
    obtain ⟨k, hk, e⟩ := List.mem_map.1 h
    have : k = i := by omega
    subst this
    exact (List.mem_filter.1 hk).2
  · intro h
    exact List.mem_map.2 ⟨i, List.mem_filter.2 ⟨List.mem_range.2 hi, h⟩, rfl⟩
theorem bxor3 : ∀ p q s : Bool, (p != q) = true → decide ((p != s) = true) ≠ decide ((s != q) = true) := by
  intro p q s h
  cases p <;> cases q <;> cases s <;> first | (exact absurd h (by decide)) | decide
end Go.Proofs.YtafglmjadbplcaaDoor

/- ref.numbers, ref.readJoint. -/
namespace Go.Proofs.YtafglmjadbplcaaDoor
open Eng
set_option maxRecDepth 10000
attribute [local irreducible] FnOk loopW idxF retX arrF findF

theorem ref_numbers (ws : List ByteArray) (hl : ws.length ≤ 1000) (hs : ∀ w ∈ ws, w.size ≤ 4611686018427387904) : FnOk Tryd.prog F.ref6_numbers [.one (.dv (.lst 1 (ws.map encA)))] [] 0 (NsR (numsOf numOf ws)) [] 0 := by
  refine fnOk tab mix G.ref6_numbers rfl rfl (by kernel_rfl) rfl rfl ?_
  (conv => whnf)
  refine loop_intro (fun k : Nat => ⟨[(0, .one (.dv (.lst 1 (ws.map encA)))), (2, .one (.nil 1)), (4, .one (.row 0)), (5, I k)], [(0, .rows Y.int64 1 (((ws.take k).map fun w => (numOf w).1).map encI))], 1⟩) (fun k => k ≤ ws.length ∧ ((ws.take k).all fun w => (numOf w).2) = true) (fun k => ws.length - k) [.own 4 Y.int64 1] 0 [] ⟨Nat.zero_le _, rfl⟩ ⟨⟨rfl, rfl, rfl, rfl, trivial⟩, ⟨rfl, trivial⟩⟩ ?_
  rintro k ⟨hk, hall⟩
  have hkk : IntKind.i64.wrap ((k : Int) + 1) = ((k + 1 : Nat) : Int) := by rw [w64] <;> omega
  (conv => whnf)
  refine ask_m (fun h => ?_) (fun h => ?_)
  · have hlt : k < ws.length := by have := of_decide_eq_true h; simp at this; omega
    obtain ⟨w, hw⟩ : ∃ w, ws[k]? = some w := ⟨_, List.getElem?_eq_getElem hlt⟩
    (conv => whnf)
    refine idx_and (by omega) (by simpa using hw) ?_
    (conv => whnf)
    refine call_i (ref_Number w (hs w (List.mem_of_getElem? hw))) ?_
    (conv => whnf)
    cases hb : (numOf w).2 with
    | false =>
      (conv => whnf)
      rw [numsOf_not hw hb]
      (conv => whnf)
      refine retO [.own 2 Y.int64 1, .frz 1] ?_
      (conv => whnf)
      exact ⟨[], ⟨rfl, trivial⟩, trivial⟩
    | true =>
      (conv => whnf)
      refine ⟨⟨by simp; omega, by simp; omega⟩, ?_⟩
      (conv => whnf)
      refine ⟨k + 1, [(0, 2)], ⟨hlt, all_take hall hw hb⟩, by omega, ⟨⟨rfl, rfl, rfl, eqI hkk, trivial⟩, ⟨rows_eq ?_, trivial⟩⟩⟩
      rw [map_take1 _ hw, List.map_append]; rfl
  · have hk : k = ws.length := by have := of_decide_eq_false h; simp at this; omega
    subst hk
    rw [List.take_length] at hall
    rw [numsOf_all hall, List.take_length]
    (conv => whnf)
    (conv => whnf)
    refine retO [.frz 0] ?_
    (conv => whnf)
    exact ⟨[], ⟨rfl, trivial⟩, trivial⟩
def refJ (js : List Joint) (n k p x y z lo hi w : ByteArray) : Joint × Int :=
  if nameOk n = false ∨ 0 ≤ find js n 0 then (⟨n, 0, 0, ⟨0, 0, 0⟩, 0, 0, 0, 65536, 65536, 65536⟩, 802)
  else if kindI k < 0 then (⟨n, kindI k, 0, ⟨0, 0, 0⟩, 0, 0, 0, 65536, 65536, 65536⟩, 803)
  else if p ≠ worldT ∧ find js p 0 < 0 then (⟨n, kindI k, find js p 0, ⟨0, 0, 0⟩, 0, 0, 0, 65536, 65536, 65536⟩, 810)
  else if ¬ (([x, y, z, lo, hi].all fun w => (numOf w).2) = true ∧ (intOf w).2 = true) then (⟨n, kindI k, if p = worldT then -1 else find js p 0, ⟨0, 0, 0⟩, 0, 0, 0, 65536, 65536, 65536⟩, 809)
  else (⟨n, kindI k, if p = worldT then -1 else find js p 0, ⟨(numOf x).1, (numOf y).1, (numOf z).1⟩, (numOf lo).1, (numOf hi).1, (intOf w).1, 65536, 65536, 65536⟩, 0)
theorem refJ_read (js : List Joint) (n k p x y z lo hi w : ByteArray) : (refJ js n k p x y z lo hi w).2 = (readJ js [n, k, p, x, y, z, lo, hi, w]).1 ∧ ((readJ js [n, k, p, x, y, z, lo, hi, w]).1 = 0 → (readJ js [n, k, p, x, y, z, lo, hi, w]).2 = js ++ [(refJ js n k p x y z lo hi w).1]) := by
  unfold refJ readJ
  simp only
  split
  · exact ⟨rfl, fun h => absurd h (by show ¬ (802 : Int) = 0; decide)⟩
  split
  · exact ⟨rfl, fun h => absurd h (by show ¬ (803 : Int) = 0; decide)⟩
  split
  · exact ⟨rfl, fun h => absurd h (by show ¬ (810 : Int) = 0; decide)⟩
  split
  · exact ⟨rfl, fun h => absurd h (by show ¬ (809 : Int) = 0; decide)⟩
  · exact ⟨rfl, fun _ => rfl⟩
theorem neW {p : ByteArray} (h : p ≠ worldT) : (!decide (p = worldT)) = true := by simp [h]
theorem eqW {p : ByteArray} (h : p = worldT) : (!decide (p = worldT)) = false := by simp [h]
abbrev JR (q : Joint × Int) : SV := .tup [(true, (encJ q.1).map CV.dv), (false, [.dv (.int .i64 q.2)])]
theorem ref_readJoint (r : Robot) (n k p x y z lo hi w : ByteArray) (hr : r.joints.length ≤ 1000000000) (hs : ∀ u ∈ [x, y, z, lo, hi], u.size ≤ 4611686018427387904) (hw : w.size ≤ 4611686018427387904) : FnOk Tryd.prog F.ref6_readJoint [Ro r, .one (.dv (dAs [n, k, p, x, y, z, lo, hi, w]))] [] 0 (JR (refJ r.joints n k p x y z lo hi w)) [] 0 := by
  refine fnOk tab mix G.ref6_readJoint rfl rfl (by kernel_rfl) rfl rfl ?_
  (conv => whnf)
  refine idx_and (xs := [n, k, p, x, y, z, lo, hi, w]) (x := n) (by decide) rfl ?_
  (conv => whnf)
  refine idx_and (xs := [n, k, p, x, y, z, lo, hi, w]) (x := n) (by decide) rfl ?_
  (conv => whnf)
  refine call_i (ref_Name n) ?_
  (conv => whnf)
  cases hn : nameOk n with
  | false =>
    (conv => whnf)
    rw [refJ, if_pos (.inl hn)]
    (conv => whnf)
    refine retO [] ?_
    (conv => whnf)
    exact ⟨[], ⟨rfl, trivial⟩, trivial⟩
  | true =>
  (conv => whnf)
  refine idx_and (xs := [n, k, p, x, y, z, lo, hi, w]) (x := n) (by decide) rfl ?_
  (conv => whnf)
  refine call_i (ref_Find r n (by omega)) ?_
  (conv => whnf)
  refine ask_m (fun h => ?_) (fun h => ?_)
  · have h : 0 ≤ find r.joints n 0 := of_decide_eq_true h
    rw [refJ, if_pos (.inr h)]
    (conv => whnf)
    refine retO [] ?_
    (conv => whnf)
    exact ⟨[], ⟨rfl, trivial⟩, trivial⟩
  have h : ¬ 0 ≤ find r.joints n 0 := of_decide_eq_false h
  rw [refJ, if_neg (by rw [hn]; simp; omega)]
  (conv => whnf)
  refine idx_and (xs := [n, k, p, x, y, z, lo, hi, w]) (x := k) (by decide) rfl ?_
  (conv => whnf)
  refine call_i (ref_kindOf k) ?_
  (conv => whnf)
  refine ask_m (fun hk => ?_) (fun hk => ?_)
  · have hk : kindI k < 0 := of_decide_eq_true hk
    rw [if_pos hk]
    (conv => whnf)
    refine retO [] ?_
    (conv => whnf)
    exact ⟨[], ⟨rfl, trivial⟩, trivial⟩
  have hk : ¬ kindI k < 0 := of_decide_eq_false hk
  rw [if_neg hk]
  (conv => whnf)
  refine idx_and (xs := [n, k, p, x, y, z, lo, hi, w]) (x := p) (by decide) rfl ?_
  (conv => whnf)
  by_cases hc : p ≠ worldT ∧ find r.joints p 0 < 0
  · rw [if_pos hc]
    refine ask_mt (neW hc.1) ?_
    (conv => whnf)
    refine idx_and (xs := [n, k, p, x, y, z, lo, hi, w]) (x := p) (by decide) rfl ?_
    (conv => whnf)
    refine call_i (ref_Find r p (by omega)) ?_
    (conv => whnf)
    refine ask_mt (decide_eq_true hc.2) ?_
    (conv => whnf)
    refine retO [] ?_
    (conv => whnf)
    exact ⟨[], ⟨rfl, trivial⟩, trivial⟩
  rw [if_neg hc]
  by_cases hp : p = worldT
  case' pos =>
    refine ask_mf (eqW hp) ?_
    rw [if_pos hp]
  case' neg =>
    refine ask_mt (neW hp) ?_
    (conv => whnf)
    refine idx_and (xs := [n, k, p, x, y, z, lo, hi, w]) (x := p) (by decide) rfl ?_
    (conv => whnf)
    refine call_i (ref_Find r p (by omega)) ?_
    (conv => whnf)
    have h0 : ¬ find r.joints p 0 < 0 := fun h => hc ⟨hp, h⟩
    refine ask_mf (decide_eq_false h0) ?_
    rw [if_neg hp]
  all_goals
    (conv => whnf)
    refine ⟨⟨by decide, by decide, by simp⟩, ?_⟩
    (conv => whnf)
    refine call_i (ref_numbers [x, y, z, lo, hi] (by simp) hs) ?_
    (conv => whnf)
    refine idx_and (xs := [n, k, p, x, y, z, lo, hi, w]) (x := w) (by decide) rfl ?_
    (conv => whnf)
    refine call_i (ref_Integer w hw) ?_
    (conv => whnf)
    cases hall : [x, y, z, lo, hi].all fun w => (numOf w).2 with
    | false =>
      have hno : numsOf numOf [x, y, z, lo, hi] = none := by
        obtain ⟨w, hw, hb⟩ := List.all_eq_false.1 hall
        obtain ⟨k, hk⟩ := List.getElem?_of_mem hw
        exact numsOf_not hk (by simpa using hb)
      rw [hno]
      (conv => whnf)
      rw [if_pos (by simp)]
      (conv => whnf)
      refine retO [] ?_
      (conv => whnf)
      exact ⟨[], ⟨rfl, trivial⟩, trivial⟩
    | true =>
    rw [numsOf_all hall]
    (conv => whnf)
    cases hw2 : (intOf w).2 with
    | false =>
      (conv => whnf)
      rw [if_pos (by simp)]
      (conv => whnf)
      refine retO [] ?_
      (conv => whnf)
      exact ⟨[], ⟨rfl, trivial⟩, trivial⟩
    | true =>
    rw [if_neg (by simp)]
    (conv => whnf)
    refine idx_and (xs := [x, y, z, lo, hi].map fun w => (numOf w).1) (x := (numOf x).1) (by decide) rfl ?_
    (conv => whnf)
    refine idx_and (xs := [x, y, z, lo, hi].map fun w => (numOf w).1) (x := (numOf y).1) (by decide) rfl ?_
    (conv => whnf)
    refine idx_and (xs := [x, y, z, lo, hi].map fun w => (numOf w).1) (x := (numOf z).1) (by decide) rfl ?_
    (conv => whnf)
    refine idx_and (xs := [x, y, z, lo, hi].map fun w => (numOf w).1) (x := (numOf lo).1) (by decide) rfl ?_
    (conv => whnf)
    refine idx_and (xs := [x, y, z, lo, hi].map fun w => (numOf w).1) (x := (numOf hi).1) (by decide) rfl ?_
    (conv => whnf)
    (conv => whnf)
    refine retO [] ?_
    (conv => whnf)
    exact ⟨[], ⟨rfl, trivial⟩, trivial⟩
end Go.Proofs.YtafglmjadbplcaaDoor

/- ref.ReadRobot. -/
namespace Go.Proofs.YtafglmjadbplcaaDoor
open Eng
set_option maxRecDepth 10000
attribute [local irreducible] FnOk loopW idxF retX arrF findF

theorem isLit {w c d : ByteArray} (h : w = c) (e : c = d) : decide (w = d) = true := decide_eq_true (h.trans e)
theorem noLit {w c d : ByteArray} (h : w ≠ c) (e : c = d) : decide (w = d) = false := decide_eq_false (by rw [← e]; exact h)
theorem flJ (q : Joint × Int) : FlatS (JR q) := by
  intro t ht c hc
  simp only [List.mem_cons, List.not_mem_nil, or_false] at ht
  rcases ht with rfl | rfl
  · simp only [encJ, List.map_cons, List.map_nil, List.mem_cons, List.not_mem_nil, or_false] at hc
    rcases hc with rfl | rfl | rfl | rfl | rfl | rfl | rfl | rfl | rfl | rfl | rfl | rfl <;> trivial
  · simp only [List.mem_cons, List.not_mem_nil, or_false] at hc
    subst hc; trivial
set_option maxHeartbeats 2000000 in
theorem ref_ReadRobot (l : List Stmt) (hl : l.length ≤ 10000000) (hs : ∀ s ∈ l, stOk s) : FnOk Tryd.prog F.ref6_ReadRobot [.one (.dv (dSts l))] [] 0 (RdR (readRobot l)) [] 0 := by
  refine fnOk tab mix G.ref6_ReadRobot rfl rfl (by kernel_rfl) rfl rfl ?_
  (conv => whnf)
  refine loop_intro (fun p : Nat × Robot => ⟨[(0, .one (.dv (dSts l))), (2, .one (.vptr 0 0)), (3, .one (.vptr 1 0)), (4, .one (.vptr 2 0)), (5, I p.1)], [(0, .vars Y.Robot [.nil 12, .nil 5]), (1, .vars Y.SourceError [.dv (.int .i64 0), .dv (.int .i64 0)]), (2, .vars Y.Robot [.row 3, .row 4]), (3, .rows Y.Joint 12 (p.2.joints.map encJ)), (4, .rows Y.Mass 5 (p.2.masses.map encM))], 5⟩) (fun p => p.1 ≤ l.length ∧ p.2.joints.length ≤ p.1 ∧ p.2.masses.length ≤ p.1 ∧ readAll p.2 (l.drop p.1) = readAll emptyR l) (fun p => l.length - p.1) [.ownC 2 0 Y.Joint 12, .ownC 2 1 Y.Mass 5] (0, emptyR) [] ⟨Nat.zero_le _, Nat.zero_le _, Nat.zero_le _, rfl⟩ ⟨⟨rfl, rfl, rfl, rfl, rfl, trivial⟩, ⟨rfl, rfl, rfl, rfl, rfl, trivial⟩⟩ ?_
  rintro ⟨k, r⟩ ⟨hk, hj, hm, hall⟩
  simp only at hk hj hm hall
  have hkk : IntKind.i64.wrap ((k : Int) + 1) = ((k + 1 : Nat) : Int) := by rw [w64] <;> omega
  (conv => whnf)
  refine ask_m (fun hlt => ?_) (fun hlt => ?_)
  · have hlt : k < l.length := by simpa using hlt
    obtain ⟨s, hsk⟩ : ∃ s, l[k]? = some s := ⟨_, List.getElem?_eq_getElem hlt⟩
    rw [drop_cons hsk, readAll] at hall
    have hlen := readSt_len r s
    have hso := hs s (List.mem_of_getElem? hsk)
    (conv => whnf)
    refine idx_and (by omega) (by simpa using hsk) ?_
    (conv => whnf)
    by_cases h1 : s.word = wJoint
    · have d1 : decide (s.word = (⟨#[106, 111, 105, 110, 116]⟩ : ByteArray)) = true := isLit h1 rfl
      rw [d1]
      (conv => whnf)
      refine call_i (ref_Arguments s.word ((s.args.map encA).length)) ?_
      (conv => whnf)
      rw [List.length_map]
      cases ha : argsB s.word (s.args.length : Int) with
      | false =>
        have hst : readSt r s = (702, r) := by rw [readSt, if_pos h1, if_pos ha]
        rw [hst] at hall
        simp only at hall
        rw [if_neg (by decide)] at hall
        rw [readRobot, ← hall, if_pos (by show ¬ (702 : Int) = 0; decide)]
        (conv => whnf)
        refine retO [.ownC 0 0 Y.Joint 12, .ownC 0 1 Y.Mass 5, .frz 6, .frz 7] ?_
        (conv => whnf)
        exact ⟨[], ⟨rfl, trivial⟩, trivial⟩
      | true =>
        obtain ⟨n, kk, p, x, y, z, lo, hi, w, e⟩ := len9 (args_joint (by rw [h1] at ha; exact ha))
        have hst : readSt r s = ((readJ r.joints s.args).1, ⟨(readJ r.joints s.args).2, r.masses⟩) := by rw [readSt, if_pos h1, if_neg (by rw [ha]; decide)]
        rw [hst] at hall hlen
        simp only at hall hlen
        rw [e] at hall hlen ⊢
        obtain ⟨q1, q2⟩ := refJ_read r.joints n kk p x y z lo hi w
        have hrj := ref_readJoint r n kk p x y z lo hi w (by omega) (fun w hw => hso w (by rw [e]; simp only [List.mem_cons, List.not_mem_nil, or_false] at hw ⊢; rcases hw with h | h | h | h | h <;> simp [h])) (hso w (by rw [e]; simp))
        generalize refJ r.joints n kk p x y z lo hi w = q at *
        generalize readJ r.joints [n, kk, p, x, y, z, lo, hi, w] = J at *
        (conv => whnf)
        rw [d1]
        (conv => whnf)
        refine call_i (hrj) ?_
        (conv => whnf)
        refine ⟨⟨flJ q, trivial⟩, ?_⟩
        (conv => whnf)
        refine ⟨⟨by simp; omega, by simp; omega⟩, ?_⟩
        (conv => whnf)
        refine ask_m (fun he => ?_) (fun he => ?_)
        · have he : ¬ q.2 = 0 := by simpa using he
          rw [if_neg (by rw [← q1]; exact he)] at hall
          rw [readRobot, ← hall, if_pos (by show ¬ J.1 = 0; rw [← q1]; exact he), ← q1]
          (conv => whnf)
          refine retO [.ownC 0 0 Y.Joint 12, .ownC 0 1 Y.Mass 5, .frz 9, .frz 10] ?_
          (conv => whnf)
          exact ⟨[], ⟨rfl, trivial⟩, trivial⟩
        · have he : q.2 = 0 := by simpa using he
          rw [if_pos (by rw [← q1]; exact he)] at hall
          have q2 := q2 (by rw [← q1]; exact he)
          (conv => whnf)
          exact ⟨(k + 1, ⟨J.2, r.masses⟩), [(3, 8)], ⟨hlt, by simp only; omega, by simp only; omega, hall⟩, by simp only; omega, ⟨⟨rfl, rfl, rfl, rfl, eqI hkk, trivial⟩, ⟨rfl, rfl, rfl, rows_eq (by rw [q2, List.map_append]; rfl), rfl, trivial⟩⟩⟩
    have d1 : decide (s.word = (⟨#[106, 111, 105, 110, 116]⟩ : ByteArray)) = false := noLit h1 rfl
    rw [d1]
    (conv => whnf)
    by_cases h2 : s.word = wLimit
    · have d2 : decide (s.word = (⟨#[108, 105, 109, 105, 116]⟩ : ByteArray)) = true := isLit h2 rfl
      rw [d2]
      (conv => whnf)
      refine call_i (ref_Arguments s.word ((s.args.map encA).length)) ?_
      (conv => whnf)
      rw [List.length_map]
      cases ha : argsB s.word (s.args.length : Int) with
      | false =>
        have hst : readSt r s = (702, r) := by rw [readSt, if_neg h1, if_pos h2, if_pos ha]
        rw [hst] at hall
        simp only at hall
        rw [if_neg (by decide)] at hall
        rw [readRobot, ← hall, if_pos (by show ¬ (702 : Int) = 0; decide)]
        (conv => whnf)
        refine retO [.ownC 0 0 Y.Joint 12, .ownC 0 1 Y.Mass 5, .frz 6, .frz 7] ?_
        (conv => whnf)
        exact ⟨[], ⟨rfl, trivial⟩, trivial⟩
      | true =>
        obtain ⟨n, x, y, z, e⟩ := len4 (args_limit (by rw [h2] at ha; exact ha))
        have hsx := hso x (by rw [e]; simp)
        have hsy := hso y (by rw [e]; simp)
        have hsz := hso z (by rw [e]; simp)
        rw [e]
        (conv => whnf)
        rw [d1]
        (conv => whnf)
        refine idx_and (xs := [n, x, y, z]) (x := n) (by decide) rfl ?_
        (conv => whnf)
        refine call_i (ref_Find r n (by omega)) ?_
        (conv => whnf)
        refine ⟨⟨trivial, trivial⟩, ?_⟩
        (conv => whnf)
        by_cases hfn : find r.joints n 0 < 0
        · refine ask_mt (decide_eq_true hfn) ?_
          have hst : readSt r s = (810, r) := by rw [readSt, if_neg h1, if_pos h2, if_neg (by rw [ha]; decide), e, readL, if_pos hfn]
          rw [hst] at hall
          simp only at hall
          rw [if_neg (by decide)] at hall
          rw [readRobot, ← hall, if_pos (by show ¬ (810 : Int) = 0; decide)]
          (conv => whnf)
          refine retO [.ownC 0 0 Y.Joint 12, .ownC 0 1 Y.Mass 5, .frz 6, .frz 7] ?_
          (conv => whnf)
          exact ⟨[], ⟨rfl, trivial⟩, trivial⟩
        refine ask_mf (decide_eq_false hfn) ?_
        (conv => whnf)
        rw [d2]
        (conv => whnf)
        refine idx_and (xs := [n, x, y, z]) (x := n) (by decide) rfl ?_
        (conv => whnf)
        refine call_i (ref_Find r n (by omega)) ?_
        (conv => whnf)
        refine ⟨⟨trivial, trivial⟩, ?_⟩
        (conv => whnf)
        obtain ⟨i, hi⟩ : ∃ i : Nat, find r.joints n 0 = i := ⟨(find r.joints n 0).toNat, by omega⟩
        have hib : i < r.joints.length := by
          rcases find_bd r.joints n 0 with h | h <;> omega
        obtain ⟨j, hjj⟩ : ∃ j, r.joints[i]? = some j := ⟨_, List.getElem?_eq_getElem hib⟩
        have hmod := modJ_enc (limF x y z) r.joints i j hjj
        have hjr : (r.joints.map encJ)[i]? = some (encJ j) := by rw [List.getElem?_map, hjj]; rfl
        rw [hi]
        refine ⟨⟨by omega, by simp only [List.length_map]; omega⟩, ?_⟩
        (conv => whnf)
        rw [Int.toNat_natCast]
        refine idx_and (xs := [n, x, y, z]) (x := x) (by decide) rfl ?_
        (conv => whnf)
        refine call_i (ref_Integer x hsx) ?_
        (conv => whnf)
        refine idx_and (xs := [n, x, y, z]) (x := y) (by decide) rfl ?_
        (conv => whnf)
        refine call_i (ref_Integer y hsy) ?_
        (conv => whnf)
        refine idx_and (xs := [n, x, y, z]) (x := z) (by decide) rfl ?_
        (conv => whnf)
        refine call_i (ref_Integer z hsz) ?_
        (conv => whnf)
        cases b1 : (intOf x).2 with
        | false =>
          (conv => whnf)
          refine idx_at hjr ?_
          (conv => whnf)
          refine idx_at (List.getElem?_set_self (by rw [List.length_map]; exact hib)) ?_
          (conv => whnf)
          refine idx_at (List.getElem?_set_self (by rw [List.length_set, List.length_map]; exact hib)) ?_
          (conv => whnf)
          have hst : readSt r s = (809, r) := by rw [readSt, if_neg h1, if_pos h2, if_neg (by rw [ha]; decide), e, readL, if_neg hfn, if_pos (by simp [b1])]
          rw [hst] at hall
          simp only at hall
          rw [if_neg (by decide)] at hall
          rw [readRobot, ← hall, if_pos (by show ¬ (809 : Int) = 0; decide)]
          (conv => whnf)
          refine retO [.ownC 0 0 Y.Joint 12, .ownC 0 1 Y.Mass 5, .frz 6, .frz 7] ?_
          (conv => whnf)
          exact ⟨[], ⟨rfl, trivial⟩, trivial⟩
        | true =>
        (conv => whnf)
        cases b2 : (intOf y).2 with
        | false =>
          (conv => whnf)
          refine idx_at hjr ?_
          (conv => whnf)
          refine idx_at (List.getElem?_set_self (by rw [List.length_map]; exact hib)) ?_
          (conv => whnf)
          refine idx_at (List.getElem?_set_self (by rw [List.length_set, List.length_map]; exact hib)) ?_
          (conv => whnf)
          have hst : readSt r s = (809, r) := by rw [readSt, if_neg h1, if_pos h2, if_neg (by rw [ha]; decide), e, readL, if_neg hfn, if_pos (by simp [b2])]
          rw [hst] at hall
          simp only at hall
          rw [if_neg (by decide)] at hall
          rw [readRobot, ← hall, if_pos (by show ¬ (809 : Int) = 0; decide)]
          (conv => whnf)
          refine retO [.ownC 0 0 Y.Joint 12, .ownC 0 1 Y.Mass 5, .frz 6, .frz 7] ?_
          (conv => whnf)
          exact ⟨[], ⟨rfl, trivial⟩, trivial⟩
        | true =>
        (conv => whnf)
        cases b3 : (intOf z).2 with
        | false =>
          (conv => whnf)
          refine idx_at hjr ?_
          (conv => whnf)
          refine idx_at (List.getElem?_set_self (by rw [List.length_map]; exact hib)) ?_
          (conv => whnf)
          refine idx_at (List.getElem?_set_self (by rw [List.length_set, List.length_map]; exact hib)) ?_
          (conv => whnf)
          have hst : readSt r s = (809, r) := by rw [readSt, if_neg h1, if_pos h2, if_neg (by rw [ha]; decide), e, readL, if_neg hfn, if_pos (by simp [b3])]
          rw [hst] at hall
          simp only at hall
          rw [if_neg (by decide)] at hall
          rw [readRobot, ← hall, if_pos (by show ¬ (809 : Int) = 0; decide)]
          (conv => whnf)
          refine retO [.ownC 0 0 Y.Joint 12, .ownC 0 1 Y.Mass 5, .frz 6, .frz 7] ?_
          (conv => whnf)
          exact ⟨[], ⟨rfl, trivial⟩, trivial⟩
        | true =>
          have hst : readSt r s = (0, ⟨modJ r.joints i (limF x y z), r.masses⟩) := by rw [readSt, if_neg h1, if_pos h2, if_neg (by rw [ha]; decide), e, readL, if_neg hfn, if_neg (by simp [b1, b2, b3]), hi, Int.toNat_natCast]
          rw [hst] at hall hlen
          simp only at hall hlen
          rw [if_pos trivial] at hall
          (conv => whnf)
          refine idx_at hjr ?_
          (conv => whnf)
          refine idx_at (List.getElem?_set_self (by rw [List.length_map]; exact hib)) ?_
          (conv => whnf)
          refine idx_at (List.getElem?_set_self (by rw [List.length_set, List.length_map]; exact hib)) ?_
          (conv => whnf)
          refine ⟨(k + 1, ⟨modJ r.joints i (limF x y z), r.masses⟩), [], ⟨hlt, by simp only; omega, by simp only; omega, hall⟩, by simp only; omega, ⟨⟨rfl, rfl, rfl, rfl, eqI hkk, trivial⟩, ⟨rfl, rfl, rfl, rows_eq ?_, rfl, trivial⟩⟩⟩
          rw [List.set_set, List.set_set, hmod]; rfl
    have d2 : decide (s.word = (⟨#[108, 105, 109, 105, 116]⟩ : ByteArray)) = false := noLit h2 rfl
    rw [d2]
    (conv => whnf)
    by_cases h3 : s.word = wMass
    · have d3 : decide (s.word = (⟨#[109, 97, 115, 115]⟩ : ByteArray)) = true := isLit h3 rfl
      rw [d3]
      (conv => whnf)
      refine call_i (ref_Arguments s.word ((s.args.map encA).length)) ?_
      (conv => whnf)
      rw [List.length_map]
      cases ha : argsB s.word (s.args.length : Int) with
      | false =>
        have hst : readSt r s = (702, r) := by rw [readSt, if_neg h1, if_neg h2, if_pos h3, if_pos ha]
        rw [hst] at hall
        simp only at hall
        rw [if_neg (by decide)] at hall
        rw [readRobot, ← hall, if_pos (by show ¬ (702 : Int) = 0; decide)]
        (conv => whnf)
        refine retO [.ownC 0 0 Y.Joint 12, .ownC 0 1 Y.Mass 5, .frz 6, .frz 7] ?_
        (conv => whnf)
        exact ⟨[], ⟨rfl, trivial⟩, trivial⟩
      | true =>
        obtain ⟨n, m, x, y, z, e⟩ := len5 (args_mass (by rw [h3] at ha; exact ha))
        have hss : ∀ w ∈ [m, x, y, z], w.size ≤ 4611686018427387904 := fun w hw => hso w (by rw [e]; exact List.mem_cons_of_mem _ hw)
        rw [e]
        (conv => whnf)
        rw [d1]
        (conv => whnf)
        refine idx_and (xs := [n, m, x, y, z]) (x := n) (by decide) rfl ?_
        (conv => whnf)
        refine call_i (ref_Find r n (by omega)) ?_
        (conv => whnf)
        refine ⟨⟨trivial, trivial⟩, ?_⟩
        (conv => whnf)
        by_cases hfn : find r.joints n 0 < 0
        · refine ask_mt (decide_eq_true hfn) ?_
          have hst : readSt r s = (810, r) := by rw [readSt, if_neg h1, if_neg h2, if_pos h3, if_neg (by rw [ha]; decide), e, readM, if_pos hfn]
          rw [hst] at hall
          simp only at hall
          rw [if_neg (by decide)] at hall
          rw [readRobot, ← hall, if_pos (by show ¬ (810 : Int) = 0; decide)]
          (conv => whnf)
          refine retO [.ownC 0 0 Y.Joint 12, .ownC 0 1 Y.Mass 5, .frz 6, .frz 7] ?_
          (conv => whnf)
          exact ⟨[], ⟨rfl, trivial⟩, trivial⟩
        refine ask_mf (decide_eq_false hfn) ?_
        (conv => whnf)
        rw [d2]
        (conv => whnf)
        refine ⟨⟨by decide, by simp⟩, ?_⟩
        (conv => whnf)
        refine call_i (ref_numbers [m, x, y, z] (by simp) hss) ?_
        (conv => whnf)
        cases hal : [m, x, y, z].all fun w => (numOf w).2 with
        | false =>
          have hno : numsOf numOf [m, x, y, z] = none := by
            obtain ⟨w, hw, hb⟩ := List.all_eq_false.1 hal
            obtain ⟨k, hk⟩ := List.getElem?_of_mem hw
            exact numsOf_not hk (by simpa using hb)
          rw [hno]
          (conv => whnf)
          have hst : readSt r s = (809, r) := by rw [readSt, if_neg h1, if_neg h2, if_pos h3, if_neg (by rw [ha]; decide), e, readM, if_neg hfn, if_pos hal]
          rw [hst] at hall
          simp only at hall
          rw [if_neg (by decide)] at hall
          rw [readRobot, ← hall, if_pos (by show ¬ (809 : Int) = 0; decide)]
          (conv => whnf)
          refine retO [.ownC 0 0 Y.Joint 12, .ownC 0 1 Y.Mass 5, .frz 6, .frz 7] ?_
          (conv => whnf)
          exact ⟨[], ⟨rfl, trivial⟩, trivial⟩
        | true =>
          rw [numsOf_all hal]
          (conv => whnf)
          have hst : readSt r s = (0, ⟨r.joints, r.masses ++ [⟨find r.joints n 0, (numOf m).1, ⟨(numOf x).1, (numOf y).1, (numOf z).1⟩⟩]⟩) := by rw [readSt, if_neg h1, if_neg h2, if_pos h3, if_neg (by rw [ha]; decide), e, readM, if_neg hfn, if_neg (by rw [hal]; decide)]
          rw [hst] at hall hlen
          simp only at hall hlen
          rw [if_pos trivial] at hall
          refine idx_and (xs := [n, m, x, y, z]) (x := n) (by decide) rfl ?_
          (conv => whnf)
          refine call_i (ref_Find r n (by omega)) ?_
          (conv => whnf)
          refine ⟨⟨trivial, trivial⟩, ?_⟩
          (conv => whnf)
          refine idx_and (xs := [m, x, y, z].map fun w => (numOf w).1) (x := (numOf m).1) (by decide) rfl ?_
          (conv => whnf)
          refine idx_and (xs := [m, x, y, z].map fun w => (numOf w).1) (x := (numOf x).1) (by decide) rfl ?_
          (conv => whnf)
          refine idx_and (xs := [m, x, y, z].map fun w => (numOf w).1) (x := (numOf y).1) (by decide) rfl ?_
          (conv => whnf)
          refine idx_and (xs := [m, x, y, z].map fun w => (numOf w).1) (x := (numOf z).1) (by decide) rfl ?_
          (conv => whnf)
          refine ⟨⟨by simp; omega, by simp; omega⟩, ?_⟩
          (conv => whnf)
          exact ⟨(k + 1, ⟨r.joints, r.masses ++ [⟨find r.joints n 0, (numOf m).1, ⟨(numOf x).1, (numOf y).1, (numOf z).1⟩⟩]⟩), [(4, 7)], ⟨hlt, by simp only; omega, by simp only; omega, hall⟩, by simp only; omega, ⟨⟨rfl, rfl, rfl, rfl, eqI hkk, trivial⟩, ⟨rfl, rfl, rfl, rfl, rows_eq (by rw [List.map_append]; rfl), trivial⟩⟩⟩
    have d3 : decide (s.word = (⟨#[109, 97, 115, 115]⟩ : ByteArray)) = false := noLit h3 rfl
    rw [d3]
    (conv => whnf)
    have hst : readSt r s = (0, r) := by rw [readSt, if_neg h1, if_neg h2, if_neg h3]
    rw [hst] at hall hlen
    simp only at hall hlen
    rw [if_pos trivial] at hall
    exact ⟨(k + 1, r), [], ⟨hlt, by simp only; omega, by simp only; omega, hall⟩, by simp only; omega, ⟨⟨rfl, rfl, rfl, rfl, eqI hkk, trivial⟩, ⟨rfl, rfl, rfl, rfl, rfl, trivial⟩⟩⟩
  · have hk : k = l.length := by simp at hlt; omega
    subst hk
    rw [List.drop_length, readAll] at hall
    rw [readRobot, ← hall, if_neg (by simp)]
    (conv => whnf)
    refine call_i (ref_CheckRobot r (by omega) (by omega)) ?_
    (conv => whnf)
    refine ⟨⟨trivial, trivial⟩, ?_⟩
    (conv => whnf)
    refine ask_m (fun he => ?_) (fun he => ?_)
    · have he : ¬ checkRobot r = 0 := by simpa using he
      rw [if_pos he]
      (conv => whnf)
      refine retO [.ownC 0 0 Y.Joint 12, .ownC 0 1 Y.Mass 5, .frz 5, .frz 6] ?_
      (conv => whnf)
      exact ⟨[], ⟨rfl, trivial⟩, trivial⟩
    · have he : checkRobot r = 0 := by simpa using he
      rw [if_neg (by simp [he])]
      (conv => whnf)
      refine retO [.frz 3, .frz 4] ?_
      (conv => whnf)
      exact ⟨[], ⟨rfl, trivial⟩, trivial⟩
end Go.Proofs.YtafglmjadbplcaaDoor

/- Reading scenes: the models. No program in sight. -/
namespace Go.Proofs.YtafglmjadbplcaaDoor
open Eng
set_option maxRecDepth 10000

def linkI (js : List Joint) (w : ByteArray) : Int := if w = worldT then -1 else find js w 0
def linkB (js : List Joint) (w : ByteArray) : Bool := decide (w = worldT) || decide (0 ≤ find js w 0)
/-- points of coordinates -/
def ptsOf : List Int → List Vec
  | a :: b :: c :: l => ⟨a, b, c⟩ :: ptsOf l
  | _ => []
structure Acc where
  shapes : List Shape
  skips : List Skip
def acc0 : Acc := ⟨[], []⟩
def readSh (js : List Joint) (q : Acc) : List ByteArray → Int × Acc
  | n :: rd :: cs =>
    if linkB js n = false then (810, q)
    else if ((rd :: cs).all fun w => (numOf w).2) = false then (809, q)
    else (0, ⟨q.shapes ++ [⟨linkI js n, (numOf rd).1, ptsOf (cs.map fun w => (numOf w).1)⟩], q.skips⟩)
  | _ => (0, q)
def readSk (js : List Joint) (q : Acc) : List ByteArray → Int × Acc
  | [a, b] => if (linkB js a && linkB js b) = false then (810, q) else (0, ⟨q.shapes, q.skips ++ [⟨linkI js a, linkI js b⟩]⟩)
  | _ => (0, q)
def readSc (js : List Joint) (q : Acc) (s : Stmt) : Int × Acc :=
  if ¬ s.word = wShape ∧ ¬ s.word = wSkip then (0, q)
  else if argsB s.word s.args.length = false then (702, q)
  else if s.word = wShape then readSh js q s.args
  else readSk js q s.args
def readAcc (js : List Joint) : Acc → List Stmt → Acc × Int × Int
  | q, [] => (q, 0, 0)
  | q, s :: l => if (readSc js q s).1 = 0 then readAcc js (readSc js q s).2 l else (acc0, (readSc js q s).1, s.line)
def noScene : Scene := ⟨⟨[], []⟩, [], []⟩
def sceneOf (r : Robot) (q : Acc) : Scene := ⟨r, q.shapes, q.skips⟩
def readScene (l : List Stmt) : Scene × Int × Int :=
  if (readRobot l).2.1 ≠ 0 then (noScene, (readRobot l).2)
  else if (readAcc (readRobot l).1.joints acc0 l).2.1 ≠ 0 then (noScene, (readAcc (readRobot l).1.joints acc0 l).2)
  else if checkScene (sceneOf (readRobot l).1 (readAcc (readRobot l).1.joints acc0 l).1) ≠ 0 then (noScene, checkScene (sceneOf (readRobot l).1 (readAcc (readRobot l).1.joints acc0 l).1), 0)
  else (sceneOf (readRobot l).1 (readAcc (readRobot l).1.joints acc0 l).1, 0, 0)
theorem args_shape {n : Nat} (h : argsB wShape n = true) : 5 ≤ n ∧ n ≤ 26 ∧ (n - 2) % 3 = 0 := by
  have e : countsOf wShape = some ⟨5, 26, 3⟩ := rfl
  rw [argsB, e] at h
  simp [allowB] at h
  omega
theorem args_skip {n : Nat} (h : argsB wSkip n = true) : n = 2 := by
  have e : countsOf wSkip = some ⟨2, 2, 1⟩ := rfl
  rw [argsB, e] at h
  simp [allowB] at h
  omega
/-- rows of points of which the first k coordinates are set -/
def cAt (xs : List Int) (k i : Nat) : DV := .int .i64 (if i < k then xs.getD i 0 else 0)
def fillP (xs : List Int) (m k : Nat) : List (List DV) := (List.range m).map fun j => [cAt xs k (3 * j), cAt xs k (3 * j + 1), cAt xs k (3 * j + 2)]
theorem fillP_len (xs : List Int) (m k : Nat) : (fillP xs m k).length = m := by simp [fillP]
theorem fillP_at {xs : List Int} {m k j : Nat} (h : j < m) : (fillP xs m k)[j]? = some [cAt xs k (3 * j), cAt xs k (3 * j + 1), cAt xs k (3 * j + 2)] := by
  rw [fillP, List.getElem?_map, List.getElem?_range h]; rfl
theorem cAt_ne {xs : List Int} {k i : Nat} (h : i ≠ k) : cAt xs (k + 1) i = cAt xs k i := by
  unfold cAt
  by_cases h1 : i < k
  · rw [if_pos h1, if_pos (by omega)]
  · rw [if_neg h1, if_neg (by omega)]
theorem cAt_eq {xs : List Int} {k : Nat} {x : Int} (h : xs[k]? = some x) : cAt xs (k + 1) k = .int .i64 x := by
  unfold cAt
  rw [if_pos (by omega), List.getD_eq_getElem?_getD, h]; rfl
theorem fillP_set {xs : List Int} {m k : Nat} {x : Int} (h : xs[k]? = some x) (hk : k < 3 * m) :
    (fillP xs m k).set (k / 3) (([cAt xs k (3 * (k / 3)), cAt xs k (3 * (k / 3) + 1), cAt xs k (3 * (k / 3) + 2)] : List DV).set (k % 3) (.int .i64 x)) = fillP xs m (k + 1) := by
  apply List.ext_getElem?
  intro j
  by_cases hj : j < m
  · rw [fillP_at hj]
    by_cases e : j = k / 3
    · subst e
      rw [List.getElem?_set_self (by rw [fillP_len]; exact hj)]
      have h3 : k % 3 = 0 ∨ k % 3 = 1 ∨ k % 3 = 2 := by omega
      congr 1
      rcases h3 with h3 | h3 | h3
      · rw [h3, cAt_ne (i := 3 * (k / 3) + 1) (by omega), cAt_ne (i := 3 * (k / 3) + 2) (by omega), ← cAt_eq h, show 3 * (k / 3) = k by omega]; rfl
      · rw [h3, cAt_ne (i := 3 * (k / 3)) (by omega), cAt_ne (i := 3 * (k / 3) + 2) (by omega), ← cAt_eq h, show 3 * (k / 3) + 1 = k by omega]; rfl
      · rw [h3, cAt_ne (i := 3 * (k / 3)) (by omega), cAt_ne (i := 3 * (k / 3) + 1) (by omega), ← cAt_eq h, show 3 * (k / 3) + 2 = k by omega]; rfl
    · rw [List.getElem?_set_ne (fun h' => e h'.symm), fillP_at hj, cAt_ne (by omega), cAt_ne (by omega), cAt_ne (by omega)]
  · rw [List.getElem?_eq_none (by rw [List.length_set, fillP_len]; omega), List.getElem?_eq_none (by rw [fillP_len]; omega)]
theorem ptsOf_fill : ∀ (m : Nat) (xs : List Int), xs.length = 3 * m → (ptsOf xs).map encV = fillP xs m xs.length
  | 0, xs, h => by
    have : xs = [] := List.length_eq_zero_iff.1 (by omega)
    subst this; rfl
  | m + 1, xs, h => by
    match xs, h with
    | a :: b :: c :: l, h =>
      have ih := ptsOf_fill m l (by simp at h; omega)
      rw [ptsOf, List.map_cons, ih, fillP, fillP, List.range_succ_eq_map, List.map_cons, List.map_map]
      congr 1
      · apply List.map_congr_left
        intro j hj
        have hj := List.mem_range.1 hj
        have key : ∀ d, d < 3 → cAt l l.length (3 * j + d) = cAt (a :: b :: c :: l) (a :: b :: c :: l).length (3 * (j + 1) + d) := fun d hd => by
          unfold cAt
          have hl : l.length = 3 * m := by simp at h; omega
          rw [if_pos (by omega), if_pos (by simp only [List.length_cons]; omega)]
          rw [show 3 * (j + 1) + d = 3 * j + d + 1 + 1 + 1 by omega]
          simp [List.getD_eq_getElem?_getD]
        have k0 := key 0 (by omega)
        have k1 := key 1 (by omega)
        have k2 := key 2 (by omega)
        simp only [Nat.add_zero] at k0
        simp only [Function.comp_def]
        rw [k0, k1, k2]
theorem encV_ok : encV ⟨1, 2, 3⟩ = [.int .i64 1, .int .i64 2, .int .i64 3] := rfl
end Go.Proofs.YtafglmjadbplcaaDoor

/- A written scene is read again. No program in sight. -/
namespace Go.Proofs.YtafglmjadbplcaaDoor
open Eng
set_option maxRecDepth 10000

theorem other_st {r : Robot} {s : Stmt} (h1 : s.word ≠ wJoint) (h2 : s.word ≠ wLimit) (h3 : s.word ≠ wMass) : readSt r s = (0, r) := by
  rw [readSt, if_neg h1, if_neg h2, if_neg h3]
theorem readAll_rest : ∀ (l : List (ByteArray × List ByteArray)) (n : Nat) (r : Robot), (∀ p ∈ l, p.1 = wShape ∨ p.1 = wSkip) → readAll r (numb n l) = (r, 0, 0)
  | [], _, _, _ => rfl
  | p :: l, n, r, h => by
    have hp := h p (by simp)
    have e : readSt r ⟨(n : Int) + 1, p.1, p.2⟩ = (0, r) := by
      rcases hp with hp | hp
      · exact other_st (by show p.1 ≠ _; rw [hp]; decide) (by show p.1 ≠ _; rw [hp]; decide) (by show p.1 ≠ _; rw [hp]; decide)
      · exact other_st (by show p.1 ≠ _; rw [hp]; decide) (by show p.1 ≠ _; rw [hp]; decide) (by show p.1 ≠ _; rw [hp]; decide)
    show readAll r (⟨(n : Int) + 1, p.1, p.2⟩ :: numb (n + 1) l) = _
    rw [readAll, e]
    simp only [if_true]
    exact readAll_rest l (n + 1) r fun q hq => h q (by simp [hq])
theorem read_masses2 {js : List Joint} (hf : ∀ (i : Nat) j, js[i]? = some j → JF js i j) {l : List (ByteArray × List ByteArray)} (hl : ∀ p ∈ l, p.1 = wShape ∨ p.1 = wSkip) : ∀ (l2 l1 : List Mass) (n : Nat), (∀ m ∈ l2, massOk js.length m = true) → readAll ⟨js, l1⟩ (numb n (l2.map (mB js) ++ l)) = (⟨js, l1 ++ l2⟩, 0, 0)
  | [], l1, n, _ => by rw [List.append_nil]; exact readAll_rest l n _ hl
  | m :: l2, l1, n, h => by
    have e1 := step_mass hf (h m (by simp)) l1 ((n : Int) + 1)
    show readAll ⟨js, l1⟩ (⟨(n : Int) + 1, (mB js m).1, (mB js m).2⟩ :: numb (n + 1) (l2.map (mB js) ++ l)) = _
    rw [readAll, e1]
    simp only [if_true]
    rw [read_masses2 hf hl l2 (l1 ++ [m]) (n + 1) fun x hx => h x (by simp [hx]), List.append_assoc]; rfl
theorem acc_skip {js : List Joint} (l' : List (ByteArray × List ByteArray)) : ∀ (l : List (ByteArray × List ByteArray)) (n : Nat) (q : Acc), (∀ p ∈ l, ¬ p.1 = wShape ∧ ¬ p.1 = wSkip) → ∃ n', readAcc js q (numb n (l ++ l')) = readAcc js q (numb n' l')
  | [], n, q, _ => ⟨n, rfl⟩
  | p :: l, n, q, h => by
    obtain ⟨n', ih⟩ := acc_skip l' l (n + 1) q fun x hx => h x (by simp [hx])
    refine ⟨n', ?_⟩
    have hp := h p (by simp)
    have e : readSc js q ⟨(n : Int) + 1, p.1, p.2⟩ = (0, q) := by rw [readSc, if_pos hp]
    show readAcc js q (⟨(n : Int) + 1, p.1, p.2⟩ :: numb (n + 1) (l ++ l')) = _
    rw [readAcc, e]
    simp only [if_true]
    exact ih
theorem link_rd {js : List Joint} (hf : ∀ (i : Nat) j, js[i]? = some j → JF js i j) {k : Int} (h1 : -1 ≤ k) (h2 : k < js.length) : linkI js (linkN js k) = k ∧ linkB js (linkN js k) = true := by
  have := link_read hf (k := js.length) h1 h2 (Nat.le_refl _)
  rw [List.take_length] at this
  rcases this with ⟨h, e⟩ | ⟨h, e⟩
  · rw [linkI, linkB, e]; exact ⟨by rw [if_pos rfl, h], by simp⟩
  · rw [linkI, linkB, if_neg h, e]
    refine ⟨rfl, ?_⟩
    have : 0 ≤ k := by
      rcases Int.lt_or_le k 0 with h' | h'
      · have : k = -1 := by omega
        exact absurd (by rw [this, linkN, if_pos rfl]) h
      · exact h'
    simp [this]
theorem pts_back : ∀ l : List Vec, (∀ p ∈ l, inV p 4194304 = true) → ((l.flatMap ptB).all fun w => (numOf w).2) = true ∧ ptsOf ((l.flatMap ptB).map fun w => (numOf w).1) = l
  | [], _ => ⟨rfl, rfl⟩
  | p :: l, h => by
    obtain ⟨h1, h2⟩ := pts_back l fun q hq => h q (by simp [hq])
    obtain ⟨o1, o2, o3⟩ := inV_in (h p (by simp))
    rw [List.flatMap_cons]
    refine ⟨?_, ?_⟩
    · rw [List.all_append, h1]
      simp [ptB, num_fmt]
    · rw [List.map_append]
      simp only [ptB, List.map_cons, List.map_nil, num_fmt, o1, o2, o3]
      show ptsOf (p.x :: p.y :: p.z :: ((l.flatMap ptB).map fun w => (numOf w).1)) = _
      rw [ptsOf, h2]
theorem pts_length : ∀ l : List Vec, (l.flatMap ptB).length = 3 * l.length
  | [] => rfl
  | p :: l => by rw [List.flatMap_cons, List.length_append, pts_length l, List.length_cons]; show 3 + _ = _; omega
theorem shape_n {k : Nat} (h1 : 1 ≤ k) (h8 : k ≤ 8) : argsB wShape ((2 + 3 * k : Nat) : Int) = true := by
  have : ∀ k : Nat, k ≤ 8 → 1 ≤ k → argsB wShape ((2 + 3 * k : Nat) : Int) = true := by decide
  exact this k h8 h1
theorem acc_shapes {js : List Joint} (hf : ∀ (i : Nat) j, js[i]? = some j → JF js i j) (l' : List (ByteArray × List ByteArray)) : ∀ (l : List Shape) (n : Nat) (q : Acc), (∀ x ∈ l, linkOk js.length x.link = true ∧ 1 ≤ x.points.length ∧ x.points.length ≤ 8 ∧ (1 ≤ x.radius ∧ x.radius ≤ 1048576) ∧ ∀ p ∈ x.points, inV p 4194304 = true) → ∃ n', readAcc js q (numb n (l.map (shB js) ++ l')) = readAcc js ⟨q.shapes ++ l, q.skips⟩ (numb n' l')
  | [], n, q, _ => ⟨n, by simp⟩
  | x :: l, n, q, h => by
    obtain ⟨h1, h2, h3, h4, h5⟩ := h x (by simp)
    have h1 := link_bd h1
    obtain ⟨e1, e2⟩ := link_rd hf h1.1 h1.2
    obtain ⟨e3, e4⟩ := pts_back x.points h5
    have e5 : clampI x.radius = x.radius := by unfold clampI; omega
    obtain ⟨n', ih⟩ := acc_shapes hf l' l (n + 1) ⟨q.shapes ++ [x], q.skips⟩ fun y hy => h y (by simp [hy])
    refine ⟨n', ?_⟩
    have e : readSc js q ⟨(n : Int) + 1, (shB js x).1, (shB js x).2⟩ = (0, ⟨q.shapes ++ [x], q.skips⟩) := by
      show readSc js q ⟨(n : Int) + 1, wShape, linkN js x.link :: fmtT x.radius :: x.points.flatMap ptB⟩ = _
      have hlen : ((linkN js x.link :: fmtT x.radius :: x.points.flatMap ptB).length : Int) = ((2 + 3 * x.points.length : Nat) : Int) := by
        simp only [List.length_cons, pts_length]; omega
      rw [readSc, if_neg (by simp), hlen, shape_n h2 h3, if_neg (by simp), if_pos rfl, readSh, e2, if_neg (by simp), if_neg (by rw [List.all_cons, e3, num_fmt]; simp), e1, e4, num_fmt, e5]
    show readAcc js q (⟨(n : Int) + 1, (shB js x).1, (shB js x).2⟩ :: numb (n + 1) (l.map (shB js) ++ l')) = _
    rw [readAcc, e]
    simp only [if_true]
    rw [ih, List.append_assoc]; rfl
theorem acc_skips {js : List Joint} (hf : ∀ (i : Nat) j, js[i]? = some j → JF js i j) : ∀ (l : List Skip) (n : Nat) (q : Acc), (∀ k ∈ l, linkOk js.length k.a = true ∧ linkOk js.length k.b = true) → readAcc js q (numb n (l.map (skB js))) = (⟨q.shapes, q.skips ++ l⟩, 0, 0)
  | [], n, q, _ => by simp [numb, readAcc]
  | x :: l, n, q, h => by
    obtain ⟨h1, h2⟩ := h x (by simp)
    have h1 := link_bd h1
    have h2 := link_bd h2
    obtain ⟨e1, e2⟩ := link_rd hf h1.1 h1.2
    obtain ⟨e3, e4⟩ := link_rd hf h2.1 h2.2
    have e : readSc js q ⟨(n : Int) + 1, (skB js x).1, (skB js x).2⟩ = (0, ⟨q.shapes, q.skips ++ [x]⟩) := by
      show readSc js q ⟨(n : Int) + 1, wSkip, [linkN js x.a, linkN js x.b]⟩ = _
      rw [readSc, if_neg (by simp), if_neg (by show ¬ argsB wSkip 2 = false; decide), if_neg (by show ¬ wSkip = wShape; decide), readSk, e2, e4, if_neg (by simp), e1, e3]
    show readAcc js q (⟨(n : Int) + 1, (skB js x).1, (skB js x).2⟩ :: numb (n + 1) (l.map (skB js))) = _
    rw [readAcc, e]
    simp only [if_true]
    rw [acc_skips hf l (n + 1) ⟨q.shapes, q.skips ++ [x]⟩ fun y hy => h y (by simp [hy]), List.append_assoc]; rfl
/-- what is written is read again -/
theorem read_scene {s : Scene} (h : checkScene s = 0) : readScene (writeScene s) = (s, 0, 0) := by
  obtain ⟨hr, _, g3, _, g5⟩ := scene_facts h
  have h' := hr
  unfold checkRobot at h'
  split at h'
  · contradiction
  split at h'
  · contradiction
  rename_i c1 c2
  have c2 : jointsErr s.robot.joints 0 s.robot.joints = 0 := Classical.byContradiction c2
  have hf : ∀ (i : Nat) j, s.robot.joints[i]? = some j → JF s.robot.joints i j := fun i j hj => jf_of (by simpa using jointsErr_at c2 i j hj)
  obtain ⟨_, _, _, f4⟩ := robot_facts hr
  have hrest : ∀ p ∈ s.shapes.map (shB s.robot.joints) ++ s.skips.map (skB s.robot.joints), p.1 = wShape ∨ p.1 = wSkip := fun p hp => by
    rcases List.mem_append.1 hp with hp | hp
    · obtain ⟨x, _, rfl⟩ := List.mem_map.1 hp; exact .inl rfl
    · obtain ⟨x, _, rfl⟩ := List.mem_map.1 hp; exact .inr rfl
  have hscB : scB s = s.robot.joints.flatMap (jB s.robot.joints) ++ (s.robot.masses.map (mB s.robot.joints) ++ (s.shapes.map (shB s.robot.joints) ++ s.skips.map (skB s.robot.joints))) := by
    rw [scB, robB]; simp only [List.append_assoc]
  have hR : readRobot (writeScene s) = (s.robot, 0, 0) := by
    obtain ⟨n', hn⟩ := read_joints hf (s.robot.masses.map (mB s.robot.joints) ++ (s.shapes.map (shB s.robot.joints) ++ s.skips.map (skB s.robot.joints))) s.robot.joints.length 0 0 (by omega)
    rw [List.drop_zero, List.take_zero, read_masses2 hf hrest s.robot.masses [] n' f4, List.nil_append] at hn
    have hn : readAll emptyR (writeScene s) = (s.robot, 0, 0) := by rw [writeScene, if_pos h, hscB]; exact hn
    rw [readRobot, hn, if_neg (by simp), if_neg (by simp [hr])]
  have hA : readAcc s.robot.joints acc0 (writeScene s) = (⟨s.shapes, s.skips⟩, 0, 0) := by
    have hrob : ∀ p ∈ s.robot.joints.flatMap (jB s.robot.joints) ++ s.robot.masses.map (mB s.robot.joints), ¬ p.1 = wShape ∧ ¬ p.1 = wSkip := fun p hp => by
      rcases List.mem_append.1 hp with hp | hp
      · obtain ⟨j, _, hp⟩ := List.mem_flatMap.1 hp
        simp only [jB, List.mem_cons, List.not_mem_nil, or_false] at hp
        rcases hp with rfl | rfl
        · exact ⟨by show ¬ wJoint = wShape; decide, by show ¬ wJoint = wSkip; decide⟩
        · exact ⟨by show ¬ wLimit = wShape; decide, by show ¬ wLimit = wSkip; decide⟩
      · obtain ⟨x, _, rfl⟩ := List.mem_map.1 hp
        exact ⟨by show ¬ wMass = wShape; decide, by show ¬ wMass = wSkip; decide⟩
    have e1 : scB s = (s.robot.joints.flatMap (jB s.robot.joints) ++ s.robot.masses.map (mB s.robot.joints)) ++ (s.shapes.map (shB s.robot.joints) ++ s.skips.map (skB s.robot.joints)) := by rw [hscB]; simp only [List.append_assoc]
    rw [writeScene, if_pos h, e1]
    obtain ⟨n1, i1⟩ := acc_skip (s.shapes.map (shB s.robot.joints) ++ s.skips.map (skB s.robot.joints)) _ 0 acc0 hrob
    obtain ⟨n2, i2⟩ := acc_shapes hf (s.skips.map (skB s.robot.joints)) s.shapes n1 acc0 g3
    rw [i1, i2, acc_skips hf s.skips n2 _ g5]
    simp [acc0]
  have e : sceneOf s.robot ⟨s.shapes, s.skips⟩ = s := rfl
  rw [readScene, hR]
  simp only
  rw [if_neg (by simp), hA]
  simp only
  rw [if_neg (by simp), e, if_neg (by simp [h])]
end Go.Proofs.YtafglmjadbplcaaDoor

/- Scenes: their check, and the skipped pairs. -/
namespace Go.Proofs.YtafglmjadbplcaaDoor
open Eng
set_option maxRecDepth 10000
attribute [local irreducible] FnOk loopW idxF retX arrF

theorem scene_isLink (s : Scene) (k : Int) : FnOk Tryd.prog F.scene_isLink [Sc s, I k] [] 0 (Bo (linkOk s.robot.joints.length k)) [] 0 := by
  refine fnOk tab mix G.scene_isLink rfl rfl (by kernel_rfl) rfl rfl ?_
  repeat' ((conv => whnf); first | refine ask_m (fun h => ?_) (fun h => ?_) | refine ret0 ?_)
  all_goals exact ret_b (by first | (simp_all [linkOk]; done) | (simp_all [linkOk]; omega)) rfl
theorem scene_checkShape (s : Scene) (x : Shape) (hx : x.points.length ≤ 4611686018427387904) : FnOk Tryd.prog F.scene_checkShape [Sc s, Sh x] [] 0 (I (shapeErr s.robot.joints.length x)) [] 0 := by
  refine fnOk tab mix G.scene_checkShape rfl rfl (by kernel_rfl) rfl rfl ?_
  have e1 : linkOk s.robot.joints.length x.link = false ∨ x.radius < 1 ∨ 1048576 < x.radius ∨ x.points.length < 1 ∨ 8 < x.points.length → shapeErr s.robot.joints.length x = 902 := fun h => by unfold shapeErr; rw [if_pos h]
  (conv => whnf)
  refine call_i (scene_isLink s x.link) ?_
  (conv => whnf)
  refine ask_m (fun h => ?_) (fun h => ?_)
  · (conv => whnf)
    refine ret0 ?_
    exact ret_i (e1 (.inl (by simpa using h))).symm rfl
  have k1 : linkOk s.robot.joints.length x.link = true := by simpa using h
  (conv => whnf)
  refine ask_m (fun h => ?_) (fun h => ?_)
  · (conv => whnf)
    refine ret0 ?_
    exact ret_i (e1 (.inr (.inl (of_decide_eq_true h)))).symm rfl
  have k2 := of_decide_eq_false h
  (conv => whnf)
  refine ask_m (fun h => ?_) (fun h => ?_)
  · (conv => whnf)
    refine ret0 ?_
    exact ret_i (e1 (.inr (.inr (.inl (of_decide_eq_true h))))).symm rfl
  have k3 := of_decide_eq_false h
  (conv => whnf)
  refine ask_m (fun h => ?_) (fun h => ?_)
  · have h : x.points.length < 1 := by have := of_decide_eq_true h; simp only [List.length_map] at this; omega
    (conv => whnf)
    refine ret0 ?_
    exact ret_i (e1 (.inr (.inr (.inr (.inl h))))).symm rfl
  have k4 : ¬ x.points.length < 1 := by have := of_decide_eq_false h; simp only [List.length_map] at this; omega
  (conv => whnf)
  refine ask_m (fun h => ?_) (fun h => ?_)
  · have h : 8 < x.points.length := by have := of_decide_eq_true h; simp only [List.length_map] at this; omega
    (conv => whnf)
    refine ret0 ?_
    exact ret_i (e1 (.inr (.inr (.inr (.inr h))))).symm rfl
  have k5 : ¬ 8 < x.points.length := by have := of_decide_eq_false h; simp only [List.length_map] at this; omega
  have e2 : shapeErr s.robot.joints.length x = if x.points.all (inV · 4194304) = false then 805 else 0 := by
    unfold shapeErr; rw [if_neg]; rintro (h | h | h | h | h)
    · rw [k1] at h; cases h
    all_goals contradiction
  rw [e2]
  (conv => whnf)
  refine loop_intro (fun k : Nat => ⟨[(37, .one (.dv (dVs x.points))), (38, I x.points.length), (39, I k)], [], 0⟩) (fun k => k ≤ x.points.length ∧ (x.points.take k).all (inV · 4194304) = true) (fun k => x.points.length - k) [] 0 [] ⟨Nat.zero_le _, rfl⟩ ⟨⟨rfl, eqI (by simp), rfl, trivial⟩, trivial⟩ ?_
  rintro k ⟨hk, hall⟩
  (conv => whnf)
  refine ask_m (fun h => ?_) (fun h => ?_)
  · have hlt : k < x.points.length := by simpa using h
    obtain ⟨p, hp⟩ : ∃ j, x.points[k]? = some j := ⟨_, List.getElem?_eq_getElem hlt⟩
    have hkk : IntKind.i64.wrap ((k : Int) + 1) = ((k + 1 : Nat) : Int) := by rw [w64] <;> omega
    (conv => whnf)
    refine idx_and (by omega) (by simpa using hp) ?_
    (conv => whnf)
    refine loop_intro (fun i : Nat => ⟨[(37, .one (.dv (dVs x.points))), (38, I x.points.length), (39, I k), (43, Ve p), (44, I i)], [], 0⟩) (fun i => i ≤ 3 ∧ ∀ c, c < i → inC (vAt p c) = true) (fun i => 3 - i) [] 0 [] ⟨Nat.zero_le _, fun i hi => by omega⟩ ⟨⟨rfl, rfl, rfl, rfl, rfl, trivial⟩, trivial⟩ ?_
    rintro i ⟨hi, halli⟩
    (conv => whnf)
    refine ask_m (fun h => ?_) (fun h => ?_)
    · have hlti : i < 3 := by have := of_decide_eq_true h; omega
      have hii : IntKind.i64.wrap ((i : Int) + 1) = ((i + 1 : Nat) : Int) := by rw [w64] <;> omega
      have bad : inC (vAt p i) = false → (if x.points.all (inV · 4194304) = false then (805 : Int) else 0) = 805 := fun h => by
        rw [if_pos (all_not (f := (inV · 4194304)) hp (inV_at hlti h))]
      (conv => whnf)
      refine ⟨⟨by omega, by omega⟩, ?_⟩
      (conv => whnf)
      rw [Int.toNat_natCast]
      refine arr_vec rfl rfl hlti ?_
      generalize hv : vAt p i = v at *
      (conv => whnf)
      refine ask_m (fun h => ?_) (fun h => ?_)
      · have h := of_decide_eq_true h
        (conv => whnf)
        refine ret0 ?_
        exact ret_i (bad (by simp only [inC, Bool.and_eq_false_iff, decide_eq_false_iff_not]; omega)).symm rfl
      have h1 := of_decide_eq_false h
      (conv => whnf)
      refine ask_m (fun h => ?_) (fun h => ?_)
      · have h := of_decide_eq_true h
        (conv => whnf)
        refine ret0 ?_
        exact ret_i (bad (by simp only [inC, Bool.and_eq_false_iff, decide_eq_false_iff_not]; omega)).symm rfl
      have h2 := of_decide_eq_false h
      (conv => whnf)
      refine ⟨i + 1, [], ⟨hlti, fun c hc => ?_⟩, by omega, ⟨⟨rfl, rfl, rfl, rfl, eqI hii, trivial⟩, trivial⟩⟩
      by_cases e : c = i
      · subst e; rw [hv]; simp only [inC, Bool.and_eq_true, decide_eq_true_eq]; omega
      · exact halli c (by omega)
    · have hi : i = 3 := by have := of_decide_eq_false h; omega
      subst hi
      (conv => whnf)
      exact ⟨k + 1, [], ⟨hlt, all_take hall hp (inV_all halli)⟩, by omega, ⟨⟨rfl, rfl, eqI hkk, trivial⟩, trivial⟩⟩
  · have hk : k = x.points.length := by simp at h; omega
    subst hk
    rw [List.take_length] at hall
    (conv => whnf)
    refine ret0 ?_
    exact ret_i (by rw [if_neg (by rw [hall]; simp)]) rfl
/-- a scene whose lists are no longer than memory -/
theorem scene_Check (s : Scene) (hs : small s) : FnOk Tryd.prog F.scene_Check [Sc s] [] 0 (I (checkScene s)) [] 0 := by
  refine fnOk tab mix G.scene_Check rfl rfl (by kernel_rfl) rfl rfl ?_
  obtain ⟨s1, s2, s3, s4, s5⟩ := hs
  (conv => whnf)
  refine call_i (robot_Check s.robot s1 s2) ?_
  (conv => whnf)
  refine ask_m (fun h => ?_) (fun h => ?_)
  · have h : ¬ checkRobot s.robot = 0 := by simpa using h
    (conv => whnf)
    refine ret0 ?_
    exact ret_i (by unfold checkScene; rw [if_pos h]) rfl
  have h0 : checkRobot s.robot = 0 := by simpa using h
  have e : checkScene s = if 24 < s.shapes.length then 901
    else if shapesErr s.robot.joints.length s.shapes ≠ 0 then shapesErr s.robot.joints.length s.shapes
    else if 64 < s.skips.length then 903
    else if (s.skips.all (skipOk s.robot.joints.length)) = false then 903
    else 0 := by unfold checkScene; rw [if_neg (by rw [h0]; simp)]; rfl
  rw [e]
  (conv => whnf)
  refine ask_m (fun h => ?_) (fun h => ?_)
  · have h : 24 < s.shapes.length := by have := of_decide_eq_true h; simp only [List.length_map] at this; omega
    (conv => whnf)
    refine ret0 ?_
    exact ret_i (by rw [if_pos h]) rfl
  have h1 : ¬ 24 < s.shapes.length := by have := of_decide_eq_false h; simp only [List.length_map] at this; omega
  rw [if_neg h1]
  (conv => whnf)
  refine loop_intro (fun k : Nat => ⟨[(1, .one (.vptr 0 0)), (20, .one (.dv (dShs s.shapes))), (21, I s.shapes.length), (22, I k)], [(0, bSc s)], 1⟩) (fun k => k ≤ s.shapes.length ∧ shapesErr s.robot.joints.length (s.shapes.drop k) = shapesErr s.robot.joints.length s.shapes) (fun k => s.shapes.length - k) [] 0 [] ⟨Nat.zero_le _, rfl⟩ ⟨⟨rfl, rfl, eqI (by simp), rfl, trivial⟩, ⟨rfl, trivial⟩⟩ ?_
  rintro k ⟨hk, hf⟩
  (conv => whnf)
  refine ask_m (fun h => ?_) (fun h => ?_)
  · have hlt : k < s.shapes.length := by simpa using h
    obtain ⟨x, hx⟩ : ∃ j, s.shapes[k]? = some j := ⟨_, List.getElem?_eq_getElem hlt⟩
    have hkk : IntKind.i64.wrap ((k : Int) + 1) = ((k + 1 : Nat) : Int) := by rw [w64] <;> omega
    rw [drop_cons hx, shapesErr] at hf
    (conv => whnf)
    refine idx_and (by omega) (by simpa using hx) ?_
    (conv => whnf)
    refine call_i (scene_checkShape s x (s5 x (List.mem_of_getElem? hx))) ?_
    (conv => whnf)
    refine ask_m (fun h => ?_) (fun h => ?_)
    · have h : ¬ shapeErr s.robot.joints.length x = 0 := by simpa using h
      rw [if_neg h] at hf
      (conv => whnf)
      refine ret0 ?_
      exact ret_i (by rw [← hf, if_pos h]) rfl
    · have h : shapeErr s.robot.joints.length x = 0 := by simpa using h
      rw [if_pos h] at hf
      (conv => whnf)
      exact ⟨k + 1, [], ⟨hlt, hf⟩, by omega, ⟨⟨rfl, rfl, rfl, eqI hkk, trivial⟩, ⟨rfl, trivial⟩⟩⟩
  have hk : k = s.shapes.length := by simp at h; omega
  subst hk
  rw [List.drop_length, shapesErr] at hf
  rw [← hf, if_neg (by simp)]
  (conv => whnf)
  refine ask_m (fun h => ?_) (fun h => ?_)
  · have h : 64 < s.skips.length := by have := of_decide_eq_true h; simp only [List.length_map] at this; omega
    (conv => whnf)
    refine ret0 ?_
    exact ret_i (by rw [if_pos h]) rfl
  have h2 : ¬ 64 < s.skips.length := by have := of_decide_eq_false h; simp only [List.length_map] at this; omega
  rw [if_neg h2]
  (conv => whnf)
  refine loop_intro (fun k : Nat => ⟨[(1, .one (.vptr 0 0)), (38, .one (.dv (dSks s.skips))), (39, I s.skips.length), (40, I k)], [(0, bSc s)], 1⟩) (fun k => k ≤ s.skips.length ∧ (s.skips.take k).all (skipOk s.robot.joints.length) = true) (fun k => s.skips.length - k) [] 0 [] ⟨Nat.zero_le _, rfl⟩ ⟨⟨rfl, rfl, eqI (by simp), rfl, trivial⟩, ⟨rfl, trivial⟩⟩ ?_
  rintro k ⟨hk, hall⟩
  (conv => whnf)
  refine ask_m (fun h => ?_) (fun h => ?_)
  · have hlt : k < s.skips.length := by simpa using h
    obtain ⟨x, hx⟩ : ∃ j, s.skips[k]? = some j := ⟨_, List.getElem?_eq_getElem hlt⟩
    have hkk : IntKind.i64.wrap ((k : Int) + 1) = ((k + 1 : Nat) : Int) := by rw [w64] <;> omega
    have bad : skipOk s.robot.joints.length x = false → (if (s.skips.all (skipOk s.robot.joints.length)) = false then (903 : Int) else 0) = 903 := fun h => by rw [if_pos (all_not hx h)]
    (conv => whnf)
    refine idx_and (by omega) (by simpa using hx) ?_
    (conv => whnf)
    refine call_i (scene_isLink s x.a) ?_
    (conv => whnf)
    refine ask_m (fun h => ?_) (fun h => ?_)
    · (conv => whnf)
      refine ret0 ?_
      exact ret_i (bad (by simp at h; simp [skipOk, h])).symm rfl
    have ha : linkOk s.robot.joints.length x.a = true := by simpa using h
    (conv => whnf)
    refine call_i (scene_isLink s x.b) ?_
    (conv => whnf)
    refine ask_m (fun h => ?_) (fun h => ?_)
    · (conv => whnf)
      refine ret0 ?_
      exact ret_i (bad (by simp at h; simp [skipOk, h])).symm rfl
    have hb : linkOk s.robot.joints.length x.b = true := by simpa using h
    (conv => whnf)
    exact ⟨k + 1, [], ⟨hlt, all_take hall hx (by simp [skipOk, ha, hb])⟩, by omega, ⟨⟨rfl, rfl, rfl, eqI hkk, trivial⟩, ⟨rfl, trivial⟩⟩⟩
  · have hk : k = s.skips.length := by simp at h; omega
    subst hk
    rw [List.take_length] at hall
    (conv => whnf)
    refine ret0 ?_
    exact ret_i (by rw [if_neg (by rw [hall]; simp)]) rfl
/-- a skip has the links, in either order -/
def isSkip (a b : Int) (k : Skip) : Bool := (decide (k.a = a) && decide (k.b = b)) || (decide (k.a = b) && decide (k.b = a))
def skipped (s : Scene) (a b : Int) : Bool := s.skips.any (isSkip a b)
theorem cmpSkip : cmpB Tryd.prog 8 Y.Skip = true ∧ Tryd.prog.eqGuardType Tryd.prog.depth Y.Skip = false := ⟨by kernel_rfl, by kernel_rfl⟩
theorem scene_Skipped (s : Scene) (a b : Int) (hs : s.skips.length ≤ 4611686018427387904) : FnOk Tryd.prog F.scene_Skipped [Sc s, I a, I b] [] 0 (Bo (skipped s a b)) [] 0 := by
  refine fnOk tab mix G.scene_Skipped rfl rfl (by kernel_rfl) rfl rfl ?_
  (conv => whnf)
  refine loop_intro (fun k : Nat => ⟨[(1, I a), (2, I b), (10, .one (.dv (dSks s.skips))), (11, I s.skips.length), (12, I k)], [], 0⟩) (fun k => k ≤ s.skips.length ∧ (s.skips.take k).any (isSkip a b) = false) (fun k => s.skips.length - k) [] 0 [] ⟨Nat.zero_le _, rfl⟩ ⟨⟨rfl, rfl, rfl, eqI (by simp), rfl, trivial⟩, trivial⟩ ?_
  rintro k ⟨hk, hall⟩
  (conv => whnf)
  refine ask_m (fun h => ?_) (fun h => ?_)
  · have hlt : k < s.skips.length := by simpa using h
    obtain ⟨x, hx⟩ : ∃ j, s.skips[k]? = some j := ⟨_, List.getElem?_eq_getElem hlt⟩
    have hkk : IntKind.i64.wrap ((k : Int) + 1) = ((k + 1 : Nat) : Int) := by rw [w64] <;> omega
    (conv => whnf)
    refine idx_and (by omega) (by simpa using hx) ?_
    (conv => whnf)
    refine ⟨cmpSkip, ?_⟩
    (conv => whnf)
    refine ask_m (fun h => ?_) (fun h => ?_)
    · (conv => whnf)
      refine ret0 ?_
      exact ret_b (any_yes hx (by simp at h; simp [isSkip, h])).symm rfl
    (conv => whnf)
    refine ⟨cmpSkip, ?_⟩
    (conv => whnf)
    refine ask_m (fun h2 => ?_) (fun h2 => ?_)
    · (conv => whnf)
      refine ret0 ?_
      exact ret_b (any_yes hx (by simp at h2; simp [isSkip, h2])).symm rfl
    · (conv => whnf)
      exact ⟨k + 1, [], ⟨hlt, any_take hall hx (by simp at h h2; simp [isSkip]; exact ⟨h, h2⟩)⟩, by omega, ⟨⟨rfl, rfl, rfl, rfl, eqI hkk, trivial⟩, trivial⟩⟩
  · have hk : k = s.skips.length := by simp at h; omega
    subst hk
    rw [List.take_length] at hall
    (conv => whnf)
    refine ret0 ?_
    exact ret_b hall.symm rfl
end Go.Proofs.YtafglmjadbplcaaDoor

/- Scenes: the carriers of the links, and the pairs. -/
namespace Go.Proofs.YtafglmjadbplcaaDoor
open Eng
set_option maxRecDepth 10000
attribute [local irreducible] FnOk loopW idxF retX arrF

theorem scene_carriers (r : Robot) (hn : r.joints.length ≤ 1000) (hd : downOk r.joints) : FnOk Tryd.prog F.scene_carriers [Ro r] [] 0 (.one (.row 0)) [(0, .rows 3 1 ((carriers r.joints).map encI))] 1 := by
  refine fnOk tab mix G.scene_carriers rfl rfl (by kernel_rfl) rfl rfl ?_
  (conv => whnf)
  have hw : IntKind.i64.wrap ((r.joints.length : Int) + 1) = ((r.joints.length + 1 : Nat) : Int) := by rw [w64] <;> omega
  rw [List.length_map, hw]
  refine ⟨⟨by omega, by omega, by show (8 : Int) * _ ≤ _; omega, by omega⟩, ?_⟩
  (conv => whnf)
  refine ⟨⟨by omega, by simp⟩, ?_⟩
  (conv => whnf)
  refine idx_at (r := [.int .i64 0]) (by simp) ?_
  (conv => whnf)
  refine loop_intro (fun k : Nat => ⟨[(1, .one (.vptr 0 0)), (3, .one (.row 1)), (14, .one (.dv (dJs r.joints))), (15, I r.joints.length), (16, I k)], [(0, bRo r), (1, .rows 3 1 ((carriers (r.joints.take k) ++ List.replicate (r.joints.length - k) 0).map encI))], 2⟩) (fun k => k ≤ r.joints.length) (fun k => r.joints.length - k) [] 0 [] (Nat.zero_le _) ⟨⟨rfl, rfl, rfl, eqI (by simp), rfl, trivial⟩, ⟨rfl, ?_, trivial⟩⟩ ?_
  · show Box.rows 3 1 _ = Box.rows 3 1 _
    congr 1
    rw [Int.toNat_natCast, List.replicate_succ]
    simp [carriers, encI]
  rintro k hk
  (conv => whnf)
  refine ask_m (fun h => ?_) (fun h => ?_)
  · have hlt : k < r.joints.length := by simpa using h
    obtain ⟨j, hj⟩ : ∃ j, r.joints[k]? = some j := ⟨_, List.getElem?_eq_getElem hlt⟩
    have hkk : IntKind.i64.wrap ((k : Int) + 1) = ((k + 1 : Nat) : Int) := by rw [w64] <;> omega
    obtain ⟨d1, d2⟩ := hd k j hj
    have hpp : IntKind.i64.wrap (j.parent + 1) = (((j.parent + 1).toNat : Nat) : Int) := by rw [w64] <;> omega
    have hcl : (carriers (r.joints.take k)).length = k + 1 := by rw [car_len, List.length_take]; omega
    have hct := car_take hj
    obtain ⟨m, hm⟩ : ∃ m, r.joints.length - k = m + 1 := ⟨r.joints.length - k - 1, by omega⟩
    have hm2 : r.joints.length - (k + 1) = m := by omega
    rw [carStep, hcl] at hct
    generalize hc : carriers (r.joints.take k) = c at *
    rw [hm, List.replicate_succ]
    (conv => whnf)
    refine idx_and (by omega) (by simpa using hj) ?_
    (conv => whnf)
    rw [hkk]
    refine ⟨⟨by omega, by simp; omega⟩, ?_⟩
    (conv => whnf)
    rw [Int.toNat_natCast]
    refine idx_at (r := encI 0) (by simp [hcl]) ?_
    (conv => whnf)
    refine ask_m (fun h => ?_) (fun h => ?_)
    · have h := of_decide_eq_true h
      rw [if_pos h] at hct
      have hset : ((c ++ 0 :: List.replicate m 0).map encI).set (k + 1) [.int .i64 (k : Int)] = (c ++ (k : Int) :: List.replicate m 0).map encI := row_set hcl
      obtain ⟨x, hx⟩ : ∃ x, c[(j.parent + 1).toNat]? = some x := ⟨_, List.getElem?_eq_getElem (by omega)⟩
      have hxd : c.getD (j.parent + 1).toNat 0 = x := by rw [List.getD_eq_getElem?_getD, hx]; rfl
      rw [hxd] at hct
      (conv => whnf)
      rw [hset, hpp]
      refine ⟨⟨by omega, by simp; omega⟩, ?_⟩
      (conv => whnf)
      rw [Int.toNat_natCast]
      refine idx_map (x := x) (by rw [List.getElem?_append_left (by omega)]; exact hx) ?_
      (conv => whnf)
      refine ⟨⟨by omega, by simp; omega⟩, ?_⟩
      (conv => whnf)
      refine idx_map (x := (k : Int)) (by rw [hkk, Int.toNat_natCast]; simp [hcl]) ?_
      (conv => whnf)
      refine ⟨k + 1, [], hlt, by omega, ⟨⟨rfl, rfl, rfl, rfl, eqI hkk, trivial⟩, ⟨rfl, ?_, trivial⟩⟩⟩
      show Box.rows 3 1 _ = Box.rows 3 1 _
      rw [hkk, Int.toNat_natCast, hct, hm2, List.append_assoc]
      exact congrArg _ (row_set hcl)
    · have h := of_decide_eq_false h
      rw [if_neg h] at hct
      (conv => whnf)
      refine ⟨k + 1, [], hlt, by omega, ⟨⟨rfl, rfl, rfl, rfl, eqI hkk, trivial⟩, ⟨rfl, ?_, trivial⟩⟩⟩
      show Box.rows 3 1 _ = Box.rows 3 1 _
      rw [hct, hm2, List.append_assoc, show ((k + 1 : Nat) : Int) - 1 = k by omega]
      exact congrArg _ (row_set hcl)
  · have hk : k = r.joints.length := by simp at h; omega
    subst hk
    (conv => whnf)
    refine ret0 ?_
    rw [Nat.sub_self, List.take_length]
    simp only [List.replicate_zero, List.append_nil]
    exact ⟨[(0, 1)], ⟨rfl, trivial⟩, ⟨rfl, trivial⟩⟩
theorem serr_at {n : Nat} : ∀ {l : List Shape} {x : Shape}, shapesErr n l = 0 → x ∈ l → shapeErr n x = 0
  | [], _, _, h => by cases h
  | y :: l, x, h, hx => by
    rw [shapesErr] at h
    split at h
    · rcases List.mem_cons.1 hx with e | e
      · subst e; assumption
      · exact serr_at h e
    · contradiction
theorem scene_good {s : Scene} (h : checkScene s = 0) : checkRobot s.robot = 0 ∧ s.shapes.length ≤ 24 ∧ (∀ x ∈ s.shapes, -1 ≤ x.link ∧ x.link < s.robot.joints.length) ∧ s.skips.length ≤ 64 := by
  unfold checkScene at h
  split at h
  · contradiction
  rename_i h1
  split at h
  · contradiction
  split at h
  · contradiction
  rename_i h2
  split at h
  · contradiction
  simp only [ne_eq, Decidable.not_not] at h1 h2
  refine ⟨h1, by omega, fun x hx => ?_, by omega⟩
  have := serr_at h2 hx
  unfold shapeErr at this
  split at this
  · contradiction
  rename_i h3
  have h4 : linkOk s.robot.joints.length x.link = true := by
    cases h5 : linkOk s.robot.joints.length x.link
    · exact absurd (.inl h5) h3
    · rfl
  simp [linkOk] at h4
  exact h4
def carr (s : Scene) (k : Int) : Int := (carriers s.robot.joints).getD (k + 1).toNat 0
def wanted (s : Scene) (x y : Shape) : Bool := !(decide (carr s x.link = carr s y.link)) && !(skipped s x.link y.link)
def wantAt (s : Scene) (i j : Nat) : Bool := decide (i < j) && match s.shapes[i]?, s.shapes[j]? with
  | some x, some y => wanted s x y
  | _, _ => false
def pairRow (s : Scene) (i j : Nat) : List Pair := ((List.range j).filter (wantAt s i)).map fun (j : Nat) => ⟨(i : Int), (j : Int)⟩
def pairsTo (s : Scene) (k : Nat) : List Pair := (List.range k).flatMap fun i => pairRow s i s.shapes.length
def pairs (s : Scene) : List Pair := if checkScene s = 0 then pairsTo s s.shapes.length else []
theorem pairRow_self (s : Scene) (i : Nat) : pairRow s i (i + 1) = [] := by
  unfold pairRow
  rw [List.map_eq_nil_iff, List.filter_eq_nil_iff]
  intro j hj
  have := List.mem_range.1 hj
  simp [wantAt]; omega
theorem pairRow_succ (s : Scene) (i j : Nat) : pairRow s i (j + 1) = pairRow s i j ++ if wantAt s i j then [⟨(i : Int), (j : Int)⟩] else [] := by
  unfold pairRow
  rw [List.range_succ, List.filter_append, List.map_append]
  congr 1
  by_cases h : wantAt s i j <;> simp [h]
theorem pairsTo_succ (s : Scene) (k : Nat) : pairsTo s (k + 1) = pairsTo s k ++ pairRow s k s.shapes.length := by
  unfold pairsTo; rw [List.range_succ]; simp
theorem pairRow_len (s : Scene) (i j : Nat) : (pairRow s i j).length ≤ j := by
  unfold pairRow; rw [List.length_map]; exact Nat.le_trans (List.length_filter_le _ _) (by simp)
theorem pairsTo_len (s : Scene) (k : Nat) : (pairsTo s k).length ≤ k * s.shapes.length := by
  induction k with
  | zero => simp [pairsTo]
  | succ k ih => rw [pairsTo_succ, List.length_append, Nat.succ_mul]; have := pairRow_len s k s.shapes.length; omega
abbrev bPa (l : List Pair) : Box := .rows Y.Pair 2 (l.map encPa)
theorem scene_Pairs (s : Scene) (hs : small s) : FnOk Tryd.prog F.scene_Pairs [Sc s] [] 0 (.one (.row 0)) [(0, bPa (pairs s))] 1 := by
  refine fnOk tab mix G.scene_Pairs rfl rfl (by kernel_rfl) rfl rfl ?_
  (conv => whnf)
  refine call_i (scene_Check s hs) ?_
  (conv => whnf)
  refine ask_m (fun h => ?_) (fun h => ?_)
  · have h : ¬ checkScene s = 0 := by simpa using h
    (conv => whnf)
    refine retO [.own 2 Y.Pair 2] ?_
    (conv => whnf)
    have e : pairs s = [] := by unfold pairs; rw [if_neg h]
    rw [e]
    exact ⟨[(0, 1)], ⟨rfl, trivial⟩, ⟨rfl, trivial⟩⟩
  have h0 : checkScene s = 0 := by simpa using h
  obtain ⟨g1, g2, g3, g4⟩ := scene_good h0
  obtain ⟨g5, g6, g7⟩ := robot_good g1
  have e : pairs s = pairsTo s s.shapes.length := by unfold pairs; rw [if_pos h0]
  rw [e]
  (conv => whnf)
  refine call_i (scene_carriers s.robot (by omega) g7) ?_
  (conv => whnf)
  have hcl := car_len s.robot.joints
  have hcar : ∀ k : Int, -1 ≤ k → k < s.robot.joints.length → (carriers s.robot.joints)[(k + 1).toNat]? = some (carr s k) := fun k h1 h2 => by
    have h3 : (k + 1).toNat < (carriers s.robot.joints).length := by omega
    rw [carr, List.getD_eq_getElem?_getD, List.getElem?_eq_getElem h3]; rfl
  refine loop_intro (fun k : Nat => ⟨[(1, .one (.vptr 0 0)), (3, .one (.row 1)), (4, .one (.row 2)), (17, .one (.dv (dShs s.shapes))), (18, I s.shapes.length), (19, I k)], [(0, bSc s), (1, .rows 3 1 ((carriers s.robot.joints).map encI)), (2, bPa (pairsTo s k))], 3⟩) (fun k => k ≤ s.shapes.length) (fun k => s.shapes.length - k) [.own 4 Y.Pair 2] 0 [] (Nat.zero_le _) ⟨⟨rfl, rfl, rfl, rfl, eqI (by simp), rfl, trivial⟩, ⟨rfl, rfl, rfl, trivial⟩⟩ ?_
  rintro k hk
  (conv => whnf)
  refine ask_m (fun h => ?_) (fun h => ?_)
  · have hlt : k < s.shapes.length := by simpa using h
    obtain ⟨x, hx⟩ : ∃ j, s.shapes[k]? = some j := ⟨_, List.getElem?_eq_getElem hlt⟩
    have hkk : IntKind.i64.wrap ((k : Int) + 1) = ((k + 1 : Nat) : Int) := by rw [w64] <;> omega
    obtain ⟨x1, x2⟩ := g3 x (List.mem_of_getElem? hx)
    have hxl : IntKind.i64.wrap (x.link + 1) = x.link + 1 := by rw [w64] <;> omega
    (conv => whnf)
    refine idx_and (by omega) (by simpa using hx) ?_
    (conv => whnf)
    refine loop_intro (fun j : Nat => ⟨[(1, .one (.vptr 0 0)), (3, .one (.row 1)), (4, .one (.row 2)), (17, .one (.dv (dShs s.shapes))), (18, I s.shapes.length), (19, I k), (5, I k), (6, .one (.vptr 3 0)), (7, I j)], [(0, bSc s), (1, .rows 3 1 ((carriers s.robot.joints).map encI)), (2, bPa (pairsTo s k ++ pairRow s k j)), (3, .vars Y.Shape [.dv (.int .i64 x.link), .dv (.int .i64 x.radius), .dv (dVs x.points)])], 4⟩) (fun j => k < j ∧ j ≤ s.shapes.length) (fun j => s.shapes.length - j) [] (k + 1) [] ⟨by omega, by omega⟩ ⟨⟨rfl, rfl, rfl, rfl, rfl, rfl, rfl, rfl, eqI hkk, trivial⟩, ⟨rfl, rfl, ?_, rfl, trivial⟩⟩ ?_
    · show bPa _ = bPa _
      rw [pairRow_self, List.append_nil]
    rintro j ⟨hj1, hj2⟩
    (conv => whnf)
    refine ask_m (fun h => ?_) (fun h => ?_)
    · have hlj : j < s.shapes.length := by simpa using h
      obtain ⟨y, hy⟩ : ∃ y, s.shapes[j]? = some y := ⟨_, List.getElem?_eq_getElem hlj⟩
      have hjj : IntKind.i64.wrap ((j : Int) + 1) = ((j + 1 : Nat) : Int) := by rw [w64] <;> omega
      obtain ⟨y1, y2⟩ := g3 y (List.mem_of_getElem? hy)
      have hyl : IntKind.i64.wrap (y.link + 1) = y.link + 1 := by rw [w64] <;> omega
      have hw : wantAt s k j = wanted s x y := by simp [wantAt, hx, hy, hj1]
      (conv => whnf)
      refine idx_and (by omega) (by simpa using hy) ?_
      (conv => whnf)
      rw [hxl]
      refine ⟨⟨by omega, by simp; omega⟩, ?_⟩
      (conv => whnf)
      refine idx_map (hcar _ x1 x2) ?_
      (conv => whnf)
      rw [hyl]
      refine ⟨⟨by omega, by simp; omega⟩, ?_⟩
      (conv => whnf)
      refine idx_map (hcar _ y1 y2) ?_
      (conv => whnf)
      have hjl := pairsTo_len s k
      have hjr := pairRow_len s k j
      have hbig : (pairsTo s k ++ pairRow s k j).length ≤ 1000 := by
        rw [List.length_append]
        have := Nat.mul_le_mul (show k ≤ 24 by omega) g2
        omega
      generalize hb : (carr s x.link == carr s y.link) = b
      cases b with
      | true =>
        have hwf : wantAt s k j = false := by rw [hw, wanted]; simp at hb; simp [hb]
        (conv => whnf)
        refine ⟨j + 1, [], ⟨by omega, by omega⟩, by omega, ⟨⟨rfl, rfl, rfl, rfl, rfl, rfl, rfl, rfl, eqI hjj, trivial⟩, ⟨rfl, rfl, ?_, rfl, trivial⟩⟩⟩
        have e2 : pairRow s k (j + 1) = pairRow s k j := by rw [pairRow_succ, hwf]; simp
        rw [e2]; rfl
      | false =>
        (conv => whnf)
        refine call_i (scene_Skipped s x.link y.link (by omega)) ?_
        (conv => whnf)
        generalize hb2 : skipped s x.link y.link = b2
        have hwf : wantAt s k j = !b2 := by rw [hw, wanted, hb2]; simp at hb; simp [hb]
        refine ask_m (fun h => ?_) (fun h => ?_)
        · have e2 : pairRow s k (j + 1) = pairRow s k j ++ [⟨(k : Int), (j : Int)⟩] := by rw [pairRow_succ, hwf, h]; rfl
          (conv => whnf)
          rw [List.length_append] at hbig
          refine ⟨⟨by simp; omega, by simp; omega⟩, ?_⟩
          (conv => whnf)
          refine ⟨j + 1, [(2, 6)], ⟨by omega, by omega⟩, by omega, ⟨⟨rfl, rfl, rfl, rfl, rfl, rfl, rfl, rfl, eqI hjj, trivial⟩, ⟨rfl, rfl, ?_, rfl, trivial⟩⟩⟩
          show Box.rows Y.Pair 2 _ = Box.rows Y.Pair 2 _
          refine congrArg _ ?_
          rw [e2, ← List.append_assoc, List.map_append (l₁ := pairsTo s k ++ pairRow s k j)]; rfl
        · have e2 : pairRow s k (j + 1) = pairRow s k j := by rw [pairRow_succ, hwf, h]; simp
          (conv => whnf)
          refine ⟨j + 1, [], ⟨by omega, by omega⟩, by omega, ⟨⟨rfl, rfl, rfl, rfl, rfl, rfl, rfl, rfl, eqI hjj, trivial⟩, ⟨rfl, rfl, ?_, rfl, trivial⟩⟩⟩
          rw [e2]; rfl
    · have hj : j = s.shapes.length := by simp at h; omega
      subst hj
      (conv => whnf)
      refine ⟨k + 1, [], hlt, by omega, ⟨⟨rfl, rfl, rfl, rfl, rfl, eqI hkk, trivial⟩, ⟨rfl, rfl, ?_, trivial⟩⟩⟩
      rw [pairsTo_succ]; rfl
  · have hk : k = s.shapes.length := by simp at h; omega
    subst hk
    (conv => whnf)
    refine ret0 ?_
    exact ⟨[(0, 2)], ⟨rfl, trivial⟩, ⟨rfl, trivial⟩⟩
end Go.Proofs.YtafglmjadbplcaaDoor

/- scene.Read. -/
namespace Go.Proofs.YtafglmjadbplcaaDoor
open Eng
set_option maxRecDepth 10000
attribute [local irreducible] FnOk loopW idxF retX arrF findF

abbrev LkR (js : List Joint) (w : ByteArray) : SV := .tup [(false, [.dv (.int .i64 (linkI js w))]), (false, [.dv (.bool (linkB js w))])]
theorem scene_findLink (r : Robot) (w : ByteArray) (hr : r.joints.length ≤ 1000000000) : FnOk Tryd.prog F.scene_findLink [Ro r, Tx w] [] 0 (LkR r.joints w) [] 0 := by
  by_cases h : w = worldT
  · have e1 : linkI r.joints w = -1 := if_pos h
    have e2 : linkB r.joints w = true := by simp [linkB, h]
    simp only [LkR, e1, e2]
    refine fnOk tab mix G.scene_findLink rfl rfl (by kernel_rfl) rfl rfl ?_
    (conv => whnf)
    refine ask_mt (decide_eq_true h) ?_
    (conv => whnf)
    refine ret0 ?_
    exact ⟨[], ⟨rfl, trivial⟩, trivial⟩
  · have e1 : linkI r.joints w = find r.joints w 0 := if_neg h
    have e2 : linkB r.joints w = decide (0 ≤ find r.joints w 0) := by simp [linkB, h]
    simp only [LkR, e1, e2]
    refine fnOk tab mix G.scene_findLink rfl rfl (by kernel_rfl) rfl rfl ?_
    (conv => whnf)
    refine ask_mf (decide_eq_false h) ?_
    (conv => whnf)
    refine call_i (robot_Find r w (by omega)) ?_
    (conv => whnf)
    (conv => whnf)
    refine ret0 ?_
    exact ⟨[], ⟨rfl, trivial⟩, trivial⟩
abbrev mSc (r : Robot) (q : Acc) : List (Nat × Box) := [(0, .vars Y.Scene [.dv (dJs r.joints), .dv (dMs r.masses), .row 1, .row 2]), (1, .rows Y.Shape 3 (q.shapes.map encSh)), (2, .rows Y.Skip 2 (q.skips.map encSk))]
abbrev mSc' (r : Robot) (q : Acc) : List (Nat × Box) := [(0, .vars Y.Scene [.dv (dJs r.joints), .dv (dMs r.masses), .row 3, .row 4]), (3, .rows Y.Shape 3 (q.shapes.map encSh)), (4, .rows Y.Skip 2 (q.skips.map encSk))]
theorem scene_addSkip (r : Robot) (q : Acc) (a b : ByteArray) (hr : r.joints.length ≤ 1000000000) (hq : q.skips.length ≤ 1000000000) : FnOk Tryd.prog F.scene_addSkip [.one (.vptr 0 0), .one (.dv (dAs [a, b]))] (mSc r q) 3 (I (readSk r.joints q [a, b]).1) (mSc' r (readSk r.joints q [a, b]).2) 5 := by
  refine fnOk tab mix G.scene_addSkip rfl rfl (by kernel_rfl) rfl rfl ?_
  (conv => whnf)
  refine idx_and (xs := [a, b]) (x := a) (by decide) rfl ?_
  (conv => whnf)
  refine call_i (scene_findLink r a hr) ?_
  (conv => whnf)
  refine idx_and (xs := [a, b]) (x := b) (by decide) rfl ?_
  (conv => whnf)
  refine call_i (scene_findLink r b hr) ?_
  (conv => whnf)
  rw [readSk]
  cases h1 : linkB r.joints a with
  | false =>
    (conv => whnf)
    (conv => whnf)
    refine retO [] ?_
    (conv => whnf)
    exact ⟨[(3, 1), (4, 2)], ⟨rfl, trivial⟩, ⟨rfl, rfl, rfl, trivial⟩⟩
  | true =>
    (conv => whnf)
    cases h2 : linkB r.joints b with
    | false =>
      (conv => whnf)
      (conv => whnf)
      refine retO [] ?_
      (conv => whnf)
      exact ⟨[(3, 1), (4, 2)], ⟨rfl, trivial⟩, ⟨rfl, rfl, rfl, trivial⟩⟩
    | true =>
      (conv => whnf)
      refine ⟨⟨by simp; omega, by simp; omega⟩, ?_⟩
      (conv => whnf)
      (conv => whnf)
      refine retO [] ?_
      (conv => whnf)
      exact ⟨[(3, 1), (4, 4)], ⟨rfl, trivial⟩, ⟨rfl, rfl, rows_eq (by rw [if_neg (by decide), List.map_append]; rfl), trivial⟩⟩
theorem scene_addShape (r : Robot) (q : Acc) (n rd : ByteArray) (cs : List ByteArray) (m : Nat) (hcs : cs.length = 3 * m) (hm : m ≤ 1000) (hr : r.joints.length ≤ 1000000000) (hq : q.shapes.length ≤ 1000000000) (hs : ∀ w ∈ rd :: cs, w.size ≤ 4611686018427387904) : FnOk Tryd.prog F.scene_addShape [.one (.vptr 0 0), .one (.dv (dAs (n :: rd :: cs)))] (mSc r q) 3 (I (readSh r.joints q (n :: rd :: cs)).1) (mSc' r (readSh r.joints q (n :: rd :: cs)).2) 5 := by
  refine fnOkG [(17, [.frz 3])] tab mix G.scene_addShape rfl rfl (by kernel_rfl) rfl rfl ?_
  (conv => whnf)
  refine idx_and (xs := n :: rd :: cs) (x := n) (by decide) rfl ?_
  (conv => whnf)
  refine call_i (scene_findLink r n hr) ?_
  (conv => whnf)
  rw [readSh]
  cases h1 : linkB r.joints n with
  | false =>
    (conv => whnf)
    (conv => whnf)
    refine retO [] ?_
    (conv => whnf)
    exact ⟨[(3, 1), (4, 2)], ⟨rfl, trivial⟩, ⟨rfl, rfl, rfl, trivial⟩⟩
  | true =>
  rw [if_neg (by decide)]
  (conv => whnf)
  refine idx_and (xs := n :: rd :: cs) (x := rd) (by decide) rfl ?_
  (conv => whnf)
  refine call_i (token_Number rd (hs rd (by simp))) ?_
  (conv => whnf)
  cases h2 : (numOf rd).2 with
  | false =>
    rw [if_pos (by rw [List.all_cons, h2]; rfl)]
    (conv => whnf)
    (conv => whnf)
    refine retO [] ?_
    (conv => whnf)
    exact ⟨[(3, 1), (4, 2)], ⟨rfl, trivial⟩, ⟨rfl, rfl, rfl, trivial⟩⟩
  | true =>
  rw [List.all_cons, h2, Bool.true_and]
  have ed : IntKind.i64.wrap ((((cs.map encA).length : Nat) : Int).tdiv 3) = (m : Int) := by
    rw [List.length_map, hcs, Int.tdiv_eq_ediv_of_nonneg (by omega), w64] <;> omega
  (conv => whnf)
  refine ⟨⟨by decide, by simp; omega⟩, ?_⟩
  (conv => whnf)
  have es : List.drop (Int.toNat 2) (List.take ((n :: rd :: cs).map encA).length ((n :: rd :: cs).map encA)) = cs.map encA := by rw [List.take_length]; rfl
  rw [es]
  refine ⟨(by decide : (3 : Int) ≠ 0), ?_⟩
  (conv => whnf)
  rw [ed]
  refine ⟨⟨by omega, by omega, by show (24 : Int) * _ ≤ _; omega, by omega⟩, ?_⟩
  (conv => whnf)
  obtain ⟨xs, hxs⟩ : ∃ xs, xs = cs.map fun w => (numOf w).1 := ⟨_, rfl⟩
  refine loop_intro (fun k : Nat => ⟨[(0, .one (.vptr 0 0)), (5, I (linkI r.joints n)), (7, I (numOf rd).1), (10, .one (.row 3)), (43, .one (.dv (dAs cs))), (44, I cs.length), (45, I k)], [(0, .vars Y.Scene [.dv (dJs r.joints), .dv (dMs r.masses), .row 1, .row 2]), (1, .rows Y.Shape 3 (q.shapes.map encSh)), (2, .rows Y.Skip 2 (q.skips.map encSk)), (3, .rows Y.Vec 3 (fillP xs m k))], 4⟩) (fun k => k ≤ cs.length ∧ ((cs.take k).all fun w => (numOf w).2) = true) (fun k => cs.length - k) [] 0 [] ⟨Nat.zero_le _, rfl⟩ ⟨⟨rfl, rfl, rfl, rfl, rfl, eqI (by simp), rfl, trivial⟩, ⟨rfl, rfl, rfl, rows_eq ?_, trivial⟩⟩ ?_
  · rw [Int.toNat_natCast]
    refine (List.eq_replicate_iff.2 ⟨fillP_len _ _ _, fun b hb => ?_⟩).symm
    obtain ⟨j, _, rfl⟩ := List.mem_map.1 hb
    simp [cAt]
  rintro k ⟨hk, hall⟩
  have hkk : IntKind.i64.wrap ((k : Int) + 1) = ((k + 1 : Nat) : Int) := by rw [w64] <;> omega
  (conv => whnf)
  refine ask_m (fun hlt => ?_) (fun hlt => ?_)
  · have hlt : k < cs.length := by have := of_decide_eq_true hlt; omega
    obtain ⟨w, hw⟩ : ∃ w, cs[k]? = some w := ⟨_, List.getElem?_eq_getElem hlt⟩
    have hx : xs[k]? = some (numOf w).1 := by rw [hxs, List.getElem?_map, hw]; rfl
    (conv => whnf)
    refine idx_and (by omega) (by simpa using hw) ?_
    (conv => whnf)
    refine call_i (token_Number w (hs w (by simp [List.mem_of_getElem? hw]))) ?_
    (conv => whnf)
    cases hb : (numOf w).2 with
    | false =>
      rw [if_pos (all_not hw hb)]
      (conv => whnf)
      (conv => whnf)
      refine retO [] ?_
      (conv => whnf)
      exact ⟨[(3, 1), (4, 2)], ⟨rfl, trivial⟩, ⟨rfl, rfl, rfl, trivial⟩⟩
    | true =>
      have hk3 : k / 3 < m := by omega
      have q1 : IntKind.i64.wrap ((k : Int).tdiv 3) = ((k / 3 : Nat) : Int) := by rw [Int.tdiv_eq_ediv_of_nonneg (by omega), w64 (by omega) (by omega)]; omega
      have q2 : (k : Int).tmod 3 = ((k % 3 : Nat) : Int) := by rw [Int.tmod_eq_emod_of_nonneg (by omega)]; omega
      have hst := fillP_set hx (m := m) (by omega)
      (conv => whnf)
      refine ⟨(by decide : (3 : Int) ≠ 0), ?_⟩
      (conv => whnf)
      rw [q1]
      refine ⟨(by decide : (3 : Int) ≠ 0), ?_⟩
      (conv => whnf)
      rw [q2]
      refine ⟨⟨by omega, by rw [fillP_len]; omega⟩, ?_⟩
      (conv => whnf)
      refine ⟨⟨by omega, by show _ < (3 : Int); omega⟩, ?_⟩
      (conv => whnf)
      rw [Int.toNat_natCast, Int.toNat_natCast]
      refine idx_at (fillP_at hk3) ?_
      have h3 : k % 3 = 0 ∨ k % 3 = 1 ∨ k % 3 = 2 := by omega
      rcases h3 with h3 | h3 | h3
      all_goals
        rw [h3] at hst ⊢
        (conv => whnf)
        exact ⟨k + 1, [], ⟨hlt, all_take hall hw hb⟩, by omega, ⟨⟨rfl, rfl, rfl, rfl, rfl, rfl, eqI hkk, trivial⟩, ⟨rfl, rfl, rfl, rows_eq (by rw [← hst]; rfl), trivial⟩⟩⟩
  · have hk : k = cs.length := by have := of_decide_eq_false hlt; omega
    subst hk
    rw [List.take_length] at hall
    rw [if_neg (by rw [hall]; decide)]
    have hf := ptsOf_fill m xs (by rw [hxs, List.length_map, hcs])
    have hxl : xs.length = cs.length := by rw [hxs, List.length_map]
    rw [hxl] at hf
    rw [← hf, ← hxs]
    (conv => whnf)
    refine ⟨⟨by simp; omega, by simp; omega⟩, ?_⟩
    (conv => whnf)
    (conv => whnf)
    refine retO [] ?_
    (conv => whnf)
    exact ⟨[(3, 5), (4, 2)], ⟨rfl, trivial⟩, ⟨rfl, rows_eq (by rw [List.map_append]; rfl), rfl, trivial⟩⟩
end Go.Proofs.YtafglmjadbplcaaDoor

/- scene.add, scene.Read. -/
namespace Go.Proofs.YtafglmjadbplcaaDoor
open Eng
set_option maxRecDepth 10000
attribute [local irreducible] FnOk loopW idxF retX arrF findF

theorem len_shape {l : List ByteArray} (h : argsB wShape (l.length : Int) = true) : ∃ n rd cs m, l = n :: rd :: cs ∧ cs.length = 3 * m ∧ m ≤ 8 := by
  obtain ⟨h1, h2, h3⟩ := args_shape h
  match l, h1, h2, h3 with
  | n :: rd :: cs, h1, h2, h3 =>
    simp only [List.length_cons] at h1 h2 h3
    exact ⟨n, rd, cs, cs.length / 3, rfl, by omega, by omega⟩
theorem len_skip {l : List ByteArray} (h : argsB wSkip (l.length : Int) = true) : ∃ a b, l = [a, b] := by
  have h1 := args_skip h
  match l, h1 with
  | [a, b], _ => exact ⟨a, b, rfl⟩
theorem scene_add (r : Robot) (q : Acc) (s : Stmt) (hr : r.joints.length ≤ 1000000000) (hq : q.shapes.length ≤ 1000000000) (hq2 : q.skips.length ≤ 1000000000) (hs : stOk s) : FnOk Tryd.prog F.scene_add [.one (.vptr 0 0), StA s] (mSc r q) 3 (I (readSc r.joints q s).1) (mSc' r (readSc r.joints q s).2) 5 := by
  refine fnOk tab mix G.scene_add rfl rfl (by kernel_rfl) rfl rfl ?_
  (conv => whnf)
  by_cases h1 : s.word = wShape
  · have d1 : decide (s.word = (⟨#[115, 104, 97, 112, 101]⟩ : ByteArray)) = true := isLit h1 rfl
    rw [d1]
    (conv => whnf)
    refine call_i (syntax_Arguments s.word ((s.args.map encA).length)) ?_
    (conv => whnf)
    rw [List.length_map]
    cases ha : argsB s.word (s.args.length : Int) with
    | false =>
      have hst : readSc r.joints q s = (702, q) := by rw [readSc, if_neg (by simp [h1]), if_pos ha]
      rw [hst]
      (conv => whnf)
      (conv => whnf)
      refine retO [] ?_
      (conv => whnf)
      exact ⟨[(3, 1), (4, 2)], ⟨rfl, trivial⟩, ⟨rfl, rfl, rfl, trivial⟩⟩
    | true =>
      obtain ⟨n, rd, cs, m, e, e1, e2⟩ := len_shape (by rw [h1] at ha; exact ha)
      have hst : readSc r.joints q s = readSh r.joints q (n :: rd :: cs) := by rw [readSc, if_neg (by simp [h1]), if_neg (by rw [ha]; decide), if_pos h1, e]
      rw [hst, e]
      (conv => whnf)
      rw [d1]
      (conv => whnf)
      refine call_i (scene_addShape r q n rd cs m e1 (by omega) hr hq (fun w hw => hs w (by rw [e]; exact List.mem_cons_of_mem _ hw))) ?_
      (conv => whnf)
      (conv => whnf)
      refine retO [] ?_
      (conv => whnf)
      exact ⟨[(3, 4), (4, 5)], ⟨rfl, trivial⟩, ⟨rfl, rfl, rfl, trivial⟩⟩
  have d1 : decide (s.word = (⟨#[115, 104, 97, 112, 101]⟩ : ByteArray)) = false := noLit h1 rfl
  rw [d1]
  (conv => whnf)
  by_cases h2 : s.word = wSkip
  · have d2 : decide (s.word = (⟨#[115, 107, 105, 112]⟩ : ByteArray)) = true := isLit h2 rfl
    rw [d2]
    (conv => whnf)
    refine call_i (syntax_Arguments s.word ((s.args.map encA).length)) ?_
    (conv => whnf)
    rw [List.length_map]
    cases ha : argsB s.word (s.args.length : Int) with
    | false =>
      have hst : readSc r.joints q s = (702, q) := by rw [readSc, if_neg (by simp [h2]), if_pos ha]
      rw [hst]
      (conv => whnf)
      (conv => whnf)
      refine retO [] ?_
      (conv => whnf)
      exact ⟨[(3, 1), (4, 2)], ⟨rfl, trivial⟩, ⟨rfl, rfl, rfl, trivial⟩⟩
    | true =>
      obtain ⟨a, b, e⟩ := len_skip (by rw [h2] at ha; exact ha)
      have hst : readSc r.joints q s = readSk r.joints q [a, b] := by rw [readSc, if_neg (by simp [h2]), if_neg (by rw [ha]; decide), if_neg h1, e]
      rw [hst, e]
      (conv => whnf)
      rw [d1]
      (conv => whnf)
      refine call_i (scene_addSkip r q a b hr hq2) ?_
      (conv => whnf)
      (conv => whnf)
      refine retO [] ?_
      (conv => whnf)
      exact ⟨[(3, 4), (4, 5)], ⟨rfl, trivial⟩, ⟨rfl, rfl, rfl, trivial⟩⟩
  have d2 : decide (s.word = (⟨#[115, 107, 105, 112]⟩ : ByteArray)) = false := noLit h2 rfl
  rw [d2]
  (conv => whnf)
  have hst : readSc r.joints q s = (0, q) := by rw [readSc, if_pos ⟨h1, h2⟩]
  rw [hst]
  (conv => whnf)
  refine retO [] ?_
  (conv => whnf)
  exact ⟨[(3, 1), (4, 2)], ⟨rfl, trivial⟩, ⟨rfl, rfl, rfl, trivial⟩⟩
theorem readSc_len (js : List Joint) (q : Acc) (s : Stmt) : (readSc js q s).2.shapes.length ≤ q.shapes.length + 1 ∧ (readSc js q s).2.skips.length ≤ q.skips.length + 1 := by
  have h1 : ∀ a, (readSh js q a).2.shapes.length ≤ q.shapes.length + 1 ∧ (readSh js q a).2.skips.length ≤ q.skips.length + 1 := fun a => by
    unfold readSh
    repeat' split
    all_goals simp
  have h2 : ∀ a, (readSk js q a).2.shapes.length ≤ q.shapes.length + 1 ∧ (readSk js q a).2.skips.length ≤ q.skips.length + 1 := fun a => by
    unfold readSk
    repeat' split
    all_goals simp
  unfold readSc
  repeat' split
  all_goals first
    | exact h1 _
    | exact h2 _
    | exact ⟨Nat.le_succ _, Nat.le_succ _⟩
theorem ptsOf_len : ∀ (n : Nat) (l : List Int), l.length ≤ n → (ptsOf l).length ≤ l.length
  | _, [], _ => Nat.le_refl _
  | _, [_], _ => Nat.zero_le _
  | _, [_, _], _ => Nat.zero_le _
  | 0, _ :: _ :: _ :: _, h => by simp at h
  | n + 1, a :: b :: c :: l, h => by
    have := ptsOf_len n l (by simp at h; omega)
    rw [ptsOf]
    simp only [List.length_cons]
    omega
theorem readSc_pts (js : List Joint) (q : Acc) (s : Stmt) (hq : ∀ x ∈ q.shapes, x.points.length ≤ 26) : ∀ x ∈ (readSc js q s).2.shapes, x.points.length ≤ 26 := by
  unfold readSc
  split
  · exact hq
  split
  · exact hq
  rename_i h1 h2
  split
  · rename_i h3
    have h2 : argsB wShape (s.args.length : Int) = true := by rw [h3] at h2; simpa using h2
    obtain ⟨n, rd, cs, m, e, e1, e2⟩ := len_shape h2
    rw [e, readSh]
    split
    · exact hq
    split
    · exact hq
    · intro x hx
      rcases List.mem_append.1 hx with hx | hx
      · exact hq x hx
      · simp only [List.mem_singleton] at hx
        subst hx
        have := ptsOf_len _ (cs.map fun w => (numOf w).1) (Nat.le_refl _)
        rw [List.length_map] at this
        simp only
        omega
  · unfold readSk
    split
    · split
      · exact hq
      · exact hq
    · exact hq
abbrev ScR (p : Scene × Int × Int) : SV := .tup [(true, [.dv (dJs p.1.robot.joints), .dv (dMs p.1.robot.masses), .dv (dShs p.1.shapes), .dv (dSks p.1.skips)]), (true, [.dv (.int .i64 p.2.1), .dv (.int .i64 p.2.2)])]
theorem readRobot_bd (l : List Stmt) : (readRobot l).1.joints.length ≤ l.length ∧ (readRobot l).1.masses.length ≤ l.length := by
  have key : ∀ (l : List Stmt) (r : Robot), (readAll r l).1.joints.length ≤ r.joints.length + l.length ∧ (readAll r l).1.masses.length ≤ r.masses.length + l.length := fun l => by
    induction l with
    | nil => intro r; exact ⟨Nat.le_refl _, Nat.le_refl _⟩
    | cons s l ih =>
      intro r
      rw [readAll]
      split
      · obtain ⟨h1, h2⟩ := ih (readSt r s).2
        obtain ⟨h3, h4⟩ := readSt_len r s
        rw [List.length_cons]; omega
      · exact ⟨Nat.zero_le _, Nat.zero_le _⟩
  obtain ⟨h1, h2⟩ := key l emptyR
  simp only [emptyR, List.length_nil, Nat.zero_add] at h1 h2
  rw [readRobot]
  split
  · exact ⟨h1, h2⟩
  · split
    · exact ⟨Nat.zero_le _, Nat.zero_le _⟩
    · exact ⟨h1, h2⟩
theorem scene_Read (l : List Stmt) (hl : l.length ≤ 10000000) (hs : ∀ s ∈ l, stOk s) : FnOk Tryd.prog F.scene_Read [.one (.dv (dSts l))] [] 0 (ScR (readScene l)) [] 0 := by
  have hR := robot_Read l hl hs
  obtain ⟨b1, b2⟩ := readRobot_bd l
  have hS : readScene l = if (readRobot l).2.1 ≠ 0 then (noScene, (readRobot l).2)
    else if (readAcc (readRobot l).1.joints acc0 l).2.1 ≠ 0 then (noScene, (readAcc (readRobot l).1.joints acc0 l).2)
    else if checkScene (sceneOf (readRobot l).1 (readAcc (readRobot l).1.joints acc0 l).1) ≠ 0 then (noScene, checkScene (sceneOf (readRobot l).1 (readAcc (readRobot l).1.joints acc0 l).1), 0)
    else (sceneOf (readRobot l).1 (readAcc (readRobot l).1.joints acc0 l).1, 0, 0) := rfl
  rw [hS]
  clear hS
  generalize readRobot l = R at *
  obtain ⟨r, c, ln⟩ := R
  simp only at b1 b2 ⊢
  refine fnOk tab mix G.scene_Read rfl rfl (by kernel_rfl) rfl rfl ?_
  (conv => whnf)
  refine call_i (hR) ?_
  (conv => whnf)
  refine ask_m (fun h => ?_) (fun h => ?_)
  · have h : c ≠ 0 := by simpa using h
    rw [if_pos h]
    (conv => whnf)
    refine retO [.ownC 0 0 Y.Joint 12, .ownC 0 1 Y.Mass 5, .ownC 0 2 Y.Shape 3, .ownC 0 3 Y.Skip 2, .frz 4, .frz 5, .frz 6, .frz 7] ?_
    (conv => whnf)
    exact ⟨[], ⟨rfl, trivial⟩, trivial⟩
  have h : c = 0 := by simpa using h
  rw [if_neg (by simp [h])]
  (conv => whnf)
  refine loop_intro (fun p : Nat × Acc => ⟨[(0, .one (.dv (dSts l))), (2, .one (.vptr 0 0)), (3, .one (.vptr 1 0)), (6, .one (.vptr 4 0)), (23, .one (.dv (dSts l))), (24, I l.length), (25, I p.1)], [(0, .vars Y.Scene [.nil 12, .nil 5, .nil 3, .nil 2]), (1, .vars Y.SourceError [.dv (.int .i64 0), .dv (.int .i64 0)]), (4, .vars Y.Scene [.dv (dJs r.joints), .dv (dMs r.masses), .row 5, .row 6]), (5, .rows Y.Shape 3 (p.2.shapes.map encSh)), (6, .rows Y.Skip 2 (p.2.skips.map encSk))], 7⟩) (fun p => p.1 ≤ l.length ∧ p.2.shapes.length ≤ p.1 ∧ p.2.skips.length ≤ p.1 ∧ readAcc r.joints p.2 (l.drop p.1) = readAcc r.joints acc0 l ∧ ∀ x ∈ p.2.shapes, x.points.length ≤ 26) (fun p => l.length - p.1) [.ownC 4 2 Y.Shape 3, .ownC 4 3 Y.Skip 2] (0, acc0) [] ⟨Nat.zero_le _, Nat.zero_le _, Nat.zero_le _, rfl, (fun x hx => by cases hx)⟩ ⟨⟨rfl, rfl, rfl, rfl, rfl, eqI (by simp), rfl, trivial⟩, ⟨rfl, rfl, rfl, rfl, rfl, trivial⟩⟩ ?_
  rintro ⟨k, q⟩ ⟨hk, hj, hm, hall, hpt⟩
  simp only at hk hj hm hall hpt
  have hkk : IntKind.i64.wrap ((k : Int) + 1) = ((k + 1 : Nat) : Int) := by rw [w64] <;> omega
  (conv => whnf)
  refine ask_m (fun hlt => ?_) (fun hlt => ?_)
  · have hlt : k < l.length := by have := of_decide_eq_true hlt; omega
    obtain ⟨s, hsk⟩ : ∃ s, l[k]? = some s := ⟨_, List.getElem?_eq_getElem hlt⟩
    rw [drop_cons hsk, readAcc] at hall
    have hlen := readSc_len r.joints q s
    (conv => whnf)
    refine idx_and (by omega) (by simpa using hsk) ?_
    (conv => whnf)
    refine call_i (scene_add r q s (by omega) (by omega) (by omega) (hs s (List.mem_of_getElem? hsk))) ?_
    (conv => whnf)
    refine ask_m (fun he => ?_) (fun he => ?_)
    · have he : ¬ (readSc r.joints q s).1 = 0 := by simpa using he
      rw [if_neg he] at hall
      rw [← hall, if_pos he]
      (conv => whnf)
      refine retO [.ownC 0 0 Y.Joint 12, .ownC 0 1 Y.Mass 5, .ownC 0 2 Y.Shape 3, .ownC 0 3 Y.Skip 2, .frz 10, .frz 11, .frz 12, .frz 13] ?_
      (conv => whnf)
      exact ⟨[], ⟨rfl, trivial⟩, trivial⟩
    · have he : (readSc r.joints q s).1 = 0 := by simpa using he
      rw [if_pos he] at hall
      (conv => whnf)
      exact ⟨(k + 1, (readSc r.joints q s).2), [(5, 8), (6, 9)], ⟨hlt, by simp only; omega, by simp only; omega, hall, readSc_pts r.joints q s hpt⟩, by simp only; omega, ⟨⟨rfl, rfl, rfl, rfl, rfl, rfl, eqI hkk, trivial⟩, ⟨rfl, rfl, rfl, rfl, rfl, trivial⟩⟩⟩
  · have hk : k = l.length := by have := of_decide_eq_false hlt; omega
    subst hk
    rw [List.drop_length, readAcc] at hall
    rw [← hall, if_neg (by simp)]
    (conv => whnf)
    have hsm : small (sceneOf r q) := ⟨by show r.joints.length ≤ _; omega, by show r.masses.length ≤ _; omega, by show q.shapes.length ≤ _; omega, by show q.skips.length ≤ _; omega, fun x hx => by have := hpt x hx; omega⟩
    refine call_i (scene_Check (sceneOf r q) hsm) ?_
    (conv => whnf)
    refine ⟨⟨trivial, trivial⟩, ?_⟩
    (conv => whnf)
    refine ask_m (fun he => ?_) (fun he => ?_)
    · have he : ¬ checkScene (sceneOf r q) = 0 := by simpa using he
      rw [if_pos he]
      (conv => whnf)
      refine retO [.ownC 0 0 Y.Joint 12, .ownC 0 1 Y.Mass 5, .ownC 0 2 Y.Shape 3, .ownC 0 3 Y.Skip 2, .frz 7, .frz 8, .frz 9, .frz 10] ?_
      (conv => whnf)
      exact ⟨[], ⟨rfl, trivial⟩, trivial⟩
    · have he : checkScene (sceneOf r q) = 0 := by simpa using he
      rw [if_neg (by simp [he])]
      (conv => whnf)
      refine retO [.frz 5, .frz 6] ?_
      (conv => whnf)
      exact ⟨[], ⟨rfl, trivial⟩, trivial⟩
end Go.Proofs.YtafglmjadbplcaaDoor

/- mk.Slider, mk.Track. -/
namespace Go.Proofs.YtafglmjadbplcaaDoor
open Eng
set_option maxRecDepth 10000
attribute [local irreducible] FnOk loopW idxF retX arrF

def sliderJ (hi : Int) (i : Nat) : Joint := ⟨letter i, 4 + (i % 2 : Nat), (i : Int) - 1, ⟨0, 0, 0⟩, 0, hi, 1, 65536, 65536, 65536⟩
def slider (n : Nat) (hi : Int) : Robot := ⟨(List.range n).map (sliderJ hi), []⟩
def tkP (l : List Int) (q : Nat) : List Vec := if nxt l (q + 2) 3 = 0 then [⟨nxt l q 65, -9, 0⟩, ⟨nxt l q 65, 80, 0⟩] else [⟨nxt l q 65, nxt l (q + 1) 65, 0⟩]
def tkS (l : List Int) (q : Nat) : Shape := ⟨-1, 2 + nxt l (q + 3) 9, tkP l q⟩
def tkN (l : List Int) : Nat := 1 + (nxt l 0 2).toNat
def tkC (l : List Int) : Nat := (nxt l 2 4).toNat
def tkShapes (l : List Int) (k : Nat) : List Shape := ⟨(tkN l : Int) - 1, 1 + nxt l 1 4, [⟨0, 0, 0⟩]⟩ :: (List.range k).map fun i => tkS l (3 + 4 * i)
def mkTrack (l : List Int) : Scene := ⟨slider (tkN l) 64, tkShapes l (tkC l), []⟩
theorem tkShapes_succ (l : List Int) (k : Nat) : (tkShapes l (k + 1)).map encSh = (tkShapes l k).map encSh ++ [encSh (tkS l (3 + 4 * k))] := by
  simp [tkShapes, List.range_succ]
/- made scenes are valid -/
theorem slider_at {n k : Nat} {hi : Int} {j : Joint} (h : (slider n hi).joints[k]? = some j) : k < n ∧ j = sliderJ hi k := by
  rw [slider, List.getElem?_map] at h
  rcases Nat.lt_or_ge k n with hk | hk
  · rw [List.getElem?_range hk] at h
    exact ⟨hk, by simpa using h.symm⟩
  · rw [List.getElem?_eq_none (by simpa using hk)] at h; cases h
theorem slider_ok {n : Nat} {hi : Int} (h1 : 1 ≤ n) (h2 : n ≤ 10) (h3 : 0 ≤ hi) (h4 : hi ≤ 4194304) : checkRobot (slider n hi) = 0 := by
  have hl : (slider n hi).joints.length = n := by simp [slider]
  refine robot_valid (by omega) (by omega) (jointsErr_zero fun k j hj => ?_) (by simp [slider]) (by simp [slider])
  rw [Nat.zero_add]
  obtain ⟨hk, rfl⟩ := slider_at hj
  have hf := find_at (k := 0) hj fun i x hi' hx => by
    obtain ⟨hi2, rfl⟩ := slider_at hx
    intro e
    have := letter_ne i (by omega) k (by omega) e
    omega
  rw [Nat.zero_add] at hf
  refine jointErr_zero (letter_name k (by omega)) hf ?_
  · have hr : reach (4 + ((k % 2 : Nat) : Int)) = 4194304 := by
      rcases Nat.mod_two_eq_zero_or_one k with h | h <;> rw [h] <;> rfl
    refine ⟨⟨by simp only [sliderJ]; omega, by simp only [sliderJ]; omega⟩, ⟨by simp only [sliderJ]; omega, by simp only [sliderJ]; omega⟩, by simp only [sliderJ]; decide, ⟨by simp only [sliderJ]; omega, by simp only [sliderJ]; rw [hr]; omega, by simp only [sliderJ]; rw [hr]; omega⟩, by simp only [sliderJ]; decide⟩
theorem mkTrack_ok (l : List Int) : checkScene (mkTrack l) = 0 := by
  have n0 := nxt_bd (l := l) (j := 0) (m := 2) (by omega)
  have n1 := nxt_bd (l := l) (j := 1) (m := 4) (by omega)
  have n2 := nxt_bd (l := l) (j := 2) (m := 4) (by omega)
  have hn2 : tkN l ≤ 2 ∧ 1 ≤ tkN l := by unfold tkN; omega
  have hc3 : tkC l ≤ 3 := by unfold tkC; omega
  have hl : (mkTrack l).robot.joints.length = tkN l := by simp [mkTrack, slider]
  refine scene_valid (slider_ok hn2.2 (by omega) (by decide) (by decide)) (by simp [mkTrack, tkShapes]; omega) (fun x hx => ?_) (by simp [mkTrack]) (by simp [mkTrack])
  rw [hl]
  rcases List.mem_cons.1 hx with rfl | hx
  · exact shapeErr_zero (linkOk_mk (by simp only; omega) (by simp only; omega)) ⟨by simp only; omega, by simp only; omega⟩ ⟨by simp, by simp⟩ (by simp only [List.all_cons, List.all_nil]; decide)
  · obtain ⟨i, _, rfl⟩ := List.mem_map.1 hx
    have m0 := nxt_bd (l := l) (j := 3 + 4 * i) (m := 65) (by omega)
    have m1 := nxt_bd (l := l) (j := 3 + 4 * i + 1) (m := 65) (by omega)
    have m3 := nxt_bd (l := l) (j := 3 + 4 * i + 3) (m := 9) (by omega)
    refine shapeErr_zero (linkOk_mk (by simp only [tkS]; omega) (by simp only [tkS]; omega)) ⟨by simp only [tkS]; omega, by simp only [tkS]; omega⟩ ?_ ?_
    · simp only [tkS, tkP]; split <;> simp
    · simp only [tkS, tkP]
      split
      · simp only [List.all_cons, List.all_nil, Bool.and_true, Bool.and_eq_true]
        exact ⟨inV_mk ⟨by omega, by omega⟩ ⟨by omega, by omega⟩ ⟨by omega, by omega⟩, inV_mk ⟨by omega, by omega⟩ ⟨by omega, by omega⟩ ⟨by omega, by omega⟩⟩
      · simp only [List.all_cons, List.all_nil, Bool.and_true]
        exact inV_mk ⟨by omega, by omega⟩ ⟨by omega, by omega⟩ ⟨by omega, by omega⟩
end Go.Proofs.YtafglmjadbplcaaDoor

/- Joined scenes: the data, and team's functions up to addShapes. -/
namespace Go.Proofs.YtafglmjadbplcaaDoor
open Eng
set_option maxRecDepth 10000
attribute [local irreducible] FnOk loopW idxF retX arrF

abbrev ww (x : Int) : Int := IntKind.i64.wrap x
def addV (b v : Vec) : Vec := ⟨ww (v.x + b.x), ww (v.y + b.y), ww (v.z + b.z)⟩
def joinV (b v : Vec) (n : Int) : Vec := if n = -1 then addV b v else v
def raise (p n : Int) : Int := if n = -1 then -1 else n + p
abbrev Am (t : ByteArray) (p : Int) (b : Vec) : SV := .agg [.dv (.str t), .dv (.int .i64 p), .dv (.int .i64 b.x), .dv (.int .i64 b.y), .dv (.int .i64 b.z)]
def vS (b v : Vec) : Nat → Vec
  | 0 => v
  | 1 => ⟨ww (v.x + b.x), v.y, v.z⟩
  | 2 => ⟨ww (v.x + b.x), ww (v.y + b.y), v.z⟩
  | _ => addV b v
/- scenes joined one after the other -/
def joinJ (t : ByteArray) (p : Int) (b : Vec) (j : Joint) : Joint := ⟨t ++ j.name, j.kind, raise p j.parent, joinV b j.off j.parent, j.lo, j.hi, j.weight, j.speed, j.accel, j.torque⟩
def joinM (p : Int) (m : Mass) : Mass := ⟨raise p m.link, m.mass, m.point⟩
def joinSh (p : Int) (b : Vec) (x : Shape) : Shape := ⟨raise p x.link, x.radius, x.points.map fun v => joinV b v x.link⟩
def joinSk (p : Int) (k : Skip) : Skip := ⟨raise p k.a, raise p k.b⟩
def addScene (acc : Scene) (t : ByteArray) (b : Vec) (s : Scene) : Scene :=
  ⟨⟨acc.robot.joints ++ s.robot.joints.map (joinJ t acc.robot.joints.length b), acc.robot.masses ++ s.robot.masses.map (joinM acc.robot.joints.length)⟩, acc.shapes ++ s.shapes.map (joinSh acc.robot.joints.length b), acc.skips ++ s.skips.map (joinSk acc.robot.joints.length)⟩
end Go.Proofs.YtafglmjadbplcaaDoor

/- team: Clone, addRobot, addShapes. -/
namespace Go.Proofs.YtafglmjadbplcaaDoor
open Eng
set_option maxRecDepth 10000
attribute [local irreducible] FnOk loopW idxF retX arrF

abbrev bJs (js : List Joint) : Box := .rows Y.Joint 12 (js.map encJ)
abbrev bMs (ms : List Mass) : Box := .rows Y.Mass 5 (ms.map encM)
abbrev bShs (ss : List Shape) : Box := .rows Y.Shape 3 (ss.map encSh)
abbrev bSks (ss : List Skip) : Box := .rows Y.Skip 2 (ss.map encSk)
theorem map_enc1 {α β : Type} (f : α → β) (enc : β → List DV) (A : List β) {l : List α} {k : Nat} {x : α} (h : l[k]? = some x) : (A ++ (l.take (k + 1)).map f).map enc = (A ++ (l.take k).map f).map enc ++ [enc (f x)] := by
  rw [map_take1 f h, ← List.append_assoc, List.map_append]; rfl
theorem set_mid {α : Type} {A B : List α} {x y : α} {k : Nat} (h : A.length = k) : (A ++ x :: B).set k y = A ++ y :: B := by
  subst h; simp
end Go.Proofs.YtafglmjadbplcaaDoor

/- team.Join. -/
namespace Go.Proofs.YtafglmjadbplcaaDoor
open Eng
set_option maxRecDepth 10000
attribute [local irreducible] FnOk loopW idxF retX arrF

def encSc (s : Scene) : List DV := [dJs s.robot.joints, dMs s.robot.masses, dShs s.shapes, dSks s.skips]
abbrev dScs (l : List Scene) : DV := .lst 4 (l.map encSc)
def emptyS : Scene := ⟨⟨[], []⟩, [], []⟩
def joinTo (l : List Scene) (bs : List Vec) : Nat → Scene
  | 0 => emptyS
  | k + 1 => addScene (joinTo l bs k) (letter k) (bs.getD k ⟨0, 0, 0⟩) (l.getD k emptyS)
def firstBad : List Scene → Int
  | [] => 0
  | s :: l => if checkScene s = 0 then firstBad l else checkScene s
def joinOf (l : List Scene) (bs : List Vec) : Scene × Int :=
  if l.length < 1 ∨ 4 < l.length ∨ bs.length ≠ l.length then (emptyS, 3501)
  else if firstBad l ≠ 0 then (emptyS, firstBad l)
  else if checkScene (joinTo l bs l.length) ≠ 0 then (emptyS, 3502)
  else (joinTo l bs l.length, 0)
abbrev JnR (r : Scene × Int) : SV := .tup [(true, [.dv (dJs r.1.robot.joints), .dv (dMs r.1.robot.masses), .dv (dShs r.1.shapes), .dv (dSks r.1.skips)]), (false, [.dv (.int .i64 r.2)])]
abbrev bScZ : Box := .vars Y.Scene [.nil 12, .nil 5, .nil 3, .nil 2]
theorem getD_at {α : Type} {l : List α} {k : Nat} {x d : α} (h : l[k]? = some x) : l.getD k d = x := by
  rw [List.getD_eq_getElem?_getD, h]; rfl
theorem firstBad_all : ∀ {l : List Scene}, firstBad l = 0 → ∀ s ∈ l, checkScene s = 0
  | [], _, s, hs => by cases hs
  | x :: l, h, s, hs => by
    rw [firstBad] at h
    split at h
    · rename_i h0
      rcases List.mem_cons.1 hs with rfl | hs
      · exact h0
      · exact firstBad_all h s hs
    · rename_i h0; exact absurd h h0
structure Sized (n : Nat) (s : Scene) : Prop where
  joints : s.robot.joints.length ≤ 10 * n
  masses : s.robot.masses.length ≤ 32 * n
  shapes : s.shapes.length ≤ 24 * n
  skips : s.skips.length ≤ 64 * n
  points : ∀ x ∈ s.shapes, x.points.length ≤ 8
theorem Sized.small {n : Nat} {s : Scene} (h : Sized n s) (hn : n ≤ 1000) : small s := by
  have := h.joints; have := h.masses; have := h.shapes; have := h.skips
  exact ⟨by omega, by omega, by omega, by omega, fun x hx => by have := h.points x hx; omega⟩
theorem joinTo_sized {l : List Scene} (bs : List Vec) (hl : ∀ s ∈ l, checkScene s = 0) : ∀ k, k ≤ l.length → Sized k (joinTo l bs k)
  | 0, _ => ⟨Nat.le_refl _, Nat.le_refl _, Nat.le_refl _, Nat.le_refl _, fun x hx => by cases hx⟩
  | k + 1, h => by
    obtain ⟨i1, i2, i3, i4, i5⟩ := joinTo_sized bs hl k (by omega)
    obtain ⟨s, hs⟩ : ∃ s, l[k]? = some s := ⟨_, List.getElem?_eq_getElem (by omega)⟩
    obtain ⟨g0, g1, g2, g3, g4⟩ := scene_facts (hl s (List.mem_of_getElem? hs))
    obtain ⟨f1, _, f3, _⟩ := robot_facts g0
    rw [joinTo, getD_at hs]
    refine ⟨?_, ?_, ?_, ?_, fun x hx => ?_⟩
    · simp only [addScene, List.length_append, List.length_map]; omega
    · simp only [addScene, List.length_append, List.length_map]; omega
    · simp only [addScene, List.length_append, List.length_map]; omega
    · simp only [addScene, List.length_append, List.length_map]; omega
    · rcases List.mem_append.1 hx with hx | hx
      · exact i5 x hx
      · obtain ⟨y, hy, rfl⟩ := List.mem_map.1 hx
        have := (g2 y hy).2.2.1
        simp only [joinSh, List.length_map]; exact this
theorem enc_letter : ∀ k : Nat, k < 4 → Utf8.encode (IntKind.i32.wrap (IntKind.i64.wrap (97 + (k : Int)))) = letter k := by decide
theorem letter_size : ∀ k, k < 10 → (letter k).size = 1 := by decide
theorem firstBad_at {k : Nat} {l : List Scene} {s : Scene} (h : l[k]? = some s) : firstBad (l.drop k) = if checkScene s = 0 then firstBad (l.drop (k + 1)) else checkScene s := by
  rw [drop_cons h, firstBad]
end Go.Proofs.YtafglmjadbplcaaDoor

/- law35: the comparisons of lists and scenes. -/
namespace Go.Proofs.YtafglmjadbplcaaDoor
open Eng
set_option maxRecDepth 10000
attribute [local irreducible] FnOk loopW idxF retX arrF

theorem cmp_mk_Same_Vec : cmpB Tryd.prog 8 Y.Vec = true ∧ Tryd.prog.eqGuardType Tryd.prog.depth Y.Vec = false := ⟨by kernel_rfl, by kernel_rfl⟩
theorem mk_Same_Vec (a b : List Vec) (ha : a.length ≤ 4611686018427387904) (hb : b.length ≤ 4611686018427387904) : FnOk Tryd.prog F.mk_Same_api_Vec [.one (.dv (.lst 3 (a.map encV))), .one (.dv (.lst 3 (b.map encV)))] [] 0 (Bo (decide (a = b))) [] 0 := by
  refine fnOk tab mix G.mk_Same_api_Vec rfl rfl (by kernel_rfl) rfl rfl ?_
  (conv => whnf)
  refine ask_m (fun h => ?_) (fun h => ?_)
  · (conv => whnf)
    refine ret0 ?_
    refine ret_b (Eq.symm (decide_eq_false ?_)) rfl
    rintro rfl
    simp at h
  have hl : a.length = b.length := by simp at h; omega
  (conv => whnf)
  refine loop_intro (fun k : Nat => ⟨[(0, .one (.dv (.lst 3 (a.map encV)))), (1, .one (.dv (.lst 3 (b.map encV)))), (5, I k)], [], 0⟩) (fun k => k ≤ a.length ∧ a.take k = b.take k) (fun k => a.length - k) [] 0 [] ⟨Nat.zero_le _, rfl⟩ ⟨⟨rfl, rfl, rfl, trivial⟩, trivial⟩ ?_
  rintro k ⟨hk, hall⟩
  (conv => whnf)
  refine ask_m (fun h => ?_) (fun h => ?_)
  · have hlt : k < a.length := by simpa using h
    obtain ⟨x, hx⟩ : ∃ j, a[k]? = some j := ⟨_, List.getElem?_eq_getElem hlt⟩
    obtain ⟨y, hy⟩ : ∃ j, b[k]? = some j := ⟨_, List.getElem?_eq_getElem (by omega)⟩
    have hkk : IntKind.i64.wrap ((k : Int) + 1) = ((k + 1 : Nat) : Int) := by rw [w64] <;> omega
    (conv => whnf)
    refine idx_and (by omega) (by simpa using hx) ?_
    (conv => whnf)
    refine idx_and (by omega) (by simpa using hy) ?_
    (conv => whnf)
    refine ⟨cmp_mk_Same_Vec, ?_⟩
    (conv => whnf)
    refine ask_m (fun h => ?_) (fun h => ?_)
    · (conv => whnf)
      refine ret0 ?_
      refine ret_b (Eq.symm (decide_eq_false (ne_at hx hy ?_))) rfl
      rintro rfl
      simp at h
    · skip
      have e : x = y := by
        obtain ⟨a1, a2, a3⟩ := x
        obtain ⟨b1, b2, b3⟩ := y
        simp at h; simp [h]
      subst e
      (conv => whnf)
      exact ⟨k + 1, [], ⟨hlt, take_same hall hx hy⟩, by omega, ⟨⟨rfl, rfl, eqI hkk, trivial⟩, trivial⟩⟩
  · have hk : k = a.length := by simp at h; omega
    subst hk
    rw [List.take_length, hl, List.take_length] at hall
    (conv => whnf)
    refine ret0 ?_
    exact ret_b (decide_eq_true hall).symm rfl
theorem cmp_mk_Same_Skip : cmpB Tryd.prog 8 Y.Skip = true ∧ Tryd.prog.eqGuardType Tryd.prog.depth Y.Skip = false := ⟨by kernel_rfl, by kernel_rfl⟩
theorem mk_Same_Skip (a b : List Skip) (ha : a.length ≤ 4611686018427387904) (hb : b.length ≤ 4611686018427387904) : FnOk Tryd.prog F.mk_Same_api_Skip [.one (.dv (.lst 2 (a.map encSk))), .one (.dv (.lst 2 (b.map encSk)))] [] 0 (Bo (decide (a = b))) [] 0 := by
  refine fnOk tab mix G.mk_Same_api_Skip rfl rfl (by kernel_rfl) rfl rfl ?_
  (conv => whnf)
  refine ask_m (fun h => ?_) (fun h => ?_)
  · (conv => whnf)
    refine ret0 ?_
    refine ret_b (Eq.symm (decide_eq_false ?_)) rfl
    rintro rfl
    simp at h
  have hl : a.length = b.length := by simp at h; omega
  (conv => whnf)
  refine loop_intro (fun k : Nat => ⟨[(0, .one (.dv (.lst 2 (a.map encSk)))), (1, .one (.dv (.lst 2 (b.map encSk)))), (5, I k)], [], 0⟩) (fun k => k ≤ a.length ∧ a.take k = b.take k) (fun k => a.length - k) [] 0 [] ⟨Nat.zero_le _, rfl⟩ ⟨⟨rfl, rfl, rfl, trivial⟩, trivial⟩ ?_
  rintro k ⟨hk, hall⟩
  (conv => whnf)
  refine ask_m (fun h => ?_) (fun h => ?_)
  · have hlt : k < a.length := by simpa using h
    obtain ⟨x, hx⟩ : ∃ j, a[k]? = some j := ⟨_, List.getElem?_eq_getElem hlt⟩
    obtain ⟨y, hy⟩ : ∃ j, b[k]? = some j := ⟨_, List.getElem?_eq_getElem (by omega)⟩
    have hkk : IntKind.i64.wrap ((k : Int) + 1) = ((k + 1 : Nat) : Int) := by rw [w64] <;> omega
    (conv => whnf)
    refine idx_and (by omega) (by simpa using hx) ?_
    (conv => whnf)
    refine idx_and (by omega) (by simpa using hy) ?_
    (conv => whnf)
    refine ⟨cmp_mk_Same_Skip, ?_⟩
    (conv => whnf)
    refine ask_m (fun h => ?_) (fun h => ?_)
    · (conv => whnf)
      refine ret0 ?_
      refine ret_b (Eq.symm (decide_eq_false (ne_at hx hy ?_))) rfl
      rintro rfl
      simp at h
    · skip
      have e : x = y := by
        obtain ⟨a1, a2⟩ := x
        obtain ⟨b1, b2⟩ := y
        simp at h; simp [h]
      subst e
      (conv => whnf)
      exact ⟨k + 1, [], ⟨hlt, take_same hall hx hy⟩, by omega, ⟨⟨rfl, rfl, eqI hkk, trivial⟩, trivial⟩⟩
  · have hk : k = a.length := by simp at h; omega
    subst hk
    rw [List.take_length, hl, List.take_length] at hall
    (conv => whnf)
    refine ret0 ?_
    exact ret_b (decide_eq_true hall).symm rfl
theorem mk_SameScene (a b : Scene) (ha : small a) (hb : small b) : FnOk Tryd.prog F.mk_SameScene [Sc a, Sc b] [] 0 (Bo (decide (a = b))) [] 0 := by
  refine fnOk tab mix G.mk_SameScene rfl rfl (by kernel_rfl) rfl rfl ?_
  (conv => whnf)
  obtain ⟨ra, sa, ka⟩ := a
  obtain ⟨rb, sb, kb⟩ := b
  obtain ⟨a1, a2, a3, a4, a5⟩ := ha
  obtain ⟨b1, b2, b3, b4, b5⟩ := hb
  simp only at a1 a2 a3 a4 a5 b1 b2 b3 b4 b5
  refine call_i (mk_SameRobot ra rb ⟨a1, a2⟩ ⟨b1, b2⟩) ?_
  (conv => whnf)
  by_cases h1 : ra = rb
  case neg =>
    rw [decide_eq_false h1]
    (conv => whnf)
    refine ret0 ?_
    exact ret_b (by simp [h1]) rfl
  rw [decide_eq_true h1]
  (conv => whnf)
  refine call_i (mk_Same_Skip ka kb a4 b4) ?_
  (conv => whnf)
  by_cases h2 : ka = kb
  case neg =>
    rw [decide_eq_false h2]
    (conv => whnf)
    refine ret0 ?_
    exact ret_b (by simp [h2]) rfl
  rw [decide_eq_true h2]
  (conv => whnf)
  refine ask_m (fun h => ?_) (fun h => ?_)
  · have h : ¬ sa.length = sb.length := by simp at h; omega
    (conv => whnf)
    refine ret0 ?_
    exact ret_b (by symm; refine decide_eq_false fun e => h ?_; simp only [Scene.mk.injEq] at e; rw [e.2.1]) rfl
  have hl : sa.length = sb.length := by simp at h; omega
  (conv => whnf)
  refine loop_intro (fun k : Nat => ⟨[(2, .one (.vptr 0 0)), (3, .one (.vptr 1 0)), (5, I k)], [(0, bSc ⟨ra, sa, ka⟩), (1, bSc ⟨rb, sb, kb⟩)], 2⟩) (fun k => k ≤ sa.length ∧ sa.take k = sb.take k) (fun k => sa.length - k) [] 0 [] ⟨Nat.zero_le _, rfl⟩ ⟨⟨rfl, rfl, rfl, trivial⟩, ⟨rfl, rfl, trivial⟩⟩ ?_
  rintro k ⟨hk, hall⟩
  have hkk : IntKind.i64.wrap ((k : Int) + 1) = ((k + 1 : Nat) : Int) := by rw [w64] <;> omega
  (conv => whnf)
  refine ask_m (fun h => ?_) (fun h => ?_)
  · have hlt : k < sa.length := by simpa using h
    obtain ⟨x, hx⟩ : ∃ j, sa[k]? = some j := ⟨_, List.getElem?_eq_getElem hlt⟩
    obtain ⟨y, hy⟩ : ∃ j, sb[k]? = some j := ⟨_, List.getElem?_eq_getElem (by omega)⟩
    have hbad : x ≠ y → decide ((⟨ra, sa, ka⟩ : Scene) = ⟨rb, sb, kb⟩) = false := fun hn => decide_eq_false fun e => by
      simp only [Scene.mk.injEq] at e
      exact ne_at hx hy hn e.2.1
    (conv => whnf)
    refine idx_and (by omega) (by simpa using hx) ?_
    (conv => whnf)
    refine idx_and (by omega) (by simpa using hy) ?_
    (conv => whnf)
    refine ask_m (fun q1 => ?_) (fun q1 => ?_)
    · have q1 : ¬ x.link = y.link := by simpa using q1
      (conv => whnf)
      refine ret0 ?_
      exact ret_b (by rw [hbad fun e => q1 (congrArg Shape.link e)]) rfl
    have q1 : x.link = y.link := by simpa using q1
    (conv => whnf)
    refine ask_m (fun q2 => ?_) (fun q2 => ?_)
    · have q2 : ¬ x.radius = y.radius := by simpa using q2
      (conv => whnf)
      refine ret0 ?_
      exact ret_b (by rw [hbad fun e => q2 (congrArg Shape.radius e)]) rfl
    have q2 : x.radius = y.radius := by simpa using q2
    (conv => whnf)
    refine call_i (mk_Same_Vec x.points y.points (a5 x (List.mem_of_getElem? hx)) (b5 y (List.mem_of_getElem? hy))) ?_
    (conv => whnf)
    by_cases q3 : x.points = y.points
    · rw [decide_eq_true q3]
      (conv => whnf)
      have e : x = y := by cases x; cases y; simp only at q1 q2 q3; simp [q1, q2, q3]
      exact ⟨k + 1, [], ⟨hlt, take_same hall hx (by rw [e]; exact hy)⟩, by omega, ⟨⟨rfl, rfl, eqI hkk, trivial⟩, ⟨rfl, rfl, trivial⟩⟩⟩
    · rw [decide_eq_false q3]
      (conv => whnf)
      (conv => whnf)
      refine ret0 ?_
      exact ret_b (by rw [hbad fun e => q3 (congrArg Shape.points e)]) rfl
  · have hk : k = sa.length := by simp at h; omega
    subst hk
    rw [List.take_length, hl, List.take_length] at hall
    (conv => whnf)
    refine ret0 ?_
    exact ret_b (by simp [h1, h2, hall]) rfl
def smallB (s : Scene) : Bool := decide (s.robot.joints.length ≤ 4) && decide (s.robot.masses.length ≤ 6) && decide (s.shapes.length ≤ 6) && decide (s.skips.length ≤ 8)
end Go.Proofs.YtafglmjadbplcaaDoor

/- ref.readLink, ref.ReadScene, reads. -/
namespace Go.Proofs.YtafglmjadbplcaaDoor
open Eng
set_option maxRecDepth 10000
attribute [local irreducible] FnOk loopW idxF retX arrF findF

theorem ref_readLink (r : Robot) (w : ByteArray) (hr : r.joints.length ≤ 1000000000) : FnOk Tryd.prog F.ref6_readLink [Ro r, Tx w] [] 0 (LkR r.joints w) [] 0 := by
  by_cases h : w = worldT
  · have e1 : linkI r.joints w = -1 := if_pos h
    have e2 : linkB r.joints w = true := by simp [linkB, h]
    simp only [LkR, e1, e2]
    refine fnOk tab mix G.ref6_readLink rfl rfl (by kernel_rfl) rfl rfl ?_
    (conv => whnf)
    refine ask_mt (decide_eq_true h) ?_
    (conv => whnf)
    refine ret0 ?_
    exact ⟨[], ⟨rfl, trivial⟩, trivial⟩
  · have e1 : linkI r.joints w = find r.joints w 0 := if_neg h
    have e2 : linkB r.joints w = decide (0 ≤ find r.joints w 0) := by simp [linkB, h]
    simp only [LkR, e1, e2]
    refine fnOk tab mix G.ref6_readLink rfl rfl (by kernel_rfl) rfl rfl ?_
    (conv => whnf)
    refine ask_mf (decide_eq_false h) ?_
    (conv => whnf)
    refine call_i (ref_Find r w (by omega)) ?_
    (conv => whnf)
    (conv => whnf)
    refine ret0 ?_
    exact ⟨[], ⟨rfl, trivial⟩, trivial⟩
theorem ptsOf_at : ∀ (j : Nat) (xs : List Int), 3 * j + 2 < xs.length → ∃ a b c, xs[3 * j]? = some a ∧ xs[3 * j + 1]? = some b ∧ xs[3 * j + 2]? = some c ∧ (ptsOf xs)[j]? = some ⟨a, b, c⟩
  | j, [], h => by simp at h
  | j, [a], h => by simp at h
  | j, [a, b], h => by simp at h; omega
  | 0, a :: b :: c :: l, _ => ⟨a, b, c, rfl, rfl, rfl, rfl⟩
  | j + 1, a :: b :: c :: l, h => by
    obtain ⟨x, y, z, h1, h2, h3, h4⟩ := ptsOf_at j l (by simp at h; omega)
    refine ⟨x, y, z, ?_, ?_, ?_, ?_⟩
    · rw [show 3 * (j + 1) = 3 * j + 1 + 1 + 1 by omega]; simpa using h1
    · rw [show 3 * (j + 1) + 1 = 3 * j + 1 + 1 + 1 + 1 by omega]; simpa using h2
    · rw [show 3 * (j + 1) + 2 = 3 * j + 2 + 1 + 1 + 1 by omega]; simpa using h3
    · rw [ptsOf]; simpa using h4
theorem ptsOf_length : ∀ (m : Nat) (xs : List Int), xs.length = 3 * m → (ptsOf xs).length = m := fun m xs h => by
  have := congrArg List.length (ptsOf_fill m xs h)
  rw [List.length_map, fillP_len] at this
  exact this
set_option maxHeartbeats 2000000 in
theorem ref_ReadScene (l : List Stmt) (hl : l.length ≤ 10000000) (hs : ∀ s ∈ l, stOk s) : FnOk Tryd.prog F.ref6_ReadScene [.one (.dv (dSts l))] [] 0 (ScR (readScene l)) [] 0 := by
  have hR := ref_ReadRobot l hl hs
  obtain ⟨b1, b2⟩ := readRobot_bd l
  have hS : readScene l = if (readRobot l).2.1 ≠ 0 then (noScene, (readRobot l).2)
    else if (readAcc (readRobot l).1.joints acc0 l).2.1 ≠ 0 then (noScene, (readAcc (readRobot l).1.joints acc0 l).2)
    else if checkScene (sceneOf (readRobot l).1 (readAcc (readRobot l).1.joints acc0 l).1) ≠ 0 then (noScene, checkScene (sceneOf (readRobot l).1 (readAcc (readRobot l).1.joints acc0 l).1), 0)
    else (sceneOf (readRobot l).1 (readAcc (readRobot l).1.joints acc0 l).1, 0, 0) := rfl
  rw [hS]
  clear hS
  generalize readRobot l = R at *
  obtain ⟨r, c, ln⟩ := R
  simp only at b1 b2 ⊢
  refine fnOk tab mix G.ref6_ReadScene rfl rfl (by kernel_rfl) rfl rfl ?_
  (conv => whnf)
  refine call_i (hR) ?_
  (conv => whnf)
  refine ask_m (fun h => ?_) (fun h => ?_)
  · have h : c ≠ 0 := by simpa using h
    rw [if_pos h]
    (conv => whnf)
    refine retO [.ownC 0 0 Y.Joint 12, .ownC 0 1 Y.Mass 5, .ownC 0 2 Y.Shape 3, .ownC 0 3 Y.Skip 2, .frz 4, .frz 5, .frz 6, .frz 7] ?_
    (conv => whnf)
    exact ⟨[], ⟨rfl, trivial⟩, trivial⟩
  have h : c = 0 := by simpa using h
  rw [if_neg (by simp [h])]
  (conv => whnf)
  refine loop_intro (fun p : Nat × Acc => ⟨[(0, .one (.dv (dSts l))), (2, .one (.vptr 0 0)), (3, .one (.vptr 1 0)), (4, .one (.vptr 2 0)), (6, .one (.vptr 4 0)), (7, I p.1)], [(0, .vars Y.Scene [.nil 12, .nil 5, .nil 3, .nil 2]), (1, .vars Y.SourceError [.dv (.int .i64 0), .dv (.int .i64 0)]), (2, .vars Y.Robot [.dv (dJs r.joints), .dv (dMs r.masses)]), (4, .vars Y.Scene [.dv (dJs r.joints), .dv (dMs r.masses), .row 5, .row 6]), (5, .rows Y.Shape 3 (p.2.shapes.map encSh)), (6, .rows Y.Skip 2 (p.2.skips.map encSk))], 7⟩) (fun p => p.1 ≤ l.length ∧ p.2.shapes.length ≤ p.1 ∧ p.2.skips.length ≤ p.1 ∧ readAcc r.joints p.2 (l.drop p.1) = readAcc r.joints acc0 l ∧ ∀ x ∈ p.2.shapes, x.points.length ≤ 26) (fun p => l.length - p.1) [.ownC 4 2 Y.Shape 3, .ownC 4 3 Y.Skip 2] (0, acc0) [] ⟨Nat.zero_le _, Nat.zero_le _, Nat.zero_le _, rfl, (fun x hx => by cases hx)⟩ ⟨⟨rfl, rfl, rfl, rfl, rfl, rfl, trivial⟩, ⟨rfl, rfl, rfl, rfl, rfl, rfl, trivial⟩⟩ ?_
  rintro ⟨k, q⟩ ⟨hk, hj, hm, hall, hpt⟩
  simp only at hk hj hm hall hpt
  have hkk : IntKind.i64.wrap ((k : Int) + 1) = ((k + 1 : Nat) : Int) := by rw [w64] <;> omega
  (conv => whnf)
  refine ask_m (fun hlt => ?_) (fun hlt => ?_)
  · have hlt : k < l.length := by simpa using hlt
    obtain ⟨s, hsk⟩ : ∃ s, l[k]? = some s := ⟨_, List.getElem?_eq_getElem hlt⟩
    rw [drop_cons hsk, readAcc] at hall
    have hlen := readSc_len r.joints q s
    have hpts := readSc_pts r.joints q s hpt
    have hso := hs s (List.mem_of_getElem? hsk)
    (conv => whnf)
    refine idx_and (by omega) (by simpa using hsk) ?_
    (conv => whnf)
    by_cases h1 : s.word = wShape
    · have d1 : decide (s.word = (⟨#[115, 104, 97, 112, 101]⟩ : ByteArray)) = true := isLit h1 rfl
      have d2 : decide (s.word = (⟨#[115, 107, 105, 112]⟩ : ByteArray)) = false := noLit (c := wSkip) (by rw [h1]; decide) rfl
      rw [d1]
      (conv => whnf)
      refine call_i (ref_Arguments s.word ((s.args.map encA).length)) ?_
      (conv => whnf)
      rw [List.length_map]
      cases ha : argsB s.word (s.args.length : Int) with
      | false =>
        have hst : readSc r.joints q s = (702, q) := by rw [readSc, if_neg (by simp [h1]), if_pos ha]
        rw [hst] at hall
        simp only at hall
        rw [if_neg (by decide)] at hall
        rw [← hall, if_pos (by show ¬ (702 : Int) = 0; decide)]
        (conv => whnf)
        refine retO [.ownC 0 0 Y.Joint 12, .ownC 0 1 Y.Mass 5, .ownC 0 2 Y.Shape 3, .ownC 0 3 Y.Skip 2, .frz 8, .frz 9, .frz 10, .frz 11] ?_
        (conv => whnf)
        exact ⟨[], ⟨rfl, trivial⟩, trivial⟩
      | true =>
        obtain ⟨n, rd, cs, m, e, e1, e2⟩ := len_shape (by rw [h1] at ha; exact ha)
        have hst : readSc r.joints q s = readSh r.joints q (n :: rd :: cs) := by rw [readSc, if_neg (by simp [h1]), if_neg (by rw [ha]; decide), if_pos h1, e]
        have hw : ∀ w ∈ rd :: cs, w.size ≤ 4611686018427387904 := fun w hw => hso w (by rw [e]; exact List.mem_cons_of_mem _ hw)
        rw [e]
        (conv => whnf)
        refine idx_and (xs := n :: rd :: cs) (x := n) (by decide) rfl ?_
        (conv => whnf)
        refine call_i (ref_readLink r n (by omega)) ?_
        (conv => whnf)
        rw [d2]
        (conv => whnf)
        cases hb : linkB r.joints n with
        | false =>
          have hst2 : readSc r.joints q s = (810, q) := by rw [hst, readSh, if_pos hb]
          rw [hst2] at hall
          simp only at hall
          rw [if_neg (by decide)] at hall
          rw [← hall, if_pos (by show ¬ (810 : Int) = 0; decide)]
          (conv => whnf)
          refine retO [.ownC 0 0 Y.Joint 12, .ownC 0 1 Y.Mass 5, .ownC 0 2 Y.Shape 3, .ownC 0 3 Y.Skip 2, .frz 8, .frz 9, .frz 10, .frz 11] ?_
          (conv => whnf)
          exact ⟨[], ⟨rfl, trivial⟩, trivial⟩
        | true =>
        (conv => whnf)
        refine ⟨⟨by decide, by simp; omega⟩, ?_⟩
        (conv => whnf)
        have es : List.drop (Int.toNat 1) (List.take ((n :: rd :: cs).map encA).length ((n :: rd :: cs).map encA)) = (rd :: cs).map encA := by rw [List.take_length]; rfl
        rw [es]
        refine call_i (ref_numbers (rd :: cs) (by simp; omega) hw) ?_
        (conv => whnf)
        cases hal : (rd :: cs).all fun w => (numOf w).2 with
        | false =>
          have hno : numsOf numOf (rd :: cs) = none := by
            obtain ⟨w, hw, hb⟩ := List.all_eq_false.1 hal
            obtain ⟨k, hk⟩ := List.getElem?_of_mem hw
            exact numsOf_not hk (by simpa using hb)
          rw [hno]
          (conv => whnf)
          have hst2 : readSc r.joints q s = (809, q) := by rw [hst, readSh, if_neg (by rw [hb]; decide), if_pos hal]
          rw [hst2] at hall
          simp only at hall
          rw [if_neg (by decide)] at hall
          rw [← hall, if_pos (by show ¬ (809 : Int) = 0; decide)]
          (conv => whnf)
          refine retO [.ownC 0 0 Y.Joint 12, .ownC 0 1 Y.Mass 5, .ownC 0 2 Y.Shape 3, .ownC 0 3 Y.Skip 2, .frz 8, .frz 9, .frz 10, .frz 11] ?_
          (conv => whnf)
          exact ⟨[], ⟨rfl, trivial⟩, trivial⟩
        | true =>
        have hst2 : readSc r.joints q s = (0, ⟨q.shapes ++ [⟨linkI r.joints n, (numOf rd).1, ptsOf (cs.map fun w => (numOf w).1)⟩], q.skips⟩) := by rw [hst, readSh, if_neg (by rw [hb]; decide), if_neg (by rw [hal]; decide)]
        rw [hst2] at hall hlen hpts
        simp only at hall hlen hpts
        rw [if_pos trivial] at hall
        rw [numsOf_all hal]
        obtain ⟨xs, hxs⟩ : ∃ xs, xs = cs.map fun w => (numOf w).1 := ⟨_, rfl⟩
        have hxl : xs.length = 3 * m := by rw [hxs, List.length_map, e1]
        have hpl := ptsOf_length m xs hxl
        have enums : ((some (List.map (fun w => (numOf w).1) (rd :: cs))).getD []).map encI = ((numOf rd).1 :: xs).map encI := by rw [hxs]; rfl
        rw [enums]
        rw [← hxs] at hall hlen hpts
        (conv => whnf)
        refine idx_and (xs := (numOf rd).1 :: xs) (x := (numOf rd).1) (by decide) rfl ?_
        (conv => whnf)
        refine loop_intro (fun j : Nat => ⟨[(0, .one (.dv (dSts l))), (2, .one (.vptr 0 0)), (3, .one (.vptr 1 0)), (4, .one (.vptr 2 0)), (6, .one (.vptr 4 0)), (7, I k), (13, .one (.dv (.lst 1 (((numOf rd).1 :: xs).map encI)))), (14, .one (.vptr 8 0)), (15, I ((1 + 3 * j : Nat) : Int))], [(0, .vars Y.Scene [.nil 12, .nil 5, .nil 3, .nil 2]), (1, .vars Y.SourceError [.dv (.int .i64 0), .dv (.int .i64 0)]), (2, .vars Y.Robot [.dv (dJs r.joints), .dv (dMs r.masses)]), (4, .vars Y.Scene [.dv (dJs r.joints), .dv (dMs r.masses), .row 5, .row 6]), (5, .rows Y.Shape 3 (q.shapes.map encSh)), (6, .rows Y.Skip 2 (q.skips.map encSk)), (8, .vars Y.Shape [.dv (.int .i64 (linkI r.joints n)), .dv (.int .i64 (numOf rd).1), .row 9]), (9, .rows Y.Vec 3 (((ptsOf xs).take j).map encV))], 10⟩) (fun j => j ≤ m) (fun j => m - j) [.ownC 8 2 Y.Vec 3] 0 [] (Nat.zero_le _) ⟨⟨rfl, rfl, rfl, rfl, rfl, rfl, rfl, rfl, rfl, trivial⟩, ⟨rfl, rfl, rfl, rfl, rfl, rfl, rfl, rfl, trivial⟩⟩ ?_
        rintro j hjm
        have w2 : IntKind.i64.wrap (((1 + 3 * j : Nat) : Int) + 2) = ((3 * j + 3 : Nat) : Int) := by rw [w64] <;> omega
        have w1 : IntKind.i64.wrap (((1 + 3 * j : Nat) : Int) + 1) = ((3 * j + 2 : Nat) : Int) := by rw [w64] <;> omega
        have w3 : IntKind.i64.wrap (((1 + 3 * j : Nat) : Int) + 3) = ((1 + 3 * (j + 1) : Nat) : Int) := by rw [w64] <;> omega
        (conv => whnf)
        rw [w2]
        refine ask_m (fun h5 => ?_) (fun h5 => ?_)
        · have hjm : j < m := by have := of_decide_eq_true h5; simp only [List.length_map, List.length_cons, hxl] at this; omega
          obtain ⟨a, b, c', g1, g2, g3, g4⟩ := ptsOf_at j xs (by omega)
          (conv => whnf)
          refine idx_and (xs := (numOf rd).1 :: xs) (x := a) (by omega) (by rw [Int.toNat_natCast, show 1 + 3 * j = 3 * j + 1 by omega]; simpa using g1) ?_
          (conv => whnf)
          rw [w1]
          refine idx_and (xs := (numOf rd).1 :: xs) (x := b) (by omega) (by rw [Int.toNat_natCast]; simpa using g2) ?_
          (conv => whnf)
          rw [w2]
          refine idx_and (xs := (numOf rd).1 :: xs) (x := c') (by omega) (by rw [Int.toNat_natCast]; simpa using g3) ?_
          (conv => whnf)
          refine ⟨⟨by simp; omega, by simp; omega⟩, ?_⟩
          (conv => whnf)
          refine ⟨j + 1, [(9, 11)], hjm, by omega, ⟨⟨rfl, rfl, rfl, rfl, rfl, rfl, rfl, rfl, eqI w3, trivial⟩, ⟨rfl, rfl, rfl, rfl, rfl, rfl, rfl, rows_eq ?_, trivial⟩⟩⟩
          rw [map_take1 encV g4]; rfl
        · have hjm : j = m := by have := of_decide_eq_false h5; simp only [List.length_map, List.length_cons, hxl] at this; omega
          subst hjm
          rw [List.take_of_length_le (by omega)]
          (conv => whnf)
          refine ⟨⟨by simp; omega, by simp; omega⟩, ?_⟩
          (conv => whnf)
          exact ⟨(k + 1, ⟨q.shapes ++ [⟨linkI r.joints n, (numOf rd).1, ptsOf xs⟩], q.skips⟩), [(5, 11)], ⟨hlt, by simp only; omega, by simp only; omega, hall, hpts⟩, by simp only; omega, ⟨⟨rfl, rfl, rfl, rfl, rfl, eqI hkk, trivial⟩, ⟨rfl, rfl, rfl, rfl, rows_eq (by rw [List.map_append]; rfl), rfl, trivial⟩⟩⟩
    have d1 : decide (s.word = (⟨#[115, 104, 97, 112, 101]⟩ : ByteArray)) = false := noLit h1 rfl
    rw [d1]
    (conv => whnf)
    by_cases h2 : s.word = wSkip
    · have d2 : decide (s.word = (⟨#[115, 107, 105, 112]⟩ : ByteArray)) = true := isLit h2 rfl
      rw [d2]
      (conv => whnf)
      refine call_i (ref_Arguments s.word ((s.args.map encA).length)) ?_
      (conv => whnf)
      rw [List.length_map]
      cases ha : argsB s.word (s.args.length : Int) with
      | false =>
        have hst : readSc r.joints q s = (702, q) := by rw [readSc, if_neg (by simp [h2]), if_pos ha]
        rw [hst] at hall
        simp only at hall
        rw [if_neg (by decide)] at hall
        rw [← hall, if_pos (by show ¬ (702 : Int) = 0; decide)]
        (conv => whnf)
        refine retO [.ownC 0 0 Y.Joint 12, .ownC 0 1 Y.Mass 5, .ownC 0 2 Y.Shape 3, .ownC 0 3 Y.Skip 2, .frz 8, .frz 9, .frz 10, .frz 11] ?_
        (conv => whnf)
        exact ⟨[], ⟨rfl, trivial⟩, trivial⟩
      | true =>
        obtain ⟨a, b, e⟩ := len_skip (by rw [h2] at ha; exact ha)
        have hst : readSc r.joints q s = readSk r.joints q [a, b] := by rw [readSc, if_neg (by simp [h2]), if_neg (by rw [ha]; decide), if_neg h1, e]
        rw [readSk] at hst
        rw [e]
        (conv => whnf)
        refine idx_and (xs := [a, b]) (x := a) (by decide) rfl ?_
        (conv => whnf)
        refine call_i (ref_readLink r a (by omega)) ?_
        (conv => whnf)
        rw [d2]
        (conv => whnf)
        refine idx_and (xs := [a, b]) (x := b) (by decide) rfl ?_
        (conv => whnf)
        refine call_i (ref_readLink r b (by omega)) ?_
        (conv => whnf)
        cases hb1 : linkB r.joints a with
        | false =>
          rw [hb1, Bool.false_and, if_pos rfl] at hst
          rw [hst] at hall
          simp only at hall
          rw [if_neg (by decide)] at hall
          rw [← hall, if_pos (by show ¬ (810 : Int) = 0; decide)]
          (conv => whnf)
          (conv => whnf)
          refine retO [.ownC 0 0 Y.Joint 12, .ownC 0 1 Y.Mass 5, .ownC 0 2 Y.Shape 3, .ownC 0 3 Y.Skip 2, .frz 8, .frz 9, .frz 10, .frz 11] ?_
          (conv => whnf)
          exact ⟨[], ⟨rfl, trivial⟩, trivial⟩
        | true =>
        rw [hb1, Bool.true_and] at hst
        (conv => whnf)
        cases hb2 : linkB r.joints b with
        | false =>
          rw [hb2, if_pos rfl] at hst
          rw [hst] at hall
          simp only at hall
          rw [if_neg (by decide)] at hall
          rw [← hall, if_pos (by show ¬ (810 : Int) = 0; decide)]
          (conv => whnf)
          (conv => whnf)
          refine retO [.ownC 0 0 Y.Joint 12, .ownC 0 1 Y.Mass 5, .ownC 0 2 Y.Shape 3, .ownC 0 3 Y.Skip 2, .frz 8, .frz 9, .frz 10, .frz 11] ?_
          (conv => whnf)
          exact ⟨[], ⟨rfl, trivial⟩, trivial⟩
        | true =>
        rw [hb2, if_neg (by decide)] at hst
        rw [hst] at hall hlen hpts
        simp only at hall hlen hpts
        rw [if_pos trivial] at hall
        (conv => whnf)
        refine ⟨⟨by simp; omega, by simp; omega⟩, ?_⟩
        (conv => whnf)
        exact ⟨(k + 1, ⟨q.shapes, q.skips ++ [⟨linkI r.joints a, linkI r.joints b⟩]⟩), [(6, 9)], ⟨hlt, by simp only; omega, by simp only; omega, hall, hpts⟩, by simp only; omega, ⟨⟨rfl, rfl, rfl, rfl, rfl, eqI hkk, trivial⟩, ⟨rfl, rfl, rfl, rfl, rfl, rows_eq (by rw [List.map_append]; rfl), trivial⟩⟩⟩
    have d2 : decide (s.word = (⟨#[115, 107, 105, 112]⟩ : ByteArray)) = false := noLit h2 rfl
    rw [d2]
    (conv => whnf)
    have hst : readSc r.joints q s = (0, q) := by rw [readSc, if_pos ⟨h1, h2⟩]
    rw [hst] at hall
    simp only at hall
    rw [if_pos trivial] at hall
    exact ⟨(k + 1, q), [], ⟨hlt, by simp only; omega, by simp only; omega, hall, hpt⟩, by simp only; omega, ⟨⟨rfl, rfl, rfl, rfl, rfl, eqI hkk, trivial⟩, ⟨rfl, rfl, rfl, rfl, rfl, rfl, trivial⟩⟩⟩
  · have hk : k = l.length := by simp at hlt; omega
    subst hk
    rw [List.drop_length, readAcc] at hall
    rw [← hall, if_neg (by simp)]
    (conv => whnf)
    have hsm : small (sceneOf r q) := ⟨by show r.joints.length ≤ _; omega, by show r.masses.length ≤ _; omega, by show q.shapes.length ≤ _; omega, by show q.skips.length ≤ _; omega, fun x hx => by have := hpt x hx; omega⟩
    refine call_i (ref_CheckScene (sceneOf r q) hsm) ?_
    (conv => whnf)
    refine ⟨⟨trivial, trivial⟩, ?_⟩
    (conv => whnf)
    refine ask_m (fun he => ?_) (fun he => ?_)
    · have he : ¬ checkScene (sceneOf r q) = 0 := by simpa using he
      rw [if_pos he]
      (conv => whnf)
      refine retO [.ownC 0 0 Y.Joint 12, .ownC 0 1 Y.Mass 5, .ownC 0 2 Y.Shape 3, .ownC 0 3 Y.Skip 2, .frz 7, .frz 8, .frz 9, .frz 10] ?_
      (conv => whnf)
      exact ⟨[], ⟨rfl, trivial⟩, trivial⟩
    · have he : checkScene (sceneOf r q) = 0 := by simpa using he
      rw [if_neg (by simp [he])]
      (conv => whnf)
      refine retO [.frz 5, .frz 6] ?_
      (conv => whnf)
      exact ⟨[], ⟨rfl, trivial⟩, trivial⟩
end Go.Proofs.YtafglmjadbplcaaDoor
