import Derived.Test.YtgnblfojpcjgmaaM1
import Derived.Lib.Builder
import Derived.Lib.UnsafeStr
import Derived.Lib.Walk
import Derived.Laws.Externs
/- What the makers make is valid. No program in sight. -/
namespace Go.Proofs.Ytgnblfojpcjgmaa
open Eng
set_option maxRecDepth 10000

/-- what is asked of a joint but for its name -/
theorem inV_mk {x y z m : Int} (h1 : -m ≤ x ∧ x ≤ m) (h2 : -m ≤ y ∧ y ≤ m) (h3 : -m ≤ z ∧ z ≤ m) : inV ⟨x, y, z⟩ m = true := by
  simp [inV]; omega
theorem letter_name : ∀ k, k < 10 → nameOk (letter k) = true := by decide
theorem letter_ne : ∀ k, k < 10 → ∀ j, j < 10 → letter k = letter j → k = j := by decide
theorem kindOf_mem {n : Int} (h0 : 0 ≤ n) (h8 : n < 8) : kindOf n = 3 ∨ kindOf n = 1 ∨ kindOf n = 2 ∨ kindOf n = 4 ∨ kindOf n = 5 ∨ kindOf n = 0 := by
  obtain ⟨k, rfl⟩ : ∃ k : Nat, n = k := ⟨n.toNat, by omega⟩
  rw [kindOf, Int.toNat_natCast]
  match k, h8 with
  | 0, _ | 1, _ | 2, _ | 3, _ | 4, _ | 5, _ | 6, _ | 7, _ => decide
  | k + 8, h => omega
theorem mkJoint_body (l : List Int) (p i : Nat) : bodyOk i (mkJoint l p i) := by
  have hk := kindOf_mem (nxt_bd (l := l) (j := p + 2) (m := 8) (by omega)).1 (nxt_bd (l := l) (j := p + 2) (m := 8) (by omega)).2
  refine ⟨?_, ?_, ?_, ?_, ?_⟩
  · show 0 ≤ kindOf _ ∧ kindOf _ ≤ 6
    omega
  · show -1 ≤ jParent l p i ∧ jParent l p i < (i : Int)
    unfold jParent; split <;> omega
  · show inV (jOff l p i) _ = true
    have h1 := nxt_bd (l := l) (j := p + 4) (m := 5) (by omega)
    have h2 := nxt_bd (l := l) (j := p + 5) (m := 3) (by omega)
    unfold jOff; split
    · exact inV_mk (by omega) (by omega) (by omega)
    · rfl
  · show (jSpan l (jAt p i) (jKind l p)).1 ≤ (jSpan l (jAt p i) (jKind l p)).2.1 ∧ - reach (jKind l p) ≤ (jSpan l (jAt p i) (jKind l p)).1 ∧ (jSpan l (jAt p i) (jKind l p)).2.1 ≤ reach (jKind l p)
    generalize jAt p i = q
    have h1 := nxt_bd (l := l) (j := q) (m := 3) (by omega)
    have h2 := nxt_bd (l := l) (j := q + 1) (m := 4) (by omega)
    have h3 := nxt_bd (l := l) (j := q) (m := 5) (by omega)
    have h4 := nxt_bd (l := l) (j := q + 2) (m := 3) (by omega)
    have hk' : jKind l p = 3 ∨ jKind l p = 1 ∨ jKind l p = 2 ∨ jKind l p = 4 ∨ jKind l p = 5 ∨ jKind l p = 0 := hk
    rcases hk' with e | e | e | e | e | e <;> rw [e] <;> simp [jSpan, reach] <;> omega
  · show (from1 (1 + nxt l p 4) 1024 && from1 65536 1048576 && from1 (65536 + nxt l (p + 1) 3) 1048576 && from1 327680 1099511627776) = true
    have h1 := nxt_bd (l := l) (j := p) (m := 4) (by omega)
    have h2 := nxt_bd (l := l) (j := p + 1) (m := 3) (by omega)
    simp [from1]; omega
theorem mkJoints_at {l : List Int} {p n k : Nat} {j : Joint} (h : (mkJoints l p n)[k]? = some j) : k < n ∧ j = mkJoint l (jPos l p k) k := by
  unfold mkJoints at h
  rw [List.getElem?_map] at h
  simp only [Option.map_eq_some_iff] at h
  obtain ⟨i, hi, rfl⟩ := h
  obtain ⟨h1, h2⟩ := List.getElem?_eq_some_iff.1 hi
  simp at h1 h2
  subst h2
  exact ⟨h1, rfl⟩
theorem mkJoints_ok (l : List Int) (p n : Nat) (hn : n ≤ 10) : jointsErr (mkJoints l p n) 0 (mkJoints l p n) = 0 := by
  refine jointsErr_zero fun k j hj => ?_
  obtain ⟨h1, h2⟩ := mkJoints_at hj
  rw [Nat.zero_add]
  refine jointErr_zero ?_ ?_ ?_
  · rw [h2]; exact letter_name k (by omega)
  · have := find_at (k := 0) hj fun i' j' hi hj' e => by
      obtain ⟨h3, h4⟩ := mkJoints_at hj'
      rw [h2, h4] at e
      have := letter_ne i' (by omega) k (by omega) e
      omega
    rw [this]; simp
  · rw [h2]; exact mkJoint_body l _ k
theorem linkOk_mk {n : Nat} {k : Int} (h1 : -1 ≤ k) (h2 : k < (n : Int)) : linkOk n k = true := by simp [linkOk]; omega
theorem massOk_mk {n : Nat} {a b : Int} {v : Vec} (h1 : 0 ≤ a) (h2 : a < (n : Int)) (h3 : 1 ≤ b) (h4 : b ≤ 65536) (h5 : inV v 4194304 = true) : massOk n ⟨a, b, v⟩ = true := by simp [massOk, from1, h5]; omega
theorem mkMass_ok (l : List Int) (n q : Nat) (hn : 0 < n) : massOk n (mkMass l n q) = true := by
  have h1 := nxt_bd (l := l) (j := q) (m := n) (by omega)
  have h2 := nxt_bd (l := l) (j := q + 1) (m := 9000) (by omega)
  have h3 := nxt_bd (l := l) (j := q + 2) (m := 7) (by omega)
  have h4 := nxt_bd (l := l) (j := q + 3) (m := 5) (by omega)
  have h5 : inV ⟨(nxt l (q + 2) 7 - 3) * 32768, 0, (nxt l (q + 3) 5 - 2) * 32768⟩ 4194304 = true := inV_mk (by omega) (by omega) (by omega)
  exact massOk_mk h1.1 h1.2 (by omega) (by omega) h5
theorem robot_valid {r : Robot} (h1 : 1 ≤ r.joints.length) (h2 : r.joints.length ≤ 10) (h3 : jointsErr r.joints 0 r.joints = 0) (h4 : r.masses.length ≤ 32) (h5 : r.masses.all (massOk r.joints.length) = true) : checkRobot r = 0 := by
  unfold checkRobot
  rw [if_neg (by omega), if_neg (by rw [h3]; simp), if_neg (by rw [h5]; simp; omega)]
theorem nJ_bd (l : List Int) (p : Nat) : 1 ≤ nJ l p ∧ nJ l p ≤ 3 := by
  have := nxt_bd (l := l) (j := p) (m := 3) (by omega)
  unfold nJ; omega
theorem mkJoints_len (l : List Int) (p n : Nat) : (mkJoints l p n).length = n := by simp [mkJoints]
theorem mkRobot_ok (l : List Int) (p : Nat) : checkRobot (mkRobot l p) = 0 := by
  have hn := nJ_bd l p
  have hl : (mkRobot l p).joints.length = nJ l p := mkJoints_len l (p + 1) (nJ l p)
  have hm := nxt_bd (l := l) (j := qM l p) (m := 3) (by omega)
  refine robot_valid (by omega) (by omega) (mkJoints_ok l (p + 1) (nJ l p) (by omega)) ?_ ?_
  · simp [mkRobot, mkMasses, nM]; omega
  · rw [hl, List.all_eq_true]
    intro m hmm
    simp only [mkRobot, mkMasses, List.mem_map] at hmm
    obtain ⟨i, _, rfl⟩ := hmm
    exact mkMass_ok l (nJ l p) _ (by omega)
theorem shapesErr_zero {n : Nat} : ∀ {l : List Shape}, (∀ x ∈ l, shapeErr n x = 0) → shapesErr n l = 0
  | [], _ => rfl
  | x :: l, h => by rw [shapesErr, if_pos (h x (by simp))]; exact shapesErr_zero fun y hy => h y (by simp [hy])
theorem shapeErr_zero {n : Nat} {x : Shape} (h1 : linkOk n x.link = true) (h2 : 1 ≤ x.radius ∧ x.radius ≤ 1048576) (h3 : 1 ≤ x.points.length ∧ x.points.length ≤ 8) (h4 : x.points.all (inV · 4194304) = true) : shapeErr n x = 0 := by
  unfold shapeErr
  rw [if_neg (by rw [h1]; rintro (h | h | h | h | h) <;> first | contradiction | omega), if_neg (by rw [h4]; simp)]
theorem mkPts_len (l : List Int) (b : Vec) (p : Nat) : 1 ≤ (mkPts l b p).length ∧ (mkPts l b p).length ≤ 4 := by
  have := nxt_bd (l := l) (j := p) (m := 4) (by omega)
  simp [mkPts, ptsTo, nPts]; omega
theorem mkPts_in (l : List Int) (b : Vec) (p : Nat) (hx : -1048576 ≤ b.x ∧ b.x ≤ 1048576) (hy : -1048576 ≤ b.y ∧ b.y ≤ 1048576) (hz : -1048576 ≤ b.z ∧ b.z ≤ 1048576) : (mkPts l b p).all (inV · 4194304) = true := by
  rw [List.all_eq_true]
  intro v hv
  simp only [mkPts, ptsTo, List.mem_cons, List.mem_map] at hv
  rcases hv with rfl | ⟨i, _, rfl⟩
  · obtain ⟨x, y, z⟩ := v
    simp only at hx hy hz
    exact inV_mk (by omega) (by omega) (by omega)
  · have h1 := nxt_bd (l := l) (j := p + 1 + 3 * i) (m := 7) (by omega)
    have h2 := nxt_bd (l := l) (j := p + 1 + 3 * i + 1) (m := 5) (by omega)
    have h3 := nxt_bd (l := l) (j := p + 1 + 3 * i + 2) (m := 5) (by omega)
    exact inV_mk (by omega) (by omega) (by omega)
theorem shOf_ok {l : List Int} {q i n : Nat} (hi : i < n) {x : Shape} (h : x ∈ shOf l q i) : shapeErr n x = 0 := by
  unfold shOf at h
  split at h
  · simp only [List.mem_singleton] at h
    subst h
    have h1 := nxt_bd (l := l) (j := q + 1) (m := 3) (by omega)
    have h2 := nxt_bd (l := l) (j := q + 2) (m := 4) (by omega)
    have h3 := mkPts_len l ⟨nxt l (q + 2) 4 * 32768, 0, 0⟩ (q + 3)
    refine shapeErr_zero ?_ ⟨?_, ?_⟩ ⟨h3.1, Nat.le_trans h3.2 (by decide)⟩ (mkPts_in l _ _ ⟨?_, ?_⟩ ⟨?_, ?_⟩ ⟨?_, ?_⟩)
    · simp [linkOk]; omega
    all_goals (simp only; omega)
  · simp at h
theorem shW_ok (l : List Int) (q n : Nat) : shapeErr n (shW l q) = 0 := by
  have h0 := nxt_bd (l := l) (j := q) (m := 19) (by omega)
  have h1 := nxt_bd (l := l) (j := q + 1) (m := 19) (by omega)
  have h2 := nxt_bd (l := l) (j := q + 2) (m := 5) (by omega)
  have h3 := nxt_bd (l := l) (j := q + 3) (m := 4) (by omega)
  have h4 := mkPts_len l ⟨(nxt l q 19 - 9) * 32768, (nxt l (q + 1) 19 - 9) * 32768, (nxt l (q + 2) 5 - 2) * 32768⟩ (q + 4)
  refine shapeErr_zero ?_ ⟨?_, ?_⟩ ⟨h4.1, Nat.le_trans h4.2 (by decide)⟩ (mkPts_in l _ _ ⟨?_, ?_⟩ ⟨?_, ?_⟩ ⟨?_, ?_⟩)
  · exact linkOk_mk (k := -1) (by omega) (by omega)
  all_goals (simp only [shW]; omega)
theorem scene_valid {s : Scene} (h1 : checkRobot s.robot = 0) (h2 : s.shapes.length ≤ 24) (h3 : ∀ x ∈ s.shapes, shapeErr s.robot.joints.length x = 0) (h4 : s.skips.length ≤ 64) (h5 : (s.skips.all fun k => linkOk s.robot.joints.length k.a && linkOk s.robot.joints.length k.b) = true) : checkScene s = 0 := by
  unfold checkScene
  rw [if_neg (by rw [h1]; simp), if_neg (by omega), if_neg (by rw [shapesErr_zero h3]; simp), if_neg (by omega), if_neg (by rw [h5]; simp)]
theorem mkScene_len (l : List Int) : (mkScene l).shapes.length ≤ 6 ∧ (mkScene l).skips.length ≤ 1 ∧ (mkScene l).robot.masses.length ≤ 2 := by
  have hn := joints_len l 0
  have h1 := shLinks_len l (mkRobotAt l 0) (mkRobot l 0).joints.length
  have h2 := nxt_bd (l := l) (j := scQ1 l) (m := 3) (by omega)
  have h3 := nxt_bd (l := l) (j := qM l 0) (m := 3) (by omega)
  refine ⟨?_, ?_, ?_⟩
  · simp only [mkScene, List.length_append, shWs, List.length_map, List.length_range, scN]; omega
  · simp only [mkScene, mkSkips]; split <;> simp
  · simp [mkScene, mkRobot, mkMasses, nM]; omega
theorem mkScene_ok (l : List Int) : checkScene (mkScene l) = 0 := by
  have hn := joints_len l 0
  obtain ⟨k1, k2, _⟩ := mkScene_len l
  refine scene_valid (mkRobot_ok l 0) (by omega) (fun x hx => ?_) (by omega) ?_
  · simp only [mkScene, List.mem_append, shLinks, List.mem_flatMap, List.mem_range, shWs, List.mem_map] at hx
    rcases hx with ⟨i, hi, hx⟩ | ⟨i, _, rfl⟩
    · exact shOf_ok hi hx
    · exact shW_ok l _ _
  · rw [List.all_eq_true]
    intro k hk
    simp only [mkScene, mkSkips] at hk
    split at hk
    · simp only [List.mem_singleton] at hk
      subst hk
      have := nxt_bd (l := l) (j := scQ2 l + 1) (m := ((mkRobot l 0).joints.length : Int)) (by omega)
      rw [Bool.and_eq_true]
      exact ⟨linkOk_mk (k := -1) (by omega) (by omega), linkOk_mk (k := nxt l (scQ2 l + 1) ((mkRobot l 0).joints.length : Int)) (by omega) this.2⟩
    · simp at hk
theorem mkScene_small (l : List Int) : small (mkScene l) := by
  have hn := joints_len l 0
  obtain ⟨k1, k2, k3⟩ := mkScene_len l
  refine ⟨by show (mkRobot l 0).joints.length ≤ _; omega, by omega, by omega, by omega, fun x hx => ?_⟩
  simp only [mkScene, List.mem_append, shLinks, List.mem_flatMap, List.mem_range, shWs, List.mem_map] at hx
  rcases hx with ⟨i, hi, hx⟩ | ⟨i, _, rfl⟩
  · unfold shOf at hx
    split at hx
    · simp only [List.mem_singleton] at hx
      subst hx
      have := mkPts_len l ⟨nxt l (shPos l (mkRobotAt l 0) i + 2) 4 * 32768, 0, 0⟩ (shPos l (mkRobotAt l 0) i + 3)
      simp only; omega
    · simp at hx
  · unfold shW
    simp only
    generalize wPos l (scQ1 l + 1) i = q
    have := mkPts_len l ⟨(nxt l q 19 - 9) * 32768, (nxt l (q + 1) 19 - 9) * 32768, (nxt l (q + 2) 5 - 2) * 32768⟩ (q + 4)
    omega
end Go.Proofs.Ytgnblfojpcjgmaa

/- Formatted statements, parsed again. No program in sight. -/
namespace Go.Proofs.Ytgnblfojpcjgmaa
open Eng
set_option maxRecDepth 10000

/- texts one behind the other -/
def catB {α : Type} (f : α → ByteArray) (l : List α) : ByteArray := l.foldl (fun t x => t ++ f x) ByteArray.empty
theorem catB_go {α : Type} (f : α → ByteArray) : ∀ (l : List α) (s : ByteArray), l.foldl (fun t x => t ++ f x) s = s ++ catB f l
  | [], s => by simp [catB]
  | x :: l, s => by
    rw [catB, List.foldl_cons, List.foldl_cons, catB_go f l, catB_go f l (ByteArray.empty ++ f x), ByteArray.append_assoc]
    simp
theorem catB_cons {α : Type} (f : α → ByteArray) (x : α) (l : List α) : catB f (x :: l) = f x ++ catB f l := by
  rw [catB, List.foldl_cons, catB_go]; simp
theorem catB_nil {α : Type} (f : α → ByteArray) : catB f [] = ByteArray.empty := rfl
theorem catB_take {α : Type} (f : α → ByteArray) {l : List α} {k : Nat} {x : α} (h : l[k]? = some x) : catB f (l.take (k + 1)) = catB f (l.take k) ++ f x := by
  rw [List.take_add_one, h, catB, List.foldl_append]; rfl
theorem catB_one {α : Type} (f : α → ByteArray) (x : α) : catB f [x] = f x := by rw [catB_cons, catB_nil]; simp
theorem catB_size {α : Type} {f : α → ByteArray} {c : Nat} : ∀ (l : List α), (∀ x ∈ l, (f x).size ≤ c) → (catB f l).size ≤ l.length * c
  | [], _ => by simp [catB]
  | x :: l, h => by
    have := catB_size l fun y hy => h y (by simp [hy])
    have := h x (by simp)
    rw [catB_cons, ByteArray.size_append, List.length_cons, Nat.succ_mul]; omega
theorem catB_le {α : Type} {f : α → ByteArray} {l : List α} {k : Nat} : (catB f (l.take k)).size ≤ (catB f l).size := by
  have : l = l.take k ++ l.drop k := (List.take_append_drop k l).symm
  conv => rhs; rw [this]
  rw [catB, catB, List.foldl_append, catB_go f (l.drop k), ByteArray.size_append]; exact Nat.le_add_right _ _

/- words -/
def allW (t : ByteArray) : Prop := ∀ i, i < t.size → wordB (byteAt t i) = true
def isW (t : ByteArray) : Prop := 1 ≤ t.size ∧ allW t
instance (t : ByteArray) : Decidable (allW t) := inferInstanceAs (Decidable (∀ i, i < t.size → _))
instance (t : ByteArray) : Decidable (isW t) := inferInstanceAs (Decidable (_ ∧ _))
theorem allW_app {a b : ByteArray} (ha : allW a) (hb : allW b) : allW (a ++ b) := by
  intro i hi
  rw [ByteArray.size_append] at hi
  rw [byteAt_app]
  split
  · rename_i h; exact ha i h
  · exact hb _ (by omega)
theorem isW_app {a b : ByteArray} (ha : allW a) (hb : isW b) : isW (a ++ b) := ⟨by rw [ByteArray.size_append]; have := hb.1; omega, allW_app ha hb.2⟩
theorem isW_app2 {a b : ByteArray} (ha : isW a) (hb : allW b) : isW (a ++ b) := ⟨by rw [ByteArray.size_append]; have := ha.1; omega, allW_app ha.2 hb⟩

/- a text within a text -/
def At (u : ByteArray) (p : Nat) (t : ByteArray) : Prop := p + t.size ≤ u.size ∧ ∀ i, i < t.size → byteAt u (p + i) = byteAt t i
theorem At.left {u a b : ByteArray} {p : Nat} (h : At u p (a ++ b)) : At u p a := by
  obtain ⟨h1, h2⟩ := h
  rw [ByteArray.size_append] at h1 h2
  refine ⟨by omega, fun i hi => ?_⟩
  rw [h2 i (by omega), byteAt_app, if_pos hi]
theorem At.right {u a b : ByteArray} {p : Nat} (h : At u p (a ++ b)) : At u (p + a.size) b := by
  obtain ⟨h1, h2⟩ := h
  rw [ByteArray.size_append] at h1 h2
  refine ⟨by omega, fun i hi => ?_⟩
  rw [Nat.add_assoc, h2 (a.size + i) (by omega), byteAt_app, if_neg (by omega)]
  congr 1; omega
theorem at_self (a b : ByteArray) : At (a ++ b) 0 a := by
  refine ⟨by rw [ByteArray.size_append]; omega, fun i hi => ?_⟩
  rw [Nat.zero_add, byteAt_app, if_pos hi]
theorem txt_eq {s t : ByteArray} (hs : s.size = t.size) (h : ∀ i, i < s.size → byteAt s i = byteAt t i) : s = t := by
  refine ByteArray.ext_getElem hs fun i hi hi' => ?_
  have := h i hi
  rw [byteAt_get hi, byteAt_get hi'] at this
  exact UInt8.toNat_inj.1 (Int.ofNat.inj this)
theorem byteAt_sub {s : ByteArray} {a b i : Nat} (hb : b ≤ s.size) (hi : i < b - a) : byteAt (s.extract a b) i = byteAt s (a + i) := by
  have h1 : i < (s.extract a b).size := by rw [ByteArray.size_extract]; omega
  have h2 : a + i < s.size := by omega
  rw [byteAt_get h1, byteAt_get h2, ByteArray.getElem_extract]
theorem At.ext {u t : ByteArray} {p : Nat} (h : At u p t) : u.extract p (p + t.size) = t := by
  obtain ⟨h1, h2⟩ := h
  have hs : (u.extract p (p + t.size)).size = t.size := by rw [ByteArray.size_extract]; omega
  refine txt_eq hs fun i hi => ?_
  rw [byteAt_sub h1 (by omega), h2 i (by omega)]

/- the automaton between words (Cl) and within one (Op) -/
def key (w : Word) : ByteArray × Int := (w.text, w.line)
def Cl (u : ByteArray) (q : Nat) (ln : Int) (K : List (ByteArray × Int)) : Prop := ∃ bg V, autoAt u q = ⟨ln, bg, false, -1, V, false⟩ ∧ V.map key = K
def Op (u : ByteArray) (q : Nat) (ln : Int) (K : List (ByteArray × Int)) : Prop := ∃ bg V, ∃ p : Nat, autoAt u q = ⟨ln, bg, false, p, V, false⟩ ∧ V.map key ++ [(u.extract p q, ln)] = K
theorem aut_word {s : ByteArray} {p : Nat} {ln bg : Int} {W : List Word} (h : autoAt s p = ⟨ln, bg, false, -1, W, false⟩) : ∀ m, 1 ≤ m → (∀ i, i < m → wordB (byteAt s (p + i)) = true) → autoAt s (p + m) = ⟨ln, bg, false, p, W, false⟩
  | 0, h1, _ => by omega
  | m + 1, _, hw => by
    have hm := hw m (by omega)
    have hne : ¬ byteAt s (p + m) = 10 ∧ ¬ (byteAt s (p + m) = 32 ∨ byteAt s (p + m) = 9) ∧ ¬ byteAt s (p + m) = 35 := by simp [wordB] at hm; omega
    rw [← Nat.add_assoc, auto_succ]
    rcases Nat.eq_zero_or_pos m with rfl | hp
    · simp only [Nat.add_zero] at hne hm ⊢
      rw [h, stepS, if_neg (by simp), if_neg hne.1, if_neg (by simp), if_neg hne.2.1, if_neg hne.2.2, if_neg (by rw [hm]; simp), if_pos (by show (-1 : Int) < 0; decide)]
    · rw [aut_word h m hp fun i hi => hw i (by omega), stepS, if_neg (by simp), if_neg hne.1, if_neg (by simp), if_neg hne.2.1, if_neg hne.2.2, if_neg (by rw [hm]; simp), if_neg (by show ¬ (p : Int) < 0; omega)]
theorem Cl.word {u t : ByteArray} {q : Nat} {ln : Int} {K : List (ByteArray × Int)} (h : Cl u q ln K) (ha : At u q t) (hw : isW t) : Op u (q + t.size) ln (K ++ [(t, ln)]) := by
  obtain ⟨bg, V, h1, h2⟩ := h
  refine ⟨bg, V, q, aut_word h1 t.size hw.1 fun i hi => by rw [ha.2 i hi]; exact hw.2 i hi, ?_⟩
  rw [h2, ha.ext]
theorem fin_op {u : ByteArray} {ln bg : Int} {p : Nat} {V : List Word} (k : Nat) : fin u ⟨ln, bg, false, p, V, false⟩ k = V ++ [⟨u.extract p k, ln, p - bg + 1⟩] := by
  rw [fin, if_pos (by show (0 : Int) ≤ p; omega)]; simp
theorem fin_cl {u : ByteArray} {ln bg : Int} {c d : Bool} {V : List Word} (k : Nat) : fin u ⟨ln, bg, c, -1, V, d⟩ k = V := by
  rw [fin, if_neg (by show ¬ (0 : Int) ≤ -1; decide)]
theorem Op.sp {u : ByteArray} {q : Nat} {ln : Int} {K : List (ByteArray × Int)} (h : Op u q ln K) (hb : byteAt u q = 32) : Cl u (q + 1) ln K := by
  obtain ⟨bg, V, p, h1, h2⟩ := h
  refine ⟨bg, V ++ [⟨u.extract p q, ln, p - bg + 1⟩], by rw [auto_succ, h1]; simp [stepS, hb, fin_op], ?_⟩
  rw [← h2]; simp [key]
theorem Op.nl {u : ByteArray} {q : Nat} {ln : Int} {K : List (ByteArray × Int)} (h : Op u q ln K) (hb : byteAt u q = 10) : Cl u (q + 1) (ln + 1) K := by
  obtain ⟨bg, V, p, h1, h2⟩ := h
  refine ⟨(q : Int) + 1, V ++ [⟨u.extract p q, ln, p - bg + 1⟩], by rw [auto_succ, h1]; simp [stepS, hb, fin_op], ?_⟩
  rw [← h2]; simp [key]
theorem Cl.nl {u : ByteArray} {q : Nat} {ln : Int} {K : List (ByteArray × Int)} (h : Cl u q ln K) (hb : byteAt u q = 10) : Cl u (q + 1) (ln + 1) K := by
  obtain ⟨bg, V, h1, h2⟩ := h
  exact ⟨(q : Int) + 1, V, by rw [auto_succ, h1]; simp [stepS, hb, fin_cl], h2⟩
theorem Cl.sp {u : ByteArray} {q : Nat} {ln : Int} {K : List (ByteArray × Int)} (h : Cl u q ln K) (hb : byteAt u q = 32 ∨ byteAt u q = 9) : Cl u (q + 1) ln K := by
  obtain ⟨bg, V, h1, h2⟩ := h
  refine ⟨bg, V, ?_, h2⟩
  rw [auto_succ, h1, stepS, if_neg (by simp), if_neg (by omega), if_neg (by simp), if_pos hb, fin_cl]
/-- the texts ahead of the statements, and the lines that they end -/
def noteT : ByteArray := ⟨#[35, 32, 106, 111, 105, 110, 116, 10]⟩
def preTab : List ByteArray := [ByteArray.empty, noteT, ⟨#[10, 10]⟩, ⟨#[9, 32]⟩]
def dOf (p : ByteArray) : Int := if p = noteT then 1 else if p = ⟨#[10, 10]⟩ then 2 else 0
theorem Cl.pre {u p : ByteArray} {q : Nat} {ln : Int} {K : List (ByteArray × Int)} (h : Cl u q ln K) (hp : p ∈ preTab) (ha : At u q p) : Cl u (q + p.size) (ln + dOf p) K := by
  simp only [preTab, List.mem_cons, List.not_mem_nil, or_false] at hp
  rcases hp with rfl | rfl | rfl | rfl
  · have : dOf ByteArray.empty = 0 := by decide
    rw [this, Int.add_zero]; exact h
  · have : dOf noteT = 1 := by decide
    rw [this]
    obtain ⟨bg, V, h1, h2⟩ := h
    have b0 : byteAt u q = 35 := ha.2 0 (by decide)
    have b1 : byteAt u (q + 1) = 32 := ha.2 1 (by decide)
    have b2 : byteAt u (q + 1 + 1) = 106 := ha.2 2 (by decide)
    have b3 : byteAt u (q + 1 + 1 + 1) = 111 := ha.2 3 (by decide)
    have b4 : byteAt u (q + 1 + 1 + 1 + 1) = 105 := ha.2 4 (by decide)
    have b5 : byteAt u (q + 1 + 1 + 1 + 1 + 1) = 110 := ha.2 5 (by decide)
    have b6 : byteAt u (q + 1 + 1 + 1 + 1 + 1 + 1) = 116 := ha.2 6 (by decide)
    have b7 : byteAt u (q + 1 + 1 + 1 + 1 + 1 + 1 + 1) = 10 := ha.2 7 (by decide)
    refine ⟨((q + 1 + 1 + 1 + 1 + 1 + 1 + 1 : Nat) : Int) + 1, V, ?_, h2⟩
    show autoAt u (q + 1 + 1 + 1 + 1 + 1 + 1 + 1 + 1) = _
    rw [auto_succ, auto_succ, auto_succ, auto_succ, auto_succ, auto_succ, auto_succ, auto_succ, h1]; simp [stepS, b0, b1, b2, b3, b4, b5, b6, b7, fin_cl]; omega
  · have : dOf ⟨#[10, 10]⟩ = 2 := by decide
    rw [this]
    have b0 : byteAt u q = 10 := ha.2 0 (by decide)
    have b1 : byteAt u (q + 1) = 10 := ha.2 1 (by decide)
    have := (h.nl b0).nl b1
    rw [Int.add_assoc] at this
    exact this
  · have : dOf ⟨#[9, 32]⟩ = 0 := by decide
    rw [this, Int.add_zero]
    have b0 : byteAt u q = 9 := ha.2 0 (by decide)
    have b1 : byteAt u (q + 1) = 32 := ha.2 1 (by decide)
    exact (h.sp (.inr b0)).sp (.inl b1)

/- a statement's line -/
def spT : ByteArray := ⟨#[32]⟩
def nlT : ByteArray := ⟨#[10]⟩
def argT (xs : List ByteArray) : ByteArray := catB (fun a => spT ++ a) xs
def stT (s : Stmt) : ByteArray := (s.word ++ argT s.args) ++ nlT
def fmtL (l : List Stmt) : ByteArray := catB stT l
def goodS (s : Stmt) : Prop := isW s.word ∧ (∀ a ∈ s.args, isW a) ∧ argsB s.word s.args.length = true
theorem Op.args {u : ByteArray} {ln : Int} : ∀ (xs : List ByteArray) {q : Nat} {K : List (ByteArray × Int)}, Op u q ln K → At u q (argT xs) → (∀ a ∈ xs, isW a) → Op u (q + (argT xs).size) ln (K ++ xs.map fun x => (x, ln))
  | [], q, K, h, _, _ => by simpa [argT, catB_nil] using h
  | x :: xs, q, K, h, ha, hw => by
    rw [argT, catB_cons] at ha
    have a1 := ha.left
    have b0 : byteAt u q = 32 := a1.left.2 0 (by decide)
    have h1 := (h.sp b0).word a1.right (hw x (by simp))
    have h2 := Op.args xs (q := q + 1 + x.size) h1 (by
      have := ha.right
      rw [ByteArray.size_append, ← Nat.add_assoc] at this
      exact this) fun a ha => hw a (by simp [ha])
    have e : q + (argT (x :: xs)).size = q + 1 + x.size + (argT xs).size := by
      rw [argT, catB_cons, ByteArray.size_append, ByteArray.size_append]
      show q + (1 + x.size + _) = _
      rw [argT]; omega
    rw [e]
    simpa using h2
theorem Cl.st {u : ByteArray} {q : Nat} {ln : Int} {K : List (ByteArray × Int)} {s : Stmt} (h : Cl u q ln K) (ha : At u q (stT s)) (hw : isW s.word) (hx : ∀ a ∈ s.args, isW a) : Cl u (q + (stT s).size) (ln + 1) (K ++ (s.word :: s.args).map fun x => (x, ln)) := by
  rw [stT] at ha
  have h1 := Op.args s.args (h.word ha.left.left hw) ha.left.right hx
  have a2 := ha.right
  rw [ByteArray.size_append, ← Nat.add_assoc] at a2
  have b0 : byteAt u (q + s.word.size + (argT s.args).size) = 10 := a2.2 0 (by decide)
  have h2 := h1.nl b0
  have e : q + (stT s).size = q + s.word.size + (argT s.args).size + 1 := by
    rw [stT, ByteArray.size_append, ByteArray.size_append]
    show q + (s.word.size + (argT s.args).size + 1) = _
    omega
  rw [e]
  simpa using h2

/- statements with texts ahead of them -/
def pcT (q : ByteArray × Stmt) : ByteArray := q.1 ++ stT q.2
def keysP : Int → List (ByteArray × Stmt) → List (ByteArray × Int)
  | _, [] => []
  | ln, (p, s) :: l => ((s.word :: s.args).map fun x => (x, ln + dOf p)) ++ keysP (ln + dOf p + 1) l
def place : Int → List (ByteArray × Stmt) → List Stmt
  | _, [] => []
  | ln, (p, s) :: l => ⟨ln + dOf p, s.word, s.args⟩ :: place (ln + dOf p + 1) l
def lineP : Int → List (ByteArray × Stmt) → Int
  | ln, [] => ln
  | ln, (p, _) :: l => lineP (ln + dOf p + 1) l
theorem Cl.pcs {u : ByteArray} : ∀ (l : List (ByteArray × Stmt)) {q : Nat} {ln : Int} {K : List (ByteArray × Int)}, Cl u q ln K → At u q (catB pcT l) → (∀ x ∈ l, x.1 ∈ preTab ∧ goodS x.2) → Cl u (q + (catB pcT l).size) (lineP ln l) (K ++ keysP ln l)
  | [], q, ln, K, h, _, _ => by simpa [catB_nil, keysP, lineP] using h
  | (p, s) :: l, q, ln, K, h, ha, hg => by
    rw [catB_cons] at ha
    obtain ⟨g1, g2⟩ := hg (p, s) (by simp)
    have a1 := ha.left
    rw [pcT] at a1
    have h1 := (h.pre g1 a1.left).st a1.right g2.1 g2.2.1
    have h2 := Cl.pcs l (q := q + p.size + (stT s).size) h1 (by
      have := ha.right
      rw [pcT, ByteArray.size_append, ← Nat.add_assoc] at this
      exact this) fun x hx => hg x (by simp [hx])
    have e : q + (catB pcT ((p, s) :: l)).size = q + p.size + (stT s).size + (catB pcT l).size := by
      rw [catB_cons, pcT, ByteArray.size_append, ByteArray.size_append]; simp only; omega
    rw [e, keysP, ← List.append_assoc]
    exact h2

/- grouping sees texts and lines alone -/
theorem gstep_key {a b : List Word} (h : a.map key = b.map key) (acc : List Stmt × Option Stmt) : a.foldl gstep acc = b.foldl gstep acc := by
  induction a generalizing b acc with
  | nil => cases b with
    | nil => rfl
    | cons => simp at h
  | cons x a ih => cases b with
    | nil => simp at h
    | cons y b =>
      simp only [List.map_cons, List.cons.injEq] at h
      obtain ⟨h1, h2⟩ := h
      simp only [key, Prod.mk.injEq] at h1
      have e : gstep acc x = gstep acc y := by unfold gstep; rw [h1.1, h1.2]
      rw [List.foldl_cons, List.foldl_cons, e]
      exact ih h2 _
theorem group_key {a b : List Word} (h : a.map key = b.map key) : groupOf a = groupOf b := by
  rw [groupOf, groupOf, gAll, gAll, gstep_key h]
def mkW (k : ByteArray × Int) : Word := ⟨k.1, k.2, 0⟩
theorem tail_all {ln : Int} : ∀ (xs : List ByteArray) (w : ByteArray) (ys : List ByteArray), gTail ⟨ln, w, ys⟩ ((xs.map fun x => (x, ln)).map mkW) = [⟨ln, w, ys ++ xs⟩]
  | [], w, ys => by simp [gTail]
  | x :: xs, w, ys => by
    rw [List.map_cons, List.map_cons, tail_same rfl]
    have := tail_all (ln := ln) xs w (ys ++ [x])
    simp only [mkW] at this ⊢
    rw [this]; simp
theorem keysP_ge : ∀ (l : List (ByteArray × Stmt)) (ln : Int), ∀ k ∈ keysP ln l, ln ≤ k.2
  | [], ln, k, h => by cases h
  | (p, s) :: l, ln, k, h => by
    have hd : 0 ≤ dOf p := by unfold dOf; repeat' split
                              all_goals omega
    rw [keysP] at h
    rcases List.mem_append.1 h with h | h
    · obtain ⟨x, _, rfl⟩ := List.mem_map.1 h
      simp only; omega
    · have := keysP_ge l _ k h
      omega
theorem group_keys : ∀ (l : List (ByteArray × Stmt)) (ln : Int), groupOf ((keysP ln l).map mkW) = place ln l
  | [], ln => rfl
  | (p, s) :: l, ln => by
    rw [keysP, List.map_append, group_app (L := ln + dOf p + 1), group_keys l, place]
    · rw [List.map_cons, List.map_cons, group_cons]
      have := tail_all (ln := ln + dOf p) s.args s.word []
      simp only [mkW, List.nil_append] at this ⊢
      rw [this]; rfl
    · intro w hw
      obtain ⟨k, hk, rfl⟩ := List.mem_map.1 hw
      obtain ⟨x, _, rfl⟩ := List.mem_map.1 hk
      simp only [mkW]; omega
    · intro w hw
      obtain ⟨k, hk, rfl⟩ := List.mem_map.1 hw
      exact keysP_ge l _ k hk
theorem map_key {K : List (ByteArray × Int)} : (K.map mkW).map key = K := by
  rw [List.map_map]
  have : key ∘ mkW = id := by funext k; rfl
  rw [this, List.map_id]
theorem place_len : ∀ (l : List (ByteArray × Stmt)) (ln : Int), (place ln l).length = l.length
  | [], _ => rfl
  | (p, s) :: l, ln => by rw [place, List.length_cons, place_len l, List.length_cons]
theorem place_key : ∀ (l : List (ByteArray × Stmt)) (ln : Int), (place ln l).map (keyS false) = (l.map Prod.snd).map (keyS false)
  | [], _ => rfl
  | (p, s) :: l, ln => by rw [place, List.map_cons, place_key l, List.map_cons, List.map_cons]; rfl
theorem place_err : ∀ (l : List (ByteArray × Stmt)) (ln : Int) (i : Nat), (∀ x ∈ l, goodS x.2) → i + l.length ≤ 256 → firstErr i (place ln l) = none
  | [], _, _, _, _ => rfl
  | (p, s) :: l, ln, i, hg, hi => by
    rw [List.length_cons] at hi
    obtain ⟨_, _, g3⟩ := hg (p, s) (by simp)
    simp only at g3
    have hk : knownB s.word = true := by
      unfold knownB
      unfold argsB at g3
      cases hc : countsOf s.word with
      | none => rw [hc] at g3; cases g3
      | some c => rfl
    rw [place, firstErr, if_pos (by rw [checkOf_small (by omega)]; simp only; rw [hk, g3]; rfl)]
    exact place_err l _ (i + 1) (fun x hx => hg x (by simp [hx])) (by omega)
theorem cl_zero (u : ByteArray) : Cl u 0 1 [] := ⟨0, [], rfl, rfl⟩
/-- statements with texts ahead, parsed -/
theorem parse_pcs {l : List (ByteArray × Stmt)} (hg : ∀ x ∈ l, x.1 ∈ preTab ∧ goodS x.2) (hl : l.length ≤ 256) (hs : (catB pcT l).size ≤ 16383) : parseOf (catB pcT l) = (place 1 l, 0, 0) ∧ parseOf (catB pcT l ++ ⟨#[35]⟩) = (place 1 l, 0, 0) := by
  have he := place_err l 1 0 (fun x hx => (hg x hx).2) (by omega)
  have fin_ : ∀ V : List Word, V.map key = keysP 1 l → groupOf V = place 1 l := fun V hV => by
    rw [← group_keys l 1]; exact group_key (by rw [map_key]; exact hV)
  constructor
  · have h := Cl.pcs l (cl_zero (catB pcT l)) (by have := at_self (catB pcT l) ByteArray.empty; simpa using this) hg
    rw [Nat.zero_add, List.nil_append] at h
    obtain ⟨bg, V, h1, h2⟩ := h
    have e : splitOf (catB pcT l) = (V, 0, 0) := by
      rw [splitOf, if_neg (by omega), h1, if_neg (by simp), fin_cl]
    rw [parseOf, e, if_neg (by simp)]
    simp only
    rw [fin_ V h2, he]
  · have h := Cl.pcs l (cl_zero (catB pcT l ++ ⟨#[35]⟩)) (at_self (catB pcT l) _) hg
    rw [Nat.zero_add, List.nil_append] at h
    obtain ⟨bg, V, h1, h2⟩ := h
    have hsz : (catB pcT l ++ ⟨#[35]⟩).size = (catB pcT l).size + 1 := by rw [ByteArray.size_append]; rfl
    have hb : byteAt (catB pcT l ++ ⟨#[35]⟩) (catB pcT l).size = 35 := by
      rw [byteAt_app, if_neg (by omega), Nat.sub_self]; rfl
    have e : splitOf (catB pcT l ++ ⟨#[35]⟩) = (V, 0, 0) := by
      rw [splitOf, if_neg (by omega), hsz, auto_succ, h1]
      simp [stepS, hb, fin_cl]
    rw [parseOf, e, if_neg (by simp)]
    simp only
    rw [fin_ V h2, he]
end Go.Proofs.Ytgnblfojpcjgmaa

/- The words of written scenes. No program in sight. -/
namespace Go.Proofs.Ytgnblfojpcjgmaa
open Eng
set_option maxRecDepth 10000

theorem wordB_in {c : Int} (h1 : 33 ≤ c) (h2 : c ≤ 126) (h3 : c ≠ 35) : wordB c = true := by simp [wordB]; omega
theorem decB_allW (k n : Nat) : allW (decB k n) := by
  intro i hi
  rw [decB_size] at hi
  rw [decB_byte n k i hi]
  exact wordB_in (by omega) (by omega) (by omega)
theorem decT_isW {n k : Nat} (hn : n ≤ 9223372036854775807) (hk : k ≤ 20) (h1 : 1 ≤ k) : isW (decT n k) ∧ (decT n k).size ≤ 20 := by
  have := decT_size hn hk
  exact ⟨⟨by omega, decB_allW _ _⟩, this.1⟩
theorem ext_allW {t : ByteArray} {k : Nat} (h : allW t) (hk : k ≤ t.size) : allW (t.extract 0 k) := by
  intro i hi
  have hs : (t.extract 0 k).size = k := by simp; omega
  rw [ext_byte hk (by omega)]
  exact h i (by omega)
theorem fracT_allW (f : Nat) : allW (fracT f) := ext_allW (decB_allW _ _) (trimN_le _ _)
theorem fracT_size {f : Nat} (hf : f < 65536) : (fracT f).size ≤ 20 := by
  have := decT_size (n := (2 * f * 100000 + 65536) / 131072) (k := 5) (by omega) (by omega)
  rw [fracT]
  simp; omega
theorem fmtT_isW (n : Int) : isW (fmtT n) ∧ (fmtT n).size ≤ 42 := by
  have hc : (clampI n).natAbs ≤ 2147483648 := by unfold clampI; omega
  have hs : allW (if clampI n < 0 then minusT else ByteArray.empty) ∧ (if clampI n < 0 then minusT else ByteArray.empty).size ≤ 1 := by
    split <;> decide
  rw [fmtT]
  generalize (if clampI n < 0 then minusT else ByteArray.empty) = s at *
  generalize (clampI n).natAbs = a at *
  obtain ⟨d1, d2⟩ := decT_isW (n := a / 65536) (k := 1) (by omega) (by omega) (by omega)
  unfold fmtS
  split
  · exact ⟨isW_app hs.1 d1, by rw [ByteArray.size_append]; omega⟩
  · have f2 := fracT_size (f := a % 65536) (by omega)
    refine ⟨isW_app2 (isW_app2 (isW_app hs.1 d1) (by decide)) (fracT_allW _), ?_⟩
    rw [ByteArray.size_append, ByteArray.size_append, ByteArray.size_append]
    show s.size + _ + 1 + _ ≤ _
    omega
theorem name_isW {s : ByteArray} (h : nameOk s = true) : isW s ∧ s.size ≤ 16 := by
  simp only [nameOk, Bool.and_eq_true, decide_eq_true_eq] at h
  obtain ⟨⟨⟨h1, h2⟩, _⟩, h4⟩ := h
  refine ⟨⟨h1, fun i hi => ?_⟩, h2⟩
  have := List.all_eq_true.1 h4 i (List.mem_range.2 hi)
  simp [nameB, letterB, digitB] at this
  exact wordB_in (by omega) (by omega) (by omega)
theorem kindN_isW {k : Int} (h0 : 0 ≤ k) (h6 : k ≤ 6) : isW (kindN k) ∧ (kindN k).size ≤ 42 := by
  have h : ∀ i, i < 7 → isW (kindTab.getD i ByteArray.empty) ∧ (kindTab.getD i ByteArray.empty).size ≤ 42 := by decide
  exact h _ (by omega)
theorem linkN_isW {js : List Joint} {k : Int} (hn : ∀ j ∈ js, nameOk j.name = true) (h0 : -1 ≤ k) (h1 : k < js.length) : isW (linkN js k) ∧ (linkN js k).size ≤ 42 := by
  unfold linkN
  split
  · decide
  · obtain ⟨j, hj⟩ : ∃ j, js[k.toNat]? = some j := ⟨_, List.getElem?_eq_getElem (by omega)⟩
    rw [hj]
    have := name_isW (hn j (List.mem_of_getElem? hj))
    exact ⟨this.1, by simp only; omega⟩
/-- a written statement: its word, its arguments, how many -/
structure WB (m : Nat) (p : ByteArray × List ByteArray) : Prop where
  word : isW p.1
  short : p.1.size ≤ 5
  args : ∀ a ∈ p.2, isW a ∧ a.size ≤ 42
  cnt : argsB p.1 p.2.length = true
  len : p.2.length ≤ m
theorem WB.st {m : Nat} {p : ByteArray × List ByteArray} (h : WB m p) (ln : Int) : goodS ⟨ln, p.1, p.2⟩ ∧ (stT ⟨ln, p.1, p.2⟩).size ≤ 6 + m * 43 := by
  refine ⟨⟨h.word, fun a ha => (h.args a ha).1, h.cnt⟩, ?_⟩
  have h1 := catB_size (f := fun a => spT ++ a) (c := 43) p.2 fun a ha => by
    have := (h.args a ha).2
    rw [ByteArray.size_append]; show 1 + _ ≤ _; omega
  have h2 := Nat.mul_le_mul_right 43 h.len
  have h3 := h.short
  rw [stT, argT, ByteArray.size_append, ByteArray.size_append]
  show p.1.size + _ + 1 ≤ _
  simp only; omega
theorem numb_mem : ∀ {l : List (ByteArray × List ByteArray)} {n : Nat} {s : Stmt}, s ∈ numb n l → ∃ p ∈ l, ∃ ln, s = ⟨ln, p.1, p.2⟩
  | [], _, _, h => by cases h
  | p :: l, n, s, h => by
    rw [numb] at h
    rcases List.mem_cons.1 h with rfl | h
    · exact ⟨p, by simp, _, rfl⟩
    · obtain ⟨q, hq, ln, e⟩ := numb_mem h
      exact ⟨q, by simp [hq], ln, e⟩
theorem shape_cnt {k : Nat} (h1 : 1 ≤ k) (h8 : k ≤ 8) : argsB wShape (2 + 3 * k : Nat) = true := by
  have : ∀ k, k < 9 → 1 ≤ k → argsB wShape (2 + 3 * k : Nat) = true := by decide
  exact this k (by omega) h1
theorem pts_len : ∀ l : List Vec, (l.flatMap ptB).length = 3 * l.length
  | [] => rfl
  | p :: l => by rw [List.flatMap_cons, List.length_append, pts_len l, List.length_cons]; show 3 + _ = _; omega
theorem scB_good {s : Scene} (h : checkScene s = 0) {m : Nat} (hm : 9 ≤ m) (hp : ∀ x ∈ s.shapes, 2 + 3 * x.points.length ≤ m) : ∀ p ∈ scB s, WB m p := by
  obtain ⟨g0, g1, g2, g3, g4⟩ := scene_facts h
  obtain ⟨f1, f2, f3, f4⟩ := robot_facts g0
  have hn : ∀ j ∈ s.robot.joints, nameOk j.name = true := fun j hj => by
    obtain ⟨i, hi⟩ := List.getElem?_of_mem hj
    exact (f2 i j hi).1
  have one : ∀ {P : ByteArray → Prop} {a : ByteArray} {l : List ByteArray}, P a → (∀ x ∈ l, P x) → ∀ x ∈ a :: l, P x := by
    intro P a l h1 h2 x hx
    rcases List.mem_cons.1 hx with rfl | hx
    · exact h1
    · exact h2 x hx
  have dec : ∀ {n m : Int}, 1 ≤ n ∧ n ≤ m → m ≤ 9223372036854775807 → isW (decT n.toNat 1) ∧ (decT n.toNat 1).size ≤ 42 := by
    intro n m hn hm
    have := decT_isW (n := n.toNat) (k := 1) (by omega) (by omega) (by omega)
    exact ⟨this.1, by omega⟩
  intro p hp'
  rw [scB, robB] at hp'
  rcases List.mem_append.1 hp' with hp' | hp'
  · rcases List.mem_append.1 hp' with hp' | hp'
    · rcases List.mem_append.1 hp' with hp' | hp'
      · obtain ⟨j, hj, hp'⟩ := List.mem_flatMap.1 hp'
        obtain ⟨i, hi⟩ := List.getElem?_of_mem hj
        obtain ⟨n1, ⟨n2, n3⟩, ⟨n4, n5⟩, n6, n7, n8⟩ := f2 i j hi
        have hil : i < s.robot.joints.length := (List.getElem?_eq_some_iff.1 hi).1
        simp only [Bool.and_eq_true] at n8
        obtain ⟨⟨⟨c1, c2⟩, c3⟩, c4⟩ := n8
        have nm := name_isW n1
        have nm' : isW j.name ∧ j.name.size ≤ 42 := ⟨nm.1, by omega⟩
        simp only [jB, List.mem_cons, List.not_mem_nil, or_false] at hp'
        rcases hp' with rfl | rfl
        · exact ⟨by show isW wJoint; decide, by show wJoint.size ≤ 5; decide, one nm' (one (kindN_isW n2 n3) (one (linkN_isW hn n4 (by omega)) (one (fmtT_isW _) (one (fmtT_isW _) (one (fmtT_isW _) (one (fmtT_isW _) (one (fmtT_isW _) (one (dec (from1_bd c1) (by decide)) (by simp))))))))), by simp only [List.length_cons, List.length_nil]; decide, by simp only [List.length_cons, List.length_nil]; omega⟩
        · exact ⟨by show isW wLimit; decide, by show wLimit.size ≤ 5; decide, one nm' (one (dec (from1_bd c2) (by decide)) (one (dec (from1_bd c3) (by decide)) (one (dec (from1_bd c4) (by decide)) (by simp)))), by simp only [List.length_cons, List.length_nil]; decide, by simp only [List.length_cons, List.length_nil]; omega⟩
      · obtain ⟨x, hx, rfl⟩ := List.mem_map.1 hp'
        have hok := f4 x hx
        simp only [massOk, Bool.and_eq_true, decide_eq_true_eq] at hok
        exact ⟨by show isW wMass; decide, by show wMass.size ≤ 5; decide, one (linkN_isW hn (by omega) (by omega)) (one (fmtT_isW _) (one (fmtT_isW _) (one (fmtT_isW _) (one (fmtT_isW _) (by simp))))), by simp only [mB, List.length_cons, List.length_nil]; decide, by simp only [mB, List.length_cons, List.length_nil]; omega⟩
    · obtain ⟨x, hx, rfl⟩ := List.mem_map.1 hp'
      obtain ⟨q1, q2, q3, q4, q5⟩ := g2 x hx
      have q1 := link_bd q1
      have hl : (shB s.robot.joints x).2.length = 2 + 3 * x.points.length := by simp only [shB, List.length_cons, pts_len]; omega
      refine ⟨by show isW wShape; decide, by show wShape.size ≤ 5; decide, one (linkN_isW hn (by omega) (by omega)) (one (fmtT_isW _) ?_), ?_, ?_⟩
      · intro a ha
        obtain ⟨v, _, ha⟩ := List.mem_flatMap.1 ha
        exact one (P := fun a => isW a ∧ a.size ≤ 42) (fmtT_isW v.x) (one (fmtT_isW v.y) (one (fmtT_isW v.z) (by simp))) a ha
      · rw [hl]; exact shape_cnt q2 q3
      · rw [hl]; exact hp x hx
  · obtain ⟨x, hx, rfl⟩ := List.mem_map.1 hp'
    obtain ⟨q1, q2⟩ := g4 x hx
    have q1 := link_bd q1
    have q2 := link_bd q2
    exact ⟨by show isW wSkip; decide, by show wSkip.size ≤ 5; decide, one (linkN_isW hn (by omega) (by omega)) (one (linkN_isW hn (by omega) (by omega)) (by simp)), by simp only [skB, List.length_cons, List.length_nil]; decide, by simp only [skB, List.length_cons, List.length_nil]; omega⟩
theorem scB_len (s : Scene) : (scB s).length = 2 * s.robot.joints.length + s.robot.masses.length + s.shapes.length + s.skips.length := by
  rw [scB, List.length_append, List.length_append, robB_len, List.length_map, List.length_map]
theorem mkScene_pts (l : List Int) : ∀ x ∈ (mkScene l).shapes, x.points.length ≤ 4 := by
  intro x hx
  rcases List.mem_append.1 hx with hx | hx
  · obtain ⟨i, _, hx⟩ := List.mem_flatMap.1 hx
    rw [shOf] at hx
    split at hx
    · simp only [List.mem_singleton] at hx; subst hx; exact (mkPts_len _ _ _).2
    · cases hx
  · obtain ⟨i, _, rfl⟩ := List.mem_map.1 hx
    exact (mkPts_len _ _ _).2
/-- the statements of a made scene -/
theorem made_good (l : List Int) : (writeScene (mkScene l)).length ≤ 15 ∧ (∀ s ∈ writeScene (mkScene l), goodS s ∧ (stT s).size ≤ 608) ∧ (∀ s ∈ writeScene (mkScene l), s.args.length ≤ 14) ∧ 1 ≤ (writeScene (mkScene l)).length := by
  have hok := mkScene_ok l
  rw [writeScene, if_pos hok]
  have h1 := mkScene_len l
  have h2 := joints_len l 0
  have h3 : (mkScene l).robot.joints.length = (mkRobot l 0).joints.length := rfl
  have hg := scB_good hok (m := 14) (by omega) fun x hx => by have := mkScene_pts l x hx; omega
  refine ⟨by rw [numb_len, scB_len]; omega, fun s hs => ?_, fun s hs => ?_, by rw [numb_len, scB_len]; omega⟩
  · obtain ⟨p, hp, ln, rfl⟩ := numb_mem hs
    exact (hg p hp).st ln
  · obtain ⟨p, hp, ln, rfl⟩ := numb_mem hs
    exact (hg p hp).len
end Go.Proofs.Ytgnblfojpcjgmaa

/- ref.FormatStatements. -/
namespace Go.Proofs.Ytgnblfojpcjgmaa
open Eng
set_option maxRecDepth 10000
attribute [local irreducible] FnOk loopW idxF retX arrF findF

theorem eqT {a b : ByteArray} (h : a = b) : Tx a = Tx b := by rw [h]
theorem ref_FormatStatements (l : List Stmt) (hl : l.length ≤ 4611686018427387904) (ha : ∀ s ∈ l, s.args.length ≤ 4611686018427387904) (hs : (fmtL l).size ≤ 9223372036854775807) : FnOk Try.prog F.ref6_FormatStatements [.one (.dv (dSts l))] [] 0 (Tx (fmtL l)) [] 0 := by
  refine fnOk tab mix G.ref6_FormatStatements rfl rfl (by kernel_rfl) rfl rfl ?_
  (conv => whnf)
  refine loop_intro (fun k : Nat => ⟨[(0, .one (.dv (dSts l))), (3, Tx (fmtL (l.take k))), (4, I k)], [], 0⟩) (fun k => k ≤ l.length) (fun k => l.length - k) [] 0 [] (Nat.zero_le _) ⟨⟨rfl, rfl, rfl, trivial⟩, trivial⟩ ?_
  rintro k hk
  have hkk : IntKind.i64.wrap ((k : Int) + 1) = ((k + 1 : Nat) : Int) := by rw [w64] <;> omega
  (conv => whnf)
  refine ask_m (fun hlt => ?_) (fun hlt => ?_)
  · have hlt : k < l.length := by simpa using hlt
    obtain ⟨s, hsk⟩ : ∃ s, l[k]? = some s := ⟨_, List.getElem?_eq_getElem hlt⟩
    have hal := ha s (List.mem_of_getElem? hsk)
    have hsz := catB_le (f := stT) (l := l) (k := k + 1)
    have hnx := catB_take stT hsk
    rw [hnx, stT, ByteArray.size_append, ByteArray.size_append, ByteArray.size_append] at hsz
    have hs' : (catB stT l).size ≤ 9223372036854775807 := hs
    have h1 : nlT.size = 1 := rfl
    have hnx' : fmtL (l.take (k + 1)) = fmtL (l.take k) ++ ((s.word ++ argT s.args) ++ nlT) := hnx
    have hsz' : (fmtL (l.take k)).size + (s.word.size + (argT s.args).size + nlT.size) ≤ 9223372036854775807 := Nat.le_trans hsz hs'
    generalize fmtL (l.take k) = t at *
    (conv => whnf)
    refine idx_and (by omega) (by simpa using hsk) ?_
    (conv => whnf)
    refine ⟨by omega, ?_⟩
    (conv => whnf)
    refine loop_intro (fun i : Nat => ⟨[(0, .one (.dv (dSts l))), (3, Tx ((t ++ s.word) ++ argT (s.args.take i))), (4, I k), (5, I i)], [], 0⟩) (fun i => i ≤ s.args.length) (fun i => s.args.length - i) [] 0 [] (Nat.zero_le _) ⟨⟨rfl, eqT (by simp [argT, catB_nil]), rfl, rfl, trivial⟩, trivial⟩ ?_
    rintro i hi
    have hii : IntKind.i64.wrap ((i : Int) + 1) = ((i + 1 : Nat) : Int) := by rw [w64] <;> omega
    (conv => whnf)
    refine idx_and (by omega) (by simpa using hsk) ?_
    (conv => whnf)
    refine ask_m (fun hilt => ?_) (fun hilt => ?_)
    · have hilt : i < s.args.length := by simpa using hilt
      obtain ⟨a, hai⟩ : ∃ a, s.args[i]? = some a := ⟨_, List.getElem?_eq_getElem hilt⟩
      have hz := catB_le (f := fun a => spT ++ a) (l := s.args) (k := i + 1)
      have hn := catB_take (fun a => spT ++ a) hai
      rw [hn, ByteArray.size_append, ByteArray.size_append] at hz
      have hz' : (argT (s.args.take i)).size + (spT.size + a.size) ≤ (argT s.args).size := hz
      have hn' : argT (s.args.take (i + 1)) = argT (s.args.take i) ++ (spT ++ a) := hn
      (conv => whnf)
      refine idx_and (by omega) (by simpa using hsk) ?_
      (conv => whnf)
      refine idx_and (by omega) (by simpa using hai) ?_
      (conv => whnf)
      refine ⟨by show spT.size + a.size ≤ _; omega, ?_⟩
      (conv => whnf)
      refine ⟨by rw [ByteArray.size_append, ByteArray.size_append]; show _ + (spT ++ a).size ≤ _; rw [ByteArray.size_append]; omega, ?_⟩
      (conv => whnf)
      exact ⟨i + 1, [], hilt, by omega, ⟨⟨rfl, eqT (by rw [hn']; exact ByteArray.append_assoc), rfl, eqI hii, trivial⟩, trivial⟩⟩
    · have hi : i = s.args.length := by simp at hilt; omega
      subst hi
      rw [List.take_length]
      (conv => whnf)
      refine ⟨by rw [ByteArray.size_append, ByteArray.size_append]; show _ + nlT.size ≤ _; omega, ?_⟩
      (conv => whnf)
      exact ⟨k + 1, [], hlt, by omega, ⟨⟨rfl, eqT (by rw [hnx', ← ByteArray.append_assoc, ← ByteArray.append_assoc]; rfl), eqI hkk, trivial⟩, trivial⟩⟩
  · have hk : k = l.length := by simp at hlt; omega
    subst hk
    rw [List.take_length]
    (conv => whnf)
    refine ret0 ?_
    exact ret_dv rfl rfl
end Go.Proofs.Ytgnblfojpcjgmaa

/- strings.Builder. -/
namespace Go.Proofs.Ytgnblfojpcjgmaa
open Eng Go.RowKit
set_option maxRecDepth 100000

theorem bdSize : (Try.prog.info? 92).map (·.size) = some 2 := by kernel_rfl
theorem bdLies : liesAt Try.prog Try.prog.depth 92 (2 / Try.prog.cellsOf 92) 0 92 1 = true := by kernel_rfl
theorem cc_used (b : Nat) (w : World) (h0 : w.cell? ⟨b, 0, none⟩ = some (.pointer (some ⟨b, 0, none⟩))) :
    Calls Try.prog 54 #[.pointer (some ⟨b, 0, none⟩)] w fun e w' => e = .returned (.tuple #[]) ∧ w' = w := by
  obtain ⟨j, hj, _⟩ := Option.map_eq_some_iff.1 bdSize
  go_enter Try.func54, Try.ntmps54
  go_wp2
  rw [Lib.run_neq_ptr_same w _ Try.underlying90 hj]
  go_wp2
  go_end0
  exact ⟨rfl, rfl⟩
theorem cc_fresh (b : Nat) (w : World) (h0 : w.cell? ⟨b, 0, none⟩ = some (.pointer none)) (hsh : w.shape? b = some (92, 2)) (hfz : w.frozen? ⟨b, 0, none⟩ = false) :
    Calls Try.prog 54 #[.pointer (some ⟨b, 0, none⟩)] w fun e w' => e = .returned (.tuple #[]) ∧ w' = w.setCell ⟨b, 0, none⟩ (.pointer (some ⟨b, 0, none⟩)) := by
  obtain ⟨j, hj, hjs⟩ := Option.map_eq_some_iff.1 bdSize
  go_enter Try.func54, Try.ntmps54
  go_wp2
  rw [Lib.run_to_unsafe w ⟨b, 0, none⟩ Try.underlying90 Try.underlying122 hj (by rw [hjs]; decide) hsh (Nat.zero_lt_succ 1)]
  simp only [Result.andThen]
  rw [Oper.upon_value]
  go_wp2
  rw [run_callFunc_extern Try.func59 (by kernel_rfl) (by kernel_rfl) (by kernel_rfl) (e := Extern.AbiNoEscape.same) (by kernel_rfl)]
  rw [Lib.run_noEscape]
  simp only [Result.andThen]
  rw [Oper.upon_value]
  go_wp2
  rw [Lib.run_from_unsafe w ⟨b, 0, none⟩ Try.underlying122 Try.underlying90 hj hsh bdLies]
  simp only [Result.andThen]
  rw [Oper.upon_value]
  go_wp2
  go_end0
  exact ⟨rfl, rfl⟩
theorem bs_nil (b : Nat) (p : Value) (w : World) (hbk : w.heap[b]? = some (.cells #[p, .slice none 0 0] 92 (0, 0))) :
    Calls Try.prog 41 #[.pointer (some ⟨b, 0, none⟩)] w fun e w' => e = .returned (.string .empty) ∧ w' = w.drew := by
  have hUS : ∀ (W : World) (q : Option Addr), (Builtin.unsafeString_ #[117, 3] 9 #[.pointer q, .int .i64 0]).run Try.prog W = .ok (.string .empty) W := fun W q => Lib.run_unsafeString_none W _ _ _ q
  have c1 : w.drew.cell? ⟨b, 1, none⟩ = some (.slice none 0 0) := by
    have : w.drew.heap[b]? = some (.cells #[p, .slice none 0 0] 92 (0, 0)) := hbk
    rw [Lib.cell_of_heap this]; rfl
  have hSD : (Builtin.unsafeSliceData_ #[22] 117 #[.slice none 0 0]).run Try.prog w.drew = .ok (.pointer none) w.drew := rfl
  go_enter Try.func41, Try.ntmps41
  go_wp2
  go_region
  all_goals (go_wp2; go_ret; exact ⟨rfl, rfl⟩)
theorem bs_some (b g cap : Nat) (cur : Array Value) (l : List UInt8) (p : Value) (w : World) (hbk : w.heap[b]? = some (.cells #[p, .slice (some ⟨g, 0, none⟩) l.length cap] 92 (0, 0))) (hg : w.heap[g]? = some (.cells cur 5 (0, 0))) (hnc : l.length ≤ cap) (hcm : cap ≤ maxLen) (hcs : cur.size = cap) (h0 : l ≠ [])
    (hcell : ∀ (j : Nat) x, l[j]? = some x → w.cell? ((⟨g, 0, none⟩ : Addr).add j) = some (.int .u8 x.toNat)) :
    Calls Try.prog 41 #[.pointer (some ⟨b, 0, none⟩)] w fun e w' => e = .returned (.string ⟨l.toArray⟩) ∧ w' = w.drew.freeze ⟨g, 0, none⟩ l.length := by
  have hl0 : l.length ≠ 0 := by simpa using h0
  have c1 : w.drew.cell? ⟨b, 1, none⟩ = some (.slice (some ⟨g, 0, none⟩) l.length cap) := by
    have : w.drew.heap[b]? = some (.cells #[p, .slice (some ⟨g, 0, none⟩) l.length cap] 92 (0, 0)) := hbk
    rw [Lib.cell_of_heap this]; rfl
  have hSD : (Builtin.unsafeSliceData_ #[22] 117 #[.slice (some ⟨g, 0, none⟩) l.length cap]).run Try.prog w.drew = .ok (.pointer (some ⟨g, 0, none⟩)) w.drew :=
    Lib.run_unsafeSliceData_row _ _ _ _ _ _ (by omega)
  have hUS : (Builtin.unsafeString_ #[117, 3] 9 #[.pointer (some ⟨g, 0, none⟩), .int .i64 l.length]).run Try.prog w.drew = .ok (.string ⟨l.toArray⟩) (w.drew.freeze ⟨g, 0, none⟩ l.length) := by
    refine Lib.run_unsafeString_row w.drew 117 3 9 5 Try.underlying117 (by kernel_rfl) g cur.size (by have hg' : w.drew.heap[g]? = some (.cells cur 5 (0, 0)) := hg; simp [World.shape?, hg']) l h0 (by omega) (by unfold maxLen at hcm; omega) ?_
    intro j x hx
    exact hcell j x hx
  go_enter Try.func41, Try.ntmps41
  go_wp2
  go_region
  all_goals (go_wp2; go_ret; exact ⟨rfl, rfl⟩)
abbrev bdNew : Box := .vars Y.strings_Builder [.npt, .nil 1]
abbrev bdOld (r : Nat) : Box := .vars Y.strings_Builder [.vptr 0 0, .row r]
/-- a box alone -/
theorem mem1 {w0 w w' : World} {X Z : Nat → Prop} {β : Nat → Value} {x y : Box} {g : Nat} (h : MemRel w0 X Z (· < 1) [(0, x)] β w) (hx : x ≠ .dead) (hg : blk (β 0) = some g) (hX : X g) (hry : rowSz y = none) (hrefb : RefB (· < 1) y)
    (hbox : BRd w' (Imm Z [(0, y)] β w') [(0, y)] β y (β 0)) (hos : w'.os = w.os) (htp : w'.tape = w.tape) (hout : w'.output = w.output) (hsz : w.heap.size ≤ w'.heap.size) (hh : ∀ k, k < w.heap.size → k ≠ g → w'.heap[k]? = w.heap[k]?) :
    MemRel w0 X Z (· < 1) [(0, y)] β w' := by
  have l0 : ∀ b, b ≠ 0 → lkb [(0, y)] b = .dead := fun b hb => by
    rw [lkb_cons, if_neg (fun e => hb e.symm)]; rfl
  have ly : lkb [(0, y)] 0 = y := rfl
  refine ⟨fun b => ?_, fun b => ?_, fun b b' k hb hb' _ _ => ?_, fun b k hb hk => ?_, ⟨hos.trans h.ext.os, htp.trans h.ext.tape, hout.trans h.ext.output, Nat.le_trans h.ext.size hsz, fun k hk hX' => ?_⟩, h.new, fun b sz k hb _ => ?_⟩
  · by_cases e : b = 0
    · subst e; rw [ly]; exact ⟨hrefb, fun _ => Nat.zero_lt_one⟩
    · rw [l0 b e]; exact ⟨trivial, fun hd => absurd rfl hd⟩
  · by_cases e : b = 0
    · subst e; rw [ly]; exact hbox
    · rw [l0 b e]; trivial
  · have e : b = 0 := Classical.byContradiction fun e => hb (l0 b e)
    have e' : b' = 0 := Classical.byContradiction fun e => hb' (l0 b' e)
    rw [e, e']
  · have e : b = 0 := Classical.byContradiction fun e => hb (l0 b e)
    subst e
    exact h.own 0 k hx hk
  · rw [hh k (Nat.lt_of_lt_of_le hk h.ext.size) (fun e => hX' (e ▸ hX))]
    exact h.ext.block k hk hX'
  · by_cases e : b = 0
    · subst e; rw [ly, hry] at hb; cases hb
    · rw [l0 b e] at hb; cases hb
theorem bd_copyNew : FnOk Try.prog F.strings_Builder_copyCheck [.one (.vptr 0 0)] [(0, bdNew)] 1 (.tup []) [(0, .vars Y.strings_Builder [.vptr 0 0, .nil 1])] 1 := by
  refine ⟨by kernel_rfl, fun w Z vs β hargs hmem => ?_⟩
  obtain ⟨v, r, rfl, hv, hr⟩ := all2_cons hargs
  obtain rfl := all2_nil hr
  obtain ⟨g, cs, e1, hb, hall⟩ := hmem.boxes 0
  obtain ⟨g', e2, rfl⟩ := hv.2 (by simp [lkb])
  rw [e1] at e2
  injection e2 with e2; injection e2 with e2; injection e2 with e2; subst e2
  obtain ⟨a, r, ea, ha, hall⟩ := all2_cons hall
  obtain ⟨b, r, rfl, hb', hall⟩ := all2_cons hall
  obtain rfl := all2_nil hall
  simp only [CRd] at ha hb'
  subst ha hb'
  have hcs : cs = #[.pointer none, .slice none 0 0] := by rw [← Array.toArray_toList (xs := cs), ea]
  subst hcs
  have hlt : g < w.heap.size := (Array.getElem?_eq_some_iff.1 hb).1
  refine (cc_fresh g w (by simp [World.cell?, hb]) (by simp [World.shape?, hb]) (by simp [World.frozen?, hb])).mono ?_
  rintro e w' ⟨rfl, rfl⟩
  have hnew : (w.setCell ⟨g, 0, none⟩ (.pointer (some ⟨g, 0, none⟩))).heap[g]? = some (.cells #[.pointer (some ⟨g, 0, none⟩), .slice none 0 0] Y.strings_Builder (0, 0)) := by
    simp [World.setCell, Array.getElem?_modify, hb]
  refine ⟨_, β, rfl, ⟨_, rfl, trivial⟩, (fun t h => by cases h), ?_, fun b _ _ => rfl⟩
  refine mem1 (g := g) hmem (by simp) (by rw [e1]; rfl) ⟨0, by simp [lkb], by rw [e1]; rfl⟩ rfl ?_ ⟨g, _, e1, hnew, ⟨⟨rfl, fun _ => ⟨g, e1, rfl⟩⟩, rfl, trivial⟩⟩ rfl rfl rfl (by simp [World.setCell]) (fun k hk hne => RowKit.Below.heap_setCell w _ _ k hne)
  intro c hc
  rcases List.mem_cons.1 hc with rfl | hc
  · exact Nat.zero_lt_one
  · rcases List.mem_cons.1 hc with rfl | hc
    · trivial
    · cases hc
theorem bd_copyOld (bs : List (List DV)) : FnOk Try.prog F.strings_Builder_copyCheck [.one (.vptr 0 0)] [(0, bdOld 1), (1, .rows Y.uint8 1 bs)] 2 (.tup []) [(0, bdOld 1), (1, .rows Y.uint8 1 bs)] 2 := by
  refine ⟨by kernel_rfl, fun w Z vs β hargs hmem => ?_⟩
  obtain ⟨v, r, rfl, hv, hr⟩ := all2_cons hargs
  obtain rfl := all2_nil hr
  obtain ⟨g, cs, e1, hb, hall⟩ := hmem.boxes 0
  obtain ⟨g', e2, rfl⟩ := hv.2 (by simp [lkb])
  rw [e1] at e2
  injection e2 with e2; injection e2 with e2; injection e2 with e2; subst e2
  obtain ⟨a, r, ea, ha, hall⟩ := all2_cons hall
  obtain ⟨g2, e3, rfl⟩ := ha.2 (by simp [lkb])
  rw [e1] at e3
  injection e3 with e3; injection e3 with e3; injection e3 with e3; subst e3
  have h0 : w.cell? ⟨g, 0, none⟩ = some (.pointer (some ⟨g, 0, none⟩)) := by
    have : cs[0]? = some (.pointer (some ⟨g, 0, none⟩)) := by rw [← Array.getElem?_toList, ea]; rfl
    simp [World.cell?, hb, this]
  refine (cc_used g w h0).mono ?_
  rintro e w' ⟨rfl, rfl⟩
  exact ⟨_, β, rfl, ⟨_, rfl, trivial⟩, (fun t h => by cases h), hmem, fun b _ _ => rfl⟩
theorem bytes_of : ∀ {l : List UInt8} {xs : List Value} {w : World} {N : Nat → Prop}, All2 (DRd w N) (l.map fun b => [DV.int .u8 (b.toNat : Int)]).flatten xs → xs = Lib.byteCells l
  | [], [], _, _, _ => rfl
  | b :: l, x :: xs, w, N, h => by
    rw [Lib.byteCells, List.map_cons, ← Lib.byteCells, bytes_of (l := l) h.2, DRd.int_inv h.1]
/-- only dead boxes -/
theorem mem0 {w0 w w' : World} {X Z A : Nat → Prop} {β : Nat → Value} {m : List (Nat × Box)} (h : MemRel w0 X Z A m β w) (hos : w'.os = w.os) (htp : w'.tape = w.tape) (hout : w'.output = w.output) (hsz : w.heap.size ≤ w'.heap.size) (hh : ∀ k, k < w0.heap.size → ¬ X k → w'.heap[k]? = w.heap[k]?) :
    MemRel w0 X Z A [] β w' :=
  ⟨fun b => ⟨trivial, fun hd => absurd rfl hd⟩, fun b => trivial, fun b b' k hb => absurd rfl hb, fun b k hb => absurd rfl hb, ⟨hos.trans h.ext.os, htp.trans h.ext.tape, hout.trans h.ext.output, Nat.le_trans h.ext.size hsz, fun k hk hX => by rw [hh k hk hX]; exact h.ext.block k hk hX⟩, h.new, fun b sz k hb => by cases hb⟩
theorem bd_strNew : FnOk Try.prog F.strings_Builder_String [.one (.vptr 0 0)] [(0, bdNew)] 1 (Tx ByteArray.empty) [] 1 := by
  refine ⟨by kernel_rfl, fun w Z vs β hargs hmem => ?_⟩
  obtain ⟨v, r, rfl, hv, hr⟩ := all2_cons hargs
  obtain rfl := all2_nil hr
  obtain ⟨g, cs, e1, hb, hall⟩ := hmem.boxes 0
  obtain ⟨g', e2, rfl⟩ := hv.2 (by simp [lkb])
  rw [e1] at e2
  injection e2 with e2; injection e2 with e2; injection e2 with e2; subst e2
  obtain ⟨a, r, ea, ha, hall⟩ := all2_cons hall
  obtain ⟨b, r, rfl, hb', hall⟩ := all2_cons hall
  obtain rfl := all2_nil hall
  simp only [CRd] at ha hb'
  subst ha hb'
  have hcs : cs = #[.pointer none, .slice none 0 0] := by rw [← Array.toArray_toList (xs := cs), ea]
  subst hcs
  refine (bs_nil g _ w hb).mono ?_
  rintro e w' ⟨rfl, rfl⟩
  exact ⟨_, β, rfl, .str _, trivial, mem0 hmem rfl rfl rfl (Nat.le_refl _) (fun _ _ _ => rfl), fun b _ hd => absurd rfl hd⟩
theorem bd_strOld (s : ByteArray) (hs : 0 < s.size) : FnOk Try.prog F.strings_Builder_String [.one (.vptr 0 0)] [(0, bdOld 1), (1, .rows Y.uint8 1 (strRows s))] 2 (Tx s) [] 2 := by
  refine ⟨by kernel_rfl, fun w Z vs β hargs hmem => ?_⟩
  obtain ⟨v, r, rfl, hv, hr⟩ := all2_cons hargs
  obtain rfl := all2_nil hr
  obtain ⟨g, cs, e1, hb, hall⟩ := hmem.boxes 0
  obtain ⟨xs, hown, _, hrd⟩ := hmem.boxes 1
  obtain ⟨g', e2, rfl⟩ := hv.2 (by simp [lkb])
  rw [e1] at e2
  injection e2 with e2; injection e2 with e2; injection e2 with e2; subst e2
  obtain ⟨a, r, ea, ha, hall⟩ := all2_cons hall
  obtain ⟨b, r, rfl, hb', hall⟩ := all2_cons hall
  obtain rfl := all2_nil hall
  have l1 : lkb [(0, bdOld 1), (1, Box.rows Y.uint8 1 (strRows s))] 1 ≠ .dead := by
    show (Box.rows Y.uint8 1 (strRows s)) ≠ .dead
    intro e; cases e
  have hb' := hb'.2 l1
  subst hb'
  have hcs : cs = #[a, β 1] := by rw [← Array.toArray_toList (xs := cs), ea]
  subst hcs
  have hxs := bytes_of hrd
  rw [strRows_len] at hown
  have hl : s.data.toList.length = s.size := by rw [Array.length_toList]; rfl
  rcases hown.2 with ⟨_, h0⟩ | ⟨k, cap, cur, eβ, _, hk, hnc, hcm, hsz, htk⟩
  · omega
  have hcell := hown.cells (g := k) (by rw [eβ]; rfl)
  rw [eβ, ← hl] at hb
  refine (bs_some g k cap cur s.data.toList a w hb hk (by omega) hcm (by omega) (by intro e; rw [e] at hl; simp at hl; omega) (fun j x hx => hcell j _ (by rw [hxs, Lib.byteCells, List.getElem?_map, hx]; rfl))).mono ?_
  rintro e w' ⟨rfl, rfl⟩
  have es : (⟨s.data.toList.toArray⟩ : ByteArray) = s := by rw [Array.toArray_toList]
  rw [es]
  refine ⟨_, β, rfl, .str _, trivial, mem0 hmem (by unfold World.freeze; split <;> rfl) (by unfold World.freeze; split <;> rfl) (by unfold World.freeze; split <;> rfl) (by unfold World.freeze; split <;> simp) (fun j _ hX => ?_), fun b _ hd => absurd rfl hd⟩
  have hne : j ≠ k := fun e => hX ⟨1, l1, by rw [eβ, e]; rfl⟩
  unfold World.freeze
  split
  · rfl
  · simp only [Array.getElem?_modify]
    rw [if_neg (fun e => hne e.symm)]; rfl
attribute [local irreducible] FnOk loopW idxF retX arrF findF
theorem appS5 : Try.prog.underlying Y.string = some .string ∧ (Try.prog.info? Y.uint8).map (fun i => (i.zero, i.size, i.bytes)) = some (some (.int .u8 0), 1, 1) := ⟨by kernel_rfl, by kernel_rfl⟩
abbrev WsR (s : ByteArray) : SV := .tup [(false, [.dv (.int .i64 s.size)]), (false, [.bot])]
theorem strRows_app (a b : ByteArray) : strRows (a ++ b) = strRows a ++ strRows b := by
  simp [strRows, ByteArray.data_append]
theorem bd_writeNew (s : ByteArray) (hs : s.size ≤ 140737488355328) : FnOk Try.prog F.strings_Builder_WriteString [.one (.vptr 0 0), Tx s] [(0, bdNew)] 1 (WsR s) [(0, bdOld 1), (1, .rows Y.uint8 1 (strRows s))] 2 := by
  refine fnOk tab mix G.strings_Builder_WriteString rfl rfl (by kernel_rfl) rfl rfl ?_
  (conv => whnf)
  refine call_i (bd_copyNew) ?_
  (conv => whnf)
  refine ⟨appS5, ?_⟩
  (conv => whnf)
  refine ⟨hs, ?_⟩
  (conv => whnf)
  (conv => whnf)
  refine retO [] ?_
  (conv => whnf)
  exact ⟨[], ⟨rfl, trivial⟩, ⟨rfl, rfl, trivial⟩⟩
theorem bd_writeOld (t s : ByteArray) (hs : t.size + s.size ≤ 140737488355328) : FnOk Try.prog F.strings_Builder_WriteString [.one (.vptr 0 0), Tx s] [(0, bdOld 1), (1, .rows Y.uint8 1 (strRows t))] 2 (WsR s) [(0, bdOld 2), (2, .rows Y.uint8 1 (strRows (t ++ s)))] 3 := by
  refine fnOk tab mix G.strings_Builder_WriteString rfl rfl (by kernel_rfl) rfl rfl ?_
  (conv => whnf)
  refine call_i (bd_copyOld (strRows t)) ?_
  (conv => whnf)
  refine ⟨appS5, ?_⟩
  (conv => whnf)
  refine ⟨by rw [strRows_len]; exact hs, ?_⟩
  (conv => whnf)
  (conv => whnf)
  refine retO [] ?_
  (conv => whnf)
  exact ⟨[], ⟨rfl, trivial⟩, ⟨rfl, by rw [strRows_app]; rfl, trivial⟩⟩
end Go.Proofs.Ytgnblfojpcjgmaa

/- syntax.Format. -/
namespace Go.Proofs.Ytgnblfojpcjgmaa
open Eng
set_option maxRecDepth 10000
attribute [local irreducible] FnOk loopW idxF retX arrF findF

theorem catB_nilT (f : Stmt → ByteArray) (l : List Stmt) : catB f (l.take 0) = ByteArray.empty := by rw [List.take_zero]; rfl
theorem fmtL_pos {l : List Stmt} {k : Nat} (h : k < l.length) : 0 < (fmtL (l.take (k + 1))).size := by
  obtain ⟨s, hs⟩ : ∃ s, l[k]? = some s := ⟨_, List.getElem?_eq_getElem h⟩
  have := catB_take stT hs
  have h1 : nlT.size = 1 := rfl
  rw [fmtL, this, stT, ByteArray.size_append, ByteArray.size_append]; omega
theorem syntax_Format (l : List Stmt) (hl : l.length ≤ 4611686018427387904) (ha : ∀ s ∈ l, s.args.length ≤ 4611686018427387904) (hs : (fmtL l).size ≤ 140737488355328) : FnOk Try.prog F.syntax_Format [.one (.dv (dSts l))] [] 0 (Tx (fmtL l)) [] 0 := by
  refine fnOk tab mix G.syntax_Format rfl rfl (by kernel_rfl) rfl rfl ?_
  (conv => whnf)
  refine loop_intro (fun k : Nat => match k with
    | 0 => ⟨[(3, .one (.vptr 0 0)), (8, .one (.dv (dSts l))), (9, I l.length), (10, I 0)], [(0, bdNew)], 1⟩
    | k + 1 => ⟨[(3, .one (.vptr 0 0)), (8, .one (.dv (dSts l))), (9, I l.length), (10, I ((k + 1 : Nat) : Int))], [(0, bdOld 1), (1, .rows Y.uint8 1 (strRows (fmtL (l.take (k + 1)))))], 2⟩) (fun k => k ≤ l.length) (fun k => l.length - k) [] 0 [] (Nat.zero_le _) ⟨⟨rfl, rfl, eqI (by simp), rfl, trivial⟩, ⟨rfl, trivial⟩⟩ ?_
  rintro k hk
  rcases k with _ | k
  · (conv => whnf)
    refine ask_m (fun hlt => ?_) (fun hlt => ?_)
    rotate_left
    · have h0 : l = [] := List.eq_nil_of_length_eq_zero (by have := of_decide_eq_false hlt; omega)
      subst h0
      (conv => whnf)
      refine call_i (bd_strNew) ?_
      (conv => whnf)
      (conv => whnf)
      refine ret0 ?_
      exact ret_dv rfl rfl
    have hlt : 0 < l.length := by have := of_decide_eq_true hlt; omega
    obtain ⟨s, hsk⟩ : ∃ s, l[0]? = some s := ⟨_, List.getElem?_eq_getElem hlt⟩
    have hal := ha s (List.mem_of_getElem? hsk)
    have hsz := catB_le (f := stT) (l := l) (k := 0 + 1)
    have hnx := catB_take stT hsk
    rw [hnx, stT, ByteArray.size_append, ByteArray.size_append, ByteArray.size_append] at hsz
    have hs' : (catB stT l).size ≤ 140737488355328 := hs
    have h1 : nlT.size = 1 := rfl
    have hnx' : fmtL (l.take (0 + 1)) = fmtL (l.take (0)) ++ ((s.word ++ argT s.args) ++ nlT) := hnx
    have hsz' : (fmtL (l.take (0))).size + (s.word.size + (argT s.args).size + nlT.size) ≤ 140737488355328 := Nat.le_trans hsz hs'
    obtain ⟨t, ht⟩ : ∃ t, t = fmtL (l.take 0) := ⟨_, rfl⟩
    have ht0 : ∀ x : ByteArray, t ++ x = x := fun x => by rw [ht, fmtL, catB_nilT]; exact ByteArray.empty_append
    rw [← ht] at hsz' hnx' 
    (conv => whnf)
    refine idx_and (by omega) (by simpa using hsk) ?_
    (conv => whnf)
    refine call_i (bd_writeNew s.word (by omega)) ?_
    (conv => whnf)
    refine loop_intro (fun i : Nat => ⟨[(3, .one (.vptr 0 0)), (8, .one (.dv (dSts l))), (9, I l.length), (10, I (0)), (18, .one (.dv (.lst 1 (s.args.map encA)))), (19, I s.args.length), (20, I i)], [(0, bdOld 1), (1, .rows Y.uint8 1 (strRows ((t ++ s.word) ++ argT (s.args.take i))))], 2⟩) (fun i => i ≤ s.args.length) (fun i => s.args.length - i) [] 0 [(1, 2)] (Nat.zero_le _) ⟨⟨rfl, rfl, rfl, rfl, rfl, eqI (by simp), rfl, trivial⟩, ⟨rfl, rows_eq (by simp [argT, catB_nil, ht0]), trivial⟩⟩ ?_
    rintro i hi
    have hii : IntKind.i64.wrap ((i : Int) + 1) = ((i + 1 : Nat) : Int) := by rw [w64] <;> omega
    have hz0 := catB_le (f := fun a => spT ++ a) (l := s.args) (k := i)
    have hz0' : (argT (s.args.take i)).size ≤ (argT s.args).size := hz0
    (conv => whnf)
    refine ask_m (fun hilt => ?_) (fun hilt => ?_)
    · have hilt : i < s.args.length := by have := of_decide_eq_true hilt; omega
      obtain ⟨a, hai⟩ : ∃ a, s.args[i]? = some a := ⟨_, List.getElem?_eq_getElem hilt⟩
      have hz := catB_le (f := fun a => spT ++ a) (l := s.args) (k := i + 1)
      have hn := catB_take (fun a => spT ++ a) hai
      rw [hn, ByteArray.size_append, ByteArray.size_append] at hz
      have hz' : (argT (s.args.take i)).size + (spT.size + a.size) ≤ (argT s.args).size := hz
      have hn' : argT (s.args.take (i + 1)) = argT (s.args.take i) ++ (spT ++ a) := hn
      have h2 : spT.size = 1 := rfl
      (conv => whnf)
      refine idx_and (by omega) (by simpa using hai) ?_
      (conv => whnf)
      refine call_i (bd_writeOld ((t ++ s.word) ++ argT (s.args.take i)) spT (by rw [ByteArray.size_append, ByteArray.size_append]; omega)) ?_
      (conv => whnf)
      refine call_i (bd_writeOld (((t ++ s.word) ++ argT (s.args.take i)) ++ spT) a (by rw [ByteArray.size_append, ByteArray.size_append, ByteArray.size_append]; omega)) ?_
      (conv => whnf)
      exact ⟨i + 1, [(1, 3)], hilt, by omega, ⟨⟨rfl, rfl, rfl, rfl, rfl, rfl, eqI hii, trivial⟩, ⟨rfl, rows_eq (by rw [hn', ← ByteArray.append_assoc, ← ByteArray.append_assoc]), trivial⟩⟩⟩
    · have hi : i = s.args.length := by have := of_decide_eq_false hilt; omega
      subst hi
      rw [List.take_length]
      (conv => whnf)
      refine call_i (bd_writeOld ((t ++ s.word) ++ argT s.args) nlT (by rw [ByteArray.size_append, ByteArray.size_append]; omega)) ?_
      (conv => whnf)
      exact ⟨0 + 1, [(1, 2)], hlt, by omega, ⟨⟨rfl, rfl, rfl, rfl, trivial⟩, ⟨rfl, rows_eq (by rw [hnx', ← ByteArray.append_assoc, ← ByteArray.append_assoc]), trivial⟩⟩⟩
  · have hkk : IntKind.i64.wrap (((k + 1 : Nat) : Int) + 1) = ((k + 1 + 1 : Nat) : Int) := by rw [w64] <;> omega
    (conv => whnf)
    refine ask_m (fun hlt => ?_) (fun hlt => ?_)
    rotate_left
    · have hk : k + 1 = l.length := by have := of_decide_eq_false hlt; omega
      have hpos := fmtL_pos (l := l) (k := k) (by omega)
      have e : fmtL (l.take (k + 1)) = fmtL l := by rw [hk, List.take_length]
      (conv => whnf)
      refine call_i (bd_strOld (fmtL (l.take (k + 1))) hpos) ?_
      (conv => whnf)
      (conv => whnf)
      refine ret0 ?_
      exact ret_dv (by rw [e]) rfl
    have hlt : k + 1 < l.length := by have := of_decide_eq_true hlt; omega
    obtain ⟨s, hsk⟩ : ∃ s, l[(k + 1)]? = some s := ⟨_, List.getElem?_eq_getElem hlt⟩
    have hal := ha s (List.mem_of_getElem? hsk)
    have hsz := catB_le (f := stT) (l := l) (k := (k + 1) + 1)
    have hnx := catB_take stT hsk
    rw [hnx, stT, ByteArray.size_append, ByteArray.size_append, ByteArray.size_append] at hsz
    have hs' : (catB stT l).size ≤ 140737488355328 := hs
    have h1 : nlT.size = 1 := rfl
    have hnx' : fmtL (l.take ((k + 1) + 1)) = fmtL (l.take ((k + 1))) ++ ((s.word ++ argT s.args) ++ nlT) := hnx
    have hsz' : (fmtL (l.take ((k + 1)))).size + (s.word.size + (argT s.args).size + nlT.size) ≤ 140737488355328 := Nat.le_trans hsz hs'
    obtain ⟨t, ht⟩ : ∃ t, t = fmtL (l.take (k + 1)) := ⟨_, rfl⟩
    rw [← ht] at hsz' hnx' 
    (conv => whnf)
    refine idx_and (by omega) (by simpa using hsk) ?_
    (conv => whnf)
    refine call_i (bd_writeOld (fmtL (l.take (k + 1))) s.word (by rw [← ht]; omega)) ?_
    (conv => whnf)
    refine loop_intro (fun i : Nat => ⟨[(3, .one (.vptr 0 0)), (8, .one (.dv (dSts l))), (9, I l.length), (10, I (((k + 1 : Nat) : Int))), (18, .one (.dv (.lst 1 (s.args.map encA)))), (19, I s.args.length), (20, I i)], [(0, bdOld 1), (1, .rows Y.uint8 1 (strRows ((t ++ s.word) ++ argT (s.args.take i))))], 2⟩) (fun i => i ≤ s.args.length) (fun i => s.args.length - i) [] 0 [(1, 3)] (Nat.zero_le _) ⟨⟨rfl, rfl, rfl, rfl, rfl, eqI (by simp), rfl, trivial⟩, ⟨rfl, rows_eq (by rw [ht]; simp [argT, catB_nil]), trivial⟩⟩ ?_
    rintro i hi
    have hii : IntKind.i64.wrap ((i : Int) + 1) = ((i + 1 : Nat) : Int) := by rw [w64] <;> omega
    have hz0 := catB_le (f := fun a => spT ++ a) (l := s.args) (k := i)
    have hz0' : (argT (s.args.take i)).size ≤ (argT s.args).size := hz0
    (conv => whnf)
    refine ask_m (fun hilt => ?_) (fun hilt => ?_)
    · have hilt : i < s.args.length := by have := of_decide_eq_true hilt; omega
      obtain ⟨a, hai⟩ : ∃ a, s.args[i]? = some a := ⟨_, List.getElem?_eq_getElem hilt⟩
      have hz := catB_le (f := fun a => spT ++ a) (l := s.args) (k := i + 1)
      have hn := catB_take (fun a => spT ++ a) hai
      rw [hn, ByteArray.size_append, ByteArray.size_append] at hz
      have hz' : (argT (s.args.take i)).size + (spT.size + a.size) ≤ (argT s.args).size := hz
      have hn' : argT (s.args.take (i + 1)) = argT (s.args.take i) ++ (spT ++ a) := hn
      have h2 : spT.size = 1 := rfl
      (conv => whnf)
      refine idx_and (by omega) (by simpa using hai) ?_
      (conv => whnf)
      refine call_i (bd_writeOld ((t ++ s.word) ++ argT (s.args.take i)) spT (by rw [ByteArray.size_append, ByteArray.size_append]; omega)) ?_
      (conv => whnf)
      refine call_i (bd_writeOld (((t ++ s.word) ++ argT (s.args.take i)) ++ spT) a (by rw [ByteArray.size_append, ByteArray.size_append, ByteArray.size_append]; omega)) ?_
      (conv => whnf)
      exact ⟨i + 1, [(1, 3)], hilt, by omega, ⟨⟨rfl, rfl, rfl, rfl, rfl, rfl, eqI hii, trivial⟩, ⟨rfl, rows_eq (by rw [hn', ← ByteArray.append_assoc, ← ByteArray.append_assoc]), trivial⟩⟩⟩
    · have hi : i = s.args.length := by have := of_decide_eq_false hilt; omega
      subst hi
      rw [List.take_length]
      (conv => whnf)
      refine call_i (bd_writeOld ((t ++ s.word) ++ argT s.args) nlT (by rw [ByteArray.size_append, ByteArray.size_append]; omega)) ?_
      (conv => whnf)
      exact ⟨(k + 1) + 1, [(1, 2)], hlt, by omega, ⟨⟨rfl, rfl, rfl, eqI hkk, trivial⟩, ⟨rfl, rows_eq (by rw [hnx', ← ByteArray.append_assoc, ← ByteArray.append_assoc]), trivial⟩⟩⟩
end Go.Proofs.Ytgnblfojpcjgmaa

/- law7: what Parse accepts is good; SyntaxRoundTrip. -/
namespace Go.Proofs.Ytgnblfojpcjgmaa
open Eng
set_option maxRecDepth 10000

/- words of a description -/
def sumW (ws : List Word) : Nat := (ws.map fun w => w.text.size + 1).sum
theorem sumW_app (a b : List Word) : sumW (a ++ b) = sumW a + sumW b := by simp [sumW]
structure Inw (s : ByteArray) (st : SS) (k : Nat) : Prop where
  good : ∀ w ∈ st.words, isW w.text
  read : 0 ≤ st.ws → sumW st.words ≤ st.ws.toNat ∧ ∀ i : Nat, st.ws ≤ i → i < k → wordB (byteAt s i) = true
  wait : st.ws < 0 → sumW st.words ≤ k
theorem fin_inw {s : ByteArray} {st : SS} {k : Nat} (hk : k ≤ s.size) (hi : Inv st k) (h : Inw s st k) : (∀ w ∈ fin s st k, isW w.text) ∧ sumW (fin s st k) ≤ k + 1 := by
  unfold fin
  split
  · rename_i h0
    obtain ⟨h1, h2⟩ := h.read h0
    have hlt := hi.ws1
    have hsz : (s.extract st.ws.toNat k).size = k - st.ws.toNat := by simp; omega
    refine ⟨fun w hw => ?_, ?_⟩
    · rcases List.mem_append.1 hw with hw | hw
      · exact h.good w hw
      · simp only [List.mem_singleton] at hw
        subst hw
        refine ⟨by simp only [hsz]; omega, fun i hi => ?_⟩
        simp only [hsz] at hi
        simp only
        rw [byteAt_sub hk (by omega)]
        exact h2 _ (by omega) (by omega)
    · rw [sumW_app]
      simp only [sumW, List.map_cons, List.map_nil, List.sum_cons, List.sum_nil, hsz]
      simp only [sumW] at h1
      omega
  · rename_i h0
    have := h.wait (by omega)
    exact ⟨h.good, by omega⟩
theorem auto_inw (s : ByteArray) : ∀ k, k ≤ s.size → (autoAt s k).bad = false → Inw s (autoAt s k) k
  | 0, _, _ => ⟨(fun w h => by cases h), (fun h => absurd h (by show ¬ (0 : Int) ≤ -1; decide)), fun _ => Nat.zero_le _⟩
  | k + 1, hk, hb => by
    have hi := auto_inv s k
    have hb0 : (autoAt s k).bad = false := by
      cases hc : (autoAt s k).bad with
      | false => rfl
      | true => rw [auto_bad hc 1] at hb; rw [hc] at hb; cases hb
    have ih := auto_inw s k (by omega) hb0
    obtain ⟨f1, f2⟩ := fin_inw (by omega) hi ih
    rw [auto_succ] at hb ⊢
    generalize autoAt s k = st at *
    unfold stepS at hb ⊢
    rw [if_neg (by rw [hb0]; simp)] at hb ⊢
    split at hb
    · rename_i h; rw [if_pos h]
      exact ⟨f1, fun h => absurd h (by show ¬ (0 : Int) ≤ -1; decide), fun _ => f2⟩
    rename_i c1; rw [if_neg c1]
    split at hb
    · rename_i h; rw [if_pos h]
      have hw := hi.com h
      exact ⟨ih.good, fun h0 => by rw [hw] at h0; exact absurd h0 (by decide), fun h0 => by have := ih.wait h0; omega⟩
    rename_i c2; rw [if_neg c2]
    split at hb
    · rename_i h; rw [if_pos h]
      exact ⟨f1, fun h => absurd h (by show ¬ (0 : Int) ≤ -1; decide), fun _ => f2⟩
    rename_i c3; rw [if_neg c3]
    split at hb
    · rename_i h; rw [if_pos h]
      exact ⟨f1, fun h => absurd h (by show ¬ (0 : Int) ≤ -1; decide), fun _ => f2⟩
    rename_i c4; rw [if_neg c4]
    split at hb
    · cases hb
    rename_i c5; rw [if_neg c5]
    have hwb : wordB (byteAt s k) = true := by simpa using c5
    split
    · rename_i h0
      have hw := ih.wait h0
      refine ⟨ih.good, fun _ => ⟨by simp only; omega, fun i h1 h2 => ?_⟩, fun h => by simp only at h; omega⟩
      simp only at h1
      have : i = k := by omega
      subst this; exact hwb
    · rename_i h0
      obtain ⟨r1, r2⟩ := ih.read (by omega)
      refine ⟨ih.good, fun _ => ⟨r1, fun i h1 h2 => ?_⟩, fun h => absurd h h0⟩
      rcases Nat.lt_or_ge i k with hlt | hge
      · exact r2 i h1 hlt
      · have : i = k := by omega
        subst this; exact hwb
theorem split_good {s : ByteArray} (h : (splitOf s).2.1 = 0) : (∀ w ∈ (splitOf s).1, isW w.text) ∧ sumW (splitOf s).1 ≤ s.size + 1 := by
  unfold splitOf at h ⊢
  split
  · rename_i c; rw [if_pos c] at h; exact absurd h (by show ¬ (601 : Int) = 0; decide)
  · rename_i c; rw [if_neg c] at h
    split
    · rename_i c2; rw [if_pos c2] at h; exact absurd h (by show ¬ (601 : Int) = 0; decide)
    · rename_i c2
      exact fin_inw (Nat.le_refl _) (auto_inv s _) (auto_inw s _ (Nat.le_refl _) (by simpa using c2))
/- statements of words -/
theorem argT_snoc (xs : List ByteArray) (x : ByteArray) : (argT (xs ++ [x])).size = (argT xs).size + 1 + x.size := by
  have h := catB_take (fun a => spT ++ a) (l := xs ++ [x]) (k := xs.length) (x := x) (by rw [List.getElem?_append_right (Nat.le_refl _), Nat.sub_self]; rfl)
  have e1 : (xs ++ [x]).take (xs.length + 1) = xs ++ [x] := by rw [List.take_of_length_le]; simp
  have e2 : (xs ++ [x]).take xs.length = xs := by simp
  rw [e1, e2] at h
  rw [argT, h, ByteArray.size_append, ByteArray.size_append]
  show _ + (1 + x.size) = (catB _ xs).size + 1 + x.size
  omega
theorem fmtL_snoc (l : List Stmt) (s : Stmt) : (fmtL (l ++ [s])).size = (fmtL l).size + (stT s).size := by
  have h := catB_take stT (l := l ++ [s]) (k := l.length) (x := s) (by rw [List.getElem?_append_right (Nat.le_refl _), Nat.sub_self]; rfl)
  have e1 : (l ++ [s]).take (l.length + 1) = l ++ [s] := by rw [List.take_of_length_le]; simp
  have e2 : (l ++ [s]).take l.length = l := by simp
  rw [e1, e2] at h
  rw [fmtL, h, ByteArray.size_append]; rfl
theorem stT_size (s : Stmt) : (stT s).size = s.word.size + (argT s.args).size + 1 := by
  rw [stT, ByteArray.size_append, ByteArray.size_append]; rfl
def optSz : Option Stmt → Nat
  | none => 0
  | some s => (stT s).size
def wordsOk (s : Stmt) : Prop := isW s.word ∧ ∀ a ∈ s.args, isW a
structure Ing (acc : List Stmt × Option Stmt) (n : Nat) : Prop where
  size : (fmtL acc.1).size + optSz acc.2 = n
  done : ∀ s ∈ acc.1, wordsOk s
  last : ∀ s, acc.2 = some s → wordsOk s
theorem gstep_ing {acc : List Stmt × Option Stmt} {n : Nat} {w : Word} (h : Ing acc n) (hw : isW w.text) : Ing (gstep acc w) (n + (w.text.size + 1)) := by
  obtain ⟨rs, o⟩ := acc
  obtain ⟨h1, h2, h3⟩ := h
  have h0 : (argT []).size = 0 := rfl
  cases o with
  | none =>
    simp only [gstep]
    refine ⟨?_, h2, fun s hs => ?_⟩
    · simp only [optSz, stT_size, h0] at h1 ⊢; omega
    · simp only [Option.some.injEq] at hs; subst hs
      exact ⟨hw, fun a ha => by cases ha⟩
  | some t =>
    have ht := h3 t rfl
    simp only [gstep]
    split
    · refine ⟨?_, h2, fun s hs => ?_⟩
      · simp only [optSz, stT_size, argT_snoc] at h1 ⊢; omega
      · simp only [Option.some.injEq] at hs; subst hs
        refine ⟨ht.1, fun a ha => ?_⟩
        rcases List.mem_append.1 ha with ha | ha
        · exact ht.2 a ha
        · simp only [List.mem_singleton] at ha; subst ha; exact hw
    · refine ⟨?_, fun s hs => ?_, fun s hs => ?_⟩
      · simp only [optSz, fmtL_snoc, stT_size, h0] at h1 ⊢; omega
      · rcases List.mem_append.1 hs with hs | hs
        · exact h2 s hs
        · simp only [List.mem_singleton] at hs; subst hs; exact ht
      · simp only [Option.some.injEq] at hs; subst hs
        exact ⟨hw, fun a ha => by cases ha⟩
theorem foldl_ing : ∀ (ws : List Word) {acc : List Stmt × Option Stmt} {n : Nat}, Ing acc n → (∀ w ∈ ws, isW w.text) → Ing (ws.foldl gstep acc) (n + sumW ws)
  | [], acc, n, h, _ => h
  | w :: ws, acc, n, h, hw => by
    have := foldl_ing ws (gstep_ing h (hw w (by simp))) fun x hx => hw x (by simp [hx])
    rw [List.foldl_cons]
    have e : n + sumW (w :: ws) = n + (w.text.size + 1) + sumW ws := by simp [sumW]; omega
    rw [e]; exact this
theorem group_good {ws : List Word} (h : ∀ w ∈ ws, isW w.text) : (fmtL (groupOf ws)).size = sumW ws ∧ ∀ s ∈ groupOf ws, wordsOk s := by
  have := foldl_ing ws (acc := ([], none)) (n := 0) ⟨rfl, (fun s h => by cases h), fun s h => by cases h⟩ h
  rw [← gAll, Nat.zero_add] at this
  obtain ⟨h1, h2, h3⟩ := this
  rw [groupOf]
  cases ho : (gAll ws).2 with
  | none =>
    rw [ho] at h1
    refine ⟨by simpa [optSz] using h1, fun s hs => h2 s (by simpa using hs)⟩
  | some t =>
    rw [ho] at h1
    refine ⟨by rw [Option.toList_some, fmtL_snoc]; exact h1, fun s hs => ?_⟩
    rcases List.mem_append.1 hs with hs | hs
    · exact h2 s hs
    · simp at hs; subst hs; exact h3 _ ho
theorem check_none : ∀ {l : List Stmt} {i : Nat}, firstErr i l = none → (l ≠ [] → i + l.length ≤ 256) ∧ ∀ s ∈ l, argsB s.word s.args.length = true
  | [], _, _ => ⟨fun h => absurd rfl h, fun s h => by cases h⟩
  | s :: l, i, h => by
    rw [firstErr] at h
    split at h
    · rename_i hc
      obtain ⟨h1, h2⟩ := check_none h
      have hi : i < 256 ∧ argsB s.word s.args.length = true := by
        unfold checkOf at hc
        split at hc
        · exact absurd hc (by decide)
        · refine ⟨by omega, ?_⟩
          unfold argsB
          cases hw : countsOf s.word with
          | none => rw [hw] at hc; exact absurd hc (by show ¬ (701 : Int) = 0; decide)
          | some c =>
            rw [hw] at hc
            simp only at hc ⊢
            split at hc
            · rename_i h; exact h
            · exact absurd hc (by decide)
      refine ⟨fun _ => ?_, fun t ht => ?_⟩
      · rw [List.length_cons]
        cases l with
        | nil => simp; omega
        | cons t l => have := h1 (by simp); simp at this ⊢; omega
      · rcases List.mem_cons.1 ht with rfl | ht
        · exact hi.2
        · exact h2 t ht
    · cases h
theorem args_few {w : ByteArray} {n : Nat} (h : argsB w n = true) : n ≤ 26 := by
  unfold argsB at h
  cases hc : countsOf w with
  | none => rw [hc] at h; cases h
  | some c =>
    rw [hc] at h
    simp only [allowB, Bool.and_eq_true, decide_eq_true_eq] at h
    have hm : c.most ≤ 26 := by
      unfold countsOf at hc
      repeat' split at hc
      all_goals first
        | (injection hc with hc; subst hc; decide)
        | cases hc
    omega
theorem parse_good {s : ByteArray} (h : (parseOf s).2.1 = 0) : (parseOf s).1.length ≤ 256 ∧ (∀ t ∈ (parseOf s).1, goodS t) ∧ (fmtL (parseOf s).1).size ≤ s.size + 1 := by
  unfold parseOf at h ⊢
  split
  · exact ⟨Nat.zero_le _, (fun t h => by cases h), Nat.zero_le _⟩
  · rename_i hs
    rw [if_neg hs] at h
    have hs : (splitOf s).2.1 = 0 := by simpa using hs
    obtain ⟨g1, g2⟩ := split_good hs
    obtain ⟨g3, g4⟩ := group_good g1
    cases he : firstErr 0 (groupOf (splitOf s).1) with
    | some e => exact ⟨Nat.zero_le _, (fun t h => by cases h), Nat.zero_le _⟩
    | none =>
      obtain ⟨c1, c2⟩ := check_none he
      simp only
      refine ⟨?_, fun t ht => ⟨(g4 t ht).1, (g4 t ht).2, c2 t ht⟩, by rw [g3]; exact g2⟩
      by_cases hn : groupOf (splitOf s).1 = []
      · rw [hn]; decide
      · have := c1 hn; omega
/- formatted again -/
def bare (l : List Stmt) : List (ByteArray × Stmt) := l.map fun s => (ByteArray.empty, s)
theorem bare_cat : ∀ l : List Stmt, catB pcT (bare l) = fmtL l
  | [] => rfl
  | s :: l => by
    have ih := bare_cat l
    show catB pcT ((ByteArray.empty, s) :: bare l) = fmtL (s :: l)
    rw [catB_cons, ih, fmtL, fmtL, catB_cons, pcT]
    simp
theorem bare_snd (l : List Stmt) : (bare l).map Prod.snd = l := by simp [bare, Function.comp_def]
theorem place_bare : ∀ (l : List Stmt) (ln : Int) (i : Nat) (t : Stmt), (place ln (bare l))[i]? = some t → t.line = ln + i
  | [], ln, i, t, h => by simp [bare, place] at h
  | s :: l, ln, i, t, h => by
    rw [bare, List.map_cons, place, ← bare] at h
    have e0 : dOf ByteArray.empty = 0 := by decide
    rw [e0] at h
    cases i with
    | zero => simp at h; subst h; simp
    | succ i =>
      have := place_bare l _ i t (by simpa using h)
      rw [this]; omega
attribute [local irreducible] FnOk loopW idxF retX arrF findF
set_option maxHeartbeats 1000000 in
theorem law7_RoundTrip (xs x : List Int) (hx : bytesOk xs) (hl : x.length ≤ 17592186044416) : FnOk Try.prog F.law7_SyntaxRoundTrip [Lb xs, Li x] [] 0 (Bo true) [] 0 := by
  have hts := typical_size xs
  have hpg := fun h => parse_good (s := typical xs) h
  refine fnOkG [(4, [.ask])] tab mix G.law7_SyntaxRoundTrip rfl rfl (by kernel_rfl) rfl rfl ?_
  (conv => whnf)
  refine call_i (law7_typical xs hx) ?_
  (conv => whnf)
  refine call_i (syntax_Parse (typical xs)) ?_
  (conv => whnf)
  generalize parseOf (typical xs) = P at *
  obtain ⟨a0, e, ln⟩ := P
  simp only at hpg
  refine ask_m (fun h => ?_) (fun h => ?_)
  case' refine_1 =>
    (conv => whnf)
    refine call_i (mk_Scene x (by omega)) ?_
    (conv => whnf)
    refine call_i (ref_WriteScene (mkScene x) (mkScene_small x)) ?_
    (conv => whnf)
    obtain ⟨m1, m2, m3, m4⟩ := made_good x
    generalize writeScene (mkScene x) = a at *
    have hall := catB_size (f := stT) (c := 608) a (fun s hs => (m2 s hs).2)
    have hsz : (fmtL a).size ≤ 16383 := Nat.le_trans hall (by omega)
    have hlen : a.length ≤ 256 := by omega
    have hg : ∀ s ∈ a, goodS s := fun s hs => (m2 s hs).1
    clear m1 m2 m3 m4 hall
    refine ⟨[.frz 1], ?_⟩
  case' refine_2 =>
    have h : e = 0 := by simpa using h
    obtain ⟨hlen, hg, hsz⟩ := hpg h
    generalize a0 = a at *
    have hsz : (fmtL a).size ≤ 16383 := by omega
    (conv => whnf)
    refine ⟨[], ?_⟩
  all_goals
    have hfew : ∀ s ∈ a, s.args.length ≤ 4611686018427387904 := fun s hs => by have := args_few (hg s hs).2.2; omega
    have hbg : ∀ q ∈ bare a, q.1 ∈ preTab ∧ goodS q.2 := fun q hq => by
      obtain ⟨s, hs, rfl⟩ := List.mem_map.1 hq
      exact ⟨by simp [preTab], hg s hs⟩
    have hbl : (bare a).length = a.length := by simp [bare]
    obtain ⟨hP, _⟩ := parse_pcs hbg (by omega) (by rw [bare_cat]; exact hsz)
    rw [bare_cat] at hP
    have hk := place_key (bare a) 1
    rw [bare_snd] at hk
    have hpl := place_len (bare a) 1
    have hline := place_bare a 1
    have hpf : ∀ s ∈ place 1 (bare a), s.args.length ≤ 4611686018427387904 := fun t ht => by
      have h1 : keyS false t ∈ (place 1 (bare a)).map (keyS false) := List.mem_map_of_mem ht
      rw [hk] at h1
      obtain ⟨q, hq, e⟩ := List.mem_map.1 h1
      have := hfew q hq
      simp only [keyS, Prod.mk.injEq] at e
      rw [← e.2.1]; omega
    have hsame : sameSt false a (place 1 (bare a)) = true := by rw [sameSt, hk]; exact decide_eq_true rfl
    (conv => whnf)
    refine call_i (syntax_Format a (by omega) hfew (by omega)) ?_
    (conv => whnf)
    refine call_i (syntax_Parse (fmtL a)) ?_
    (conv => whnf)
    rw [hP]
    (conv => whnf)
    generalize place 1 (bare a) = b at *
    refine call_i (mk_SameStatements a b false (by omega) (by omega) hfew hpf) ?_
    (conv => whnf)
    rw [hsame]
    (conv => whnf)
    refine loop_intro (fun k : Nat => ⟨[(7, .one (.dv (dSts b))), (9, I k)], [], 0⟩) (fun k => k ≤ b.length) (fun k => b.length - k) [] 0 [] (Nat.zero_le _) ⟨⟨rfl, rfl, trivial⟩, trivial⟩ ?_
    rintro k hk2
    have hkk : IntKind.i64.wrap ((k : Int) + 1) = ((k + 1 : Nat) : Int) := by rw [w64] <;> omega
    (conv => whnf)
    refine ask_m (fun hlt => ?_) (fun hlt => ?_)
    · have hlt : k < b.length := by simpa using hlt
      obtain ⟨t, ht⟩ : ∃ t, b[k]? = some t := ⟨_, List.getElem?_eq_getElem hlt⟩
      have hl2 := hline k t ht
      (conv => whnf)
      refine idx_and (by omega) (by simpa using ht) ?_
      (conv => whnf)
      rw [hkk]
      refine ask_mf (by rw [hl2]; simp; omega) ?_
      (conv => whnf)
      exact ⟨k + 1, [], hlt, by omega, ⟨⟨rfl, eqI hkk, trivial⟩, trivial⟩⟩
    · (conv => whnf)
      refine call_i (law7_awake) ?_
      (conv => whnf)
      (conv => whnf)
      refine ret0 ?_
      exact ret_b rfl rfl
end Go.Proofs.Ytgnblfojpcjgmaa
