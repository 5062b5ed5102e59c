import Derived.Test.YtgnblfojpcjgmaaM1
/- What the makers make is valid. No program in sight. -/
namespace Go.Proofs.Ytgnblfojpcjgmaa
open Eng
set_option maxRecDepth 10000

/-- what is asked of a joint but for its name -/
theorem inV_mk {x y z m : Int} (h1 : -m ≤ x ∧ x ≤ m) (h2 : -m ≤ y ∧ y ≤ m) (h3 : -m ≤ z ∧ z ≤ m) : inV ⟨x, y, z⟩ m = true := by
  simp [inV]; omega
theorem letter_name : ∀ k, k < 10 → nameOk (letter k) = true := by decide
theorem letter_ne : ∀ k, k < 10 → ∀ j, j < 10 → letter k = letter j → k = j := by decide
theorem kindOf_mem {n : Int} (h0 : 0 ≤ n) (h8 : n < 8) : kindOf n = 3 ∨ kindOf n = 1 ∨ kindOf n = 2 ∨ kindOf n = 4 ∨ kindOf n = 5 ∨ kindOf n = 0 := by
  obtain ⟨k, rfl⟩ : ∃ k : Nat, n = k := ⟨n.toNat, by omega⟩
  rw [kindOf, Int.toNat_natCast]
  match k, h8 with
  | 0, _ | 1, _ | 2, _ | 3, _ | 4, _ | 5, _ | 6, _ | 7, _ => decide
  | k + 8, h => omega
theorem mkJoint_body (l : List Int) (p i : Nat) : bodyOk i (mkJoint l p i) := by
  have hk := kindOf_mem (nxt_bd (l := l) (j := p + 2) (m := 8) (by omega)).1 (nxt_bd (l := l) (j := p + 2) (m := 8) (by omega)).2
  refine ⟨?_, ?_, ?_, ?_, ?_⟩
  · show 0 ≤ kindOf _ ∧ kindOf _ ≤ 6
    omega
  · show -1 ≤ jParent l p i ∧ jParent l p i < (i : Int)
    unfold jParent; split <;> omega
  · show inV (jOff l p i) _ = true
    have h1 := nxt_bd (l := l) (j := p + 4) (m := 5) (by omega)
    have h2 := nxt_bd (l := l) (j := p + 5) (m := 3) (by omega)
    unfold jOff; split
    · exact inV_mk (by omega) (by omega) (by omega)
    · rfl
  · show (jSpan l (jAt p i) (jKind l p)).1 ≤ (jSpan l (jAt p i) (jKind l p)).2.1 ∧ - reach (jKind l p) ≤ (jSpan l (jAt p i) (jKind l p)).1 ∧ (jSpan l (jAt p i) (jKind l p)).2.1 ≤ reach (jKind l p)
    generalize jAt p i = q
    have h1 := nxt_bd (l := l) (j := q) (m := 3) (by omega)
    have h2 := nxt_bd (l := l) (j := q + 1) (m := 4) (by omega)
    have h3 := nxt_bd (l := l) (j := q) (m := 5) (by omega)
    have h4 := nxt_bd (l := l) (j := q + 2) (m := 3) (by omega)
    have hk' : jKind l p = 3 ∨ jKind l p = 1 ∨ jKind l p = 2 ∨ jKind l p = 4 ∨ jKind l p = 5 ∨ jKind l p = 0 := hk
    rcases hk' with e | e | e | e | e | e <;> rw [e] <;> simp [jSpan, reach] <;> omega
  · show (from1 (1 + nxt l p 4) 1024 && from1 65536 1048576 && from1 (65536 + nxt l (p + 1) 3) 1048576 && from1 327680 1099511627776) = true
    have h1 := nxt_bd (l := l) (j := p) (m := 4) (by omega)
    have h2 := nxt_bd (l := l) (j := p + 1) (m := 3) (by omega)
    simp [from1]; omega
theorem mkJoints_at {l : List Int} {p n k : Nat} {j : Joint} (h : (mkJoints l p n)[k]? = some j) : k < n ∧ j = mkJoint l (jPos l p k) k := by
  unfold mkJoints at h
  rw [List.getElem?_map] at h
  simp only [Option.map_eq_some_iff] at h
  obtain ⟨i, hi, rfl⟩ := h
  obtain ⟨h1, h2⟩ := List.getElem?_eq_some_iff.1 hi
  simp at h1 h2
  subst h2
  exact ⟨h1, rfl⟩
theorem mkJoints_ok (l : List Int) (p n : Nat) (hn : n ≤ 10) : jointsErr (mkJoints l p n) 0 (mkJoints l p n) = 0 := by
  refine jointsErr_zero fun k j hj => ?_
  obtain ⟨h1, h2⟩ := mkJoints_at hj
  rw [Nat.zero_add]
  refine jointErr_zero ?_ ?_ ?_
  · rw [h2]; exact letter_name k (by omega)
  · have := find_at (k := 0) hj fun i' j' hi hj' e => by
      obtain ⟨h3, h4⟩ := mkJoints_at hj'
      rw [h2, h4] at e
      have := letter_ne i' (by omega) k (by omega) e
      omega
    rw [this]; simp
  · rw [h2]; exact mkJoint_body l _ k
theorem linkOk_mk {n : Nat} {k : Int} (h1 : -1 ≤ k) (h2 : k < (n : Int)) : linkOk n k = true := by simp [linkOk]; omega
theorem massOk_mk {n : Nat} {a b : Int} {v : Vec} (h1 : 0 ≤ a) (h2 : a < (n : Int)) (h3 : 1 ≤ b) (h4 : b ≤ 65536) (h5 : inV v 4194304 = true) : massOk n ⟨a, b, v⟩ = true := by simp [massOk, from1, h5]; omega
theorem mkMass_ok (l : List Int) (n q : Nat) (hn : 0 < n) : massOk n (mkMass l n q) = true := by
  have h1 := nxt_bd (l := l) (j := q) (m := n) (by omega)
  have h2 := nxt_bd (l := l) (j := q + 1) (m := 9000) (by omega)
  have h3 := nxt_bd (l := l) (j := q + 2) (m := 7) (by omega)
  have h4 := nxt_bd (l := l) (j := q + 3) (m := 5) (by omega)
  have h5 : inV ⟨(nxt l (q + 2) 7 - 3) * 32768, 0, (nxt l (q + 3) 5 - 2) * 32768⟩ 4194304 = true := inV_mk (by omega) (by omega) (by omega)
  exact massOk_mk h1.1 h1.2 (by omega) (by omega) h5
theorem robot_valid {r : Robot} (h1 : 1 ≤ r.joints.length) (h2 : r.joints.length ≤ 10) (h3 : jointsErr r.joints 0 r.joints = 0) (h4 : r.masses.length ≤ 32) (h5 : r.masses.all (massOk r.joints.length) = true) : checkRobot r = 0 := by
  unfold checkRobot
  rw [if_neg (by omega), if_neg (by rw [h3]; simp), if_neg (by rw [h5]; simp; omega)]
theorem nJ_bd (l : List Int) (p : Nat) : 1 ≤ nJ l p ∧ nJ l p ≤ 3 := by
  have := nxt_bd (l := l) (j := p) (m := 3) (by omega)
  unfold nJ; omega
theorem mkJoints_len (l : List Int) (p n : Nat) : (mkJoints l p n).length = n := by simp [mkJoints]
theorem mkRobot_ok (l : List Int) (p : Nat) : checkRobot (mkRobot l p) = 0 := by
  have hn := nJ_bd l p
  have hl : (mkRobot l p).joints.length = nJ l p := mkJoints_len l (p + 1) (nJ l p)
  have hm := nxt_bd (l := l) (j := qM l p) (m := 3) (by omega)
  refine robot_valid (by omega) (by omega) (mkJoints_ok l (p + 1) (nJ l p) (by omega)) ?_ ?_
  · simp [mkRobot, mkMasses, nM]; omega
  · rw [hl, List.all_eq_true]
    intro m hmm
    simp only [mkRobot, mkMasses, List.mem_map] at hmm
    obtain ⟨i, _, rfl⟩ := hmm
    exact mkMass_ok l (nJ l p) _ (by omega)
theorem shapesErr_zero {n : Nat} : ∀ {l : List Shape}, (∀ x ∈ l, shapeErr n x = 0) → shapesErr n l = 0
  | [], _ => rfl
  | x :: l, h => by rw [shapesErr, if_pos (h x (by simp))]; exact shapesErr_zero fun y hy => h y (by simp [hy])
theorem shapeErr_zero {n : Nat} {x : Shape} (h1 : linkOk n x.link = true) (h2 : 1 ≤ x.radius ∧ x.radius ≤ 1048576) (h3 : 1 ≤ x.points.length ∧ x.points.length ≤ 8) (h4 : x.points.all (inV · 4194304) = true) : shapeErr n x = 0 := by
  unfold shapeErr
  rw [if_neg (by rw [h1]; rintro (h | h | h | h | h) <;> first | contradiction | omega), if_neg (by rw [h4]; simp)]
theorem mkPts_len (l : List Int) (b : Vec) (p : Nat) : 1 ≤ (mkPts l b p).length ∧ (mkPts l b p).length ≤ 4 := by
  have := nxt_bd (l := l) (j := p) (m := 4) (by omega)
  simp [mkPts, ptsTo, nPts]; omega
theorem mkPts_in (l : List Int) (b : Vec) (p : Nat) (hx : -1048576 ≤ b.x ∧ b.x ≤ 1048576) (hy : -1048576 ≤ b.y ∧ b.y ≤ 1048576) (hz : -1048576 ≤ b.z ∧ b.z ≤ 1048576) : (mkPts l b p).all (inV · 4194304) = true := by
  rw [List.all_eq_true]
  intro v hv
  simp only [mkPts, ptsTo, List.mem_cons, List.mem_map] at hv
  rcases hv with rfl | ⟨i, _, rfl⟩
  · obtain ⟨x, y, z⟩ := v
    simp only at hx hy hz
    exact inV_mk (by omega) (by omega) (by omega)
  · have h1 := nxt_bd (l := l) (j := p + 1 + 3 * i) (m := 7) (by omega)
    have h2 := nxt_bd (l := l) (j := p + 1 + 3 * i + 1) (m := 5) (by omega)
    have h3 := nxt_bd (l := l) (j := p + 1 + 3 * i + 2) (m := 5) (by omega)
    exact inV_mk (by omega) (by omega) (by omega)
theorem shOf_ok {l : List Int} {q i n : Nat} (hi : i < n) {x : Shape} (h : x ∈ shOf l q i) : shapeErr n x = 0 := by
  unfold shOf at h
  split at h
  · simp only [List.mem_singleton] at h
    subst h
    have h1 := nxt_bd (l := l) (j := q + 1) (m := 3) (by omega)
    have h2 := nxt_bd (l := l) (j := q + 2) (m := 4) (by omega)
    have h3 := mkPts_len l ⟨nxt l (q + 2) 4 * 32768, 0, 0⟩ (q + 3)
    refine shapeErr_zero ?_ ⟨?_, ?_⟩ ⟨h3.1, Nat.le_trans h3.2 (by decide)⟩ (mkPts_in l _ _ ⟨?_, ?_⟩ ⟨?_, ?_⟩ ⟨?_, ?_⟩)
    · simp [linkOk]; omega
    all_goals (simp only; omega)
  · simp at h
theorem shW_ok (l : List Int) (q n : Nat) : shapeErr n (shW l q) = 0 := by
  have h0 := nxt_bd (l := l) (j := q) (m := 19) (by omega)
  have h1 := nxt_bd (l := l) (j := q + 1) (m := 19) (by omega)
  have h2 := nxt_bd (l := l) (j := q + 2) (m := 5) (by omega)
  have h3 := nxt_bd (l := l) (j := q + 3) (m := 4) (by omega)
  have h4 := mkPts_len l ⟨(nxt l q 19 - 9) * 32768, (nxt l (q + 1) 19 - 9) * 32768, (nxt l (q + 2) 5 - 2) * 32768⟩ (q + 4)
  refine shapeErr_zero ?_ ⟨?_, ?_⟩ ⟨h4.1, Nat.le_trans h4.2 (by decide)⟩ (mkPts_in l _ _ ⟨?_, ?_⟩ ⟨?_, ?_⟩ ⟨?_, ?_⟩)
  · exact linkOk_mk (k := -1) (by omega) (by omega)
  all_goals (simp only [shW]; omega)
theorem scene_valid {s : Scene} (h1 : checkRobot s.robot = 0) (h2 : s.shapes.length ≤ 24) (h3 : ∀ x ∈ s.shapes, shapeErr s.robot.joints.length x = 0) (h4 : s.skips.length ≤ 64) (h5 : (s.skips.all fun k => linkOk s.robot.joints.length k.a && linkOk s.robot.joints.length k.b) = true) : checkScene s = 0 := by
  unfold checkScene
  rw [if_neg (by rw [h1]; simp), if_neg (by omega), if_neg (by rw [shapesErr_zero h3]; simp), if_neg (by omega), if_neg (by rw [h5]; simp)]
theorem mkScene_len (l : List Int) : (mkScene l).shapes.length ≤ 6 ∧ (mkScene l).skips.length ≤ 1 ∧ (mkScene l).robot.masses.length ≤ 2 := by
  have hn := joints_len l 0
  have h1 := shLinks_len l (mkRobotAt l 0) (mkRobot l 0).joints.length
  have h2 := nxt_bd (l := l) (j := scQ1 l) (m := 3) (by omega)
  have h3 := nxt_bd (l := l) (j := qM l 0) (m := 3) (by omega)
  refine ⟨?_, ?_, ?_⟩
  · simp only [mkScene, List.length_append, shWs, List.length_map, List.length_range, scN]; omega
  · simp only [mkScene, mkSkips]; split <;> simp
  · simp [mkScene, mkRobot, mkMasses, nM]; omega
theorem mkScene_ok (l : List Int) : checkScene (mkScene l) = 0 := by
  have hn := joints_len l 0
  obtain ⟨k1, k2, _⟩ := mkScene_len l
  refine scene_valid (mkRobot_ok l 0) (by omega) (fun x hx => ?_) (by omega) ?_
  · simp only [mkScene, List.mem_append, shLinks, List.mem_flatMap, List.mem_range, shWs, List.mem_map] at hx
    rcases hx with ⟨i, hi, hx⟩ | ⟨i, _, rfl⟩
    · exact shOf_ok hi hx
    · exact shW_ok l _ _
  · rw [List.all_eq_true]
    intro k hk
    simp only [mkScene, mkSkips] at hk
    split at hk
    · simp only [List.mem_singleton] at hk
      subst hk
      have := nxt_bd (l := l) (j := scQ2 l + 1) (m := ((mkRobot l 0).joints.length : Int)) (by omega)
      rw [Bool.and_eq_true]
      exact ⟨linkOk_mk (k := -1) (by omega) (by omega), linkOk_mk (k := nxt l (scQ2 l + 1) ((mkRobot l 0).joints.length : Int)) (by omega) this.2⟩
    · simp at hk
theorem mkScene_small (l : List Int) : small (mkScene l) := by
  have hn := joints_len l 0
  obtain ⟨k1, k2, k3⟩ := mkScene_len l
  refine ⟨by show (mkRobot l 0).joints.length ≤ _; omega, by omega, by omega, by omega, fun x hx => ?_⟩
  simp only [mkScene, List.mem_append, shLinks, List.mem_flatMap, List.mem_range, shWs, List.mem_map] at hx
  rcases hx with ⟨i, hi, hx⟩ | ⟨i, _, rfl⟩
  · unfold shOf at hx
    split at hx
    · simp only [List.mem_singleton] at hx
      subst hx
      have := mkPts_len l ⟨nxt l (shPos l (mkRobotAt l 0) i + 2) 4 * 32768, 0, 0⟩ (shPos l (mkRobotAt l 0) i + 3)
      simp only; omega
    · simp at hx
  · unfold shW
    simp only
    generalize wPos l (scQ1 l + 1) i = q
    have := mkPts_len l ⟨(nxt l q 19 - 9) * 32768, (nxt l (q + 1) 19 - 9) * 32768, (nxt l (q + 2) 5 - 2) * 32768⟩ (q + 4)
    omega
end Go.Proofs.Ytgnblfojpcjgmaa

/- Formatted statements, parsed again. No program in sight. -/
namespace Go.Proofs.Ytgnblfojpcjgmaa
open Eng
set_option maxRecDepth 10000

/- texts one behind the other -/
def catB {α : Type} (f : α → ByteArray) (l : List α) : ByteArray := l.foldl (fun t x => t ++ f x) ByteArray.empty
theorem catB_go {α : Type} (f : α → ByteArray) : ∀ (l : List α) (s : ByteArray), l.foldl (fun t x => t ++ f x) s = s ++ catB f l
  | [], s => by simp [catB]
  | x :: l, s => by
    rw [catB, List.foldl_cons, List.foldl_cons, catB_go f l, catB_go f l (ByteArray.empty ++ f x), ByteArray.append_assoc]
    simp
theorem catB_cons {α : Type} (f : α → ByteArray) (x : α) (l : List α) : catB f (x :: l) = f x ++ catB f l := by
  rw [catB, List.foldl_cons, catB_go]; simp
theorem catB_nil {α : Type} (f : α → ByteArray) : catB f [] = ByteArray.empty := rfl
theorem catB_take {α : Type} (f : α → ByteArray) {l : List α} {k : Nat} {x : α} (h : l[k]? = some x) : catB f (l.take (k + 1)) = catB f (l.take k) ++ f x := by
  rw [List.take_add_one, h, catB, List.foldl_append]; rfl
theorem catB_one {α : Type} (f : α → ByteArray) (x : α) : catB f [x] = f x := by rw [catB_cons, catB_nil]; simp
theorem catB_size {α : Type} {f : α → ByteArray} {c : Nat} : ∀ (l : List α), (∀ x ∈ l, (f x).size ≤ c) → (catB f l).size ≤ l.length * c
  | [], _ => by simp [catB]
  | x :: l, h => by
    have := catB_size l fun y hy => h y (by simp [hy])
    have := h x (by simp)
    rw [catB_cons, ByteArray.size_append, List.length_cons, Nat.succ_mul]; omega
theorem catB_le {α : Type} {f : α → ByteArray} {l : List α} {k : Nat} : (catB f (l.take k)).size ≤ (catB f l).size := by
  have : l = l.take k ++ l.drop k := (List.take_append_drop k l).symm
  conv => rhs; rw [this]
  rw [catB, catB, List.foldl_append, catB_go f (l.drop k), ByteArray.size_append]; exact Nat.le_add_right _ _

/- words -/
def allW (t : ByteArray) : Prop := ∀ i, i < t.size → wordB (byteAt t i) = true
def isW (t : ByteArray) : Prop := 1 ≤ t.size ∧ allW t
instance (t : ByteArray) : Decidable (allW t) := inferInstanceAs (Decidable (∀ i, i < t.size → _))
instance (t : ByteArray) : Decidable (isW t) := inferInstanceAs (Decidable (_ ∧ _))
theorem allW_app {a b : ByteArray} (ha : allW a) (hb : allW b) : allW (a ++ b) := by
  intro i hi
  rw [ByteArray.size_append] at hi
  rw [byteAt_app]
  split
  · rename_i h; exact ha i h
  · exact hb _ (by omega)
theorem isW_app {a b : ByteArray} (ha : allW a) (hb : isW b) : isW (a ++ b) := ⟨by rw [ByteArray.size_append]; have := hb.1; omega, allW_app ha hb.2⟩
theorem isW_app2 {a b : ByteArray} (ha : isW a) (hb : allW b) : isW (a ++ b) := ⟨by rw [ByteArray.size_append]; have := ha.1; omega, allW_app ha.2 hb⟩

/- a text within a text -/
def At (u : ByteArray) (p : Nat) (t : ByteArray) : Prop := p + t.size ≤ u.size ∧ ∀ i, i < t.size → byteAt u (p + i) = byteAt t i
theorem At.left {u a b : ByteArray} {p : Nat} (h : At u p (a ++ b)) : At u p a := by
  obtain ⟨h1, h2⟩ := h
  rw [ByteArray.size_append] at h1 h2
  refine ⟨by omega, fun i hi => ?_⟩
  rw [h2 i (by omega), byteAt_app, if_pos hi]
theorem At.right {u a b : ByteArray} {p : Nat} (h : At u p (a ++ b)) : At u (p + a.size) b := by
  obtain ⟨h1, h2⟩ := h
  rw [ByteArray.size_append] at h1 h2
  refine ⟨by omega, fun i hi => ?_⟩
  rw [Nat.add_assoc, h2 (a.size + i) (by omega), byteAt_app, if_neg (by omega)]
  congr 1; omega
theorem at_self (a b : ByteArray) : At (a ++ b) 0 a := by
  refine ⟨by rw [ByteArray.size_append]; omega, fun i hi => ?_⟩
  rw [Nat.zero_add, byteAt_app, if_pos hi]
theorem txt_eq {s t : ByteArray} (hs : s.size = t.size) (h : ∀ i, i < s.size → byteAt s i = byteAt t i) : s = t := by
  refine ByteArray.ext_getElem hs fun i hi hi' => ?_
  have := h i hi
  rw [byteAt_get hi, byteAt_get hi'] at this
  exact UInt8.toNat_inj.1 (Int.ofNat.inj this)
theorem byteAt_sub {s : ByteArray} {a b i : Nat} (hb : b ≤ s.size) (hi : i < b - a) : byteAt (s.extract a b) i = byteAt s (a + i) := by
  have h1 : i < (s.extract a b).size := by rw [ByteArray.size_extract]; omega
  have h2 : a + i < s.size := by omega
  rw [byteAt_get h1, byteAt_get h2, ByteArray.getElem_extract]
theorem At.ext {u t : ByteArray} {p : Nat} (h : At u p t) : u.extract p (p + t.size) = t := by
  obtain ⟨h1, h2⟩ := h
  have hs : (u.extract p (p + t.size)).size = t.size := by rw [ByteArray.size_extract]; omega
  refine txt_eq hs fun i hi => ?_
  rw [byteAt_sub h1 (by omega), h2 i (by omega)]

/- the automaton between words (Cl) and within one (Op) -/
def key (w : Word) : ByteArray × Int := (w.text, w.line)
def Cl (u : ByteArray) (q : Nat) (ln : Int) (K : List (ByteArray × Int)) : Prop := ∃ bg V, autoAt u q = ⟨ln, bg, false, -1, V, false⟩ ∧ V.map key = K
def Op (u : ByteArray) (q : Nat) (ln : Int) (K : List (ByteArray × Int)) : Prop := ∃ bg V, ∃ p : Nat, autoAt u q = ⟨ln, bg, false, p, V, false⟩ ∧ V.map key ++ [(u.extract p q, ln)] = K
theorem aut_word {s : ByteArray} {p : Nat} {ln bg : Int} {W : List Word} (h : autoAt s p = ⟨ln, bg, false, -1, W, false⟩) : ∀ m, 1 ≤ m → (∀ i, i < m → wordB (byteAt s (p + i)) = true) → autoAt s (p + m) = ⟨ln, bg, false, p, W, false⟩
  | 0, h1, _ => by omega
  | m + 1, _, hw => by
    have hm := hw m (by omega)
    have hne : ¬ byteAt s (p + m) = 10 ∧ ¬ (byteAt s (p + m) = 32 ∨ byteAt s (p + m) = 9) ∧ ¬ byteAt s (p + m) = 35 := by simp [wordB] at hm; omega
    rw [← Nat.add_assoc, auto_succ]
    rcases Nat.eq_zero_or_pos m with rfl | hp
    · simp only [Nat.add_zero] at hne hm ⊢
      rw [h, stepS, if_neg (by simp), if_neg hne.1, if_neg (by simp), if_neg hne.2.1, if_neg hne.2.2, if_neg (by rw [hm]; simp), if_pos (by show (-1 : Int) < 0; decide)]
    · rw [aut_word h m hp fun i hi => hw i (by omega), stepS, if_neg (by simp), if_neg hne.1, if_neg (by simp), if_neg hne.2.1, if_neg hne.2.2, if_neg (by rw [hm]; simp), if_neg (by show ¬ (p : Int) < 0; omega)]
theorem Cl.word {u t : ByteArray} {q : Nat} {ln : Int} {K : List (ByteArray × Int)} (h : Cl u q ln K) (ha : At u q t) (hw : isW t) : Op u (q + t.size) ln (K ++ [(t, ln)]) := by
  obtain ⟨bg, V, h1, h2⟩ := h
  refine ⟨bg, V, q, aut_word h1 t.size hw.1 fun i hi => by rw [ha.2 i hi]; exact hw.2 i hi, ?_⟩
  rw [h2, ha.ext]
theorem fin_op {u : ByteArray} {ln bg : Int} {p : Nat} {V : List Word} (k : Nat) : fin u ⟨ln, bg, false, p, V, false⟩ k = V ++ [⟨u.extract p k, ln, p - bg + 1⟩] := by
  rw [fin, if_pos (by show (0 : Int) ≤ p; omega)]; simp
theorem fin_cl {u : ByteArray} {ln bg : Int} {c d : Bool} {V : List Word} (k : Nat) : fin u ⟨ln, bg, c, -1, V, d⟩ k = V := by
  rw [fin, if_neg (by show ¬ (0 : Int) ≤ -1; decide)]
theorem Op.sp {u : ByteArray} {q : Nat} {ln : Int} {K : List (ByteArray × Int)} (h : Op u q ln K) (hb : byteAt u q = 32) : Cl u (q + 1) ln K := by
  obtain ⟨bg, V, p, h1, h2⟩ := h
  refine ⟨bg, V ++ [⟨u.extract p q, ln, p - bg + 1⟩], by rw [auto_succ, h1]; simp [stepS, hb, fin_op], ?_⟩
  rw [← h2]; simp [key]
theorem Op.nl {u : ByteArray} {q : Nat} {ln : Int} {K : List (ByteArray × Int)} (h : Op u q ln K) (hb : byteAt u q = 10) : Cl u (q + 1) (ln + 1) K := by
  obtain ⟨bg, V, p, h1, h2⟩ := h
  refine ⟨(q : Int) + 1, V ++ [⟨u.extract p q, ln, p - bg + 1⟩], by rw [auto_succ, h1]; simp [stepS, hb, fin_op], ?_⟩
  rw [← h2]; simp [key]
theorem Cl.nl {u : ByteArray} {q : Nat} {ln : Int} {K : List (ByteArray × Int)} (h : Cl u q ln K) (hb : byteAt u q = 10) : Cl u (q + 1) (ln + 1) K := by
  obtain ⟨bg, V, h1, h2⟩ := h
  exact ⟨(q : Int) + 1, V, by rw [auto_succ, h1]; simp [stepS, hb, fin_cl], h2⟩
theorem Cl.sp {u : ByteArray} {q : Nat} {ln : Int} {K : List (ByteArray × Int)} (h : Cl u q ln K) (hb : byteAt u q = 32 ∨ byteAt u q = 9) : Cl u (q + 1) ln K := by
  obtain ⟨bg, V, h1, h2⟩ := h
  refine ⟨bg, V, ?_, h2⟩
  rw [auto_succ, h1, stepS, if_neg (by simp), if_neg (by omega), if_neg (by simp), if_pos hb, fin_cl]
/-- the texts ahead of the statements, and the lines that they end -/
def noteT : ByteArray := ⟨#[35, 32, 106, 111, 105, 110, 116, 10]⟩
def preTab : List ByteArray := [ByteArray.empty, noteT, ⟨#[10, 10]⟩, ⟨#[9, 32]⟩]
def dOf (p : ByteArray) : Int := if p = noteT then 1 else if p = ⟨#[10, 10]⟩ then 2 else 0
theorem Cl.pre {u p : ByteArray} {q : Nat} {ln : Int} {K : List (ByteArray × Int)} (h : Cl u q ln K) (hp : p ∈ preTab) (ha : At u q p) : Cl u (q + p.size) (ln + dOf p) K := by
  simp only [preTab, List.mem_cons, List.not_mem_nil, or_false] at hp
  rcases hp with rfl | rfl | rfl | rfl
  · have : dOf ByteArray.empty = 0 := by decide
    rw [this, Int.add_zero]; exact h
  · have : dOf noteT = 1 := by decide
    rw [this]
    obtain ⟨bg, V, h1, h2⟩ := h
    have b0 : byteAt u q = 35 := ha.2 0 (by decide)
    have b1 : byteAt u (q + 1) = 32 := ha.2 1 (by decide)
    have b2 : byteAt u (q + 1 + 1) = 106 := ha.2 2 (by decide)
    have b3 : byteAt u (q + 1 + 1 + 1) = 111 := ha.2 3 (by decide)
    have b4 : byteAt u (q + 1 + 1 + 1 + 1) = 105 := ha.2 4 (by decide)
    have b5 : byteAt u (q + 1 + 1 + 1 + 1 + 1) = 110 := ha.2 5 (by decide)
    have b6 : byteAt u (q + 1 + 1 + 1 + 1 + 1 + 1) = 116 := ha.2 6 (by decide)
    have b7 : byteAt u (q + 1 + 1 + 1 + 1 + 1 + 1 + 1) = 10 := ha.2 7 (by decide)
    refine ⟨((q + 1 + 1 + 1 + 1 + 1 + 1 + 1 : Nat) : Int) + 1, V, ?_, h2⟩
    show autoAt u (q + 1 + 1 + 1 + 1 + 1 + 1 + 1 + 1) = _
    rw [auto_succ, auto_succ, auto_succ, auto_succ, auto_succ, auto_succ, auto_succ, auto_succ, h1]; simp [stepS, b0, b1, b2, b3, b4, b5, b6, b7, fin_cl]; omega
  · have : dOf ⟨#[10, 10]⟩ = 2 := by decide
    rw [this]
    have b0 : byteAt u q = 10 := ha.2 0 (by decide)
    have b1 : byteAt u (q + 1) = 10 := ha.2 1 (by decide)
    have := (h.nl b0).nl b1
    rw [Int.add_assoc] at this
    exact this
  · have : dOf ⟨#[9, 32]⟩ = 0 := by decide
    rw [this, Int.add_zero]
    have b0 : byteAt u q = 9 := ha.2 0 (by decide)
    have b1 : byteAt u (q + 1) = 32 := ha.2 1 (by decide)
    exact (h.sp (.inr b0)).sp (.inl b1)

/- a statement's line -/
def spT : ByteArray := ⟨#[32]⟩
def nlT : ByteArray := ⟨#[10]⟩
def argT (xs : List ByteArray) : ByteArray := catB (fun a => spT ++ a) xs
def stT (s : Stmt) : ByteArray := (s.word ++ argT s.args) ++ nlT
def fmtL (l : List Stmt) : ByteArray := catB stT l
def goodS (s : Stmt) : Prop := isW s.word ∧ (∀ a ∈ s.args, isW a) ∧ argsB s.word s.args.length = true
theorem Op.args {u : ByteArray} {ln : Int} : ∀ (xs : List ByteArray) {q : Nat} {K : List (ByteArray × Int)}, Op u q ln K → At u q (argT xs) → (∀ a ∈ xs, isW a) → Op u (q + (argT xs).size) ln (K ++ xs.map fun x => (x, ln))
  | [], q, K, h, _, _ => by simpa [argT, catB_nil] using h
  | x :: xs, q, K, h, ha, hw => by
    rw [argT, catB_cons] at ha
    have a1 := ha.left
    have b0 : byteAt u q = 32 := a1.left.2 0 (by decide)
    have h1 := (h.sp b0).word a1.right (hw x (by simp))
    have h2 := Op.args xs (q := q + 1 + x.size) h1 (by
      have := ha.right
      rw [ByteArray.size_append, ← Nat.add_assoc] at this
      exact this) fun a ha => hw a (by simp [ha])
    have e : q + (argT (x :: xs)).size = q + 1 + x.size + (argT xs).size := by
      rw [argT, catB_cons, ByteArray.size_append, ByteArray.size_append]
      show q + (1 + x.size + _) = _
      rw [argT]; omega
    rw [e]
    simpa using h2
theorem Cl.st {u : ByteArray} {q : Nat} {ln : Int} {K : List (ByteArray × Int)} {s : Stmt} (h : Cl u q ln K) (ha : At u q (stT s)) (hw : isW s.word) (hx : ∀ a ∈ s.args, isW a) : Cl u (q + (stT s).size) (ln + 1) (K ++ (s.word :: s.args).map fun x => (x, ln)) := by
  rw [stT] at ha
  have h1 := Op.args s.args (h.word ha.left.left hw) ha.left.right hx
  have a2 := ha.right
  rw [ByteArray.size_append, ← Nat.add_assoc] at a2
  have b0 : byteAt u (q + s.word.size + (argT s.args).size) = 10 := a2.2 0 (by decide)
  have h2 := h1.nl b0
  have e : q + (stT s).size = q + s.word.size + (argT s.args).size + 1 := by
    rw [stT, ByteArray.size_append, ByteArray.size_append]
    show q + (s.word.size + (argT s.args).size + 1) = _
    omega
  rw [e]
  simpa using h2

/- statements with texts ahead of them -/
def pcT (q : ByteArray × Stmt) : ByteArray := q.1 ++ stT q.2
def keysP : Int → List (ByteArray × Stmt) → List (ByteArray × Int)
  | _, [] => []
  | ln, (p, s) :: l => ((s.word :: s.args).map fun x => (x, ln + dOf p)) ++ keysP (ln + dOf p + 1) l
def place : Int → List (ByteArray × Stmt) → List Stmt
  | _, [] => []
  | ln, (p, s) :: l => ⟨ln + dOf p, s.word, s.args⟩ :: place (ln + dOf p + 1) l
def lineP : Int → List (ByteArray × Stmt) → Int
  | ln, [] => ln
  | ln, (p, _) :: l => lineP (ln + dOf p + 1) l
theorem Cl.pcs {u : ByteArray} : ∀ (l : List (ByteArray × Stmt)) {q : Nat} {ln : Int} {K : List (ByteArray × Int)}, Cl u q ln K → At u q (catB pcT l) → (∀ x ∈ l, x.1 ∈ preTab ∧ goodS x.2) → Cl u (q + (catB pcT l).size) (lineP ln l) (K ++ keysP ln l)
  | [], q, ln, K, h, _, _ => by simpa [catB_nil, keysP, lineP] using h
  | (p, s) :: l, q, ln, K, h, ha, hg => by
    rw [catB_cons] at ha
    obtain ⟨g1, g2⟩ := hg (p, s) (by simp)
    have a1 := ha.left
    rw [pcT] at a1
    have h1 := (h.pre g1 a1.left).st a1.right g2.1 g2.2.1
    have h2 := Cl.pcs l (q := q + p.size + (stT s).size) h1 (by
      have := ha.right
      rw [pcT, ByteArray.size_append, ← Nat.add_assoc] at this
      exact this) fun x hx => hg x (by simp [hx])
    have e : q + (catB pcT ((p, s) :: l)).size = q + p.size + (stT s).size + (catB pcT l).size := by
      rw [catB_cons, pcT, ByteArray.size_append, ByteArray.size_append]; simp only; omega
    rw [e, keysP, ← List.append_assoc]
    exact h2

/- grouping sees texts and lines alone -/
theorem gstep_key {a b : List Word} (h : a.map key = b.map key) (acc : List Stmt × Option Stmt) : a.foldl gstep acc = b.foldl gstep acc := by
  induction a generalizing b acc with
  | nil => cases b with
    | nil => rfl
    | cons => simp at h
  | cons x a ih => cases b with
    | nil => simp at h
    | cons y b =>
      simp only [List.map_cons, List.cons.injEq] at h
      obtain ⟨h1, h2⟩ := h
      simp only [key, Prod.mk.injEq] at h1
      have e : gstep acc x = gstep acc y := by unfold gstep; rw [h1.1, h1.2]
      rw [List.foldl_cons, List.foldl_cons, e]
      exact ih h2 _
theorem group_key {a b : List Word} (h : a.map key = b.map key) : groupOf a = groupOf b := by
  rw [groupOf, groupOf, gAll, gAll, gstep_key h]
def mkW (k : ByteArray × Int) : Word := ⟨k.1, k.2, 0⟩
theorem tail_all {ln : Int} : ∀ (xs : List ByteArray) (w : ByteArray) (ys : List ByteArray), gTail ⟨ln, w, ys⟩ ((xs.map fun x => (x, ln)).map mkW) = [⟨ln, w, ys ++ xs⟩]
  | [], w, ys => by simp [gTail]
  | x :: xs, w, ys => by
    rw [List.map_cons, List.map_cons, tail_same rfl]
    have := tail_all (ln := ln) xs w (ys ++ [x])
    simp only [mkW] at this ⊢
    rw [this]; simp
theorem keysP_ge : ∀ (l : List (ByteArray × Stmt)) (ln : Int), ∀ k ∈ keysP ln l, ln ≤ k.2
  | [], ln, k, h => by cases h
  | (p, s) :: l, ln, k, h => by
    have hd : 0 ≤ dOf p := by unfold dOf; repeat' split
                              all_goals omega
    rw [keysP] at h
    rcases List.mem_append.1 h with h | h
    · obtain ⟨x, _, rfl⟩ := List.mem_map.1 h
      simp only; omega
    · have := keysP_ge l _ k h
      omega
theorem group_keys : ∀ (l : List (ByteArray × Stmt)) (ln : Int), groupOf ((keysP ln l).map mkW) = place ln l
  | [], ln => rfl
  | (p, s) :: l, ln => by
    rw [keysP, List.map_append, group_app (L := ln + dOf p + 1), group_keys l, place]
    · rw [List.map_cons, List.map_cons, group_cons]
      have := tail_all (ln := ln + dOf p) s.args s.word []
      simp only [mkW, List.nil_append] at this ⊢
      rw [this]; rfl
    · intro w hw
      obtain ⟨k, hk, rfl⟩ := List.mem_map.1 hw
      obtain ⟨x, _, rfl⟩ := List.mem_map.1 hk
      simp only [mkW]; omega
    · intro w hw
      obtain ⟨k, hk, rfl⟩ := List.mem_map.1 hw
      exact keysP_ge l _ k hk
theorem map_key {K : List (ByteArray × Int)} : (K.map mkW).map key = K := by
  rw [List.map_map]
  have : key ∘ mkW = id := by funext k; rfl
  rw [this, List.map_id]
theorem place_len : ∀ (l : List (ByteArray × Stmt)) (ln : Int), (place ln l).length = l.length
  | [], _ => rfl
  | (p, s) :: l, ln => by rw [place, List.length_cons, place_len l, List.length_cons]
theorem place_key : ∀ (l : List (ByteArray × Stmt)) (ln : Int), (place ln l).map (keyS false) = (l.map Prod.snd).map (keyS false)
  | [], _ => rfl
  | (p, s) :: l, ln => by rw [place, List.map_cons, place_key l, List.map_cons, List.map_cons]; rfl
theorem place_err : ∀ (l : List (ByteArray × Stmt)) (ln : Int) (i : Nat), (∀ x ∈ l, goodS x.2) → i + l.length ≤ 256 → firstErr i (place ln l) = none
  | [], _, _, _, _ => rfl
  | (p, s) :: l, ln, i, hg, hi => by
    rw [List.length_cons] at hi
    obtain ⟨_, _, g3⟩ := hg (p, s) (by simp)
    simp only at g3
    have hk : knownB s.word = true := by
      unfold knownB
      unfold argsB at g3
      cases hc : countsOf s.word with
      | none => rw [hc] at g3; cases g3
      | some c => rfl
    rw [place, firstErr, if_pos (by rw [checkOf_small (by omega)]; simp only; rw [hk, g3]; rfl)]
    exact place_err l _ (i + 1) (fun x hx => hg x (by simp [hx])) (by omega)
theorem cl_zero (u : ByteArray) : Cl u 0 1 [] := ⟨0, [], rfl, rfl⟩
/-- statements with texts ahead, parsed -/
theorem parse_pcs {l : List (ByteArray × Stmt)} (hg : ∀ x ∈ l, x.1 ∈ preTab ∧ goodS x.2) (hl : l.length ≤ 256) (hs : (catB pcT l).size ≤ 16383) : parseOf (catB pcT l) = (place 1 l, 0, 0) ∧ parseOf (catB pcT l ++ ⟨#[35]⟩) = (place 1 l, 0, 0) := by
  have he := place_err l 1 0 (fun x hx => (hg x hx).2) (by omega)
  have fin_ : ∀ V : List Word, V.map key = keysP 1 l → groupOf V = place 1 l := fun V hV => by
    rw [← group_keys l 1]; exact group_key (by rw [map_key]; exact hV)
  constructor
  · have h := Cl.pcs l (cl_zero (catB pcT l)) (by have := at_self (catB pcT l) ByteArray.empty; simpa using this) hg
    rw [Nat.zero_add, List.nil_append] at h
    obtain ⟨bg, V, h1, h2⟩ := h
    have e : splitOf (catB pcT l) = (V, 0, 0) := by
      rw [splitOf, if_neg (by omega), h1, if_neg (by simp), fin_cl]
    rw [parseOf, e, if_neg (by simp)]
    simp only
    rw [fin_ V h2, he]
  · have h := Cl.pcs l (cl_zero (catB pcT l ++ ⟨#[35]⟩)) (at_self (catB pcT l) _) hg
    rw [Nat.zero_add, List.nil_append] at h
    obtain ⟨bg, V, h1, h2⟩ := h
    have hsz : (catB pcT l ++ ⟨#[35]⟩).size = (catB pcT l).size + 1 := by rw [ByteArray.size_append]; rfl
    have hb : byteAt (catB pcT l ++ ⟨#[35]⟩) (catB pcT l).size = 35 := by
      rw [byteAt_app, if_neg (by omega), Nat.sub_self]; rfl
    have e : splitOf (catB pcT l ++ ⟨#[35]⟩) = (V, 0, 0) := by
      rw [splitOf, if_neg (by omega), hsz, auto_succ, h1]
      simp [stepS, hb, fin_cl]
    rw [parseOf, e, if_neg (by simp)]
    simp only
    rw [fin_ V h2, he]
end Go.Proofs.Ytgnblfojpcjgmaa

/- The words of written scenes. No program in sight. -/
namespace Go.Proofs.Ytgnblfojpcjgmaa
open Eng
set_option maxRecDepth 10000

theorem wordB_in {c : Int} (h1 : 33 ≤ c) (h2 : c ≤ 126) (h3 : c ≠ 35) : wordB c = true := by simp [wordB]; omega
theorem decB_allW (k n : Nat) : allW (decB k n) := by
  intro i hi
  rw [decB_size] at hi
  rw [decB_byte n k i hi]
  exact wordB_in (by omega) (by omega) (by omega)
theorem decT_isW {n k : Nat} (hn : n ≤ 9223372036854775807) (hk : k ≤ 20) (h1 : 1 ≤ k) : isW (decT n k) ∧ (decT n k).size ≤ 20 := by
  have := decT_size hn hk
  exact ⟨⟨by omega, decB_allW _ _⟩, this.1⟩
theorem ext_allW {t : ByteArray} {k : Nat} (h : allW t) (hk : k ≤ t.size) : allW (t.extract 0 k) := by
  intro i hi
  have hs : (t.extract 0 k).size = k := by simp; omega
  rw [ext_byte hk (by omega)]
  exact h i (by omega)
theorem fracT_allW (f : Nat) : allW (fracT f) := ext_allW (decB_allW _ _) (trimN_le _ _)
theorem fracT_size {f : Nat} (hf : f < 65536) : (fracT f).size ≤ 20 := by
  have := decT_size (n := (2 * f * 100000 + 65536) / 131072) (k := 5) (by omega) (by omega)
  rw [fracT]
  simp; omega
theorem fmtT_isW (n : Int) : isW (fmtT n) ∧ (fmtT n).size ≤ 42 := by
  have hc : (clampI n).natAbs ≤ 2147483648 := by unfold clampI; omega
  have hs : allW (if clampI n < 0 then minusT else ByteArray.empty) ∧ (if clampI n < 0 then minusT else ByteArray.empty).size ≤ 1 := by
    split <;> decide
  rw [fmtT]
  generalize (if clampI n < 0 then minusT else ByteArray.empty) = s at *
  generalize (clampI n).natAbs = a at *
  obtain ⟨d1, d2⟩ := decT_isW (n := a / 65536) (k := 1) (by omega) (by omega) (by omega)
  unfold fmtS
  split
  · exact ⟨isW_app hs.1 d1, by rw [ByteArray.size_append]; omega⟩
  · have f2 := fracT_size (f := a % 65536) (by omega)
    refine ⟨isW_app2 (isW_app2 (isW_app hs.1 d1) (by decide)) (fracT_allW _), ?_⟩
    rw [ByteArray.size_append, ByteArray.size_append, ByteArray.size_append]
    show s.size + _ + 1 + _ ≤ _
    omega
theorem name_isW {s : ByteArray} (h : nameOk s = true) : isW s ∧ s.size ≤ 16 := by
  simp only [nameOk, Bool.and_eq_true, decide_eq_true_eq] at h
  obtain ⟨⟨⟨h1, h2⟩, _⟩, h4⟩ := h
  refine ⟨⟨h1, fun i hi => ?_⟩, h2⟩
  have := List.all_eq_true.1 h4 i (List.mem_range.2 hi)
  simp [nameB, letterB, digitB] at this
  exact wordB_in (by omega) (by omega) (by omega)
theorem kindN_isW {k : Int} (h0 : 0 ≤ k) (h6 : k ≤ 6) : isW (kindN k) ∧ (kindN k).size ≤ 42 := by
  have h : ∀ i, i < 7 → isW (kindTab.getD i ByteArray.empty) ∧ (kindTab.getD i ByteArray.empty).size ≤ 42 := by decide
  exact h _ (by omega)
theorem linkN_isW {js : List Joint} {k : Int} (hn : ∀ j ∈ js, nameOk j.name = true) (h0 : -1 ≤ k) (h1 : k < js.length) : isW (linkN js k) ∧ (linkN js k).size ≤ 42 := by
  unfold linkN
  split
  · decide
  · obtain ⟨j, hj⟩ : ∃ j, js[k.toNat]? = some j := ⟨_, List.getElem?_eq_getElem (by omega)⟩
    rw [hj]
    have := name_isW (hn j (List.mem_of_getElem? hj))
    exact ⟨this.1, by simp only; omega⟩
/-- a written statement: its word, its arguments, how many -/
structure WB (m : Nat) (p : ByteArray × List ByteArray) : Prop where
  word : isW p.1
  short : p.1.size ≤ 5
  args : ∀ a ∈ p.2, isW a ∧ a.size ≤ 42
  cnt : argsB p.1 p.2.length = true
  len : p.2.length ≤ m
theorem WB.st {m : Nat} {p : ByteArray × List ByteArray} (h : WB m p) (ln : Int) : goodS ⟨ln, p.1, p.2⟩ ∧ (stT ⟨ln, p.1, p.2⟩).size ≤ 6 + m * 43 := by
  refine ⟨⟨h.word, fun a ha => (h.args a ha).1, h.cnt⟩, ?_⟩
  have h1 := catB_size (f := fun a => spT ++ a) (c := 43) p.2 fun a ha => by
    have := (h.args a ha).2
    rw [ByteArray.size_append]; show 1 + _ ≤ _; omega
  have h2 := Nat.mul_le_mul_right 43 h.len
  have h3 := h.short
  rw [stT, argT, ByteArray.size_append, ByteArray.size_append]
  show p.1.size + _ + 1 ≤ _
  simp only; omega
theorem numb_mem : ∀ {l : List (ByteArray × List ByteArray)} {n : Nat} {s : Stmt}, s ∈ numb n l → ∃ p ∈ l, ∃ ln, s = ⟨ln, p.1, p.2⟩
  | [], _, _, h => by cases h
  | p :: l, n, s, h => by
    rw [numb] at h
    rcases List.mem_cons.1 h with rfl | h
    · exact ⟨p, by simp, _, rfl⟩
    · obtain ⟨q, hq, ln, e⟩ := numb_mem h
      exact ⟨q, by simp [hq], ln, e⟩
theorem shape_cnt {k : Nat} (h1 : 1 ≤ k) (h8 : k ≤ 8) : argsB wShape (2 + 3 * k : Nat) = true := by
  have : ∀ k, k < 9 → 1 ≤ k → argsB wShape (2 + 3 * k : Nat) = true := by decide
  exact this k (by omega) h1
theorem pts_len : ∀ l : List Vec, (l.flatMap ptB).length = 3 * l.length
  | [] => rfl
  | p :: l => by rw [List.flatMap_cons, List.length_append, pts_len l, List.length_cons]; show 3 + _ = _; omega
theorem scB_good {s : Scene} (h : checkScene s = 0) {m : Nat} (hm : 9 ≤ m) (hp : ∀ x ∈ s.shapes, 2 + 3 * x.points.length ≤ m) : ∀ p ∈ scB s, WB m p := by
  obtain ⟨g0, g1, g2, g3, g4⟩ := scene_facts h
  obtain ⟨f1, f2, f3, f4⟩ := robot_facts g0
  have hn : ∀ j ∈ s.robot.joints, nameOk j.name = true := fun j hj => by
    obtain ⟨i, hi⟩ := List.getElem?_of_mem hj
    exact (f2 i j hi).1
  have one : ∀ {P : ByteArray → Prop} {a : ByteArray} {l : List ByteArray}, P a → (∀ x ∈ l, P x) → ∀ x ∈ a :: l, P x := by
    intro P a l h1 h2 x hx
    rcases List.mem_cons.1 hx with rfl | hx
    · exact h1
    · exact h2 x hx
  have dec : ∀ {n m : Int}, 1 ≤ n ∧ n ≤ m → m ≤ 9223372036854775807 → isW (decT n.toNat 1) ∧ (decT n.toNat 1).size ≤ 42 := by
    intro n m hn hm
    have := decT_isW (n := n.toNat) (k := 1) (by omega) (by omega) (by omega)
    exact ⟨this.1, by omega⟩
  intro p hp'
  rw [scB, robB] at hp'
  rcases List.mem_append.1 hp' with hp' | hp'
  · rcases List.mem_append.1 hp' with hp' | hp'
    · rcases List.mem_append.1 hp' with hp' | hp'
      · obtain ⟨j, hj, hp'⟩ := List.mem_flatMap.1 hp'
        obtain ⟨i, hi⟩ := List.getElem?_of_mem hj
        obtain ⟨n1, ⟨n2, n3⟩, ⟨n4, n5⟩, n6, n7, n8⟩ := f2 i j hi
        have hil : i < s.robot.joints.length := (List.getElem?_eq_some_iff.1 hi).1
        simp only [Bool.and_eq_true] at n8
        obtain ⟨⟨⟨c1, c2⟩, c3⟩, c4⟩ := n8
        have nm := name_isW n1
        have nm' : isW j.name ∧ j.name.size ≤ 42 := ⟨nm.1, by omega⟩
        simp only [jB, List.mem_cons, List.not_mem_nil, or_false] at hp'
        rcases hp' with rfl | rfl
        · exact ⟨by show isW wJoint; decide, by show wJoint.size ≤ 5; decide, one nm' (one (kindN_isW n2 n3) (one (linkN_isW hn n4 (by omega)) (one (fmtT_isW _) (one (fmtT_isW _) (one (fmtT_isW _) (one (fmtT_isW _) (one (fmtT_isW _) (one (dec (from1_bd c1) (by decide)) (by simp))))))))), by simp only [List.length_cons, List.length_nil]; decide, by simp only [List.length_cons, List.length_nil]; omega⟩
        · exact ⟨by show isW wLimit; decide, by show wLimit.size ≤ 5; decide, one nm' (one (dec (from1_bd c2) (by decide)) (one (dec (from1_bd c3) (by decide)) (one (dec (from1_bd c4) (by decide)) (by simp)))), by simp only [List.length_cons, List.length_nil]; decide, by simp only [List.length_cons, List.length_nil]; omega⟩
      · obtain ⟨x, hx, rfl⟩ := List.mem_map.1 hp'
        have hok := f4 x hx
        simp only [massOk, Bool.and_eq_true, decide_eq_true_eq] at hok
        exact ⟨by show isW wMass; decide, by show wMass.size ≤ 5; decide, one (linkN_isW hn (by omega) (by omega)) (one (fmtT_isW _) (one (fmtT_isW _) (one (fmtT_isW _) (one (fmtT_isW _) (by simp))))), by simp only [mB, List.length_cons, List.length_nil]; decide, by simp only [mB, List.length_cons, List.length_nil]; omega⟩
    · obtain ⟨x, hx, rfl⟩ := List.mem_map.1 hp'
      obtain ⟨q1, q2, q3, q4, q5⟩ := g2 x hx
      have q1 := link_bd q1
      have hl : (shB s.robot.joints x).2.length = 2 + 3 * x.points.length := by simp only [shB, List.length_cons, pts_len]; omega
      refine ⟨by show isW wShape; decide, by show wShape.size ≤ 5; decide, one (linkN_isW hn (by omega) (by omega)) (one (fmtT_isW _) ?_), ?_, ?_⟩
      · intro a ha
        obtain ⟨v, _, ha⟩ := List.mem_flatMap.1 ha
        exact one (P := fun a => isW a ∧ a.size ≤ 42) (fmtT_isW v.x) (one (fmtT_isW v.y) (one (fmtT_isW v.z) (by simp))) a ha
      · rw [hl]; exact shape_cnt q2 q3
      · rw [hl]; exact hp x hx
  · obtain ⟨x, hx, rfl⟩ := List.mem_map.1 hp'
    obtain ⟨q1, q2⟩ := g4 x hx
    have q1 := link_bd q1
    have q2 := link_bd q2
    exact ⟨by show isW wSkip; decide, by show wSkip.size ≤ 5; decide, one (linkN_isW hn (by omega) (by omega)) (one (linkN_isW hn (by omega) (by omega)) (by simp)), by simp only [skB, List.length_cons, List.length_nil]; decide, by simp only [skB, List.length_cons, List.length_nil]; omega⟩
theorem scB_len (s : Scene) : (scB s).length = 2 * s.robot.joints.length + s.robot.masses.length + s.shapes.length + s.skips.length := by
  rw [scB, List.length_append, List.length_append, robB_len, List.length_map, List.length_map]
theorem mkScene_pts (l : List Int) : ∀ x ∈ (mkScene l).shapes, x.points.length ≤ 4 := by
  intro x hx
  rcases List.mem_append.1 hx with hx | hx
  · obtain ⟨i, _, hx⟩ := List.mem_flatMap.1 hx
    rw [shOf] at hx
    split at hx
    · simp only [List.mem_singleton] at hx; subst hx; exact (mkPts_len _ _ _).2
    · cases hx
  · obtain ⟨i, _, rfl⟩ := List.mem_map.1 hx
    exact (mkPts_len _ _ _).2
/-- the statements of a made scene -/
theorem made_good (l : List Int) : (writeScene (mkScene l)).length ≤ 15 ∧ (∀ s ∈ writeScene (mkScene l), goodS s ∧ (stT s).size ≤ 608) ∧ (∀ s ∈ writeScene (mkScene l), s.args.length ≤ 14) ∧ 1 ≤ (writeScene (mkScene l)).length := by
  have hok := mkScene_ok l
  rw [writeScene, if_pos hok]
  have h1 := mkScene_len l
  have h2 := joints_len l 0
  have h3 : (mkScene l).robot.joints.length = (mkRobot l 0).joints.length := rfl
  have hg := scB_good hok (m := 14) (by omega) fun x hx => by have := mkScene_pts l x hx; omega
  refine ⟨by rw [numb_len, scB_len]; omega, fun s hs => ?_, fun s hs => ?_, by rw [numb_len, scB_len]; omega⟩
  · obtain ⟨p, hp, ln, rfl⟩ := numb_mem hs
    exact (hg p hp).st ln
  · obtain ⟨p, hp, ln, rfl⟩ := numb_mem hs
    exact (hg p hp).len
end Go.Proofs.Ytgnblfojpcjgmaa

/- ref.FormatStatements. -/
namespace Go.Proofs.Ytgnblfojpcjgmaa
open Eng
set_option maxRecDepth 10000
attribute [local irreducible] FnOk loopW idxF retX arrF findF

theorem eqT {a b : ByteArray} (h : a = b) : Tx a = Tx b := by rw [h]
theorem ref_FormatStatements (l : List Stmt) (hl : l.length ≤ 4611686018427387904) (ha : ∀ s ∈ l, s.args.length ≤ 4611686018427387904) (hs : (fmtL l).size ≤ 9223372036854775807) : FnOk Try.prog F.ref6_FormatStatements [.one (.dv (dSts l))] [] 0 (Tx (fmtL l)) [] 0 := by
  refine fnOk tab mix G.ref6_FormatStatements rfl rfl (by kernel_rfl) rfl rfl ?_
  (conv => whnf)
  refine loop_intro (fun k : Nat => ⟨[(0, .one (.dv (dSts l))), (3, Tx (fmtL (l.take k))), (4, I k)], [], 0⟩) (fun k => k ≤ l.length) (fun k => l.length - k) [] 0 [] (Nat.zero_le _) ⟨⟨rfl, rfl, rfl, trivial⟩, trivial⟩ ?_
  rintro k hk
  have hkk : IntKind.i64.wrap ((k : Int) + 1) = ((k + 1 : Nat) : Int) := by rw [w64] <;> omega
  (conv => whnf)
  refine ask_m (fun hlt => ?_) (fun hlt => ?_)
  · have hlt : k < l.length := by simpa using hlt
    obtain ⟨s, hsk⟩ : ∃ s, l[k]? = some s := ⟨_, List.getElem?_eq_getElem hlt⟩
    have hal := ha s (List.mem_of_getElem? hsk)
    have hsz := catB_le (f := stT) (l := l) (k := k + 1)
    have hnx := catB_take stT hsk
    rw [hnx, stT, ByteArray.size_append, ByteArray.size_append, ByteArray.size_append] at hsz
    have hs' : (catB stT l).size ≤ 9223372036854775807 := hs
    have h1 : nlT.size = 1 := rfl
    have hnx' : fmtL (l.take (k + 1)) = fmtL (l.take k) ++ ((s.word ++ argT s.args) ++ nlT) := hnx
    have hsz' : (fmtL (l.take k)).size + (s.word.size + (argT s.args).size + nlT.size) ≤ 9223372036854775807 := Nat.le_trans hsz hs'
    generalize fmtL (l.take k) = t at *
    (conv => whnf)
    refine idx_and (by omega) (by simpa using hsk) ?_
    (conv => whnf)
    refine ⟨by omega, ?_⟩
    (conv => whnf)
    refine loop_intro (fun i : Nat => ⟨[(0, .one (.dv (dSts l))), (3, Tx ((t ++ s.word) ++ argT (s.args.take i))), (4, I k), (5, I i)], [], 0⟩) (fun i => i ≤ s.args.length) (fun i => s.args.length - i) [] 0 [] (Nat.zero_le _) ⟨⟨rfl, eqT (by simp [argT, catB_nil]), rfl, rfl, trivial⟩, trivial⟩ ?_
    rintro i hi
    have hii : IntKind.i64.wrap ((i : Int) + 1) = ((i + 1 : Nat) : Int) := by rw [w64] <;> omega
    (conv => whnf)
    refine idx_and (by omega) (by simpa using hsk) ?_
    (conv => whnf)
    refine ask_m (fun hilt => ?_) (fun hilt => ?_)
    · have hilt : i < s.args.length := by simpa using hilt
      obtain ⟨a, hai⟩ : ∃ a, s.args[i]? = some a := ⟨_, List.getElem?_eq_getElem hilt⟩
      have hz := catB_le (f := fun a => spT ++ a) (l := s.args) (k := i + 1)
      have hn := catB_take (fun a => spT ++ a) hai
      rw [hn, ByteArray.size_append, ByteArray.size_append] at hz
      have hz' : (argT (s.args.take i)).size + (spT.size + a.size) ≤ (argT s.args).size := hz
      have hn' : argT (s.args.take (i + 1)) = argT (s.args.take i) ++ (spT ++ a) := hn
      (conv => whnf)
      refine idx_and (by omega) (by simpa using hsk) ?_
      (conv => whnf)
      refine idx_and (by omega) (by simpa using hai) ?_
      (conv => whnf)
      refine ⟨by show spT.size + a.size ≤ _; omega, ?_⟩
      (conv => whnf)
      refine ⟨by rw [ByteArray.size_append, ByteArray.size_append]; show _ + (spT ++ a).size ≤ _; rw [ByteArray.size_append]; omega, ?_⟩
      (conv => whnf)
      exact ⟨i + 1, [], hilt, by omega, ⟨⟨rfl, eqT (by rw [hn']; exact ByteArray.append_assoc), rfl, eqI hii, trivial⟩, trivial⟩⟩
    · have hi : i = s.args.length := by simp at hilt; omega
      subst hi
      rw [List.take_length]
      (conv => whnf)
      refine ⟨by rw [ByteArray.size_append, ByteArray.size_append]; show _ + nlT.size ≤ _; omega, ?_⟩
      (conv => whnf)
      exact ⟨k + 1, [], hlt, by omega, ⟨⟨rfl, eqT (by rw [hnx', ← ByteArray.append_assoc, ← ByteArray.append_assoc]; rfl), eqI hkk, trivial⟩, trivial⟩⟩
  · have hk : k = l.length := by simp at hlt; omega
    subst hk
    rw [List.take_length]
    (conv => whnf)
    refine ret0 ?_
    exact ret_dv rfl rfl
end Go.Proofs.Ytgnblfojpcjgmaa

/- law7: SyntaxComments. -/
namespace Go.Proofs.Ytgnblfojpcjgmaa
open Eng
set_option maxRecDepth 10000
attribute [local irreducible] FnOk loopW idxF retX arrF findF

def preF (x : Int) : ByteArray := preTab.getD (x % 4).toNat ByteArray.empty
theorem pre_at {x : Int} (h0 : 0 ≤ x) (h4 : x < 4) : preTab[x.toNat]? = some (preTab.getD x.toNat ByteArray.empty) := by
  have h : x.toNat < preTab.length := by show _ < 4; omega
  rw [List.getD_eq_getElem?_getD, List.getElem?_eq_getElem h]; rfl
theorem preF_mem (x : Int) : preF x ∈ preTab := List.mem_of_getElem? (pre_at (x := x % 4) (by omega) (by omega))
def pcs : List Int → List Stmt → List (ByteArray × Stmt)
  | _, [] => []
  | [], s :: l => (ByteArray.empty, s) :: pcs [] l
  | x :: xs, s :: l => (preF x, s) :: pcs xs l
theorem pcs_snd : ∀ (xs : List Int) (l : List Stmt), (pcs xs l).map Prod.snd = l
  | _, [] => by cases ‹List Int› <;> rfl
  | [], s :: l => by rw [pcs, List.map_cons, pcs_snd [] l]
  | x :: xs, s :: l => by rw [pcs, List.map_cons, pcs_snd xs l]
theorem pcs_len (xs : List Int) (l : List Stmt) : (pcs xs l).length = l.length := by
  have := congrArg List.length (pcs_snd xs l)
  simpa using this
theorem pcs_pre : ∀ (xs : List Int) (l : List Stmt), ∀ q ∈ pcs xs l, q.1 ∈ preTab ∧ q.2 ∈ l
  | _, [], q, h => by cases ‹List Int› <;> cases h
  | [], s :: l, q, h => by
    rw [pcs] at h
    rcases List.mem_cons.1 h with rfl | h
    · exact ⟨List.mem_cons_self, by simp⟩
    · have := pcs_pre [] l q h
      exact ⟨this.1, by simp [this.2]⟩
  | x :: xs, s :: l, q, h => by
    rw [pcs] at h
    rcases List.mem_cons.1 h with rfl | h
    · exact ⟨preF_mem x, by simp⟩
    · have := pcs_pre xs l q h
      exact ⟨this.1, by simp [this.2]⟩
theorem pcs_at : ∀ (xs : List Int) (l : List Stmt) (k : Nat) (s : Stmt), l[k]? = some s → (pcs xs l)[k]? = some (match xs[k]? with | some x => preF x | none => ByteArray.empty, s)
  | xs, [], k, s, h => by simp at h
  | [], t :: l, k, s, h => by
    cases k with
    | zero => simp at h; subst h; rfl
    | succ k => simpa [pcs] using pcs_at [] l k s (by simpa using h)
  | x :: xs, t :: l, k, s, h => by
    cases k with
    | zero => simp at h; subst h; rfl
    | succ k => simpa [pcs] using pcs_at xs l k s (by simpa using h)
theorem pre_size {p : ByteArray} (h : p ∈ preTab) : p.size ≤ 8 := by
  have : ∀ p ∈ preTab, p.size ≤ 8 := by decide
  exact this p h
theorem dv_rows {a : List (List DV)} {b : List (List DV)} (h : a = b) : SV.one (.dv (.lst 3 a)) = SV.one (.dv (.lst 3 b)) := by rw [h]
theorem law7_Comments (x l : List Int) (hx : x.length ≤ 17592186044416) (hl : bytesOk l) : FnOk Try.prog F.law7_SyntaxComments [Li x, Lb l] [] 0 (Bo true) [] 0 := by
  refine fnOk tab mix G.law7_SyntaxComments rfl rfl (by kernel_rfl) rfl rfl ?_
  (conv => whnf)
  obtain ⟨hl1, hl2⟩ := hl
  refine call_i (mk_Scene x (by omega)) ?_
  (conv => whnf)
  refine call_i (ref_WriteScene (mkScene x) (mkScene_small x)) ?_
  (conv => whnf)
  obtain ⟨m1, m2, m3, m4⟩ := made_good x
  generalize writeScene (mkScene x) = w at *
  have hgood : ∀ q ∈ pcs l w, q.1 ∈ preTab ∧ goodS q.2 := fun q hq => by
    obtain ⟨h1, h2⟩ := pcs_pre l w q hq
    exact ⟨h1, (m2 _ h2).1⟩
  have hsz : ∀ q ∈ pcs l w, (pcT q).size ≤ 616 := fun q hq => by
    obtain ⟨h1, h2⟩ := pcs_pre l w q hq
    have := pre_size h1
    have := (m2 _ h2).2
    rw [pcT, ByteArray.size_append]; omega
  have hall := catB_size (f := pcT) (c := 616) (pcs l w) hsz
  have hlen := pcs_len l w
  obtain ⟨_, hP⟩ := parse_pcs hgood (by omega) (by omega)
  have hk1 := place_key (pcs l w) 1
  rw [pcs_snd] at hk1
  have hpl := place_len (pcs l w) 1
  refine loop_intro (fun k : Nat => ⟨[(1, Lb l), (5, .one (.dv (dSts w))), (6, Tx (catB pcT ((pcs l w).take k))), (7, I k)], [], 0⟩) (fun k => k ≤ w.length) (fun k => w.length - k) [.frz 0] 0 [] (Nat.zero_le _) ⟨⟨rfl, rfl, rfl, rfl, trivial⟩, trivial⟩ ?_
  rintro k hk
  have hkk : IntKind.i64.wrap ((k : Int) + 1) = ((k + 1 : Nat) : Int) := by rw [w64] <;> omega
  (conv => whnf)
  refine ask_m (fun hlt => ?_) (fun hlt => ?_)
  · have hlt : k < w.length := by simpa using hlt
    obtain ⟨s, hsk⟩ : ∃ s, w[k]? = some s := ⟨_, List.getElem?_eq_getElem hlt⟩
    have hat := pcs_at l w k s hsk
    have hcs := catB_take pcT hat
    have hle := catB_le (f := pcT) (l := pcs l w) (k := k + 1)
    have hle0 := catB_le (f := pcT) (l := pcs l w) (k := k)
    have hms := m2 s (List.mem_of_getElem? hsk)
    have hma := m3 s (List.mem_of_getElem? hsk)
    generalize catB pcT ((pcs l w).take k) = t at *
    have e1 : (((w.map encSt).take ((k + 1 : Nat) : Int).toNat).drop (k : Int).toNat) = [s].map encSt := by
      rw [Int.toNat_natCast, Int.toNat_natCast, List.take_add_one, List.getElem?_map, hsk]
      simp only [Option.map_some, Option.toList_some, List.map_cons, List.map_nil]
      have hlk : ((w.map encSt).take k).length = k := by rw [List.length_take, List.length_map]; omega
      conv => lhs; rw [← hlk]
      rw [hlk, List.drop_left' hlk]
    have e2 : fmtL [s] = stT s := catB_one stT s
    (conv => whnf)
    refine ask_m (fun h2 => ?_) (fun h2 => ?_)
    · have h2 : k < l.length := by simpa using h2
      obtain ⟨c, hc⟩ : ∃ c, l[k]? = some c := ⟨_, List.getElem?_eq_getElem h2⟩
      obtain ⟨b0, b1⟩ := hl2 c (List.mem_of_getElem? hc)
      have ew : IntKind.i64.wrap (c % 4) = c % 4 := by rw [w64] <;> omega
      rw [hc] at hcs
      (conv => whnf)
      refine idx_and (by omega) (by simpa using hc) ?_
      (conv => whnf)
      refine ⟨by decide, ?_⟩
      (conv => whnf)
      rw [u8mod b0 (by decide), ew]
      refine ⟨⟨by omega, by show _ < (4 : Int); omega⟩, ?_⟩
      refine arr_text (tb := preTab) rfl rfl (pre_at (x := c % 4) (by omega) (by omega)) ?_
      (conv => whnf)
      rw [hkk]
      refine ⟨⟨by omega, by omega, by simp; omega⟩, ?_⟩
      (conv => whnf)
      rw [e1]
      refine call_i (ref_FormatStatements [s] (by simp) (fun t ht => by simp at ht; subst ht; omega) (by rw [e2]; omega)) ?_
      (conv => whnf)
      rw [e2]
      have := pre_size (preF_mem c)
      refine ⟨by show (preF c).size + _ ≤ _; omega, ?_⟩
      (conv => whnf)
      refine ⟨by show _ + (preF c ++ stT s).size ≤ _; rw [ByteArray.size_append]; omega, ?_⟩
      (conv => whnf)
      exact ⟨k + 1, [], hlt, by omega, ⟨⟨rfl, rfl, eqT (by rw [hcs]; rfl), eqI hkk, trivial⟩, trivial⟩⟩
    · have h2 : ¬ k < l.length := by simpa using h2
      rw [List.getElem?_eq_none (by omega)] at hcs
      (conv => whnf)
      refine ⟨⟨by decide, by decide⟩, ?_⟩
      refine arr_text (tb := preTab) rfl rfl (pre_at (x := 0) (by decide) (by decide)) ?_
      (conv => whnf)
      rw [hkk]
      refine ⟨⟨by omega, by omega, by simp; omega⟩, ?_⟩
      (conv => whnf)
      rw [e1]
      refine call_i (ref_FormatStatements [s] (by simp) (fun t ht => by simp at ht; subst ht; omega) (by rw [e2]; omega)) ?_
      (conv => whnf)
      rw [e2]
      refine ⟨by show ByteArray.empty.size + _ ≤ _; simp; omega, ?_⟩
      (conv => whnf)
      refine ⟨by show _ + (ByteArray.empty ++ stT s).size ≤ _; rw [ByteArray.size_append]; simp; omega, ?_⟩
      (conv => whnf)
      exact ⟨k + 1, [], hlt, by omega, ⟨⟨rfl, rfl, eqT (by rw [hcs]; rfl), eqI hkk, trivial⟩, trivial⟩⟩
  · have hk : k = w.length := by simp at hlt; omega
    subst hk
    rw [← hlen, List.take_length]
    (conv => whnf)
    refine ⟨by show _ + 1 ≤ _; omega, ?_⟩
    (conv => whnf)
    refine call_i (syntax_Parse (catB pcT (pcs l w) ++ ⟨#[35]⟩)) ?_
    (conv => whnf)
    rw [hP]
    (conv => whnf)
    refine call_i (law7_awake) ?_
    (conv => whnf)
    have hpa : ∀ t ∈ place 1 (pcs l w), t.args.length ≤ 4611686018427387904 := fun t ht => by
      have h1 : keyS false t ∈ (place 1 (pcs l w)).map (keyS false) := List.mem_map_of_mem ht
      rw [hk1] at h1
      obtain ⟨q, hq, e⟩ := List.mem_map.1 h1
      have := m3 q hq
      simp only [keyS, Prod.mk.injEq] at e
      rw [← e.2.1]; omega
    refine call_i (mk_SameStatements (place 1 (pcs l w)) w false (by omega) (by omega) hpa (fun t ht => by have := m3 t ht; omega)) ?_
    (conv => whnf)
    rw [sameSt, decide_eq_true hk1]
    (conv => whnf)
    refine ret0 ?_
    exact ret_b rfl rfl
end Go.Proofs.Ytgnblfojpcjgmaa
