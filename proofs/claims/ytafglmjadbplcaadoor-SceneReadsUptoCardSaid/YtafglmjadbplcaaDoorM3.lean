import Derived.Test.YtafglmjadbplcaaDoorM2
import Derived.Test.YtafglmjadbplcaaDoorRows
import Derived.Test.YtafglmjadbplcaaDoorEngG
import Derived.Lib.LaidTab
import Derived.Deep.DeepHandedRow
/- Words, and the text of a statement (as in co/Fm, where parsing is at hand). -/
namespace Go.Proofs.YtafglmjadbplcaaDoor
open Eng
set_option maxRecDepth 10000

def wordB (c : Int) : Bool := decide (33 ≤ c) && decide (c ≤ 126) && !decide (c = 35)
/- texts one behind the other -/
def catB {α : Type} (f : α → ByteArray) (l : List α) : ByteArray := l.foldl (fun t x => t ++ f x) ByteArray.empty
theorem catB_go {α : Type} (f : α → ByteArray) : ∀ (l : List α) (s : ByteArray), l.foldl (fun t x => t ++ f x) s = s ++ catB f l
  | [], s => by simp [catB]
  | x :: l, s => by
    rw [catB, List.foldl_cons, List.foldl_cons, catB_go f l, catB_go f l (ByteArray.empty ++ f x), ByteArray.append_assoc]
    simp
theorem catB_cons {α : Type} (f : α → ByteArray) (x : α) (l : List α) : catB f (x :: l) = f x ++ catB f l := by
  rw [catB, List.foldl_cons, catB_go]; simp
theorem catB_nil {α : Type} (f : α → ByteArray) : catB f [] = ByteArray.empty := rfl
theorem catB_take {α : Type} (f : α → ByteArray) {l : List α} {k : Nat} {x : α} (h : l[k]? = some x) : catB f (l.take (k + 1)) = catB f (l.take k) ++ f x := by
  rw [List.take_add_one, h, catB, List.foldl_append]; rfl
theorem catB_one {α : Type} (f : α → ByteArray) (x : α) : catB f [x] = f x := by rw [catB_cons, catB_nil]; simp
theorem catB_size {α : Type} {f : α → ByteArray} {c : Nat} : ∀ (l : List α), (∀ x ∈ l, (f x).size ≤ c) → (catB f l).size ≤ l.length * c
  | [], _ => by simp [catB]
  | x :: l, h => by
    have := catB_size l fun y hy => h y (by simp [hy])
    have := h x (by simp)
    rw [catB_cons, ByteArray.size_append, List.length_cons, Nat.succ_mul]; omega
theorem catB_le {α : Type} {f : α → ByteArray} {l : List α} {k : Nat} : (catB f (l.take k)).size ≤ (catB f l).size := by
  have : l = l.take k ++ l.drop k := (List.take_append_drop k l).symm
  conv => rhs; rw [this]
  rw [catB, catB, List.foldl_append, catB_go f (l.drop k), ByteArray.size_append]; exact Nat.le_add_right _ _

/- words -/
def allW (t : ByteArray) : Prop := ∀ i, i < t.size → wordB (byteAt t i) = true
def isW (t : ByteArray) : Prop := 1 ≤ t.size ∧ allW t
instance (t : ByteArray) : Decidable (allW t) := inferInstanceAs (Decidable (∀ i, i < t.size → _))
instance (t : ByteArray) : Decidable (isW t) := inferInstanceAs (Decidable (_ ∧ _))
theorem allW_app {a b : ByteArray} (ha : allW a) (hb : allW b) : allW (a ++ b) := by
  intro i hi
  rw [ByteArray.size_append] at hi
  rw [byteAt_app]
  split
  · rename_i h; exact ha i h
  · exact hb _ (by omega)
theorem isW_app {a b : ByteArray} (ha : allW a) (hb : isW b) : isW (a ++ b) := ⟨by rw [ByteArray.size_append]; have := hb.1; omega, allW_app ha hb.2⟩
theorem isW_app2 {a b : ByteArray} (ha : isW a) (hb : allW b) : isW (a ++ b) := ⟨by rw [ByteArray.size_append]; have := ha.1; omega, allW_app ha.2 hb⟩

theorem txt_eq {s t : ByteArray} (hs : s.size = t.size) (h : ∀ i, i < s.size → byteAt s i = byteAt t i) : s = t := by
  refine ByteArray.ext_getElem hs fun i hi hi' => ?_
  have := h i hi
  rw [byteAt_get hi, byteAt_get hi'] at this
  exact UInt8.toNat_inj.1 (Int.ofNat.inj this)
theorem byteAt_sub {s : ByteArray} {a b i : Nat} (hb : b ≤ s.size) (hi : i < b - a) : byteAt (s.extract a b) i = byteAt s (a + i) := by
  have h1 : i < (s.extract a b).size := by rw [ByteArray.size_extract]; omega
  have h2 : a + i < s.size := by omega
  rw [byteAt_get h1, byteAt_get h2, ByteArray.getElem_extract]
/- a statement's line -/
def spT : ByteArray := ⟨#[32]⟩
def nlT : ByteArray := ⟨#[10]⟩
def argT (xs : List ByteArray) : ByteArray := catB (fun a => spT ++ a) xs
def stT (s : Stmt) : ByteArray := (s.word ++ argT s.args) ++ nlT
def fmtL (l : List Stmt) : ByteArray := catB stT l
def goodS (s : Stmt) : Prop := isW s.word ∧ (∀ a ∈ s.args, isW a) ∧ argsB s.word s.args.length = true
end Go.Proofs.YtafglmjadbplcaaDoor

/- The words of written scenes. No program in sight. -/
namespace Go.Proofs.YtafglmjadbplcaaDoor
open Eng
set_option maxRecDepth 10000

theorem wordB_in {c : Int} (h1 : 33 ≤ c) (h2 : c ≤ 126) (h3 : c ≠ 35) : wordB c = true := by simp [wordB]; omega
theorem decB_allW (k n : Nat) : allW (decB k n) := by
  intro i hi
  rw [decB_size] at hi
  rw [decB_byte n k i hi]
  exact wordB_in (by omega) (by omega) (by omega)
theorem decT_isW {n k : Nat} (hn : n ≤ 9223372036854775807) (hk : k ≤ 20) (h1 : 1 ≤ k) : isW (decT n k) ∧ (decT n k).size ≤ 20 := by
  have := decT_size hn hk
  exact ⟨⟨by omega, decB_allW _ _⟩, this.1⟩
theorem ext_allW {t : ByteArray} {k : Nat} (h : allW t) (hk : k ≤ t.size) : allW (t.extract 0 k) := by
  intro i hi
  have hs : (t.extract 0 k).size = k := by simp; omega
  rw [ext_byte hk (by omega)]
  exact h i (by omega)
theorem fracT_allW (f : Nat) : allW (fracT f) := ext_allW (decB_allW _ _) (trimN_le _ _)
theorem fracT_size {f : Nat} (hf : f < 65536) : (fracT f).size ≤ 20 := by
  have := decT_size (n := (2 * f * 100000 + 65536) / 131072) (k := 5) (by omega) (by omega)
  rw [fracT]
  simp; omega
theorem fmtT_isW (n : Int) : isW (fmtT n) ∧ (fmtT n).size ≤ 42 := by
  have hc : (clampI n).natAbs ≤ 2147483648 := by unfold clampI; omega
  have hs : allW (if clampI n < 0 then minusT else ByteArray.empty) ∧ (if clampI n < 0 then minusT else ByteArray.empty).size ≤ 1 := by
    split <;> decide
  rw [fmtT]
  generalize (if clampI n < 0 then minusT else ByteArray.empty) = s at *
  generalize (clampI n).natAbs = a at *
  obtain ⟨d1, d2⟩ := decT_isW (n := a / 65536) (k := 1) (by omega) (by omega) (by omega)
  unfold fmtS
  split
  · exact ⟨isW_app hs.1 d1, by rw [ByteArray.size_append]; omega⟩
  · have f2 := fracT_size (f := a % 65536) (by omega)
    refine ⟨isW_app2 (isW_app2 (isW_app hs.1 d1) (by decide)) (fracT_allW _), ?_⟩
    rw [ByteArray.size_append, ByteArray.size_append, ByteArray.size_append]
    show s.size + _ + 1 + _ ≤ _
    omega
theorem name_isW {s : ByteArray} (h : nameOk s = true) : isW s ∧ s.size ≤ 16 := by
  simp only [nameOk, Bool.and_eq_true, decide_eq_true_eq] at h
  obtain ⟨⟨⟨h1, h2⟩, _⟩, h4⟩ := h
  refine ⟨⟨h1, fun i hi => ?_⟩, h2⟩
  have := List.all_eq_true.1 h4 i (List.mem_range.2 hi)
  simp [nameB, letterB, digitB] at this
  exact wordB_in (by omega) (by omega) (by omega)
theorem kindN_isW {k : Int} (h0 : 0 ≤ k) (h6 : k ≤ 6) : isW (kindN k) ∧ (kindN k).size ≤ 42 := by
  have h : ∀ i, i < 7 → isW (kindTab.getD i ByteArray.empty) ∧ (kindTab.getD i ByteArray.empty).size ≤ 42 := by decide
  exact h _ (by omega)
theorem linkN_isW {js : List Joint} {k : Int} (hn : ∀ j ∈ js, nameOk j.name = true) (h0 : -1 ≤ k) (h1 : k < js.length) : isW (linkN js k) ∧ (linkN js k).size ≤ 42 := by
  unfold linkN
  split
  · decide
  · obtain ⟨j, hj⟩ : ∃ j, js[k.toNat]? = some j := ⟨_, List.getElem?_eq_getElem (by omega)⟩
    rw [hj]
    have := name_isW (hn j (List.mem_of_getElem? hj))
    exact ⟨this.1, by simp only; omega⟩
/-- a written statement: its word, its arguments, how many -/
structure WB (m : Nat) (p : ByteArray × List ByteArray) : Prop where
  word : isW p.1
  short : p.1.size ≤ 5
  args : ∀ a ∈ p.2, isW a ∧ a.size ≤ 42
  cnt : argsB p.1 p.2.length = true
  len : p.2.length ≤ m
theorem WB.st {m : Nat} {p : ByteArray × List ByteArray} (h : WB m p) (ln : Int) : goodS ⟨ln, p.1, p.2⟩ ∧ (stT ⟨ln, p.1, p.2⟩).size ≤ 6 + m * 43 := by
  refine ⟨⟨h.word, fun a ha => (h.args a ha).1, h.cnt⟩, ?_⟩
  have h1 := catB_size (f := fun a => spT ++ a) (c := 43) p.2 fun a ha => by
    have := (h.args a ha).2
    rw [ByteArray.size_append]; show 1 + _ ≤ _; omega
  have h2 := Nat.mul_le_mul_right 43 h.len
  have h3 := h.short
  rw [stT, argT, ByteArray.size_append, ByteArray.size_append]
  show p.1.size + _ + 1 ≤ _
  simp only; omega
theorem numb_mem : ∀ {l : List (ByteArray × List ByteArray)} {n : Nat} {s : Stmt}, s ∈ numb n l → ∃ p ∈ l, ∃ ln, s = ⟨ln, p.1, p.2⟩
  | [], _, _, h => by cases h
  | p :: l, n, s, h => by
    rw [numb] at h
    rcases List.mem_cons.1 h with rfl | h
    · exact ⟨p, by simp, _, rfl⟩
    · obtain ⟨q, hq, ln, e⟩ := numb_mem h
      exact ⟨q, by simp [hq], ln, e⟩
theorem shape_cnt {k : Nat} (h1 : 1 ≤ k) (h8 : k ≤ 8) : argsB wShape (2 + 3 * k : Nat) = true := by
  have : ∀ k, k < 9 → 1 ≤ k → argsB wShape (2 + 3 * k : Nat) = true := by decide
  exact this k (by omega) h1
theorem pts_len : ∀ l : List Vec, (l.flatMap ptB).length = 3 * l.length
  | [] => rfl
  | p :: l => by rw [List.flatMap_cons, List.length_append, pts_len l, List.length_cons]; show 3 + _ = _; omega
theorem scB_good {s : Scene} (h : checkScene s = 0) {m : Nat} (hm : 9 ≤ m) (hp : ∀ x ∈ s.shapes, 2 + 3 * x.points.length ≤ m) : ∀ p ∈ scB s, WB m p := by
  obtain ⟨g0, g1, g2, g3, g4⟩ := scene_facts h
  obtain ⟨f1, f2, f3, f4⟩ := robot_facts g0
  have hn : ∀ j ∈ s.robot.joints, nameOk j.name = true := fun j hj => by
    obtain ⟨i, hi⟩ := List.getElem?_of_mem hj
    exact (f2 i j hi).1
  have one : ∀ {P : ByteArray → Prop} {a : ByteArray} {l : List ByteArray}, P a → (∀ x ∈ l, P x) → ∀ x ∈ a :: l, P x := by
    intro P a l h1 h2 x hx
    rcases List.mem_cons.1 hx with rfl | hx
    · exact h1
    · exact h2 x hx
  have dec : ∀ {n m : Int}, 1 ≤ n ∧ n ≤ m → m ≤ 9223372036854775807 → isW (decT n.toNat 1) ∧ (decT n.toNat 1).size ≤ 42 := by
    intro n m hn hm
    have := decT_isW (n := n.toNat) (k := 1) (by omega) (by omega) (by omega)
    exact ⟨this.1, by omega⟩
  intro p hp'
  rw [scB, robB] at hp'
  rcases List.mem_append.1 hp' with hp' | hp'
  · rcases List.mem_append.1 hp' with hp' | hp'
    · rcases List.mem_append.1 hp' with hp' | hp'
      · obtain ⟨j, hj, hp'⟩ := List.mem_flatMap.1 hp'
        obtain ⟨i, hi⟩ := List.getElem?_of_mem hj
        obtain ⟨n1, ⟨n2, n3⟩, ⟨n4, n5⟩, n6, n7, n8⟩ := f2 i j hi
        have hil : i < s.robot.joints.length := (List.getElem?_eq_some_iff.1 hi).1
        simp only [Bool.and_eq_true] at n8
        obtain ⟨⟨⟨c1, c2⟩, c3⟩, c4⟩ := n8
        have nm := name_isW n1
        have nm' : isW j.name ∧ j.name.size ≤ 42 := ⟨nm.1, by omega⟩
        simp only [jB, List.mem_cons, List.not_mem_nil, or_false] at hp'
        rcases hp' with rfl | rfl
        · exact ⟨by show isW wJoint; decide, by show wJoint.size ≤ 5; decide, one nm' (one (kindN_isW n2 n3) (one (linkN_isW hn n4 (by omega)) (one (fmtT_isW _) (one (fmtT_isW _) (one (fmtT_isW _) (one (fmtT_isW _) (one (fmtT_isW _) (one (dec (from1_bd c1) (by decide)) (by simp))))))))), by simp only [List.length_cons, List.length_nil]; decide, by simp only [List.length_cons, List.length_nil]; omega⟩
        · exact ⟨by show isW wLimit; decide, by show wLimit.size ≤ 5; decide, one nm' (one (dec (from1_bd c2) (by decide)) (one (dec (from1_bd c3) (by decide)) (one (dec (from1_bd c4) (by decide)) (by simp)))), by simp only [List.length_cons, List.length_nil]; decide, by simp only [List.length_cons, List.length_nil]; omega⟩
      · obtain ⟨x, hx, rfl⟩ := List.mem_map.1 hp'
        have hok := f4 x hx
        simp only [massOk, Bool.and_eq_true, decide_eq_true_eq] at hok
        exact ⟨by show isW wMass; decide, by show wMass.size ≤ 5; decide, one (linkN_isW hn (by omega) (by omega)) (one (fmtT_isW _) (one (fmtT_isW _) (one (fmtT_isW _) (one (fmtT_isW _) (by simp))))), by simp only [mB, List.length_cons, List.length_nil]; decide, by simp only [mB, List.length_cons, List.length_nil]; omega⟩
    · obtain ⟨x, hx, rfl⟩ := List.mem_map.1 hp'
      obtain ⟨q1, q2, q3, q4, q5⟩ := g2 x hx
      have q1 := link_bd q1
      have hl : (shB s.robot.joints x).2.length = 2 + 3 * x.points.length := by simp only [shB, List.length_cons, pts_len]; omega
      refine ⟨by show isW wShape; decide, by show wShape.size ≤ 5; decide, one (linkN_isW hn (by omega) (by omega)) (one (fmtT_isW _) ?_), ?_, ?_⟩
      · intro a ha
        obtain ⟨v, _, ha⟩ := List.mem_flatMap.1 ha
        exact one (P := fun a => isW a ∧ a.size ≤ 42) (fmtT_isW v.x) (one (fmtT_isW v.y) (one (fmtT_isW v.z) (by simp))) a ha
      · rw [hl]; exact shape_cnt q2 q3
      · rw [hl]; exact hp x hx
  · obtain ⟨x, hx, rfl⟩ := List.mem_map.1 hp'
    obtain ⟨q1, q2⟩ := g4 x hx
    have q1 := link_bd q1
    have q2 := link_bd q2
    exact ⟨by show isW wSkip; decide, by show wSkip.size ≤ 5; decide, one (linkN_isW hn (by omega) (by omega)) (one (linkN_isW hn (by omega) (by omega)) (by simp)), by simp only [skB, List.length_cons, List.length_nil]; decide, by simp only [skB, List.length_cons, List.length_nil]; omega⟩
theorem scB_len (s : Scene) : (scB s).length = 2 * s.robot.joints.length + s.robot.masses.length + s.shapes.length + s.skips.length := by
  rw [scB, List.length_append, List.length_append, robB_len, List.length_map, List.length_map]
theorem mkScene_pts (l : List Int) : ∀ x ∈ (mkScene l).shapes, x.points.length ≤ 4 := by
  intro x hx
  rcases List.mem_append.1 hx with hx | hx
  · obtain ⟨i, _, hx⟩ := List.mem_flatMap.1 hx
    rw [shOf] at hx
    split at hx
    · simp only [List.mem_singleton] at hx; subst hx; exact (mkPts_len _ _ _).2
    · cases hx
  · obtain ⟨i, _, rfl⟩ := List.mem_map.1 hx
    exact (mkPts_len _ _ _).2
/-- the statements of a made scene -/
theorem made_good (l : List Int) : (writeScene (mkScene l)).length ≤ 15 ∧ (∀ s ∈ writeScene (mkScene l), goodS s ∧ (stT s).size ≤ 608) ∧ (∀ s ∈ writeScene (mkScene l), s.args.length ≤ 14) ∧ 1 ≤ (writeScene (mkScene l)).length := by
  have hok := mkScene_ok l
  rw [writeScene, if_pos hok]
  have h1 := mkScene_len l
  have h2 := joints_len l 0
  have h3 : (mkScene l).robot.joints.length = (mkRobot l 0).joints.length := rfl
  have hg := scB_good hok (m := 14) (by omega) fun x hx => by have := mkScene_pts l x hx; omega
  refine ⟨by rw [numb_len, scB_len]; omega, fun s hs => ?_, fun s hs => ?_, by rw [numb_len, scB_len]; omega⟩
  · obtain ⟨p, hp, ln, rfl⟩ := numb_mem hs
    exact (hg p hp).st ln
  · obtain ⟨p, hp, ln, rfl⟩ := numb_mem hs
    exact (hg p hp).len
end Go.Proofs.YtafglmjadbplcaaDoor

/- The makers: pairs alike, letters, joints, robots, scenes. -/
namespace Go.Proofs.YtafglmjadbplcaaDoor
open Eng
set_option maxRecDepth 10000
attribute [local irreducible] FnOk loopW idxF retX arrF

deriving instance DecidableEq for Pair
abbrev dPas (l : List Pair) : DV := .lst 2 (l.map encPa)
theorem cmpPair : cmpB Tryd.prog 8 Y.Pair = true ∧ Tryd.prog.eqGuardType Tryd.prog.depth Y.Pair = false := ⟨by kernel_rfl, by kernel_rfl⟩
theorem mk_Same_Pair (a b : List Pair) (ha : a.length ≤ 4611686018427387904) (hb : b.length ≤ 4611686018427387904) : FnOk Tryd.prog F.mk_Same_api_Pair [.one (.dv (dPas a)), .one (.dv (dPas b))] [] 0 (Bo (decide (a = b))) [] 0 := by
  refine fnOk tab mix G.mk_Same_api_Pair rfl rfl (by kernel_rfl) rfl rfl ?_
  (conv => whnf)
  refine ask_m (fun h => ?_) (fun h => ?_)
  · (conv => whnf)
    refine ret0 ?_
    refine ret_b (Eq.symm (decide_eq_false ?_)) rfl
    rintro rfl
    simp at h
  have hl : a.length = b.length := by simp at h; omega
  (conv => whnf)
  refine loop_intro (fun k : Nat => ⟨[(0, .one (.dv (dPas a))), (1, .one (.dv (dPas b))), (5, I k)], [], 0⟩) (fun k => k ≤ a.length ∧ a.take k = b.take k) (fun k => a.length - k) [] 0 [] ⟨Nat.zero_le _, rfl⟩ ⟨⟨rfl, rfl, rfl, trivial⟩, trivial⟩ ?_
  rintro k ⟨hk, hall⟩
  (conv => whnf)
  refine ask_m (fun h => ?_) (fun h => ?_)
  · have hlt : k < a.length := by simpa using h
    obtain ⟨x, hx⟩ : ∃ j, a[k]? = some j := ⟨_, List.getElem?_eq_getElem hlt⟩
    obtain ⟨y, hy⟩ : ∃ j, b[k]? = some j := ⟨_, List.getElem?_eq_getElem (by omega)⟩
    have hkk : IntKind.i64.wrap ((k : Int) + 1) = ((k + 1 : Nat) : Int) := by rw [w64] <;> omega
    (conv => whnf)
    refine idx_and (by omega) (by simpa using hx) ?_
    (conv => whnf)
    refine idx_and (by omega) (by simpa using hy) ?_
    (conv => whnf)
    refine ⟨cmpPair, ?_⟩
    (conv => whnf)
    refine ask_m (fun h => ?_) (fun h => ?_)
    · (conv => whnf)
      refine ret0 ?_
      refine ret_b (Eq.symm (decide_eq_false (ne_at hx hy ?_))) rfl
      rintro rfl
      simp at h
    · have e : x = y := by
        cases x; cases y; simp at h; simp [h]
      subst e
      (conv => whnf)
      exact ⟨k + 1, [], ⟨hlt, take_same hall hx hy⟩, by omega, ⟨⟨rfl, rfl, eqI hkk, trivial⟩, trivial⟩⟩
  · have hk : k = a.length := by simp at h; omega
    subst hk
    rw [List.take_length, hl, List.take_length] at hall
    (conv => whnf)
    refine ret0 ?_
    exact ret_b (decide_eq_true hall).symm rfl
end Go.Proofs.YtafglmjadbplcaaDoor

/- law9: one, awake, SceneStill. -/
namespace Go.Proofs.YtafglmjadbplcaaDoor
open Eng
set_option maxRecDepth 10000
attribute [local irreducible] FnOk loopW idxF retX arrF

def oneScene : Scene := ⟨⟨[⟨letter 0, 3, -1, ⟨0, 0, 0⟩, 0, 16384, 1, 1, 1, 1⟩], []⟩, [⟨-1, 5, [⟨99, 0, 0⟩]⟩, ⟨0, 5, [⟨1, 0, 0⟩, ⟨2, 0, 0⟩]⟩], []⟩
theorem one_small : small oneScene := by
  refine ⟨by decide, by decide, by decide, by decide, fun x hx => ?_⟩
  simp [oneScene] at hx
  rcases hx with rfl | rfl <;> decide
theorem law9_one : FnOk Tryd.prog F.law9_one [] [] 0 (Sc oneScene) [] 0 := by
  refine fnOk tab mix G.law9_one rfl rfl (by kernel_rfl) rfl rfl ?_
  (conv => whnf)
  (conv => whnf)
  refine retO [.frz 1, .frz 5, .ownC 0 1 Y.Mass 5, .frz 6, .ownC 0 3 Y.Skip 2, .frz 7] ?_
  (conv => whnf)
  exact ⟨[], ⟨rfl, trivial⟩, trivial⟩
theorem one_okS9 : checkScene oneScene = 0 := by decide
theorem one_pairs : pairs oneScene = [⟨0, 1⟩] := by decide
theorem one_skip : skipped oneScene 0 (-1) = false := by decide
theorem flatPa (t : Nat) (xs : List Pair) : FlatB (.rows t 2 (xs.map encPa)) := by
  intro r hr d hd
  obtain ⟨x, _, rfl⟩ := List.mem_map.1 hr
  simp [encPa] at hd
  rcases hd with rfl | rfl <;> trivial
theorem law9_awake : FnOk Tryd.prog F.law9_awake [] [] 0 (Bo true) [] 0 := by
  refine fnOk tab mix G.law9_awake rfl rfl (by kernel_rfl) rfl rfl ?_
  (conv => whnf)
  refine call_i (law9_one) ?_
  (conv => whnf)
  refine call_i (scene_Check oneScene one_small) ?_
  (conv => whnf)
  rw [one_okS9]
  (conv => whnf)
  refine call_i (law9_one) ?_
  (conv => whnf)
  refine call_i (scene_Pairs oneScene one_small) ?_
  (conv => whnf)
  refine call_i (mk_Same_Pair (pairs oneScene) [⟨0, 1⟩] (by rw [one_pairs]; decide) (by decide)) ?_
  (conv => whnf)
  refine ⟨⟨trivial, trivial⟩, ?_⟩
  (conv => whnf)
  rw [one_pairs]
  (conv => whnf)
  refine call_i (law9_one) ?_
  (conv => whnf)
  refine call_i (scene_Skipped oneScene 0 (-1) (by decide)) ?_
  (conv => whnf)
  rw [one_skip]
  (conv => whnf)
  refine ret0 ?_
  exact ret_b rfl rfl

/- still scenes -/
def still (j : Joint) : Joint := { j with hi := j.lo }
def stillS (s : Scene) : Scene := ⟨⟨s.robot.joints.map still, []⟩, s.shapes, s.skips⟩
theorem set_upd {α : Type} {f : α → α} {xs : List α} {i : Nat} {x : α} (hx : xs[i]? = some x) : ((xs.take i).map f ++ xs.drop i).set i (f x) = (xs.take (i + 1)).map f ++ xs.drop (i + 1) := by
  have hi : i < xs.length := (List.getElem?_eq_some_iff.1 hx).1
  rw [drop_cons hx, List.take_add_one, hx, List.map_append, List.set_append_right _ _ (by simp; omega)]
  simp [Nat.min_eq_left (Nat.le_of_lt hi)]
theorem get_upd {α : Type} {f : α → α} {xs : List α} {i : Nat} {x : α} (hx : xs[i]? = some x) : ((xs.take i).map f ++ xs.drop i)[i]? = some x := by
  have hi : i < xs.length := (List.getElem?_eq_some_iff.1 hx).1
  rw [List.getElem?_append_right (by simp; omega)]
  simp [Nat.min_eq_left (Nat.le_of_lt hi), hx]
theorem find_mapS {f : Joint → Joint} (hf : ∀ j, (f j).name = j.name) : ∀ (js : List Joint) (nm : ByteArray) (k : Nat), find (js.map f) nm k = find js nm k
  | [], _, _ => rfl
  | j :: js, nm, k => by rw [List.map_cons, find, find, hf, find_mapS hf js]
theorem still_ok {s : Scene} (h : checkScene s = 0) : checkScene (stillS s) = 0 := by
  obtain ⟨g1, g2, g3, g4⟩ := scene_good h
  obtain ⟨r1, r2, r3⟩ := robot_good g1
  have hl : (stillS s).robot.joints.length = s.robot.joints.length := by simp [stillS]
  unfold checkScene at h
  split at h
  · contradiction
  split at h
  · contradiction
  split at h
  · contradiction
  rename_i h3
  split at h
  · contradiction
  split at h
  · contradiction
  rename_i h5
  refine scene_valid (robot_valid (by omega) (by omega) (jointsErr_zero fun k j hj => ?_) (by show 0 ≤ _; omega) rfl) g2 (fun x hx => ?_) g4 ?_
  · have g1' := g1
    unfold checkRobot at g1'
    split at g1'
    · contradiction
    split at g1'
    · contradiction
    rename_i hje
    simp only [ne_eq, Decidable.not_not] at hje
    have hj' : (s.robot.joints.map still)[k]? = some j := hj
    rw [List.getElem?_map] at hj'
    simp only [Option.map_eq_some_iff] at hj'
    obtain ⟨j0, hj0, rfl⟩ := hj'
    have h6 := jerr_at hje hj0
    rw [Nat.zero_add] at h6
    obtain ⟨n1, n2, b1, b2, b3, ⟨b4, b5, b6⟩, b7⟩ := jointErr_inv h6
    rw [Nat.zero_add]
    refine jointErr_zero n1 ?_ ⟨b1, b2, b3, ⟨Int.le_refl _, b5, Int.le_trans b4 b6⟩, b7⟩
    show find (s.robot.joints.map still) j0.name 0 = _
    rw [find_mapS (f := still) (fun _ => rfl)]; exact n2
  · rw [hl]; simp only [ne_eq, Decidable.not_not] at h3; exact serr_at h3 hx
  · rw [hl]; exact (Bool.eq_false_or_eq_true _).resolve_right h5
theorem still_carr {js : List Joint} (hd : downOk js) (hs : ∀ j ∈ js, j.lo = j.hi) : ∀ k, k ≤ js.length → carriers (js.take k) = List.replicate (k + 1) (-1)
  | 0, _ => rfl
  | k + 1, hk => by
    obtain ⟨j, hj⟩ : ∃ j, js[k]? = some j := ⟨_, List.getElem?_eq_getElem (by omega)⟩
    obtain ⟨d1, d2⟩ := hd k j hj
    rw [car_take hj, still_carr hd hs k (by omega), carStep, if_pos (hs j (List.mem_of_getElem? hj)), List.getD_eq_getElem?_getD, List.getElem?_replicate, if_pos (by omega)]
    rw [List.replicate_succ' (n := k + 1)]; rfl
theorem still_pairs {s : Scene} (h : checkScene s = 0) : pairs (stillS s) = [] := by
  have h' := still_ok h
  obtain ⟨g1, g2, g3, g4⟩ := scene_good h'
  obtain ⟨r1, r2, r3⟩ := robot_good g1
  have hc := still_carr r3 (fun j hj => by
    obtain ⟨j0, _, rfl⟩ := List.mem_map.1 (show j ∈ s.robot.joints.map still from hj)
    rfl) _ (Nat.le_refl _)
  rw [List.take_length] at hc
  have hcarr : ∀ x ∈ (stillS s).shapes, carr (stillS s) x.link = -1 := fun x hx => by
    obtain ⟨a, b⟩ := g3 x hx
    rw [carr, hc, List.getD_eq_getElem?_getD, List.getElem?_replicate, if_pos (by omega)]; rfl
  rw [pairs, if_pos h', pairsTo, List.flatMap_eq_nil_iff]
  intro i _
  rw [pairRow, List.map_eq_nil_iff, List.filter_eq_nil_iff]
  intro j _ hw
  unfold wantAt at hw
  rw [Bool.and_eq_true] at hw
  have hw := hw.2
  split at hw
  · rename_i x y hx hy
    rw [wanted, hcarr x (List.mem_of_getElem? hx), hcarr y (List.mem_of_getElem? hy)] at hw
    simp at hw
  · contradiction
theorem small_still {s : Scene} (h : small s) : small (stillS s) := ⟨by simpa [stillS] using h.1, Nat.zero_le _, h.2.2.1, h.2.2.2.1, h.2.2.2.2⟩
end Go.Proofs.YtafglmjadbplcaaDoor

/- The bulk of arguments, as the second form of the statements bounds it. -/
namespace Go.Proofs.YtafglmjadbplcaaDoor
open Eng

theorem upto_all {H : Type} : ∀ ds : List (DataW H), Rows.uptoBulkAll ds = (ds.map Rows.uptoBulk).sum
  | [] => by simp only [Rows.uptoBulkAll]; rfl
  | d :: ds => by simp only [Rows.uptoBulkAll, List.map_cons, List.sum_cons]; rw [upto_all ds]
theorem bulkRows {H : Type} : BulkOk (Rows.uptoBulk (H := H)) where
  str := fun b => by simp only [Rows.uptoBulk]; exact Nat.le_refl _
  lit := fun l => by cases l <;> simp only [Rows.uptoBulk] <;> omega
  nil := by simp only [Rows.uptoBulk]; exact Nat.le_refl _
  slice := fun es sp => by simp only [Rows.uptoBulk, upto_all]; omega
  agg := fun ps => by simp only [Rows.uptoBulk, upto_all]; omega
theorem small_sum {H : Type} {ds gs : List (DataW H)} (h : Rows.uptoSmall H (ds ++ gs) = true) : (ds.map Rows.uptoBulk).sum ≤ 1048576 := by
  have := of_decide_eq_true h
  rw [upto_all, List.map_append, List.sum_append] at this
  omega
end Go.Proofs.YtafglmjadbplcaaDoor

/- law9: SceneReads. -/
namespace Go.Proofs.YtafglmjadbplcaaDoor
open Eng
set_option maxRecDepth 10000
attribute [local irreducible] FnOk loopW idxF retX arrF findF

theorem cmpSE9 : cmpB Tryd.prog 8 Y.SourceError = true ∧ Tryd.prog.eqGuardType Tryd.prog.depth Y.SourceError = false := ⟨by kernel_rfl, by kernel_rfl⟩
theorem readAcc_len : ∀ (js : List Joint) (l : List Stmt) (q : Acc), (readAcc js q l).1.shapes.length ≤ q.shapes.length + l.length ∧ (readAcc js q l).1.skips.length ≤ q.skips.length + l.length
  | js, [], q => ⟨Nat.le_refl _, Nat.le_refl _⟩
  | js, s :: l, q => by
    rw [readAcc]
    split
    · obtain ⟨h1, h2⟩ := readAcc_len js l (readSc js q s).2
      obtain ⟨h3, h4⟩ := readSc_len js q s
      rw [List.length_cons]; omega
    · exact ⟨Nat.zero_le _, Nat.zero_le _⟩
theorem readAcc_pts : ∀ (js : List Joint) (l : List Stmt) (q : Acc), (∀ x ∈ q.shapes, x.points.length ≤ 26) → ∀ x ∈ (readAcc js q l).1.shapes, x.points.length ≤ 26
  | js, [], q, h => h
  | js, s :: l, q, h => by
    rw [readAcc]
    split
    · exact readAcc_pts js l _ (readSc_pts js q s h)
    · intro x hx; cases hx
theorem noScene_small : small noScene := ⟨Nat.zero_le _, Nat.zero_le _, Nat.zero_le _, Nat.zero_le _, fun x hx => by cases hx⟩
theorem readScene_small (l : List Stmt) (hl : l.length ≤ 10000000) : small (readScene l).1 := by
  obtain ⟨b1, b2⟩ := readRobot_bd l
  obtain ⟨b3, b4⟩ := readAcc_len (readRobot l).1.joints l acc0
  have b5 := readAcc_pts (readRobot l).1.joints l acc0 (fun x hx => by cases hx)
  simp only [acc0, List.length_nil, Nat.zero_add] at b3 b4
  unfold readScene
  split
  · exact noScene_small
  split
  · exact noScene_small
  split
  · exact noScene_small
  · exact ⟨by show (readRobot l).1.joints.length ≤ _; omega, by show (readRobot l).1.masses.length ≤ _; omega, by show (readAcc (readRobot l).1.joints acc0 l).1.shapes.length ≤ _; simp only [acc0]; omega, by show (readAcc (readRobot l).1.joints acc0 l).1.skips.length ≤ _; simp only [acc0]; omega, fun x hx => by have := b5 x hx; omega⟩
theorem law9_reads (l : List Stmt) (hl : l.length ≤ 10000000) (hs : ∀ s ∈ l, stOk s) : FnOk Tryd.prog F.law9_reads [.one (.dv (dSts l))] [] 0 (Bo true) [] 0 := by
  have h1 := scene_Read l hl hs
  have h2 := ref_ReadScene l hl hs
  have h3 := readScene_small l hl
  generalize readScene l = R at *
  obtain ⟨R, c, n⟩ := R
  simp only at h3
  have e : decide (R = R) = true := by simp
  refine fnOk tab mix G.law9_reads rfl rfl (by kernel_rfl) rfl rfl ?_
  (conv => whnf)
  refine call_i (h1) ?_
  (conv => whnf)
  refine call_i (h2) ?_
  (conv => whnf)
  refine call_i (mk_SameScene R R h3 h3) ?_
  (conv => whnf)
  rw [e]
  (conv => whnf)
  refine ⟨cmpSE9, ?_⟩
  (conv => whnf)
  (conv => whnf)
  refine ret0 ?_
  exact ret_b (by simp) rfl
theorem args_some9 {w : ByteArray} {n : Nat} (h : argsB w n = true) : 1 ≤ n := by
  unfold argsB at h
  cases hc : countsOf w with
  | none => rw [hc] at h; cases h
  | some c =>
    rw [hc] at h
    simp only [allowB, Bool.and_eq_true, decide_eq_true_eq] at h
    have hm : 1 ≤ c.least := by
      unfold countsOf at hc
      repeat' split at hc
      all_goals first
        | (injection hc with hc; subst hc; decide)
        | cases hc
    omega
theorem arg_sz9 {s : Stmt} {w : ByteArray} (h : w ∈ s.args) : w.size ≤ (stT s).size := by
  have : ∀ (l : List ByteArray), w ∈ l → w.size ≤ (argT l).size := fun l => by
    induction l with
    | nil => intro h; cases h
    | cons x l ih =>
      intro h
      rw [argT, catB_cons, ByteArray.size_append, ByteArray.size_append]
      rcases List.mem_cons.1 h with rfl | h
      · omega
      · have := ih h
        rw [argT] at this
        omega
  have := this s.args h
  rw [stT, ByteArray.size_append, ByteArray.size_append]
  omega
theorem arr_str9 {te : TI} {tb : List ByteArray} {i : Nat} {x : ByteArray} {k : SV → Prop} (ha : te.kind.agg = false) (hs : te.size = 1) (hc : tb[i]? = some x) (h : k (Tx x)) : arrF te (tb.map fun x => CV.dv (.str x)) i k :=
  arr_at ha hs (by rw [List.getElem?_map, hc]; rfl) h
theorem tab_at9 {α : Type} {tb : List α} (d : α) {v : Int} {n : Nat} (hn : tb.length = n) (h0 : 0 ≤ v) (h1 : v < n) : tb[v.toNat]? = some (tb.getD v.toNat d) := by
  have h : v.toNat < tb.length := by omega
  rw [List.getD_eq_getElem?_getD, List.getElem?_eq_getElem h]; rfl
def wordTab9 : List ByteArray := [⟨#[97]⟩, ⟨#[98]⟩, ⟨#[119, 111, 114, 108, 100]⟩, ⟨#[122]⟩, ⟨#[49]⟩, ⟨#[45, 49]⟩, ⟨#[48, 46, 53]⟩, ⟨#[49, 46, 50, 46, 51]⟩, ⟨#[54, 52]⟩, ⟨#[54, 52, 46, 48, 48, 48, 48, 50]⟩]
theorem reads9 (X : List Stmt) (S : List (List DV)) (hS : S = X.map encSt) (hl : X.length ≤ 10000000) (hs : ∀ s ∈ X, stOk s) : FnOk Tryd.prog F.law9_reads [.one (.dv (.lst 3 S))] [] 0 (Bo true) [] 0 := by
  subst hS; exact law9_reads X hl hs
set_option maxHeartbeats 4000000 in
theorem law9_SceneReads (l : List Stmt) (x : List Int) (a w v : Int) (hs : ∀ s ∈ l, stOk s) (hx : x.length ≤ 17592186044416) (_ _ _ : True) (hBk : bulkRs [[dSts l], [.lst 1 (x.map encI)], [.int .i64 a], [.int .i64 w], [.int .i64 v]] ≤ 1048576) : FnOk Tryd.prog F.law9_SceneReads [.one (.dv (dSts l)), Li x, I a, I w, I v] [] 0 (Bo true) [] 0 := by
  have hl : l.length ≤ 1048576 := by
    have hb : bulkRs (l.map encSt) ≤ 1048576 := by simp [bulkRs, bulkDs, bulkD] at hBk; omega
    have : ∀ l : List Stmt, l.length ≤ bulkRs (l.map encSt) := fun l => by
      induction l with
      | nil => exact Nat.le_refl _
      | cons s l ih => rw [List.map_cons, bulkRs, List.length_cons]; simp [encSt, bulkDs, bulkD]; omega
    exact Nat.le_trans (this l) hb
  clear hBk
  obtain ⟨m1, m2, m3, m4⟩ := made_good x
  refine fnOkG [(2, [.frz 0]), (8, [.ask])] tab mix G.law9_SceneReads rfl rfl (by kernel_rfl) rfl rfl ?_
  (conv => whnf)
  refine call_i (mk_Scene x (by omega)) ?_
  (conv => whnf)
  refine call_i (ref_WriteScene (mkScene x) (mkScene_small x)) ?_
  (conv => whnf)
  generalize writeScene (mkScene x) = V at *
  refine ⟨⟨by rw [List.length_map]; omega, by show _ * 48 ≤ _; rw [List.length_map]; omega⟩, ?_⟩
  (conv => whnf)
  refine call_i (mk_Round a ((V.map encSt).length : Int) (by rw [List.length_map]; omega) (by rw [List.length_map]; omega)) ?_
  (conv => whnf)
  have a1 := Int.emod_nonneg a (b := ((V.map encSt).length : Int)) (by rw [List.length_map]; omega)
  have a2 := Int.emod_lt_of_pos a (b := ((V.map encSt).length : Int)) (by rw [List.length_map]; omega)
  obtain ⟨i, hi⟩ : ∃ i : Nat, a % ((V.map encSt).length : Int) = i := ⟨_, (Int.toNat_of_nonneg a1).symm⟩
  rw [hi] at a2 ⊢
  have hiV : i < V.length := by rw [List.length_map] at a2; omega
  obtain ⟨st, hst⟩ : ∃ s, V[i]? = some s := ⟨_, List.getElem?_eq_getElem hiV⟩
  have m5 := m3 st (List.mem_of_getElem? hst)
  obtain ⟨m6, _⟩ := m2 st (List.mem_of_getElem? hst)
  have m7 := args_some9 m6.2.2
  have hsr : (V.map encSt)[i]? = some (encSt st) := by rw [List.getElem?_map, hst]; rfl
  refine ⟨⟨by omega, by omega⟩, ?_⟩
  (conv => whnf)
  rw [Int.toNat_natCast]
  refine idx_at hsr ?_
  (conv => whnf)
  refine ⟨⟨by rw [List.length_map]; omega, by show _ * 16 ≤ _; rw [List.length_map]; omega⟩, ?_⟩
  (conv => whnf)
  refine call_i (mk_Round w ((st.args.map encA).length : Int) (by rw [List.length_map]; omega) (by rw [List.length_map]; omega)) ?_
  (conv => whnf)
  have b1 := Int.emod_nonneg w (b := ((st.args.map encA).length : Int)) (by rw [List.length_map]; omega)
  have b2 := Int.emod_lt_of_pos w (b := ((st.args.map encA).length : Int)) (by rw [List.length_map]; omega)
  obtain ⟨j, hj⟩ : ∃ i : Nat, w % ((st.args.map encA).length : Int) = i := ⟨_, (Int.toNat_of_nonneg b1).symm⟩
  rw [hj] at b2 ⊢
  have hjA : j < st.args.length := by rw [List.length_map] at b2; omega
  refine call_i (mk_Round v 10 (by decide) (by decide)) ?_
  (conv => whnf)
  have c1 := Int.emod_nonneg v (b := 10) (by decide)
  have c2 := Int.emod_lt_of_pos v (b := 10) (by decide)
  generalize v % 10 = u at *
  refine ⟨⟨by omega, by show _ < (10 : Int); omega⟩, ?_⟩
  refine arr_str9 (tb := wordTab9) rfl rfl (tab_at9 ByteArray.empty (n := 10) rfl c1 c2) ?_
  (conv => whnf)
  refine ⟨⟨by omega, by omega⟩, ?_⟩
  (conv => whnf)
  rw [Int.toNat_natCast]
  have har : (st.args.map encA)[j]? = some (encA (st.args[j]'hjA)) := by rw [List.getElem?_map, List.getElem?_eq_getElem hjA]; rfl
  refine idx_at har ?_
  (conv => whnf)
  have hex : ∃ nw : ByteArray, wordTab9.getD u.toNat ByteArray.empty = nw ∧ nw.size ≤ 8 := ⟨_, rfl, by
    have : ∀ n : Nat, n < 10 → (wordTab9.getD n ByteArray.empty).size ≤ 8 := by decide
    exact this u.toNat (by omega)⟩
  obtain ⟨nw, hnw, hns⟩ := hex
  rw [hnw]
  refine ⟨(by decide : (10 : Int) ≠ 0), ?_⟩
  (conv => whnf)
  generalize IntKind.i64.wrap (v.tdiv 10) = z
  refine call_i (mk_Round z 7 (by decide) (by decide)) ?_
  (conv => whnf)
  have hVok : ∀ s ∈ V, stOk s := fun s hs w hw => by
    have h1 := (m2 s hs).2
    have h2 := arg_sz9 hw
    omega
  have setOk : ∀ {A : List ByteArray}, (∀ u ∈ A, u.size ≤ 4611686018427387904) → ∀ s ∈ V.set i ⟨st.line, st.word, A⟩, stOk s := fun {A} hA s hs => by
    rcases List.mem_or_eq_of_mem_set hs with h | rfl
    · exact hVok s h
    · exact hA
  have hA1 : ∀ u ∈ st.args.set j nw, u.size ≤ 4611686018427387904 := fun u hu => by
    rcases List.mem_or_eq_of_mem_set hu with h | rfl
    · exact hVok st (List.mem_of_getElem? hst) u h
    · omega
  have eset : (st.args.map encA).set j [DV.str nw] = (st.args.set j nw).map encA := by rw [List.map_set]; rfl
  rw [eset]
  have hAl : (st.args.set j nw).length = st.args.length := List.length_set
  generalize st.args.set j nw = A at *
  have turn : ∀ {A : List ByteArray} {S : List (List DV)}, (∀ u ∈ A, u.size ≤ 4611686018427387904) → S = (V.set i ⟨st.line, st.word, A⟩).map encSt → ∀ k : Int, FnOk Tryd.prog F.law9_reads [.one (.dv (.lst 3 (S.drop k.toNat ++ S.take k.toNat)))] [] 0 (Bo true) [] 0 := by
    intro A S hA e k
    subst e
    refine reads9 ((V.set i ⟨st.line, st.word, A⟩).drop k.toNat ++ (V.set i ⟨st.line, st.word, A⟩).take k.toNat) _ (by rw [List.map_append, List.map_drop, List.map_take]) (by simp only [List.length_append, List.length_drop, List.length_take, List.length_set]; omega) fun s hs => ?_
    rcases List.mem_append.1 hs with h | h
    · exact setOk hA s (List.mem_of_mem_drop h)
    · exact setOk hA s (List.mem_of_mem_take h)
  refine ask_m (fun h => ?_) (fun h => ?_)
  · (conv => whnf)
    refine ⟨⟨by simp; omega, by simp; omega⟩, ?_⟩
    (conv => whnf)
    have hA2 : ∀ u ∈ A ++ [(⟨#[49]⟩ : ByteArray)], u.size ≤ 4611686018427387904 := fun u hu => by
      rcases List.mem_append.1 hu with h | h
      · exact hA1 u h
      · simp only [List.mem_singleton] at h
        subst h; decide
    have eapp : A.map encA ++ [[DV.str ⟨#[49]⟩]] = (A ++ [(⟨#[49]⟩ : ByteArray)]).map encA := by rw [List.map_append]; rfl
    rw [eapp]
    generalize A ++ [(⟨#[49]⟩ : ByteArray)] = A2 at *
    (conv => whnf)
    refine ⟨[.frz 4], ?_⟩
    (conv => whnf)
    refine ⟨⟨by omega, by omega⟩, ?_⟩
    (conv => whnf)
    rw [Int.toNat_natCast]
    refine idx_at hsr ?_
    (conv => whnf)
    refine call_i (law9_awake) ?_
    (conv => whnf)
    refine call_i (law9_reads l (by omega) hs) ?_
    (conv => whnf)
    refine call_i (law9_reads V (by omega) hVok) ?_
    (conv => whnf)
    refine call_i (reads9 (V.set i ⟨st.line, st.word, A2⟩) _ (by rw [List.map_set]; rfl) (by rw [List.length_set]; omega) (setOk hA2)) ?_
    (conv => whnf)
    refine ⟨⟨trivial, trivial⟩, ?_⟩
    (conv => whnf)
    refine ⟨⟨by omega, by simp; omega⟩, ?_⟩
    (conv => whnf)
    refine ⟨⟨by omega, by simp; omega⟩, ?_⟩
    (conv => whnf)
    refine .inr ?_
    (conv => whnf)
    refine ⟨⟨by rw [Int.toNat_natCast]; simp; omega, by simp; omega⟩, ?_⟩
    (conv => whnf)
    refine ⟨⟨by rw [Int.toNat_natCast]; simp; omega, by simp; omega, by show _ * 48 ≤ _; simp; omega⟩, ?_⟩
    (conv => whnf)
    refine call_i (turn (S := (V.map encSt).set i (encSt ⟨st.line, st.word, A2⟩)) hA2 (by rw [List.map_set]) (i : Int)) ?_
    (conv => whnf)
    (conv => whnf)
    refine ret0 ?_
    exact ret_b rfl rfl
  · skip
    (conv => whnf)
    refine ⟨[.frz 2], ?_⟩
    (conv => whnf)
    refine ⟨⟨by omega, by omega⟩, ?_⟩
    (conv => whnf)
    rw [Int.toNat_natCast]
    refine idx_at hsr ?_
    (conv => whnf)
    refine call_i (law9_awake) ?_
    (conv => whnf)
    refine call_i (law9_reads l (by omega) hs) ?_
    (conv => whnf)
    refine call_i (law9_reads V (by omega) hVok) ?_
    (conv => whnf)
    refine call_i (reads9 (V.set i ⟨st.line, st.word, A⟩) _ (by rw [List.map_set]; rfl) (by rw [List.length_set]; omega) (setOk hA1)) ?_
    (conv => whnf)
    refine ⟨⟨trivial, trivial⟩, ?_⟩
    (conv => whnf)
    refine ⟨⟨by omega, by simp; omega⟩, ?_⟩
    (conv => whnf)
    refine ⟨⟨by omega, by simp; omega⟩, ?_⟩
    (conv => whnf)
    refine .inr ?_
    (conv => whnf)
    refine ⟨⟨by rw [Int.toNat_natCast]; simp; omega, by simp; omega⟩, ?_⟩
    (conv => whnf)
    refine ⟨⟨by rw [Int.toNat_natCast]; simp; omega, by simp; omega, by show _ * 48 ≤ _; simp; omega⟩, ?_⟩
    (conv => whnf)
    refine call_i (turn (S := (V.map encSt).set i (encSt ⟨st.line, st.word, A⟩)) hA1 (by rw [List.map_set]) (i : Int)) ?_
    (conv => whnf)
    (conv => whnf)
    refine ret0 ?_
    exact ret_b rfl rfl
end Go.Proofs.YtafglmjadbplcaaDoor

/- Data of the types of robots and scenes. -/
namespace Go.Proofs.YtafglmjadbplcaaDoor
open Eng
set_option maxRecDepth 10000

theorem tz_i64 {n : Nat} {ds : List DV} (h : Typed T (n + 1) Y.int64 ds) : ∃ a, ds = [.int .i64 a] := by
  obtain ⟨a, h, _⟩ := h
  exact ⟨a, h⟩
theorem tz_int {n : Nat} {ds : List DV} (h : Typed T (n + 1) Y.int ds) : ∃ a, ds = [.int .i64 a] := by
  obtain ⟨a, h, _⟩ := h
  exact ⟨a, h⟩
theorem tz_str {n : Nat} {ds : List DV} (h : Typed T (n + 1) Y.string ds) : ∃ a, ds = [.str a] := by
  obtain ⟨a, h, _⟩ := h
  exact ⟨a, h⟩
theorem tz_Vec {n : Nat} {ds : List DV} (h : Typed T (n + 2) Y.Vec ds) : ∃ v, ds = encV v := by
  obtain ⟨ps, h1, h2, rfl⟩ := h
  match ps, h1 with
  | [a, b, c], _ =>
    obtain ⟨x, rfl⟩ := tz_i64 (h2 a (by simp))
    obtain ⟨y, rfl⟩ := tz_i64 (h2 b (by simp))
    obtain ⟨z, rfl⟩ := tz_i64 (h2 c (by simp))
    exact ⟨⟨x, y, z⟩, rfl⟩
theorem tz_Joint {n : Nat} {ds : List DV} (h : Typed T (n + 3) Y.Joint ds) : ∃ j, ds = encJ j := by
  obtain ⟨ps, h, rfl⟩ := h
  replace h := all2_cons h
  obtain ⟨d, q, rfl, h1, h⟩ := h
  obtain ⟨a1, rfl⟩ := tz_str h1
  replace h := all2_cons h
  obtain ⟨d, q, rfl, h1, h⟩ := h
  obtain ⟨a2, rfl⟩ := tz_int h1
  replace h := all2_cons h
  obtain ⟨d, q, rfl, h1, h⟩ := h
  obtain ⟨a3, rfl⟩ := tz_int h1
  replace h := all2_cons h
  obtain ⟨d, q, rfl, h1, h⟩ := h
  obtain ⟨a4, rfl⟩ := tz_Vec h1
  replace h := all2_cons h
  obtain ⟨d, q, rfl, h1, h⟩ := h
  obtain ⟨a5, rfl⟩ := tz_i64 h1
  replace h := all2_cons h
  obtain ⟨d, q, rfl, h1, h⟩ := h
  obtain ⟨a6, rfl⟩ := tz_i64 h1
  replace h := all2_cons h
  obtain ⟨d, q, rfl, h1, h⟩ := h
  obtain ⟨a7, rfl⟩ := tz_i64 h1
  replace h := all2_cons h
  obtain ⟨d, q, rfl, h1, h⟩ := h
  obtain ⟨a8, rfl⟩ := tz_i64 h1
  replace h := all2_cons h
  obtain ⟨d, q, rfl, h1, h⟩ := h
  obtain ⟨a9, rfl⟩ := tz_i64 h1
  replace h := all2_cons h
  obtain ⟨d, q, rfl, h1, h⟩ := h
  obtain ⟨a10, rfl⟩ := tz_i64 h1
  obtain rfl := all2_nil h
  exact ⟨⟨a1, a2, a3, a4, a5, a6, a7, a8, a9, a10⟩, rfl⟩
theorem tz_Mass {n : Nat} {ds : List DV} (h : Typed T (n + 3) Y.Mass ds) : ∃ j, ds = encM j := by
  obtain ⟨ps, h, rfl⟩ := h
  replace h := all2_cons h
  obtain ⟨d, q, rfl, h1, h⟩ := h
  obtain ⟨a1, rfl⟩ := tz_int h1
  replace h := all2_cons h
  obtain ⟨d, q, rfl, h1, h⟩ := h
  obtain ⟨a2, rfl⟩ := tz_i64 h1
  replace h := all2_cons h
  obtain ⟨d, q, rfl, h1, h⟩ := h
  obtain ⟨a3, rfl⟩ := tz_Vec h1
  obtain rfl := all2_nil h
  exact ⟨⟨a1, a2, a3⟩, rfl⟩
theorem tz_Skip {n : Nat} {ds : List DV} (h : Typed T (n + 2) Y.Skip ds) : ∃ j, ds = encSk j := by
  obtain ⟨ps, h, rfl⟩ := h
  replace h := all2_cons h
  obtain ⟨d, q, rfl, h1, h⟩ := h
  obtain ⟨a1, rfl⟩ := tz_int h1
  replace h := all2_cons h
  obtain ⟨d, q, rfl, h1, h⟩ := h
  obtain ⟨a2, rfl⟩ := tz_int h1
  obtain rfl := all2_nil h
  exact ⟨⟨a1, a2⟩, rfl⟩
theorem tz_sVec {n : Nat} {ds : List DV} (h : Typed T (n + 3) Y.s_Vec ds) : ∃ l : List Vec, ds = [dVs l] ∧ l.length ≤ 140737488351232 := by
  obtain ⟨rs, h1, h2, _, h3⟩ := h
  obtain ⟨l, rfl⟩ := map_of (enc := encV) fun r hr => tz_Vec (h3 r hr)
  refine ⟨l, h1, ?_⟩
  have : l.length * 24 ≤ reachBytes := by simpa using h2
  unfold reachBytes at this; omega
theorem tz_Shape {n : Nat} {ds : List DV} (h : Typed T (n + 4) Y.Shape ds) : ∃ j, ds = encSh j ∧ j.points.length ≤ 140737488351232 := by
  obtain ⟨ps, h, rfl⟩ := h
  replace h := all2_cons h
  obtain ⟨d, q, rfl, h1, h⟩ := h
  obtain ⟨a1, rfl⟩ := tz_int h1
  replace h := all2_cons h
  obtain ⟨d, q, rfl, h1, h⟩ := h
  obtain ⟨a2, rfl⟩ := tz_i64 h1
  replace h := all2_cons h
  obtain ⟨d, q, rfl, h1, h⟩ := h
  obtain ⟨a3, rfl, h3⟩ := tz_sVec h1
  obtain rfl := all2_nil h
  exact ⟨⟨a1, a2, a3⟩, rfl, h3⟩
theorem map_of' {α : Type} {enc : α → List DV} {Q : α → Prop} : ∀ {rs : List (List DV)}, (∀ r ∈ rs, ∃ a, r = enc a ∧ Q a) → ∃ xs : List α, rs = xs.map enc ∧ ∀ x ∈ xs, Q x
  | [], _ => ⟨[], rfl, by simp⟩
  | r :: rs, h => by
    obtain ⟨a, ha, qa⟩ := h r (by simp)
    obtain ⟨xs, hx, qx⟩ := map_of' (rs := rs) fun r hr => h r (by simp [hr])
    exact ⟨a :: xs, by rw [ha, hx]; rfl, fun x hx' => by
      rcases List.mem_cons.1 hx' with rfl | hx'
      · exact qa
      · exact qx x hx'⟩
theorem tz_Robot {n : Nat} {ds : List DV} (h : Typed T (n + 5) Y.Robot ds) : ∃ r : Robot, ds = [dJs r.joints, dMs r.masses] ∧ r.joints.length ≤ 140737488351232 ∧ r.masses.length ≤ 140737488351232 := by
  obtain ⟨ps, h, rfl⟩ := h
  replace h := all2_cons h
  obtain ⟨d, q, rfl, h1, h⟩ := h
  obtain ⟨rs, e1, b1, _, g1⟩ := h1
  obtain ⟨js, rfl⟩ := map_of (enc := encJ) fun r hr => tz_Joint (g1 r hr)
  replace h := all2_cons h
  obtain ⟨d2, q, rfl, h2, h⟩ := h
  obtain ⟨rs, e2, b2, _, g2⟩ := h2
  obtain ⟨ms, rfl⟩ := map_of (enc := encM) fun r hr => tz_Mass (g2 r hr)
  obtain rfl := all2_nil h
  refine ⟨⟨js, ms⟩, by rw [e1, e2]; rfl, ?_, ?_⟩
  · have : js.length * 104 ≤ reachBytes := by simpa using b1
    unfold reachBytes at this; simp only; omega
  · have : ms.length * 40 ≤ reachBytes := by simpa using b2
    unfold reachBytes at this; simp only; omega
theorem tyB_Robot {n : Nat} {ds : List DV} (h : Typed T (n + 5) Y.Robot ds) : ∃ r : Robot, ds = [dJs r.joints, dMs r.masses] ∧ (r.joints.length ≤ 140737488351232 ∧ r.masses.length ≤ 140737488351232) := tz_Robot h
theorem tyB_Scene {n : Nat} {ds : List DV} (h : Typed T (n + 6) Y.Scene ds) : ∃ s : Scene, ds = [dJs s.robot.joints, dMs s.robot.masses, dShs s.shapes, dSks s.skips] ∧ small s := by
  obtain ⟨ps, h, rfl⟩ := h
  replace h := all2_cons h
  obtain ⟨d, q, rfl, h1, h⟩ := h
  obtain ⟨r, rfl, r1, r2⟩ := tz_Robot h1
  replace h := all2_cons h
  obtain ⟨d, q, rfl, h1, h⟩ := h
  obtain ⟨rs, e1, b1, _, g1⟩ := h1
  obtain ⟨shs, rfl, gs⟩ := map_of' (enc := encSh) (Q := fun x => x.points.length ≤ 140737488351232) fun r hr => tz_Shape (g1 r hr)
  replace h := all2_cons h
  obtain ⟨d2, q, rfl, h2, h⟩ := h
  obtain ⟨rs, e2, b2, _, g2⟩ := h2
  obtain ⟨sks, rfl⟩ := map_of (enc := encSk) fun r hr => tz_Skip (g2 r hr)
  obtain rfl := all2_nil h
  refine ⟨⟨r, shs, sks⟩, by rw [e1, e2]; rfl, ?_⟩
  have a1 : shs.length * 40 ≤ reachBytes := by simpa using b1
  have a2 : sks.length * 16 ≤ reachBytes := by simpa using b2
  unfold reachBytes at a1 a2
  exact ⟨by simp only; omega, by simp only; omega, by simp only; omega, by simp only; omega, fun x hx => by have := gs x hx; omega⟩
end Go.Proofs.YtafglmjadbplcaaDoor

/- What the row's list gives: the texts of robot.kindNames; a world that holds them. -/
namespace Go.Proofs.YtafglmjadbplcaaDoor
open Eng
set_option maxRecDepth 100000

theorem gTab : Tryd.prog.globalNamed "armplan/robot.kindNames" = some 0 := by kernel_rfl
theorem gTabType : (Tryd.prog.globals[0]?).map (·.type) = some Y.a7_string := by kernel_rfl
theorem uTab : Tryd.prog.underlying Y.a7_string = some (.array 7 Y.string) := by kernel_rfl
theorem uStr : Tryd.prog.underlying Y.string = some .string := by kernel_rfl
theorem cTab : Tryd.prog.cellsOf Y.a7_string = 7 := by kernel_rfl
theorem cStr : Tryd.prog.cellsOf Y.string = 1 := by kernel_rfl
theorem cells_of_texts {H : Type} {enc : TypeId × Value → H} {P : Program} {w : World} {base : Nat} {sp : Nat → Bool} {held : Bool} {fuel : Nat} {t e : TypeId} {n : Nat} {cs : List Value} {ss : List (List UInt8)} {p : List MemPlace}
    (ht : P.underlying t = some (.array n e)) (he : P.underlying e = some .string) (hce : P.cellsOf e = 1) (hct : P.cellsOf t = n)
    (h : DataW.trod enc P w base sp held fuel t cs = some (.agg (ss.map fun b => .lit (.string b)), p)) : cs.length = ss.length ∧ ∀ (i : Nat) (b : List UInt8), ss[i]? = some b → cs[i]? = some (.string ⟨b.toArray⟩) := by
  cases fuel with
  | zero => simp [DataW.trod] at h
  | succ fuel =>
    simp only [DataW.trod, ht, hce, hct, Nat.mul_one] at h
    split at h
    · rename_i hl
      obtain ⟨xs, hm, hx⟩ := Option.map_eq_some_iff.1 h
      have hxs : xs.map (·.1) = ss.map fun b => (DataW.lit (.string b) : DataW H) := by
        have := congrArg Prod.fst hx
        simpa using this
      have hxl : xs.length = n := by simpa using Lib.mapM_length hm
      have hzl : ss.length = n := by
        have := congrArg List.length hxs
        simp at this
        omega
      refine ⟨by omega, ?_⟩
      intro i b hb
      have hi : i < n := by
        have := (List.getElem?_eq_some_iff.1 hb).1
        omega
      obtain ⟨y, hy, hf⟩ := Lib.mapM_at hm i i (by simp [hi])
      have h2 : (xs.map (·.1))[i]? = some (DataW.lit (.string b) : DataW H) := by rw [hxs]; simp [hb]
      simp only [List.getElem?_map, hy, Option.map_some, Option.some.injEq] at h2
      obtain ⟨yd, yp⟩ := y
      simp only at h2
      subst h2
      obtain ⟨str, hc, hx2, _⟩ := DataW.trod_string he hf
      simp only [Prod.mk.injEq, DataW.lit.injEq, Lit.string.injEq] at hx2
      have h1 : cs[i]? = some (.string str) := by
        have := congrArg (·[0]?) hc
        simpa [List.getElem?_take, List.getElem?_drop] using this
      rw [h1, hx2.1]
    · cases h
def kindB : List (List UInt8) := [[102, 105, 120, 101, 100], [116, 117, 114, 110, 120], [116, 117, 114, 110, 121], [116, 117, 114, 110, 122], [115, 108, 105, 100, 101, 120], [115, 108, 105, 100, 101, 121], [115, 108, 105, 100, 101, 122]]
theorem heap_of_var {P : Program} {W : World} {name : String} {g : Nat} {cs : Array Value} (hg : P.globalNamed name = some g) (h : W.var? P name = some cs) : g < W.heap.size ∧ ∃ t fr, W.heap[g]? = some (.cells cs t fr) := by
  unfold World.var? at h
  rw [hg, Option.bind_some] at h
  split at h
  · rename_i c t fr hh
    injection h with h; subst h
    exact ⟨(Array.getElem?_eq_some_iff.1 hh).1, t, fr, hh⟩
  · cases h
theorem globs {W : World} (h : laidMet Tryd.prog [("armplan/robot.kindNames", Rows.laid_armplan_robot_kindNames)] W) : ∀ g ss, lkv GLV g = some ss → g < W.heap.size ∧ ∃ t fr, W.heap[g]? = some (.cells ss.toArray t fr) := by
  obtain ⟨ps, ⟨g', t', cs, fuel, p, q, hg', ht', hvar, hd, _, _⟩, _⟩ := h
  obtain rfl := Option.some.inj (gTab.symm.trans hg')
  obtain rfl := Option.some.inj (gTabType.symm.trans ht')
  obtain ⟨hl, hc⟩ := cells_of_texts (ss := kindB) uTab uStr cStr cTab hd
  intro g ss hg
  have hg0 : g = 0 ∧ ss = kindB.map fun b => .string ⟨b.toArray⟩ := by
    rw [GLV, lkv] at hg
    cases hb : Nat.beq 0 g with
    | true =>
      rw [hb] at hg
      exact ⟨(Nat.eq_of_beq_eq_true hb).symm, (Option.some.inj hg).symm⟩
    | false => rw [hb] at hg; cases hg
  obtain ⟨rfl, rfl⟩ := hg0
  have e : cs = (kindB.map fun b => (.string ⟨b.toArray⟩ : Value)).toArray := by
    apply Array.ext'
    apply List.ext_getElem?
    intro i
    rw [List.getElem?_map]
    cases hb : kindB[i]? with
    | some b => exact hc i b hb
    | none =>
      rw [List.getElem?_eq_none_iff] at hb
      exact List.getElem?_eq_none_iff.2 (by rw [hl]; exact hb)
  rw [← e]
  exact heap_of_var gTab hvar
/-- a world for the witness: the settled one, the table holding what its initialiser lays -/
noncomputable def laidWorld (os : Os) : World :=
  { World.holding Tryd.prog os ⟨#[], #[], []⟩ with heap := (World.holding Tryd.prog os ⟨#[], #[], []⟩).heap.modify 0 fun
      | .cells _ t frozen => .cells #[.string ⟨#[102, 105, 120, 101, 100]⟩, .string ⟨#[116, 117, 114, 110, 120]⟩, .string ⟨#[116, 117, 114, 110, 121]⟩, .string ⟨#[116, 117, 114, 110, 122]⟩, .string ⟨#[115, 108, 105, 100, 101, 120]⟩, .string ⟨#[115, 108, 105, 100, 101, 121]⟩, .string ⟨#[115, 108, 105, 100, 101, 122]⟩] t frozen
      | o => o }
theorem tz_Stmt8 {n : Nat} {ds : List DV} (h : Typed T (n + 3) Y.Statement ds) : ∃ s : Stmt, ds = encSt s ∧ stOk s := by
  obtain ⟨ps, h1, h2⟩ := h
  obtain ⟨a, r, rfl, ha, h1⟩ := all2_cons h1
  obtain ⟨b, r, rfl, hb, h1⟩ := all2_cons h1
  obtain ⟨c, r, rfl, hc, h1⟩ := all2_cons h1
  obtain rfl := all2_nil h1
  obtain ⟨a, rfl⟩ := tz_int ha
  obtain ⟨b, rfl⟩ := tz_str hb
  obtain ⟨rs, rfl, _, _, h3⟩ := hc
  obtain ⟨l, rfl, hl⟩ := map_of' (enc := encA) (Q := fun s => s.size ≤ 140737488351232) fun r hr => tyB_string (h3 r hr)
  exact ⟨⟨a, b, l⟩, h2, fun w hw => by have := hl w hw; omega⟩
theorem tyB_s_Statement {n : Nat} {ds : List DV} (h : Typed T (n + 4) Y.s_Statement ds) : ∃ l : List Stmt, ds = [dSts l] ∧ ∀ s ∈ l, stOk s := by
  obtain ⟨rs, h1, _, _, h3⟩ := h
  obtain ⟨l, rfl, hl⟩ := map_of' (enc := encSt) (Q := stOk) fun r hr => tz_Stmt8 (h3 r hr)
  exact ⟨l, h1, hl⟩
end Go.Proofs.YtafglmjadbplcaaDoor
